/- Texts of ours laid together for a claim: P01 P02 P03 P04. -/
import Derived.Test.YtjhanogfpkbamaaGreatDoorQ43
namespace Go.Proofs.YtjhanogfpkbamaaGreatDoor
open Go
set_option linter.unusedSimpArgs false
set_option linter.unusedVariables false
theorem wrap_i {n:Int} (h1 : -9223372036854775808≤n) (h2:n<9223372036854775808):IntKind.wrap .i64 n=n:=IntWalk.i64_in _ (by omega)
theorem wrap_n {k:Nat} (h:k≤4000000000):IntKind.wrap .i64 ((k:Int)+1)=((k+1:Nat):Int):=wrap_succ (by omega)
theorem appOk_mk {d:TD} {n:Nat} {els els2:List AV} (h1:∀x:AV,x∈els→x.cells.length=d.size) (h2:∀x:AV,x∈els2→x.cells.length=d.size) (hn:n≤4000000000) (hb:d.bytes≤1000):appOk d n els els2:=by
 refine⟨h1,h2,?_,?_⟩
 ·simp only[maxLen];omega
 ·have:=Nat.mul_le_mul hn hb;omega
theorem appOk_nil {d:TD} {n:Nat} {els2:List AV} (h2:∀x:AV,x∈els2→x.cells.length=d.size) (hn:n≤4000000000) (hb:d.bytes≤1000):appOk d n [] els2:=
 appOk_mk (fun x hx=>by cases hx) h2 hn hb
theorem appOk_one {d:TD} {n:Nat} {x:AV} (h2:x.cells.length=d.size) (hn:n≤4000000000) (hb:d.bytes≤1000):appOk d n [] [x]:=
 appOk_nil (fun y hy=>by rw[List.mem_singleton.1 hy];exact h2) hn hb
theorem getD_map {α:Type} {f:α→AV} {l:List α} {k:Nat} (h:k<l.length):List.getD (l.map f) (Int.toNat (k:Int)) .top=f l[k]:=by simp[List.getD,h]
def encInts (l:List Int):List AV:=l.map nI
theorem encInts_len (l:List Int):(encInts l).length=l.length:=by simp[encInts]
theorem encInts_getD {l:List Int} {k:Nat} (h:k<l.length):List.getD (encInts l) (Int.toNat (k:Int)) .top=nI l[k]:=getD_map h
theorem encInts_cells {l:List Int}:∀x:AV,x∈encInts l→x.cells.length=1:=by
 intro x hx
 obtain⟨t,_,rfl⟩:=List.mem_map.1 hx
 rfl
def likes:List Int→List Int→Bool
 | [],[]=>true
 |a::l,b::m=>(a==b)&&likes l m
 |_,_=>false
theorem likes_eq (l m:List Int):likes l m=decide (l=m):=by
 induction l generalizing m with
 |nil=>cases m<;>simp[likes]
 |cons a l ih=>cases m with
  |nil=>simp[likes]
  |cons b m=>
   rw[likes,ih]
   by_cases h1:a=b<;>by_cases h2:l=m<;>simp[h1,h2]
inductive Ty where
 |mk (args:List Ty) (base:Int)
mutual
def Ty.enc:Ty→AV
 | .mk l b=>.agg [.sl (Ty.encs l),nI b]
def Ty.encs:List Ty→List AV
 | []=>[]
 |t::l=>Ty.enc t::Ty.encs l
end
mutual
def Ty.size:Ty→Nat
 | .mk l _=>1+Ty.sizes l
def Ty.sizes:List Ty→Nat
 | []=>0
 |t::l=>Ty.size t+Ty.sizes l
end
def Ty.args:Ty→List Ty | .mk l _=>l
def Ty.base:Ty→Int | .mk _ b=>b
theorem Ty.args_mk (a:List Ty) (b:Int):(Ty.mk a b).args=a:=rfl
theorem Ty.base_mk (a:List Ty) (b:Int):(Ty.mk a b).base=b:=rfl
theorem Ty.encs_eq (l:List Ty):Ty.encs l=l.map Ty.enc:=by
 induction l with
 |nil=>rfl
 |cons t l ih=>simp[Ty.encs,ih]
theorem Ty.enc_eq (t:Ty):t.enc=.agg [.sl (t.args.map Ty.enc),nI t.base]:=by cases t;simp[Ty.enc,Ty.encs_eq,Ty.args,Ty.base]
theorem Ty.enc_mk (l:List Ty) (b:Int):(Ty.mk l b).enc=.agg [.sl (l.map Ty.enc),nI b]:=Ty.enc_eq _
theorem Ty.enc_getD {l:List Ty} {k:Nat} (h:k<l.length):List.getD (l.map Ty.enc) (Int.toNat (k:Int)) .top=.agg [.sl (l[k].args.map Ty.enc),nI l[k].base]:=by rw[getD_map h,Ty.enc_eq]
theorem Ty.size_eq (t:Ty):t.size=1+Ty.sizes t.args:=by cases t;rfl
theorem Ty.size_pos (t:Ty):1≤t.size:=by rw[t.size_eq];omega
theorem Ty.sizes_len (l:List Ty):l.length≤Ty.sizes l:=by
 induction l with
 |nil=>simp[Ty.sizes]
 |cons t l ih=>have:=t.size_pos;simp[Ty.sizes];omega
theorem Ty.sizes_append (l m:List Ty):Ty.sizes (l++m)=Ty.sizes l+Ty.sizes m:=by
 induction l with
 |nil=>simp[Ty.sizes]
 |cons t l ih=>simp[Ty.sizes,ih];omega
theorem Ty.sizes_mem {l:List Ty} {t:Ty} (h:t∈l):t.size≤Ty.sizes l:=by
 induction l with
 |nil=>cases h
 |cons u l ih=>
  simp only[Ty.sizes]
  rcases List.mem_cons.1 h with rfl|h1
  ·omega
  ·have:=ih h1;omega
theorem Ty.arg_size {t:Ty} {k:Nat} (h:k<t.args.length):t.args[k].size<t.size:=by
 have:=Ty.sizes_mem (List.getElem_mem h)
 rw[t.size_eq];omega
theorem Ty.enc_len (t:Ty):t.enc.cells.length=2:=by cases t;rfl
theorem Ty.enc_cells {l:List Ty}:∀x:AV,x∈l.map Ty.enc→x.cells.length=2:=by
 intro x h
 obtain⟨t,_,rfl⟩:=List.mem_map.1 h
 exact t.enc_len
theorem Ty.enc_snoc (l:List Ty) (t:Ty):l.map Ty.enc++[.agg [.sl (t.args.map Ty.enc),nI t.base]]=(l++[t]).map Ty.enc:=by rw[←Ty.enc_eq];simp
mutual
def Ty.same:Ty→Ty→Bool
 | .mk l a,.mk m b=>(a==b)&&Ty.sames l m
def Ty.sames:List Ty→List Ty→Bool
 | [],[]=>true
 |t::l,u::m=>Ty.same t u&&Ty.sames l m
 |_,_=>false
end
theorem Ty.same_eq (t u:Ty):Ty.same t u=((t.base==u.base)&&Ty.sames t.args u.args):=by cases t;cases u;simp[Ty.same,Ty.base,Ty.args]
theorem Ty.sames_drop {l m:List Ty} {k:Nat} (h1:k<l.length) (h2:k<m.length):Ty.sames (l.drop k) (m.drop k)=(Ty.same l[k] m[k]&&Ty.sames (l.drop (k+1)) (m.drop (k+1))):=by
 rw[List.drop_eq_getElem_cons h1,List.drop_eq_getElem_cons h2,Ty.sames]
theorem Ty.sames_len {l m:List Ty} (h:¬l.length=m.length):Ty.sames l m=false:=by
 induction l generalizing m with
 |nil=>cases m with
  |nil=>exact(h rfl).elim
  |cons=>simp[Ty.sames]
 |cons t l ih=>cases m with
  |nil=>simp[Ty.sames]
  |cons u m=>simp[Ty.sames,ih (m:=m) (by simpa using h)]
mutual
theorem Ty.same_iff:∀(t u:Ty),Ty.same t u=true↔t=u
 | .mk l a,.mk m b=>by rw[Ty.same,Bool.and_eq_true,beq_iff_eq,Ty.sames_iff l m];simp only[Ty.mk.injEq];exact⟨fun h=>⟨h.2,h.1⟩,fun h=>⟨h.2,h.1⟩⟩
theorem Ty.sames_iff:∀(l m:List Ty),Ty.sames l m=true↔l=m
 | [],[]=>by simp[Ty.sames]
 | [],_::_=>by simp[Ty.sames]
 |_::_,[]=>by simp[Ty.sames]
 |t::l,u::m=>by rw[Ty.sames,Bool.and_eq_true,Ty.same_iff t u,Ty.sames_iff l m];simp
end
inductive Tm where
 |mk (binds:List Ty) (kind index:Int) (args:List Tm)
mutual
def Tm.enc:Tm→AV
 | .mk b k i a=>.agg [.sl (b.map Ty.enc),nI k,nI i,.sl (Tm.encs a)]
def Tm.encs:List Tm→List AV
 | []=>[]
 |t::l=>Tm.enc t::Tm.encs l
end
mutual
def Tm.size:Tm→Nat
 | .mk b _ _ a=>1+Ty.sizes b+Tm.sizes a
def Tm.sizes:List Tm→Nat
 | []=>0
 |t::l=>Tm.size t+Tm.sizes l
end
def Tm.binds:Tm→List Ty | .mk b _ _ _=>b
def Tm.kind:Tm→Int | .mk _ k _ _=>k
def Tm.index:Tm→Int | .mk _ _ i _=>i
def Tm.args:Tm→List Tm | .mk _ _ _ a=>a
theorem Tm.encs_eq (l:List Tm):Tm.encs l=l.map Tm.enc:=by
 induction l with
 |nil=>rfl
 |cons t l ih=>simp[Tm.encs,ih]
theorem Tm.enc_eq (t:Tm):t.enc=.agg [.sl (t.binds.map Ty.enc),nI t.kind,nI t.index,.sl (t.args.map Tm.enc)]:=by cases t;simp[Tm.enc,Tm.encs_eq,Tm.binds,Tm.kind,Tm.index,Tm.args]
theorem Tm.enc_mk (b:List Ty) (k i:Int) (a:List Tm):(Tm.mk b k i a).enc=.agg [.sl (b.map Ty.enc),nI k,nI i,.sl (a.map Tm.enc)]:=Tm.enc_eq _
theorem Tm.enc_getD {l:List Tm} {k:Nat} (h:k<l.length):List.getD (l.map Tm.enc) (Int.toNat (k:Int)) .top=.agg [.sl (l[k].binds.map Ty.enc),nI l[k].kind,nI l[k].index,.sl (l[k].args.map Tm.enc)]:=by rw[getD_map h,Tm.enc_eq]
theorem Tm.size_eq (t:Tm):t.size=1+Ty.sizes t.binds+Tm.sizes t.args:=by cases t;rfl
theorem Tm.size_pos (t:Tm):1≤t.size:=by rw[t.size_eq];omega
theorem Tm.sizes_len (l:List Tm):l.length≤Tm.sizes l:=by
 induction l with
 |nil=>simp[Tm.sizes]
 |cons t l ih=>have:=t.size_pos;simp[Tm.sizes];omega
theorem Tm.sizes_append (l m:List Tm):Tm.sizes (l++m)=Tm.sizes l+Tm.sizes m:=by
 induction l with
 |nil=>simp[Tm.sizes]
 |cons t l ih=>simp[Tm.sizes,ih];omega
theorem Tm.sizes_mem {l:List Tm} {t:Tm} (h:t∈l):t.size≤Tm.sizes l:=by
 induction l with
 |nil=>cases h
 |cons u l ih=>
  simp only[Tm.sizes]
  rcases List.mem_cons.1 h with rfl|h1
  ·omega
  ·have:=ih h1;omega
theorem Tm.arg_size {t:Tm} {k:Nat} (h:k<t.args.length):t.args[k].size<t.size:=by
 have:=Tm.sizes_mem (List.getElem_mem h)
 rw[t.size_eq];omega
theorem Tm.enc_snoc (l:List Tm) (t:Tm):l.map Tm.enc++[.agg [.sl (t.binds.map Ty.enc),nI t.kind,nI t.index,.sl (t.args.map Tm.enc)]]=(l++[t]).map Tm.enc:=by rw[←Tm.enc_eq];simp
theorem take_snoc' {α:Type} {l:List α} {k:Nat} (h:k<l.length):l.take k++[l[k]]=l.take (k+1):=by rw[List.take_succ_eq_append_getElem h]
end Go.Proofs.YtjhanogfpkbamaaGreatDoor

namespace Go.Proofs.YtjhanogfpkbamaaGreatDoor
open Go
set_option linter.unusedSimpArgs false
set_option linter.unusedVariables false
theorem equalInts_calls {l m:List Int} (hsz:l.length≤1000000000):PureIs Tryz.prog 104 [.sl (encInts l),.sl (encInts m)] (nB (likes l m)):=by
 refine vc104_ok (ITE.intro (fun h=>?_) fun h=>?_)
 ·have:¬l.length=m.length:=by simp[encInts_len] at h;omega
  rw[likes_eq,decide_eq_false (fun e=>this (by rw[e]))]
 ·have hlm:l.length=m.length:=by simp[encInts_len] at h;omega
  refine LoopP.intro (fun k:Nat=>((encInts l,encInts m,(l.length:Int),(k:Int),()),())) (fun k=>k≤l.length∧l.take k=m.take k) (fun k=>l.length-k) 0 (by rw[encInts_len];rfl) ⟨Nat.zero_le _,rfl⟩ ?_
  intro k ⟨hk,hs⟩ again hag
  dsimp only
  refine ITE.intro (fun h=>?_) fun h=>?_
  ·have hlt:k<l.length:=by simpa using h
   refine⟨by omega,by rw[encInts_len];omega,_,encInts_getD hlt,by omega,by rw[encInts_len];omega,_,encInts_getD (by omega),ITE.intro (fun h=>?_) fun h=>?_⟩
   ·have hne:¬l[k]=m[k]:=by simpa using h
    rw[likes_eq,decide_eq_false]
    rintro rfl
    exact hne rfl
   ·rw[wrap_n (by omega)]
    refine hag (k+1) ⟨by omega,?_⟩ (by omega)
    have he:l[k]=m[k]:=by simpa using h
    rw[List.take_succ_eq_append_getElem hlt,List.take_succ_eq_append_getElem (by omega),hs,he]
  ·have:l.length≤k:=by simpa using h
   rw[List.take_of_length_le this,List.take_of_length_le (by omega)] at hs
   rw[likes_eq,decide_eq_true hs]
theorem clone_calls {l:List Int} (hsz:l.length≤1000000000):PureIs Tryz.prog 101 [.sl (encInts l)] (.sl (encInts l)):=by
 refine vc101_ok fun b hb=>ITE.intro (fun h=>?_) fun h=>?_
 ·have:encInts l=[]:=Classical.byContradiction fun hn=>by rw[hb hn] at h;cases h
  rw[this]
 ·exact⟨fun _=>rfl,appOk_nil encInts_cells (by simp[encInts_len];omega) (by decide),rfl,by simp⟩
theorem equals_calls {l m:List Ty} (hsz:l.length≤1000000000) (ih:∀(k:Nat) (h1:k<l.length) (h2:k<m.length),PureIs Tryz.prog 74 [l[k].enc,m[k].enc] (nB (Ty.same l[k] m[k]))):
  PureIs Tryz.prog 73 [.sl (l.map Ty.enc),.sl (m.map Ty.enc),.clo 74 []] (nB (Ty.sames l m)):=by
 refine vc73_ok (ITE.intro (fun h=>?_) fun h=>?_)
 ·have:¬l.length=m.length:=by simp at h;omega
  rw[Ty.sames_len this]
 ·have hlm:l.length=m.length:=by simp at h;omega
  refine LoopP.intro (fun k:Nat=>((m.map Ty.enc,(),l.map Ty.enc,(l.length:Int),(k:Int),()),())) (fun k=>k≤l.length∧Ty.sames l m=Ty.sames (l.drop k) (m.drop k)) (fun k=>l.length-k) 0 (by rw[List.length_map];rfl) ⟨Nat.zero_le _,rfl⟩ ?_
  intro k ⟨hk,hs⟩ again hag
  dsimp only
  rw[List.length_map,List.length_map]
  refine ITE.intro (fun h=>?_) fun h=>?_
  ·have hlt:k<l.length:=by simpa using h
   rw[Ty.sames_drop hlt (by omega)] at hs
   have hi:=ih k hlt (by omega)
   rw[Ty.enc_eq,Ty.enc_eq] at hi
   refine⟨by omega,by omega,_,_,Ty.enc_getD hlt,by omega,by omega,_,_,Ty.enc_getD (by omega),_,hi,ITE.intro (fun h=>?_) fun h=>?_⟩
   ·have:Ty.same l[k] m[k]=false:=by simpa using h
    rw[hs,this,Bool.false_and]
   ·have he:Ty.same l[k] m[k]=true:=by simpa using h
    rw[he,Bool.true_and] at hs
    rw[wrap_n (by omega)]
    exact hag (k+1) ⟨by omega,hs⟩ (by omega)
  ·have:l.length≤k:=by simpa using h
   rw[List.drop_eq_nil_of_le this,List.drop_eq_nil_of_le (by omega)] at hs
   rw[hs];rfl
theorem equal_calls:∀(n:Nat) (t u:Ty),t.size≤n→n≤1000000000→PureIs Tryz.prog 74 [t.enc,u.enc] (nB (Ty.same t u)):=by
 intro n
 induction n with
 |zero=>intro t u h;have:=t.size_pos;omega
 |succ n ih=>
  intro t u h hn
  have hq:=Ty.sizes_len t.args
  have hts:=t.size_eq
  have he:=equals_calls (l:=t.args) (m:=u.args) (by omega) (fun k h1 h2=>ih _ _ (by have:=Ty.arg_size h1;omega) (by omega))
  rw[Ty.enc_eq,Ty.enc_eq,Ty.same_eq]
  refine vc74_ok (ITE.intro (fun h=>?_) fun h=>?_)
  ·exact⟨_,he,by rw[h,Bool.true_and]⟩
  ·rw[h,Bool.false_and]
theorem copied_calls:∀(n:Nat) (t:Ty),t.size≤n→n≤1000000000→PureIs Tryz.prog 157 [t.enc] t.enc:=by
 intro n
 induction n with
 |zero=>intro t h;have:=t.size_pos;omega
 |succ n ih=>
  intro t h hn
  have hq:=Ty.sizes_len t.args
  have hts:=t.size_eq
  rw[Ty.enc_eq]
  refine vc157_ok ⟨rfl,?_⟩
  refine LoopP.intro (fun k:Nat=>(((),(),t.args.map Ty.enc,(t.args.length:Int),(k:Int),()),((t.args.map Ty.enc,t.base,()),((),0,()),((),t.base,()),(t.args.take k).map Ty.enc,())))
   (fun k=>k≤t.args.length) (fun k=>t.args.length-k) 0 (by rw[List.length_map];rfl) (Nat.zero_le _) ?_
  intro k hk again hag
  dsimp only
  rw[List.length_map]
  refine ITE.intro (fun h=>?_) fun h=>?_
  ·have hlt:k<t.args.length:=by simpa using h
   have hi:=ih t.args[k] (by have:=Ty.arg_size hlt;omega) (by omega)
   rw[Ty.enc_eq] at hi
   refine⟨by omega,by omega,_,_,Ty.enc_getD hlt,_,_,hi,rfl,appOk_one rfl (by simp;omega) (by decide),rfl,?_⟩
   rw[wrap_n (by omega),Ty.enc_snoc,take_snoc' hlt]
   exact hag (k+1) (by omega) (by omega)
  ·have:t.args.length≤k:=by simpa using h
   refine⟨rfl,?_⟩
   rw[List.take_of_length_le this]
end Go.Proofs.YtjhanogfpkbamaaGreatDoor

namespace Go.Proofs.YtjhanogfpkbamaaGreatDoor
open Go
set_option linter.unusedSimpArgs false
set_option linter.unusedVariables false
theorem grow_calls {hp:List AObj} {n:Nat} (hn:n≤1000000000) (hcl:∀o∈hp,AObj.closed (hp.length+1) o=true):
  HFn Tryz.prog 165 [.prim (.slice none 0 0),.prim (.int .i64 (n:Nat))] hp (fun r hp'=>r=.own hp.length 0∧hp'=hp++[.row 101 2 []]):=by
 refine heap_of_body_at tab_ok (hp.length+1) (by simp) (fn:=Tryz.f165) Tryz.func165 rfl (by kernel_rfl) (by simp[Tryz.ntmps165]) ?_
 intro Γ hok hP hnt hh0 hfree0
 rw[Tryz.ntmps165] at hnt
 have htab:TabOk Γ.P tab:=by rw[hP];exact tab_ok
 refine AWp.seqK fun K1 hK1=>?_
 refine AWp.regionC hok htab hnt ?_
 simp only[ARunC,CStep,isRoom,nilCmp,xval,callArgs,bne_self_eq_false,  pval,heff,ifcV,nilC,bopAll,bopX,cvtVal,bopVal,bopInt,lenVal,fieldsOf,ldCells,ldElem,fillCells,setCells,lookVal,mapGet,mapPut,boundOf,idxOk,lensOk,appOk,Value.cells,TK.agg,thenQ,inBlockQ,AS.put,AS.ev,startT,upd_eq,dstOk,gslot,condP,tabs,reduceIte,Nat.reduceLT,Nat.reduceEqDiff,Nat.reduceAdd,Nat.reduceLeDiff,Nat.reduceMul,Nat.reduceSub,List.getElem?_nil,List.length_nil,List.nil_append,List.append_nil,List.take_zero,List.map_nil,Option.map_none,Option.bind_none,reduceCtorEq,Int.toNat_natCast,Int.natCast_nonneg,List.not_mem_nil,retQ,resAll,resOne,resTup,AV.toDataR,wrap_succ,Int.ofNat_lt,Int.not_lt,obo1,obo2,obo3,core1,core2,core3]
 refine hK1 _ ?_
 try clear hK1 K1
 refine AWp.seqK fun K2 hK2=>?_
 refine AWp.seqK fun K3 hK3=>?_
 refine AWp.regionC hok htab hnt ?_
 simp only[ARunC,CStep,isRoom,nilCmp,xval,callArgs,bne_self_eq_false,  pval,heff,ifcV,nilC,bopAll,bopX,cvtVal,bopVal,bopInt,lenVal,fieldsOf,ldCells,ldElem,fillCells,setCells,lookVal,mapGet,mapPut,boundOf,idxOk,lensOk,appOk,Value.cells,TK.agg,thenQ,inBlockQ,AS.put,AS.ev,startT,upd_eq,dstOk,gslot,condP,tabs,reduceIte,Nat.reduceLT,Nat.reduceEqDiff,Nat.reduceAdd,Nat.reduceLeDiff,Nat.reduceMul,Nat.reduceSub,List.getElem?_nil,List.length_nil,List.nil_append,List.append_nil,List.take_zero,List.map_nil,Option.map_none,Option.bind_none,reduceCtorEq,Int.toNat_natCast,Int.natCast_nonneg,List.not_mem_nil,retQ,resAll,resOne,resTup,AV.toDataR,wrap_succ,Int.ofNat_lt,Int.not_lt,obo1,obo2,obo3,core1,core2,core3]
 refine hK3 _ ?_
 try clear hK3 K3
 refine AWp.condB (by simp only[AS.ev,upd_eq,Nat.reduceEqDiff,if_true,if_false,reduceIte,reduceCtorEq];rfl) (fun hc=>?_) (fun hc=>?_)
 all_goals (try simp only[decide_eq_true_eq,decide_eq_false_iff_not,Int.ofNat_lt,Int.not_lt,Nat.not_lt,bne_iff_ne,bne_eq_false_iff_eq,ne_eq,Bool.not_eq_true',Bool.not_eq_false',Bool.and_eq_true,Bool.or_eq_true,Bool.and_eq_false_iff,Bool.or_eq_false_iff,beq_iff_eq,beq_eq_false_iff_ne,Bool.not_eq_eq_eq_not,Bool.not_true,Bool.not_false] at hc)
 ·exfalso;omega
 ·refine AWp.skip ?_
  refine hK2 _ ?_
  try clear hK2 K2
  refine AWp.seqK fun K9 hK9=>?_
  refine AWp.seqK fun K10 hK10=>?_
  have hw:IntKind.i64.wrap ((n:Int)-IntKind.i64.wrap (0-((0:Nat):Int)))=(n:Int):=by
   rw[show IntKind.i64.wrap (0-((0:Nat):Int))=0 from by decide,Int.sub_zero,IntWalk.i64_in _ (by omega)]
  refine AWp.regionC hok htab hnt ?_
  simp only[ARunC,CStep,isRoom,nilCmp,xval,callArgs,bne_self_eq_false,  pval,heff,ifcV,nilC,bopAll,bopX,cvtVal,bopVal,bopInt,lenVal,fieldsOf,ldCells,ldElem,fillCells,setCells,lookVal,mapGet,mapPut,boundOf,idxOk,lensOk,appOk,Value.cells,TK.agg,thenQ,inBlockQ,AS.put,AS.ev,startT,upd_eq,dstOk,gslot,condP,tabs,reduceIte,Nat.reduceLT,Nat.reduceEqDiff,Nat.reduceAdd,Nat.reduceLeDiff,Nat.reduceMul,Nat.reduceSub,List.getElem?_nil,List.length_nil,List.nil_append,List.append_nil,List.take_zero,List.map_nil,Option.map_none,Option.bind_none,reduceCtorEq,Int.toNat_natCast,Int.natCast_nonneg,List.not_mem_nil,retQ,resAll,resOne,resTup,AV.toDataR,wrap_succ,Int.ofNat_lt,Int.not_lt,obo1,obo2,obo3,core1,core2,core3,hw]
  refine hK10 _ ?_
  try clear hK10 K10
  refine AWp.seqK fun K11 hK11=>?_
  refine AWp.regionC hok htab hnt ?_
  simp only[ARunC,CStep,isRoom,nilCmp,xval,callArgs,bne_self_eq_false,  pval,heff,ifcV,nilC,bopAll,bopX,cvtVal,bopVal,bopInt,lenVal,fieldsOf,ldCells,ldElem,fillCells,setCells,lookVal,mapGet,mapPut,boundOf,idxOk,lensOk,appOk,Value.cells,TK.agg,thenQ,inBlockQ,AS.put,AS.ev,startT,upd_eq,dstOk,gslot,condP,tabs,reduceIte,Nat.reduceLT,Nat.reduceEqDiff,Nat.reduceAdd,Nat.reduceLeDiff,Nat.reduceMul,Nat.reduceSub,List.getElem?_nil,List.length_nil,List.nil_append,List.append_nil,List.take_zero,List.map_nil,Option.map_none,Option.bind_none,reduceCtorEq,Int.toNat_natCast,Int.natCast_nonneg,List.not_mem_nil,retQ,resAll,resOne,resTup,AV.toDataR,wrap_succ,Int.ofNat_lt,Int.not_lt,obo1,obo2,obo3,core1,core2,core3]
  refine hK11 _ ?_
  try clear hK11 K11
  refine AWp.condB (by simp only[AS.ev,upd_eq,Nat.reduceEqDiff,if_true,if_false,reduceIte,reduceCtorEq];rfl) (fun hc=>?_) (fun hc=>?_)
  all_goals (try simp only[decide_eq_true_eq,decide_eq_false_iff_not,Int.ofNat_lt,Int.not_lt,Nat.not_lt,bne_iff_ne,bne_eq_false_iff_eq,ne_eq,Bool.not_eq_true',Bool.not_eq_false',Bool.and_eq_true,Bool.or_eq_true,Bool.and_eq_false_iff,Bool.or_eq_false_iff,beq_iff_eq,beq_eq_false_iff_ne,Bool.not_eq_eq_eq_not,Bool.not_true,Bool.not_false] at hc)  
  ·refine AWp.regionC hok htab hnt ?_
   simp only[ARunC,CStep,isRoom,nilCmp,xval,callArgs,bne_self_eq_false,  pval,heff,ifcV,nilC,bopAll,bopX,cvtVal,bopVal,bopInt,lenVal,fieldsOf,ldCells,ldElem,fillCells,setCells,lookVal,mapGet,mapPut,boundOf,idxOk,lensOk,appOk,Value.cells,TK.agg,thenQ,inBlockQ,AS.put,AS.ev,startT,upd_eq,dstOk,gslot,condP,tabs,reduceIte,Nat.reduceLT,Nat.reduceEqDiff,Nat.reduceAdd,Nat.reduceLeDiff,Nat.reduceMul,Nat.reduceSub,List.getElem?_nil,List.length_nil,List.nil_append,List.append_nil,List.take_zero,List.map_nil,Option.map_none,Option.bind_none,reduceCtorEq,Int.toNat_natCast,Int.natCast_nonneg,List.not_mem_nil,retQ,resAll,resOne,resTup,AV.toDataR,wrap_succ,Int.ofNat_lt,Int.not_lt,obo1,obo2,obo3,core1,core2,core3]
   refine AList.room hok htab (c1:={ callee:=.builtin .append,args:=#[.tmp 20,.tmp 21],argTypes:=#[43,3] }) (c3:={ callee:=.builtin .len,args:=#[.tmp 23],argTypes:=#[43] }) (n:=n) rfl rfl rfl rfl rfl rfl rfl rfl tab_43 rfl tab_101 tab_3 rfl (by decide) rfl rfl (by omega) (by simp only[maxLen];omega) (by simp only[td101];omega)
    rfl rfl (by simp) rfl rfl rfl rfl rfl rfl rfl rfl rfl (by omega) (by omega) (by omega) (by omega) (by decide) (by decide) ?_
   refine ARunC.sound hok htab hnt _ _ ?_
   simp only[ARunC,CStep,isRoom,nilCmp,xval,callArgs,bne_self_eq_false,  pval,heff,ifcV,nilC,bopAll,bopX,cvtVal,bopVal,bopInt,lenVal,fieldsOf,ldCells,ldElem,fillCells,setCells,lookVal,mapGet,mapPut,boundOf,idxOk,lensOk,appOk,Value.cells,TK.agg,thenQ,inBlockQ,AS.put,AS.ev,startT,upd_eq,dstOk,gslot,condP,tabs,reduceIte,Nat.reduceLT,Nat.reduceEqDiff,Nat.reduceAdd,Nat.reduceLeDiff,Nat.reduceMul,Nat.reduceSub,List.getElem?_nil,List.length_nil,List.nil_append,List.append_nil,List.take_zero,List.map_nil,Option.map_none,Option.bind_none,reduceCtorEq,Int.toNat_natCast,Int.natCast_nonneg,List.not_mem_nil,retQ,resAll,resOne,resTup,AV.toDataR,wrap_succ,Int.ofNat_lt,Int.not_lt,obo1,obo2,obo3,core1,core2,core3]
   refine hK9 _ ?_
   try clear hK9 K9
   refine AWp.seqK fun K12 hK12=>?_
   refine AWp.regionC hok htab hnt ?_
   simp only[ARunC,CStep,isRoom,nilCmp,xval,callArgs,bne_self_eq_false,  pval,heff,ifcV,nilC,bopAll,bopX,cvtVal,bopVal,bopInt,lenVal,fieldsOf,ldCells,ldElem,fillCells,setCells,lookVal,mapGet,mapPut,boundOf,idxOk,lensOk,appOk,Value.cells,TK.agg,thenQ,inBlockQ,AS.put,AS.ev,startT,upd_eq,dstOk,gslot,condP,tabs,reduceIte,Nat.reduceLT,Nat.reduceEqDiff,Nat.reduceAdd,Nat.reduceLeDiff,Nat.reduceMul,Nat.reduceSub,List.getElem?_nil,List.length_nil,List.nil_append,List.append_nil,List.take_zero,List.map_nil,Option.map_none,Option.bind_none,reduceCtorEq,Int.toNat_natCast,Int.natCast_nonneg,List.not_mem_nil,retQ,resAll,resOne,resTup,AV.toDataR,wrap_succ,Int.ofNat_lt,Int.not_lt,obo1,obo2,obo3,core1,core2,core3]
   refine hK12 _ ?_
   try clear hK12 K12
   refine AWp.ret ?_
   simp only[ARunC,CStep,isRoom,nilCmp,xval,callArgs,bne_self_eq_false,  pval,heff,ifcV,nilC,bopAll,bopX,cvtVal,bopVal,bopInt,lenVal,fieldsOf,ldCells,ldElem,fillCells,setCells,lookVal,mapGet,mapPut,boundOf,idxOk,lensOk,appOk,Value.cells,TK.agg,thenQ,inBlockQ,AS.put,AS.ev,startT,upd_eq,dstOk,gslot,condP,tabs,reduceIte,Nat.reduceLT,Nat.reduceEqDiff,Nat.reduceAdd,Nat.reduceLeDiff,Nat.reduceMul,Nat.reduceSub,List.getElem?_nil,List.length_nil,List.nil_append,List.append_nil,List.take_zero,List.map_nil,Option.map_none,Option.bind_none,reduceCtorEq,Int.toNat_natCast,Int.natCast_nonneg,List.not_mem_nil,retQ,resAll,resOne,resTup,AV.toDataR,wrap_succ,Int.ofNat_lt,Int.not_lt,obo1,obo2,obo3,core1,core2,core3,Tryz.results165,retH]
   have e:List.take (hp.length+1) (hp++[AObj.row 101 2 []])=hp++[AObj.row 101 2 []]:=List.take_of_length_le (by simp)
   rw[e]
   refine⟨fun o ho=>?_,?_,rfl⟩
   ·rcases List.mem_append.1 ho with h1|h1
    ·exact hcl o h1
    ·rw[List.mem_singleton.1 h1];rfl
   ·simp[AV.out,AV.outV,AV.outC,AV.closedC]
  ·refine AWp.skip ?_
   refine hK9 _ ?_
   try clear hK9 K9
   refine AWp.weak (Weak.row hok 0 101 2 (by decide) rfl) ?_
   refine AWp.seqK fun K13 hK13=>?_
   refine AWp.regionC hok htab hnt ?_
   simp only[ARunC,CStep,isRoom,nilCmp,xval,callArgs,bne_self_eq_false,  pval,heff,ifcV,nilC,bopAll,bopX,cvtVal,bopVal,bopInt,lenVal,fieldsOf,ldCells,ldElem,fillCells,setCells,lookVal,mapGet,mapPut,boundOf,idxOk,lensOk,appOk,Value.cells,TK.agg,thenQ,inBlockQ,AS.put,AS.ev,startT,upd_eq,dstOk,gslot,condP,tabs,reduceIte,Nat.reduceLT,Nat.reduceEqDiff,Nat.reduceAdd,Nat.reduceLeDiff,Nat.reduceMul,Nat.reduceSub,List.getElem?_nil,List.length_nil,List.nil_append,List.append_nil,List.take_zero,List.map_nil,Option.map_none,Option.bind_none,reduceCtorEq,Int.toNat_natCast,Int.natCast_nonneg,List.not_mem_nil,retQ,resAll,resOne,resTup,AV.toDataR,wrap_succ,Int.ofNat_lt,Int.not_lt,obo1,obo2,obo3,core1,core2,core3]
   refine hK13 _ ?_
   try clear hK13 K13
   refine AWp.ret ?_
   simp only[ARunC,CStep,isRoom,nilCmp,xval,callArgs,bne_self_eq_false,  pval,heff,ifcV,nilC,bopAll,bopX,cvtVal,bopVal,bopInt,lenVal,fieldsOf,ldCells,ldElem,fillCells,setCells,lookVal,mapGet,mapPut,boundOf,idxOk,lensOk,appOk,Value.cells,TK.agg,thenQ,inBlockQ,AS.put,AS.ev,startT,upd_eq,dstOk,gslot,condP,tabs,reduceIte,Nat.reduceLT,Nat.reduceEqDiff,Nat.reduceAdd,Nat.reduceLeDiff,Nat.reduceMul,Nat.reduceSub,List.getElem?_nil,List.length_nil,List.nil_append,List.append_nil,List.take_zero,List.map_nil,Option.map_none,Option.bind_none,reduceCtorEq,Int.toNat_natCast,Int.natCast_nonneg,List.not_mem_nil,retQ,resAll,resOne,resTup,AV.toDataR,wrap_succ,Int.ofNat_lt,Int.not_lt,obo1,obo2,obo3,core1,core2,core3,Tryz.results165,retH]
   have e:List.take (hp.length+1) (hp++[AObj.row 101 2 []])=hp++[AObj.row 101 2 []]:=List.take_of_length_le (by simp)
   rw[e]
   refine⟨fun o ho=>?_,?_,rfl⟩
   ·rcases List.mem_append.1 ho with h1|h1
    ·exact hcl o h1
    ·rw[List.mem_singleton.1 h1];rfl
   ·simp[AV.out,AV.outV,AV.outC,AV.closedC]
def encRows (ll:List (List Ty)):List AV:=ll.map fun l=>.sl (l.map Ty.enc)
theorem encRows_getD {ll:List (List Ty)} {k:Nat} (h:k<ll.length):(encRows ll).getD k .top=.sl (ll[k].map Ty.enc):=by
 simp[encRows,List.getD,h]
theorem encRows_len (ll:List (List Ty)):(encRows ll).length=ll.length:=by simp[encRows]
theorem flat_take {ll:List (List Ty)} {k:Nat} (h:k<ll.length):(ll.take (k+1)).flatten=(ll.take k).flatten++ll[k]:=by
 rw[List.take_succ_eq_append_getElem h,List.flatten_append,List.flatten_singleton]
theorem flat_take_le (ll:List (List Ty)) (k:Nat):(ll.take k).flatten.length≤ll.flatten.length:=by
 have h:ll.flatten=(ll.take k).flatten++(ll.drop k).flatten:=by rw[←List.flatten_append,List.take_append_drop]
 rw[h,List.length_append];omega
theorem enc_cells_mem {l:List Ty} {x:AV} (h:x∈l.map Ty.enc):x.cells.length=2:=by
 obtain⟨t,_,rfl⟩:=List.mem_map.1 h
 exact t.enc_len
theorem concat_calls {ll:List (List Ty)} (h0:ll.length≤1000000000) (hn:ll.flatten.length≤1000000000):
  PureIs Tryz.prog 158 [.sl (encRows ll)] (.sl (ll.flatten.map Ty.enc)):=by
 refine pure_of_body tab_ok (fn:=Tryz.f158) Tryz.func158 rfl (by kernel_rfl) (by simp[Tryz.ntmps158]) ?_
 intro Γ hok hP hnt hh0 hfree0
 rw[Tryz.ntmps158] at hnt
 have htab:TabOk Γ.P tab:=by rw[hP];exact tab_ok
 refine AWp.seqK fun K1 hK1=>?_
 refine AWp.regionC hok htab hnt ?_
 simp only[ARunC,CStep,isRoom,nilCmp,xval,callArgs,bne_self_eq_false,  pval,heff,ifcV,nilC,bopAll,bopX,cvtVal,bopVal,bopInt,lenVal,fieldsOf,ldCells,ldElem,fillCells,setCells,lookVal,mapGet,mapPut,boundOf,idxOk,lensOk,appOk,Value.cells,TK.agg,thenQ,inBlockQ,AS.put,AS.ev,startT,upd_eq,dstOk,gslot,condP,tabs,reduceIte,Nat.reduceLT,Nat.reduceEqDiff,Nat.reduceAdd,Nat.reduceLeDiff,Nat.reduceMul,Nat.reduceSub,List.getElem?_nil,List.length_nil,List.nil_append,List.append_nil,List.take_zero,List.map_nil,Option.map_none,Option.bind_none,reduceCtorEq,Int.toNat_natCast,Int.natCast_nonneg,List.not_mem_nil,retQ,resAll,resOne,resTup,AV.toDataR,wrap_succ,Int.ofNat_lt,Int.not_lt,obo1,obo2,obo3,core1,core2,core3]
 refine hK1 _ ?_
 try clear hK1 K1
 refine AWp.seqK fun K2 hK2=>?_
 refine AWp.regionC hok htab hnt ?_
 simp only[ARunC,CStep,isRoom,nilCmp,xval,callArgs,bne_self_eq_false,  pval,heff,ifcV,nilC,bopAll,bopX,cvtVal,bopVal,bopInt,lenVal,fieldsOf,ldCells,ldElem,fillCells,setCells,lookVal,mapGet,mapPut,boundOf,idxOk,lensOk,appOk,Value.cells,TK.agg,thenQ,inBlockQ,AS.put,AS.ev,startT,upd_eq,dstOk,gslot,condP,tabs,reduceIte,Nat.reduceLT,Nat.reduceEqDiff,Nat.reduceAdd,Nat.reduceLeDiff,Nat.reduceMul,Nat.reduceSub,List.getElem?_nil,List.length_nil,List.nil_append,List.append_nil,List.take_zero,List.map_nil,Option.map_none,Option.bind_none,reduceCtorEq,Int.toNat_natCast,Int.natCast_nonneg,List.not_mem_nil,retQ,resAll,resOne,resTup,AV.toDataR,wrap_succ,Int.ofNat_lt,Int.not_lt,obo1,obo2,obo3,core1,core2,core3]
 refine hK2 _ ?_
 try clear hK2 K2
 refine AWp.seqK fun K3 hK3=>?_
 refine AWp.seqK fun K4 hK4=>?_
 refine AWp.regionC hok htab hnt ?_
 simp only[ARunC,CStep,isRoom,nilCmp,xval,callArgs,bne_self_eq_false,  pval,heff,ifcV,nilC,bopAll,bopX,cvtVal,bopVal,bopInt,lenVal,fieldsOf,ldCells,ldElem,fillCells,setCells,lookVal,mapGet,mapPut,boundOf,idxOk,lensOk,appOk,Value.cells,TK.agg,thenQ,inBlockQ,AS.put,AS.ev,startT,upd_eq,dstOk,gslot,condP,tabs,reduceIte,Nat.reduceLT,Nat.reduceEqDiff,Nat.reduceAdd,Nat.reduceLeDiff,Nat.reduceMul,Nat.reduceSub,List.getElem?_nil,List.length_nil,List.nil_append,List.append_nil,List.take_zero,List.map_nil,Option.map_none,Option.bind_none,reduceCtorEq,Int.toNat_natCast,Int.natCast_nonneg,List.not_mem_nil,retQ,resAll,resOne,resTup,AV.toDataR,wrap_succ,Int.ofNat_lt,Int.not_lt,obo1,obo2,obo3,core1,core2,core3,encRows_len]
 refine hK4 _ ?_
 try clear hK4 K4
 refine AWp.block ?_
 refine AWp.loop (fun k:Nat=>k≤ll.length)
  (fun k=>⟨(upd (upd (upd (upd (upd (fun _=>.top) 0 (.sl (encRows ll))) 3 (.prim (.int .i64 ((ll.take k).flatten.length:Nat)))) 9 (.sl (encRows ll))) 10 (.prim (.int .i64 (ll.length:Nat)))) 11 (.prim (.int .i64 (k:Nat)))),[],()⟩)
  (fun k=>ll.length-k) 0 (Nat.zero_le _) ?_ ?_
 ·refine Weak.cut hok 0 (by omega) ?_ ?_ ?_ ?_
  ·repeat' (first|exact Sub.nil|refine Sub.upd ?_ ?_)
   all_goals rfl
  ·repeat' (first|exact ShutF.nil|refine ShutF.upd ?_ ?_)
   all_goals first|rfl|assumption|exact CapsOk.cl (by assumption) _
  ·rfl
  ·simp[AObj.closed,AV.closedC]
 ·intro k hk
  refine AWp.seqK fun K5 hK5=>?_
  refine AWp.regionC hok htab hnt ?_
  simp only[ARunC,CStep,isRoom,nilCmp,xval,callArgs,bne_self_eq_false,  pval,heff,ifcV,nilC,bopAll,bopX,cvtVal,bopVal,bopInt,lenVal,fieldsOf,ldCells,ldElem,fillCells,setCells,lookVal,mapGet,mapPut,boundOf,idxOk,lensOk,appOk,Value.cells,TK.agg,thenQ,inBlockQ,AS.put,AS.ev,startT,upd_eq,dstOk,gslot,condP,tabs,reduceIte,Nat.reduceLT,Nat.reduceEqDiff,Nat.reduceAdd,Nat.reduceLeDiff,Nat.reduceMul,Nat.reduceSub,List.getElem?_nil,List.length_nil,List.nil_append,List.append_nil,List.take_zero,List.map_nil,Option.map_none,Option.bind_none,reduceCtorEq,Int.toNat_natCast,Int.natCast_nonneg,List.not_mem_nil,retQ,resAll,resOne,resTup,AV.toDataR,wrap_succ,Int.ofNat_lt,Int.not_lt,obo1,obo2,obo3,core1,core2,core3]
  refine hK5 _ ?_
  try clear hK5 K5
  refine AWp.seqK fun K6 hK6=>?_
  refine AWp.condB (by simp only[AS.ev,upd_eq,Nat.reduceEqDiff,if_true,if_false,reduceIte,reduceCtorEq];rfl) (fun hc=>?_) (fun hc=>?_)
  all_goals (try simp only[decide_eq_true_eq,decide_eq_false_iff_not,Int.ofNat_lt,Int.not_lt,Nat.not_lt,bne_iff_ne,bne_eq_false_iff_eq,ne_eq,Bool.not_eq_true',Bool.not_eq_false',Bool.and_eq_true,Bool.or_eq_true,Bool.and_eq_false_iff,Bool.or_eq_false_iff,beq_iff_eq,beq_eq_false_iff_ne,Bool.not_eq_eq_eq_not,Bool.not_true,Bool.not_false] at hc)  
  ·refine AWp.skip ?_
   refine hK6 _ ?_
   try clear hK6 K6
   have hg:=encRows_getD hc
   have hle:=flat_take_le ll (k+1)
   have hft:=flat_take hc
   have hln:(ll.take (k+1)).flatten.length=(ll.take k).flatten.length+ll[k].length:=by rw[hft,List.length_append]
   refine AWp.seqK fun K7 hK7=>?_
   refine AWp.block ?_
   refine AWp.seqK fun K8 hK8=>?_
   refine AWp.regionC hok htab hnt ?_
   simp only[ARunC,CStep,isRoom,nilCmp,xval,callArgs,bne_self_eq_false,  pval,heff,ifcV,nilC,bopAll,bopX,cvtVal,bopVal,bopInt,lenVal,fieldsOf,ldCells,ldElem,fillCells,setCells,lookVal,mapGet,mapPut,boundOf,idxOk,lensOk,appOk,Value.cells,TK.agg,thenQ,inBlockQ,AS.put,AS.ev,startT,upd_eq,dstOk,gslot,condP,tabs,reduceIte,Nat.reduceLT,Nat.reduceEqDiff,Nat.reduceAdd,Nat.reduceLeDiff,Nat.reduceMul,Nat.reduceSub,List.getElem?_nil,List.length_nil,List.nil_append,List.append_nil,List.take_zero,List.map_nil,Option.map_none,Option.bind_none,reduceCtorEq,Int.toNat_natCast,Int.natCast_nonneg,List.not_mem_nil,retQ,resAll,resOne,resTup,AV.toDataR,wrap_succ,Int.ofNat_lt,Int.not_lt,obo1,obo2,obo3,core1,core2,core3,hg,encRows_len]
   refine⟨by omega,?_⟩ 
   refine hK8 _ ?_
   try clear hK8 K8
   refine AWp.seqK fun K9 hK9=>?_
   have hw:IntKind.i64.wrap (((ll.take k).flatten.length:Int)+(ll[k].length:Int))=(((ll.take (k+1)).flatten.length:Nat):Int):=by
    rw[IntWalk.i64_in _ (by omega)];omega
   refine AWp.regionC hok htab hnt ?_
   simp only[ARunC,CStep,isRoom,nilCmp,xval,callArgs,bne_self_eq_false,  pval,heff,ifcV,nilC,bopAll,bopX,cvtVal,bopVal,bopInt,lenVal,fieldsOf,ldCells,ldElem,fillCells,setCells,lookVal,mapGet,mapPut,boundOf,idxOk,lensOk,appOk,Value.cells,TK.agg,thenQ,inBlockQ,AS.put,AS.ev,startT,upd_eq,dstOk,gslot,condP,tabs,reduceIte,Nat.reduceLT,Nat.reduceEqDiff,Nat.reduceAdd,Nat.reduceLeDiff,Nat.reduceMul,Nat.reduceSub,List.getElem?_nil,List.length_nil,List.nil_append,List.append_nil,List.take_zero,List.map_nil,Option.map_none,Option.bind_none,reduceCtorEq,Int.toNat_natCast,Int.natCast_nonneg,List.not_mem_nil,retQ,resAll,resOne,resTup,AV.toDataR,wrap_succ,Int.ofNat_lt,Int.not_lt,obo1,obo2,obo3,core1,core2,core3,hw]
   refine hK9 _ ?_
   try clear hK9 K9
   refine AWp.seqK fun K10 hK10=>?_
   refine AWp.regionC hok htab hnt ?_
   simp only[ARunC,CStep,isRoom,nilCmp,xval,callArgs,bne_self_eq_false,  pval,heff,ifcV,nilC,bopAll,bopX,cvtVal,bopVal,bopInt,lenVal,fieldsOf,ldCells,ldElem,fillCells,setCells,lookVal,mapGet,mapPut,boundOf,idxOk,lensOk,appOk,Value.cells,TK.agg,thenQ,inBlockQ,AS.put,AS.ev,startT,upd_eq,dstOk,gslot,condP,tabs,reduceIte,Nat.reduceLT,Nat.reduceEqDiff,Nat.reduceAdd,Nat.reduceLeDiff,Nat.reduceMul,Nat.reduceSub,List.getElem?_nil,List.length_nil,List.nil_append,List.append_nil,List.take_zero,List.map_nil,Option.map_none,Option.bind_none,reduceCtorEq,Int.toNat_natCast,Int.natCast_nonneg,List.not_mem_nil,retQ,resAll,resOne,resTup,AV.toDataR,wrap_succ,Int.ofNat_lt,Int.not_lt,obo1,obo2,obo3,core1,core2,core3]
   refine hK10 _ ?_
   try clear hK10 K10
   refine AWp.condB (by simp only[AS.ev,upd_eq,Nat.reduceEqDiff,if_true,if_false,reduceIte,reduceCtorEq];rfl) (fun hc=>?_) (fun hc=>?_)
   all_goals (try simp only[decide_eq_true_eq,decide_eq_false_iff_not,Int.ofNat_lt,Int.not_lt,Nat.not_lt,bne_iff_ne,bne_eq_false_iff_eq,ne_eq,Bool.not_eq_true',Bool.not_eq_false',Bool.and_eq_true,Bool.or_eq_true,Bool.and_eq_false_iff,Bool.or_eq_false_iff,beq_iff_eq,beq_eq_false_iff_ne,Bool.not_eq_eq_eq_not,Bool.not_true,Bool.not_false] at hc)  
   ·exfalso;omega
   ·refine AWp.skip ?_
    refine hK7 _ ?_
    try clear hK7 K7
    have hw1:IntKind.i64.wrap ((k:Int)+1)=((k+1:Nat):Int):=wrap_succ (by omega)
    refine AWp.regionC hok htab hnt ?_
    simp only[ARunC,CStep,isRoom,nilCmp,xval,callArgs,bne_self_eq_false,  pval,heff,ifcV,nilC,bopAll,bopX,cvtVal,bopVal,bopInt,lenVal,fieldsOf,ldCells,ldElem,fillCells,setCells,lookVal,mapGet,mapPut,boundOf,idxOk,lensOk,appOk,Value.cells,TK.agg,thenQ,inBlockQ,AS.put,AS.ev,startT,upd_eq,dstOk,gslot,condP,tabs,reduceIte,Nat.reduceLT,Nat.reduceEqDiff,Nat.reduceAdd,Nat.reduceLeDiff,Nat.reduceMul,Nat.reduceSub,List.getElem?_nil,List.length_nil,List.nil_append,List.append_nil,List.take_zero,List.map_nil,Option.map_none,Option.bind_none,reduceCtorEq,Int.toNat_natCast,Int.natCast_nonneg,List.not_mem_nil,retQ,resAll,resOne,resTup,AV.toDataR,wrap_succ,Int.ofNat_lt,Int.not_lt,obo1,obo2,obo3,core1,core2,core3,hw1]
    refine⟨k+1,by omega,?_,by omega⟩
    refine Weak.cut hok 0 (by omega) ?_ ?_ ?_ ?_
    ·repeat' (first|exact Sub.nil|refine Sub.upd ?_ ?_)
     all_goals rfl
    ·repeat' (first|exact ShutF.nil|refine ShutF.upd ?_ ?_)
     all_goals first|rfl|assumption|exact CapsOk.cl (by assumption) _
    ·rfl
    ·simp[AObj.closed,AV.closedC]
  ·obtain rfl:k=ll.length:=by omega
   refine AWp.exit ?_
   simp only[ARunC,CStep,isRoom,nilCmp,xval,callArgs,bne_self_eq_false,  pval,heff,ifcV,nilC,bopAll,bopX,cvtVal,bopVal,bopInt,lenVal,fieldsOf,ldCells,ldElem,fillCells,setCells,lookVal,mapGet,mapPut,boundOf,idxOk,lensOk,appOk,Value.cells,TK.agg,thenQ,inBlockQ,AS.put,AS.ev,startT,upd_eq,dstOk,gslot,condP,tabs,reduceIte,Nat.reduceLT,Nat.reduceEqDiff,Nat.reduceAdd,Nat.reduceLeDiff,Nat.reduceMul,Nat.reduceSub,List.getElem?_nil,List.length_nil,List.nil_append,List.append_nil,List.take_zero,List.map_nil,Option.map_none,Option.bind_none,reduceCtorEq,Int.toNat_natCast,Int.natCast_nonneg,List.not_mem_nil,retQ,resAll,resOne,resTup,AV.toDataR,wrap_succ,Int.ofNat_lt,Int.not_lt,obo1,obo2,obo3,core1,core2,core3]
   refine hK3 _ ?_
   try clear hK3 K3
   refine AWp.seqK fun K11 hK11=>?_
   refine AWp.regionC hok htab hnt ?_
   simp only[ARunC,CStep,isRoom,nilCmp,xval,callArgs,bne_self_eq_false,  pval,heff,ifcV,nilC,bopAll,bopX,cvtVal,bopVal,bopInt,lenVal,fieldsOf,ldCells,ldElem,fillCells,setCells,lookVal,mapGet,mapPut,boundOf,idxOk,lensOk,appOk,Value.cells,TK.agg,thenQ,inBlockQ,AS.put,AS.ev,startT,upd_eq,dstOk,gslot,condP,tabs,reduceIte,Nat.reduceLT,Nat.reduceEqDiff,Nat.reduceAdd,Nat.reduceLeDiff,Nat.reduceMul,Nat.reduceSub,List.getElem?_nil,List.length_nil,List.nil_append,List.append_nil,List.take_zero,List.map_nil,Option.map_none,Option.bind_none,reduceCtorEq,Int.toNat_natCast,Int.natCast_nonneg,List.not_mem_nil,retQ,resAll,resOne,resTup,AV.toDataR,wrap_succ,Int.ofNat_lt,Int.not_lt,obo1,obo2,obo3,core1,core2,core3,List.take_length]
   have hcall:=grow_calls (hp:=[]) hn (by simp)
   rw[←hP] at hcall
   refine .inr ⟨_,hcall,?_⟩ 
   rintro r hp' ⟨rfl,rfl⟩
   refine ARunC.sound hok htab hnt _ _ ?_
   simp only[ARunC,CStep,isRoom,nilCmp,xval,callArgs,bne_self_eq_false,  pval,heff,ifcV,nilC,bopAll,bopX,cvtVal,bopVal,bopInt,lenVal,fieldsOf,ldCells,ldElem,fillCells,setCells,lookVal,mapGet,mapPut,boundOf,idxOk,lensOk,appOk,Value.cells,TK.agg,thenQ,inBlockQ,AS.put,AS.ev,startT,upd_eq,dstOk,gslot,condP,tabs,reduceIte,Nat.reduceLT,Nat.reduceEqDiff,Nat.reduceAdd,Nat.reduceLeDiff,Nat.reduceMul,Nat.reduceSub,List.getElem?_nil,List.length_nil,List.nil_append,List.append_nil,List.take_zero,List.map_nil,Option.map_none,Option.bind_none,reduceCtorEq,Int.toNat_natCast,Int.natCast_nonneg,List.not_mem_nil,retQ,resAll,resOne,resTup,AV.toDataR,wrap_succ,Int.ofNat_lt,Int.not_lt,obo1,obo2,obo3,core1,core2,core3]
   refine hK11 _ ?_
   try clear hK11 K11
   refine AWp.seqK fun K12 hK12=>?_
   refine AWp.seqK fun K13 hK13=>?_
   refine AWp.regionC hok htab hnt ?_
   simp only[ARunC,CStep,isRoom,nilCmp,xval,callArgs,bne_self_eq_false,  pval,heff,ifcV,nilC,bopAll,bopX,cvtVal,bopVal,bopInt,lenVal,fieldsOf,ldCells,ldElem,fillCells,setCells,lookVal,mapGet,mapPut,boundOf,idxOk,lensOk,appOk,Value.cells,TK.agg,thenQ,inBlockQ,AS.put,AS.ev,startT,upd_eq,dstOk,gslot,condP,tabs,reduceIte,Nat.reduceLT,Nat.reduceEqDiff,Nat.reduceAdd,Nat.reduceLeDiff,Nat.reduceMul,Nat.reduceSub,List.getElem?_nil,List.length_nil,List.nil_append,List.append_nil,List.take_zero,List.map_nil,Option.map_none,Option.bind_none,reduceCtorEq,Int.toNat_natCast,Int.natCast_nonneg,List.not_mem_nil,retQ,resAll,resOne,resTup,AV.toDataR,wrap_succ,Int.ofNat_lt,Int.not_lt,obo1,obo2,obo3,core1,core2,core3,encRows_len]
   refine hK13 _ ?_
   try clear hK13 K13
   refine AWp.block ?_
   refine AWp.loop (fun k:Nat=>k≤ll.length)
    (fun k=>⟨(upd (upd (upd (upd (fun _=>.top) 6 (.own 0 (ll.take k).flatten.length)) 25 (.sl (encRows ll))) 26 (.prim (.int .i64 (ll.length:Nat)))) 27 (.prim (.int .i64 (k:Nat)))),[.row 101 2 ((ll.take k).flatten.map Ty.enc)],()⟩)
    (fun k=>ll.length-k) 0 (Nat.zero_le _) ?_ ?_
   ·refine Weak.cut hok 1 (by omega) ?_ ?_ ?_ ?_
    ·repeat' (first|exact Sub.nil|refine Sub.upd ?_ ?_)
     all_goals rfl
    ·repeat' (first|exact ShutF.nil|refine ShutF.upd ?_ ?_)
     all_goals first|rfl|assumption|exact CapsOk.cl (by assumption) _
    ·rfl
    ·simp[AObj.closed,AV.closedC]
   ·intro k hk
    refine AWp.seqK fun K14 hK14=>?_
    refine AWp.regionC hok htab hnt ?_
    simp only[ARunC,CStep,isRoom,nilCmp,xval,callArgs,bne_self_eq_false,  pval,heff,ifcV,nilC,bopAll,bopX,cvtVal,bopVal,bopInt,lenVal,fieldsOf,ldCells,ldElem,fillCells,setCells,lookVal,mapGet,mapPut,boundOf,idxOk,lensOk,appOk,Value.cells,TK.agg,thenQ,inBlockQ,AS.put,AS.ev,startT,upd_eq,dstOk,gslot,condP,tabs,reduceIte,Nat.reduceLT,Nat.reduceEqDiff,Nat.reduceAdd,Nat.reduceLeDiff,Nat.reduceMul,Nat.reduceSub,List.getElem?_nil,List.length_nil,List.nil_append,List.append_nil,List.take_zero,List.map_nil,Option.map_none,Option.bind_none,reduceCtorEq,Int.toNat_natCast,Int.natCast_nonneg,List.not_mem_nil,retQ,resAll,resOne,resTup,AV.toDataR,wrap_succ,Int.ofNat_lt,Int.not_lt,obo1,obo2,obo3,core1,core2,core3]
    refine hK14 _ ?_
    try clear hK14 K14
    refine AWp.seqK fun K15 hK15=>?_
    refine AWp.condB (by simp only[AS.ev,upd_eq,Nat.reduceEqDiff,if_true,if_false,reduceIte,reduceCtorEq];rfl) (fun hc=>?_) (fun hc=>?_)
    all_goals (try simp only[decide_eq_true_eq,decide_eq_false_iff_not,Int.ofNat_lt,Int.not_lt,Nat.not_lt,bne_iff_ne,bne_eq_false_iff_eq,ne_eq,Bool.not_eq_true',Bool.not_eq_false',Bool.and_eq_true,Bool.or_eq_true,Bool.and_eq_false_iff,Bool.or_eq_false_iff,beq_iff_eq,beq_eq_false_iff_ne,Bool.not_eq_eq_eq_not,Bool.not_true,Bool.not_false] at hc)  
    ·refine AWp.skip ?_
     refine hK15 _ ?_
     try clear hK15 K15
     have hg:=encRows_getD hc
     have hle:=flat_take_le ll (k+1)
     have hft:=flat_take hc
     have hln:(ll.take (k+1)).flatten.length=(ll.take k).flatten.length+ll[k].length:=by rw[hft,List.length_append]
     refine AWp.seqK fun K16 hK16=>?_
     refine AWp.block ?_
     refine AWp.seqK fun K17 hK17=>?_
     refine AWp.regionC hok htab hnt ?_
     simp only[ARunC,CStep,isRoom,nilCmp,xval,callArgs,bne_self_eq_false,  pval,heff,ifcV,nilC,bopAll,bopX,cvtVal,bopVal,bopInt,lenVal,fieldsOf,ldCells,ldElem,fillCells,setCells,lookVal,mapGet,mapPut,boundOf,idxOk,lensOk,appOk,Value.cells,TK.agg,thenQ,inBlockQ,AS.put,AS.ev,startT,upd_eq,dstOk,gslot,condP,tabs,reduceIte,Nat.reduceLT,Nat.reduceEqDiff,Nat.reduceAdd,Nat.reduceLeDiff,Nat.reduceMul,Nat.reduceSub,List.getElem?_nil,List.length_nil,List.nil_append,List.append_nil,List.take_zero,List.map_nil,Option.map_none,Option.bind_none,reduceCtorEq,Int.toNat_natCast,Int.natCast_nonneg,List.not_mem_nil,retQ,resAll,resOne,resTup,AV.toDataR,wrap_succ,Int.ofNat_lt,Int.not_lt,obo1,obo2,obo3,core1,core2,core3,hg,encRows_len]
     refine⟨by omega,?_⟩ 
     refine hK17 _ ?_
     try clear hK17 K17
     refine AWp.regionC hok htab hnt ?_
     simp only[ARunC,CStep,isRoom,nilCmp,xval,callArgs,bne_self_eq_false,  pval,heff,ifcV,nilC,bopAll,bopX,cvtVal,bopVal,bopInt,lenVal,fieldsOf,ldCells,ldElem,fillCells,setCells,lookVal,mapGet,mapPut,boundOf,idxOk,lensOk,appOk,Value.cells,TK.agg,thenQ,inBlockQ,AS.put,AS.ev,startT,upd_eq,dstOk,gslot,condP,tabs,reduceIte,Nat.reduceLT,Nat.reduceEqDiff,Nat.reduceAdd,Nat.reduceLeDiff,Nat.reduceMul,Nat.reduceSub,List.getElem?_nil,List.length_nil,List.nil_append,List.append_nil,List.take_zero,List.map_nil,Option.map_none,Option.bind_none,reduceCtorEq,Int.toNat_natCast,Int.natCast_nonneg,List.not_mem_nil,retQ,resAll,resOne,resTup,AV.toDataR,wrap_succ,Int.ofNat_lt,Int.not_lt,obo1,obo2,obo3,core1,core2,core3]
     refine⟨⟨fun x hx=>enc_cells_mem hx,by simp only[maxLen];omega,by omega⟩,?_⟩
     refine hK16 _ ?_
     try clear hK16 K16
     have hw1:IntKind.i64.wrap ((k:Int)+1)=((k+1:Nat):Int):=wrap_succ (by omega)
     refine AWp.regionC hok htab hnt ?_
     simp only[ARunC,CStep,isRoom,nilCmp,xval,callArgs,bne_self_eq_false,  pval,heff,ifcV,nilC,bopAll,bopX,cvtVal,bopVal,bopInt,lenVal,fieldsOf,ldCells,ldElem,fillCells,setCells,lookVal,mapGet,mapPut,boundOf,idxOk,lensOk,appOk,Value.cells,TK.agg,thenQ,inBlockQ,AS.put,AS.ev,startT,upd_eq,dstOk,gslot,condP,tabs,reduceIte,Nat.reduceLT,Nat.reduceEqDiff,Nat.reduceAdd,Nat.reduceLeDiff,Nat.reduceMul,Nat.reduceSub,List.getElem?_nil,List.length_nil,List.nil_append,List.append_nil,List.take_zero,List.map_nil,Option.map_none,Option.bind_none,reduceCtorEq,Int.toNat_natCast,Int.natCast_nonneg,List.not_mem_nil,retQ,resAll,resOne,resTup,AV.toDataR,wrap_succ,Int.ofNat_lt,Int.not_lt,obo1,obo2,obo3,core1,core2,core3,hw1]
     refine⟨k+1,by omega,?_,by omega⟩
     rw[←hln]
     refine Weak.cut hok 1 (by omega) ?_ ?_ ?_ ?_
     ·repeat' (first|exact Sub.nil|refine Sub.upd ?_ ?_)
      all_goals rfl
     ·repeat' (first|exact ShutF.nil|refine ShutF.upd ?_ ?_)
      all_goals first|rfl|assumption|exact CapsOk.cl (by assumption) _
     ·rw[hft,List.map_append];rfl
     ·simp[AObj.closed,AV.closedC]
    ·obtain rfl:k=ll.length:=by omega
     refine AWp.exit ?_
     simp only[ARunC,CStep,isRoom,nilCmp,xval,callArgs,bne_self_eq_false,  pval,heff,ifcV,nilC,bopAll,bopX,cvtVal,bopVal,bopInt,lenVal,fieldsOf,ldCells,ldElem,fillCells,setCells,lookVal,mapGet,mapPut,boundOf,idxOk,lensOk,appOk,Value.cells,TK.agg,thenQ,inBlockQ,AS.put,AS.ev,startT,upd_eq,dstOk,gslot,condP,tabs,reduceIte,Nat.reduceLT,Nat.reduceEqDiff,Nat.reduceAdd,Nat.reduceLeDiff,Nat.reduceMul,Nat.reduceSub,List.getElem?_nil,List.length_nil,List.nil_append,List.append_nil,List.take_zero,List.map_nil,Option.map_none,Option.bind_none,reduceCtorEq,Int.toNat_natCast,Int.natCast_nonneg,List.not_mem_nil,retQ,resAll,resOne,resTup,AV.toDataR,wrap_succ,Int.ofNat_lt,Int.not_lt,obo1,obo2,obo3,core1,core2,core3]
     refine hK12 _ ?_
     try clear hK12 K12
     refine AWp.seqK fun K18 hK18=>?_
     refine AWp.regionC hok htab hnt ?_
     simp only[ARunC,CStep,isRoom,nilCmp,xval,callArgs,bne_self_eq_false,  pval,heff,ifcV,nilC,bopAll,bopX,cvtVal,bopVal,bopInt,lenVal,fieldsOf,ldCells,ldElem,fillCells,setCells,lookVal,mapGet,mapPut,boundOf,idxOk,lensOk,appOk,Value.cells,TK.agg,thenQ,inBlockQ,AS.put,AS.ev,startT,upd_eq,dstOk,gslot,condP,tabs,reduceIte,Nat.reduceLT,Nat.reduceEqDiff,Nat.reduceAdd,Nat.reduceLeDiff,Nat.reduceMul,Nat.reduceSub,List.getElem?_nil,List.length_nil,List.nil_append,List.append_nil,List.take_zero,List.map_nil,Option.map_none,Option.bind_none,reduceCtorEq,Int.toNat_natCast,Int.natCast_nonneg,List.not_mem_nil,retQ,resAll,resOne,resTup,AV.toDataR,wrap_succ,Int.ofNat_lt,Int.not_lt,obo1,obo2,obo3,core1,core2,core3]
     refine hK18 _ ?_
     try clear hK18 K18
     refine AWp.ret ?_
     simp only[ARunC,CStep,isRoom,nilCmp,xval,callArgs,bne_self_eq_false,  pval,heff,ifcV,nilC,bopAll,bopX,cvtVal,bopVal,bopInt,lenVal,fieldsOf,ldCells,ldElem,fillCells,setCells,lookVal,mapGet,mapPut,boundOf,idxOk,lensOk,appOk,Value.cells,TK.agg,thenQ,inBlockQ,AS.put,AS.ev,startT,upd_eq,dstOk,gslot,condP,tabs,reduceIte,Nat.reduceLT,Nat.reduceEqDiff,Nat.reduceAdd,Nat.reduceLeDiff,Nat.reduceMul,Nat.reduceSub,List.getElem?_nil,List.length_nil,List.nil_append,List.append_nil,List.take_zero,List.map_nil,Option.map_none,Option.bind_none,reduceCtorEq,Int.toNat_natCast,Int.natCast_nonneg,List.not_mem_nil,retQ,resAll,resOne,resTup,AV.toDataR,wrap_succ,Int.ofNat_lt,Int.not_lt,obo1,obo2,obo3,core1,core2,core3,Tryz.results158,List.take_length]
end Go.Proofs.YtjhanogfpkbamaaGreatDoor

namespace Go.Proofs.YtjhanogfpkbamaaGreatDoor
open Go
set_option linter.unusedSimpArgs false
set_option linter.unusedVariables false
def Ty.arrow (t:Ty) (l:List Ty):Ty:=.mk (l++t.args) t.base
theorem arrow_calls {t:Ty} {l:List Ty} (h:Ty.sizes l+t.size≤1000000000):PureIs Tryz.prog 150 [t.enc,.sl (l.map Ty.enc)] (t.arrow l).enc:=by
 have hl:=Ty.sizes_len l
 have hl2:=Ty.sizes_len t.args
 have hs:=t.size_eq
 have hc1:=concat_calls (ll:=[l,t.args]) (by simp) (by simp;omega)
 have hc2:=copied_calls _ (.mk (l++t.args) t.base) (Nat.le_refl _) (by simp only[Ty.size,Ty.sizes_append];omega)
 simp only[encRows,List.map_cons,List.map_nil,List.flatten_cons,List.flatten_nil,List.append_nil] at hc1
 rw[Ty.enc_mk] at hc2
 rw[Ty.arrow,Ty.enc_mk,Ty.enc_eq t]
 exact vc150_ok ⟨_,hc1,_,_,hc2,rfl⟩
mutual
def Tm.var:Tm→Option (Int×Int)
 | .mk b k i a=>if a.length=b.length∧¬(k=0∧i<b.length) then(if Tm.varArgs b.length 0 b a=true then some (k,if k=0 then IntKind.wrap .i64 (i-b.length) else i) else none) else none
def Tm.varArgs (n:Nat):Nat→List Ty→List Tm→Bool
 |k,t::b,a::l=>(match Tm.var a with
  |some (q,j)=>q==0&&j==(n:Int)-1-k&&Ty.sames a.binds t.args
  |none=>false)&&Tm.varArgs n (k+1) b l
 |_,_,_=>true
end
theorem copy1_calls (i:Int):PureIs Tryz.prog 138 [nI i] (nI i):=vc138_ok rfl
def I64 (i:Int):Prop := -9223372036854775808≤i∧i<9223372036854775808
mutual
def Tm.Ok:Tm→Prop
 | .mk _ k i a=>I64 k∧I64 i∧Tm.Oks a
def Tm.Oks:List Tm→Prop
 | []=>True
 |t::l=>Tm.Ok t∧Tm.Oks l
end
theorem Tm.Oks_mem {l:List Tm} (h:Tm.Oks l) {t:Tm} (ht:t∈l):t.Ok:=by
 induction l with
 |nil=>cases ht
 |cons u l ih=>
  obtain⟨h1,h2⟩:=h
  rcases List.mem_cons.1 ht with rfl|h3
  ·exact h1
  ·exact ih h2 h3
theorem Tm.ok_eq {t:Tm} (h:t.Ok):I64 t.kind∧I64 t.index∧Tm.Oks t.args:=by cases t;exact h
theorem tturned_calls:∀(n:Nat) (t:Tm) (a:Nat),t.size≤n→n≤1000000000→t.Ok→a+t.size≤2000000000→PureIs Tryz.prog 137 [t.enc,nI a,.clo 138 []] t.enc:=by
 intro n
 induction n with
 |zero=>intro t a h;have:=t.size_pos;omega
 |succ n ih=>
  intro t a h hn hk ha
  have hq:=Tm.sizes_len t.args
  have hq2:=Ty.sizes_len t.binds
  have hts:=t.size_eq
  obtain⟨hk1,hk2,hk3⟩:=Tm.ok_eq hk
  have harr:=arrow_calls (t:=.mk [] 0) (l:=t.binds) (by simp[Ty.size,Ty.sizes];omega)
  rw[Ty.arrow,Ty.args_mk,Ty.base_mk,List.append_nil,Ty.enc_mk,Ty.enc_mk,List.map_nil] at harr
  have hw:IntKind.wrap .i64 ((a:Int)+((List.length (t.binds.map Ty.enc):Nat):Int))=((a+t.binds.length:Nat):Int):=by rw[List.length_map,wrap_i (by omega) (by omega)];omega
  have loop:vc137_L6 ((((a+t.binds.length:Nat):Int),(),(),(),t.args.map Tm.enc,((List.length (t.args.map Tm.enc):Nat):Int),0,()),((t.binds.map Ty.enc,t.kind,t.index,t.args.map Tm.enc,()),((),0,0,(),()),(t.binds.map Ty.enc,t.kind,t.index,(),()),[],())) (fun x=>x=t.enc):=by
   refine LoopP.intro (fun k:Nat=>((((a+t.binds.length:Nat):Int),(),(),(),t.args.map Tm.enc,(t.args.length:Int),(k:Int),()),((t.binds.map Ty.enc,t.kind,t.index,t.args.map Tm.enc,()),((),0,0,(),()),(t.binds.map Ty.enc,t.kind,t.index,(),()),(t.args.take k).map Tm.enc,())))
    (fun k=>k≤t.args.length) (fun k=>t.args.length-k) 0 (by rw[List.length_map];rfl) (Nat.zero_le _) ?_
   intro k hk again hag
   dsimp only
   refine ITE.intro (fun h=>?_) fun h=>?_
   ·have hlt:k<t.args.length:=by simpa using h
    have hz:=Tm.arg_size hlt
    have hi:=ih t.args[k] (a+t.binds.length) (by omega) (by omega) (Tm.Oks_mem hk3 (List.getElem_mem hlt)) (by have:=Tm.sizes_mem (List.getElem_mem hlt);omega)
    rw[Tm.enc_eq] at hi
    refine⟨by omega,by rw[List.length_map];omega,_,_,_,_,Tm.enc_getD hlt,_,_,_,_,hi,rfl,appOk_one rfl (by simp;omega) (by decide),rfl,?_⟩
    rw[wrap_n (by omega),Tm.enc_snoc,take_snoc' hlt]
    exact hag (k+1) (by omega) (by omega)
   ·have:t.args.length≤k:=by simpa using h
    refine⟨rfl,?_⟩
    rw[List.take_of_length_le this,←Tm.enc_eq]
  rw[Tm.enc_eq]
  rw[Tm.enc_eq] at loop
  refine vc137_ok ⟨_,_,harr,?_⟩
  rw[hw]
  refine ITE.intro (fun h=>?_) fun h=>⟨rfl,loop⟩
  refine ITE.intro (fun h=>?_) fun h=>⟨rfl,loop⟩
  have hge:((a+t.binds.length:Nat):Int)≤t.index:=by simpa using h
  refine⟨_,copy1_calls _,rfl,?_⟩
  unfold I64 at hk2
  rw[wrap_i (n:=t.index-((a+t.binds.length:Nat):Int)) (by omega) (by omega),show ((a+t.binds.length:Nat):Int)+(t.index-((a+t.binds.length:Nat):Int))=t.index from by omega,wrap_i hk2.1 hk2.2]
  exact loop
theorem copy_calls {t:Tm} (h:t.size≤1000000000) (hk:t.Ok):PureIs Tryz.prog 102 [t.enc] t.enc:=by
 have:=tturned_calls _ t 0 (Nat.le_refl _) h hk (by omega)
 rw[Tm.enc_eq] at this ⊢
 exact vc102_ok ⟨_,_,_,_,this,rfl⟩
end Go.Proofs.YtjhanogfpkbamaaGreatDoor
