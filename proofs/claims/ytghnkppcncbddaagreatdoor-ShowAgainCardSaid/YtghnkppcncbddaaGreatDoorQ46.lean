/- Texts of ours laid together for a claim: P70 P71 P72 P73 P74 P75 P76 P15 P17 P18 P23 P19 P11 P77 P78 P79. -/
import Derived.Lib.Strings
import Derived.Lib.ItoaLen
import Derived.KernelRfl
import Derived.Test.YtghnkppcncbddaaGreatDoorQ45
namespace Go.Proofs.YtghnkppcncbddaaGreatDoor
open Go
set_option linter.unusedSimpArgs false
set_option linter.unusedVariables false
inductive Nd where
 |mk (kind:Int) (word:ByteArray) (at_:Int) (kids:List Nd)
mutual
def Nd.enc:Nd→AV
 | .mk k w a l=>.agg [nI k,nS w,nI a,.sl (Nd.encs l)]
def Nd.encs:List Nd→List AV
 | []=>[]
 |t::l=>Nd.enc t::Nd.encs l
end
def Nd.kind:Nd→Int | .mk k _ _ _=>k
def Nd.word:Nd→ByteArray | .mk _ w _ _=>w
def Nd.at_:Nd→Int | .mk _ _ a _=>a
def Nd.kids:Nd→List Nd | .mk _ _ _ l=>l
theorem Nd.encs_eq (l:List Nd):Nd.encs l=l.map Nd.enc:=by
 induction l with
 |nil=>rfl
 |cons t l ih=>simp[Nd.encs,ih]
theorem Nd.enc_eq (t:Nd):t.enc=.agg [nI t.kind,nS t.word,nI t.at_,.sl (t.kids.map Nd.enc)]:=by cases t;simp[Nd.enc,Nd.encs_eq,Nd.kind,Nd.word,Nd.at_,Nd.kids]
theorem Nd.enc_getD {l:List Nd} {k:Nat} (h:k<l.length):List.getD (l.map Nd.enc) (Int.toNat (k:Int)) .top=.agg [nI l[k].kind,nS l[k].word,nI l[k].at_,.sl (l[k].kids.map Nd.enc)]:=by rw[getD_map h,Nd.enc_eq]
mutual
def Nd.size:Nd→Nat
 | .mk _ _ _ l=>1+Nd.sizes l
def Nd.sizes:List Nd→Nat
 | []=>0
 |t::l=>Nd.size t+Nd.sizes l
end
theorem Nd.size_eq (t:Nd):t.size=1+Nd.sizes t.kids:=by cases t;rfl
theorem Nd.size_pos (t:Nd):1≤t.size:=by rw[t.size_eq];omega
theorem Nd.sizes_len (l:List Nd):l.length≤Nd.sizes l:=by
 induction l with
 |nil=>simp[Nd.sizes]
 |cons t l ih=>have:=t.size_pos;simp[Nd.sizes];omega
theorem Nd.sizes_mem {l:List Nd} {t:Nd} (h:t∈l):t.size≤Nd.sizes l:=by
 induction l with
 |nil=>cases h
 |cons u l ih=>
  simp only[Nd.sizes]
  rcases List.mem_cons.1 h with rfl|h1
  ·omega
  ·have:=ih h1;omega
end Go.Proofs.YtghnkppcncbddaaGreatDoor

namespace Go.Proofs.YtghnkppcncbddaaGreatDoor
open Go
set_option linter.unusedSimpArgs false
set_option linter.unusedVariables false
theorem nB_congr {a b:Bool} (h:a=true↔b=true):nB a=nB b:=congrArg nB (Bool.eq_iff_iff.2 h)
def isLetter (c:Int):Bool:=decide (97≤c∧c≤122)||decide (65≤c∧c≤90)
def isDigit (c:Int):Bool:=decide (48≤c∧c≤57)
def isInner (c:Int):Bool:=isLetter c||(isDigit c||(c==95||c==39))
def isBlank (c:Int):Bool:=c==32||(c==9||(c==10||(c==13||c==35)))
def bytesI (s:ByteArray):List Int:=s.data.toList.map fun b=>(b.toNat:Int)
theorem bytesI_len (s:ByteArray):(bytesI s).length=s.size:=by simp[bytesI]
theorem strAt_eq {s:ByteArray} {k:Nat} (h:k<(bytesI s).length):strAt s (k:Int)=(bytesI s)[k]:=by
 have h2:k<s.data.size:=by rw[bytesI_len] at h;exact h
 unfold strAt
 simp only[Int.toNat_natCast,bytesI,List.getElem_map,Array.getElem_toList]
 rw[Array.getElem?_eq_getElem h2];rfl
theorem bytesI_range (s:ByteArray):∀c∈bytesI s,0≤c∧c≤255:=by
 intro c hc
 simp only[bytesI,List.mem_map] at hc
 obtain⟨b,_,rfl⟩:=hc
 have:=b.toNat_lt
 omega
theorem bytesI_inj {s t:ByteArray} (h:bytesI s=bytesI t):s=t:=by
 obtain⟨s⟩:=s;obtain⟨t⟩:=t
 congr 1
 apply Array.ext'
 exact(List.map_inj_right (fun a b (hab:(a.toNat:Int)=b.toNat)=>UInt8.toNat_inj.1 (by omega))).1 h
theorem strEq_iff (a b:ByteArray):strEq a b=decide (a=b):=by
 obtain⟨a⟩:=a;obtain⟨b⟩:=b
 simp only[strEq]
 by_cases h:a=b
 ·subst h;simp
 ·have h1:¬(ByteArray.mk a=ByteArray.mk b):=fun e=>h (by injection e)
  rw[decide_eq_false h1,beq_eq_false_iff_ne]
  intro e
  apply h1
  have e1:=congrArg List.length e
  apply bytesI_inj
  rw[Lib.toList_data,Lib.toList_data] at e
  exact congrArg (List.map fun b:UInt8=>(b.toNat:Int)) e
def isWord (s:ByteArray):Bool:=match bytesI s with
 | []=>false
 |c::l=>decide (l.length≤29)&&isLetter c&&l.all isInner
def memB (c:Int) (s:ByteArray):Bool:=(bytesI s).any (fun b=>b==c)
theorem among_calls {c:Int} {s:ByteArray} (hs:s.size≤1000):PureIs Tryz.prog 151 [.prim (.int .u8 c),nS s] (nB (memB c s)):=by
 refine vc151_ok ?_
 unfold vc151 vc151_L2
 have hl:=bytesI_len s
 refine LoopP.intro (fun k:Nat=>((c,s,(k:Int),()),())) (fun k=>k≤s.size∧memB c s=((bytesI s).drop k).any (fun b=>b==c)) (fun k=>s.size-k) 0 rfl ⟨Nat.zero_le _,rfl⟩ ?_
 intro k ⟨hk,hm⟩ again hag
 dsimp only
 refine ITE.intro (fun h=>?_) fun h=>?_
 ·have hlt:k<s.size:=by simpa using h
  have hlt':k<(bytesI s).length:=by omega
  rw[List.drop_eq_getElem_cons hlt',List.any_cons] at hm
  refine⟨⟨by omega,by omega⟩,?_⟩
  rw[strAt_eq hlt']
  refine ITE.intro (fun h=>?_) fun h=>?_
  ·rw[hm,h];rfl
  ·rw[h,Bool.false_or] at hm
   rw[wrap_n (by omega)]
   exact hag (k+1) ⟨by omega,hm⟩ (by omega)
 ·have:s.size≤k:=by simpa using h
  rw[List.drop_eq_nil_of_le (by omega)] at hm
  rw[hm];rfl
theorem Letter_calls {c:Int}:PureIs Tryz.prog 152 [.prim (.int .u8 c)] (nB (isLetter c)):=by
 refine vc152_ok ⟨_,among_calls (by decide),?_⟩
 exact nB_congr (by simp[memB,bytesI,isLetter];omega)
theorem Digit_calls {c:Int}:PureIs Tryz.prog 154 [.prim (.int .u8 c)] (nB (isDigit c)):=by
 refine vc154_ok ⟨_,among_calls (by decide),?_⟩
 exact nB_congr (by simp[memB,bytesI,isDigit];omega)
theorem Inner_calls {c:Int}:PureIs Tryz.prog 153 [.prim (.int .u8 c)] (nB (isInner c)):=by
 refine vc153_ok ⟨_,Letter_calls,ITE.intro (fun h=>?_) fun h=>⟨_,among_calls (by decide),?_⟩⟩
 ·simp[isInner,h]
 ·exact nB_congr (by simp[memB,bytesI,isInner,isDigit,h];omega)
theorem letter_calls {c:Int}:PureIs Tryz.prog 123 [.prim (.int .u8 c)] (nB (isLetter c)):=by
 refine vc123_ok ?_
 have two:ITE (decide (c≥65)) (nB (decide (c≤90))=nB (decide (65≤c∧c≤90))) (nB false=nB (decide (65≤c∧c≤90))):=by
  refine ITE.intro (fun h=>?_) fun h=>?_
  ·have h:c≥65:=by simpa using h
   exact nB_congr (by simp;omega)
  ·have h:¬c≥65:=by simpa using h
   exact nB_congr (by simp;omega)
 refine ITE.intro (fun h=>ITE.intro (fun h1=>?_) fun h1=>?_) fun h=>?_
 ·have h:c≥97:=by simpa using h
  have h1:c≤122:=by simpa using h1
  simp[isLetter];omega
 ·have h1:¬c≤122:=by simpa using h1
  have:isLetter c=decide (65≤c∧c≤90):=by unfold isLetter;rw[decide_eq_false (by omega),Bool.false_or]
  rw[this];exact two
 ·have h:¬c≥97:=by simpa using h
  have:isLetter c=decide (65≤c∧c≤90):=by unfold isLetter;rw[decide_eq_false (by omega),Bool.false_or]
  rw[this];exact two
theorem digit_calls {c:Int}:PureIs Tryz.prog 157 [.prim (.int .u8 c)] (nB (isDigit c)):=by
 refine vc157_ok (ITE.intro (fun h=>?_) fun h=>?_)
 ·have h:c≥48:=by simpa using h
  exact nB_congr (by simp[isDigit];omega)
 ·have h:¬c≥48:=by simpa using h
  exact nB_congr (by simp[isDigit];omega)
theorem inner_calls {c:Int}:PureIs Tryz.prog 125 [.prim (.int .u8 c)] (nB (isInner c)):=by
 refine vc125_ok ⟨_,letter_calls,ITE.intro (fun h=>?_) fun h=>⟨_,digit_calls,ITE.intro (fun h1=>?_) fun h1=>ITE.intro (fun h2=>?_) fun h2=>?_⟩⟩
 ·simp[isInner,h]
 ·simp[isInner,h,h1]
 ·simp[isInner,h,h1,h2]
 ·simp[isInner,h,h1,h2]
def runN (l:List Int):Nat:=(l.takeWhile isInner).length
theorem runN_cons (c:Int) (l:List Int):runN (c::l)=if isInner c=true then runN l+1 else 0:=by
 unfold runN;rw[List.takeWhile_cons];split<;>simp
theorem runN_all (l:List Int):(runN l=l.length)↔l.all isInner=true:=by
 induction l with
 |nil=>simp[runN]
 |cons c l ih=>
  simp only[runN,List.takeWhile_cons,List.all_cons] at ih ⊢
  cases h:isInner c<;>simp[ih]
theorem run_calls {s:ByteArray} (hs:s.size≤1000000000):PureIs Tryz.prog 124 [nS s,.clo 125 []] (nI (runN (bytesI s):Nat)):=by
 refine vc124_ok ?_
 unfold vc124 vc124_L2
 have hl:=bytesI_len s
 refine LoopP.intro (fun k:Nat=>((s,(),(k:Int),()),())) (fun k=>k≤s.size∧runN (bytesI s)=k+runN ((bytesI s).drop k)) (fun k=>s.size-k) 0 rfl ⟨Nat.zero_le _,by simp⟩ ?_
 intro k ⟨hk,hm⟩ again hag
 dsimp only
 refine ITE.intro (fun h=>?_) fun h=>?_
 ·have hlt:k<s.size:=by simpa using h
  have hlt':k<(bytesI s).length:=by omega
  rw[List.drop_eq_getElem_cons hlt'] at hm
  refine⟨⟨by omega,by omega⟩,_,inner_calls,?_⟩
  rw[strAt_eq hlt']
  refine ITE.intro (fun h=>?_) fun h=>?_
  ·rw[wrap_n (by omega)]
   refine hag (k+1) ⟨by omega,?_⟩ (by omega)
   rw[hm,runN_cons,if_pos h];omega
  ·rw[hm,runN_cons,if_neg (by rw[h];simp)];rfl
 ·have:s.size≤k:=by simpa using h
  rw[List.drop_eq_nil_of_le (by omega)] at hm
  rw[hm];simp[runN]
theorem letter_inner {c:Int} (h:isLetter c=true):isInner c=true:=by simp[isInner,h]
theorem IsWord_calls {s:ByteArray}:PureIs Tryz.prog 91 [nS s] (nB (isWord s)):=by
 have hl:=bytesI_len s
 refine vc91_ok (ITE.intro (fun h=>ITE.intro (fun h1=>?_) fun h1=>?_) fun h=>?_)
 ·have h1:s.size≤30:=by(have:(s.size:Int)≤30:=by simpa using h1);omega
  cases hb:bytesI s with
  |nil=>
   exfalso
   have:s=⟨#[]⟩:=bytesI_inj hb
   subst this;simp[strEq] at h
  |cons c l=>
   rw[hb,List.length_cons] at hl
   have hc:strAt s (0:Int)=c:=by
    have:=strAt_eq (s:=s) (k:=0) (by rw[hb];simp)
    simp only[hb,List.getElem_cons_zero] at this
    exact this
   refine⟨⟨by omega,by omega⟩,_,letter_calls,?_⟩
   rw[hc]
   have hd:decide (l.length≤29)=true:=by simp;omega
   refine ITE.intro (fun h2=>⟨_,run_calls (by omega),?_⟩) fun h2=>?_
   ·refine nB_congr ?_
    have hr:=runN_all (bytesI s)
    rw[hb,List.all_cons,letter_inner h2,Bool.true_and,List.length_cons] at hr
    simp only[isWord,hb,hd,h2,Bool.true_and,beq_iff_eq]
    rw[←hr,←hl];omega
   ·simp[isWord,hb,hd,h2]
 ·have h1:¬s.size≤30:=by(have:¬(s.size:Int)≤30:=by simpa using h1);omega
  cases hb:bytesI s with
  |nil=>simp[isWord,hb]
  |cons c l=>
   rw[hb,List.length_cons] at hl
   simp[isWord,hb];omega
 ·have:s=⟨#[]⟩:=by
   rw[strEq_iff] at h;simpa using h
  subst this
  rfl
end Go.Proofs.YtghnkppcncbddaaGreatDoor

namespace Go.Proofs.YtghnkppcncbddaaGreatDoor
open Go
set_option linter.unusedSimpArgs false
set_option linter.unusedVariables false
set_option maxRecDepth 100000
def markR:Int×Int→List Int→Int×Int
 |m,[]=>m
 |m,c::l=>markR (if c==10 then(m.1+1,1) else(m.1,m.2+1)) l
theorem markR_snoc (m:Int×Int) (l:List Int) (c:Int):markR m (l++[c])=(if c==10 then((markR m l).1+1,1) else((markR m l).1,(markR m l).2+1)):=by
 induction l generalizing m with
 |nil=>rfl
 |cons d l ih=>exact ih _
theorem markR_bd (l:List Int):1≤(markR (1,1) l).1∧(markR (1,1) l).1≤l.length+1∧1≤(markR (1,1) l).2∧(markR (1,1) l).2≤l.length+1:=by
 generalize hn:l.length=n
 induction n generalizing l with
 |zero=>rw[List.eq_nil_of_length_eq_zero hn];simp[markR]
 |succ n ih=>
  have hne:l≠[]:=by intro h;subst h;simp at hn
  have:=ih l.dropLast (by simp[hn])
  rw[←List.dropLast_concat_getLast hne,markR_snoc]
  split<;>simp<;>omega
theorem refOf_calls {s:ByteArray} {i:Nat} (hi:i≤s.size) (hs:s.size≤1000000000):
  PureIs Tryz.prog 155 [nS s,nI (i:Int)] (.agg [nI (markR (1,1) ((bytesI s).take i)).1,nI (markR (1,1) ((bytesI s).take i)).2]):=by
 refine vc155_ok ?_
 unfold vc155 vc155_L3
 have hl:=bytesI_len s
 refine LoopP.intro (fun k:Nat=>((s,(i:Int),(),(),(k:Int),()),((0,0,()),((markR (1,1) ((bytesI s).take k)).1,(markR (1,1) ((bytesI s).take k)).2,()),()))) (fun k=>k≤i) (fun k=>i-k) 0 rfl (Nat.zero_le _) ?_
 intro k hk again hag
 dsimp only
 have hb:=markR_bd ((bytesI s).take k)
 rw[List.length_take,hl,Nat.min_eq_left (by omega)] at hb
 refine ITE.intro (fun h=>?_) fun h=>?_
 ·have hlt:k<i:=by simpa using h
  have hlt':k<(bytesI s).length:=by omega
  have hn:=hag (k+1) (by omega) (by omega)
  rw[List.take_succ_eq_append_getElem hlt',markR_snoc] at hn
  refine⟨⟨by omega,by omega⟩,?_⟩
  rw[strAt_eq hlt',wrap_n (by omega)]
  refine ITE.intro (fun h=>?_) fun h=>?_
  ·rw[if_pos h] at hn
   rw[wrap_i (by omega) (by omega)]
   exact hn
  ·rw[if_neg (by rw[h];simp)] at hn
   rw[wrap_i (by omega) (by omega)]
   exact hn
 ·have:i≤k:=by simpa using h
  rw[show k=i from by omega]
theorem refHead_calls {s:ByteArray}:∃t,PureIs Tryz.prog 156 [nS s] (nS t):=by
 by_cases h:s.size>10
 ·exact⟨_,vc156_ok (ITE.pos (by simp;omega) ⟨⟨by omega,by omega,by omega⟩,rfl⟩)⟩
 ·exact⟨_,vc156_ok (ITE.neg (by simp;omega) rfl)⟩
theorem bytesI_extract (s:ByteArray) (i j:Nat):bytesI (s.extract i j)=((bytesI s).drop i).take (j-i):=by
 simp only[bytesI,ByteArray.data_extract,Array.toList_extract,List.extract_eq_take_drop,List.map_take,List.map_drop]
abbrev Tk:=Int×ByteArray×Int
def tkEnc (t:Tk):AV:=.agg [nI t.1,nS t.2.1,nI t.2.2]
def TokOk (t:Tk):Prop:=t.1=1→isWord t.2.1=true
def SplitR (s:ByteArray) (r:AV):Prop:=∃(code a b:Int) (w:ByteArray) (l:List Tk),r=.tup [.sl (l.map tkEnc),.agg [nI code,nI a,nI b,nS w]]∧(∀t∈l,TokOk t)∧(isWord s=true→code=0∧l=[(1,s,0)])
theorem isWord_cons {s:ByteArray} {c:Int} {l:List Int} (h:bytesI s=c::l):isWord s=true↔l.length≤29∧isLetter c=true∧l.all isInner=true:=by
 simp only[isWord,h,Bool.and_eq_true,decide_eq_true_eq,and_assoc]
theorem runN_le (l:List Int):runN l≤l.length:=by
 induction l with
 |nil=>simp[runN]
 |cons c l ih=>rw[runN_cons,List.length_cons];split<;>omega
theorem take_run (l:List Int):(l.take (runN l)).all isInner=true:=by
 induction l with
 |nil=>rfl
 |cons c l ih=>
  rw[runN_cons]
  split
  ·rename_i h;rw[List.take_succ_cons,List.all_cons,h,ih];rfl
  ·rfl
variable {s:ByteArray}
theorem tk_snoc (l:List Tk) (t:Tk):l.map tkEnc++[.agg [nI t.1,nS t.2.1,nI t.2.2]]=(l++[t]).map tkEnc:=by simp[tkEnc]
theorem split_letters {rem:Bool} {i:Nat} {l:List Tk} {R:AV→Prop} {p2:(ByteArray×Unit×Unit×Bool×Int×Unit)×((Int×Int×Int×ByteArray×Unit)×List AV×Unit)→Prop} (hs:s.size≤20000) (hi:i<s.size) (hll:l.length≤i)
  (hR:30<1+runN ((bytesI s).drop (i+1))→∀a b w,R (.tup [.sl [],.agg [nI 2,nI a,nI b,nS w]]))
  (hp:1+runN ((bytesI s).drop (i+1))≤30→p2 ((s,(),(),rem,((i+(1+runN ((bytesI s).drop (i+1))):Nat):Int),()),((0,0,0,⟨#[]⟩,()),(l++[(1,s.extract i (i+(1+runN ((bytesI s).drop (i+1)))),(i:Int))]).map tkEnc,()))):
  vc121_L14 ((s,(),(),rem,(i:Int),1,1,30,()),((0,0,0,⟨#[]⟩,()),l.map tkEnc,())) R p2:=by
 unfold vc121_L14
 have hl:=bytesI_len s
 have hrl:=runN_le ((bytesI s).drop (i+1))
 rw[List.length_drop] at hrl
 refine LoopP.intro (fun n:Nat=>((s,(),(),rem,(i:Int),(n:Int),1,30,()),((0,0,0,⟨#[]⟩,()),l.map tkEnc,()))) (fun n=>1≤n∧i+n≤s.size∧1+runN ((bytesI s).drop (i+1))=n+runN ((bytesI s).drop (i+n))) (fun n=>s.size-n) 1 rfl ⟨Nat.le_refl _,by omega,rfl⟩ ?_
 intro n ⟨h1,h2,h3⟩ again hag
 dsimp only
 rw[wrap_i (n:=(i:Int)+(n:Int)) (by omega) (by omega),show (i:Int)+(n:Int)=((i+n:Nat):Int) from by omega]
 have fin:runN ((bytesI s).drop (i+n))=0→ITE (decide ((n:Int)>30))
   (∃(i54 i55:Int),PureIs Tryz.prog 155 [nS s,nI (i:Int)] (.agg [nI i54,nI i55])∧
    (0≤(i:Int)∧(i:Int)≤((i+n:Nat):Int)∧((i+n:Nat):Int)≤s.size)∧
    ∃(s56:ByteArray),PureIs Tryz.prog 156 [nS (ByteArray.extract s (Int.toNat (i:Int)) (Int.toNat ((i+n:Nat):Int)))] (nS s56)∧R (.tup [.sl [],.agg [nI 2,nI i54,nI i55,nS s56]]))
   ((0≤(i:Int)∧(i:Int)≤((i+n:Nat):Int)∧((i+n:Nat):Int)≤s.size)∧List.length (l.map tkEnc)=List.length (l.map tkEnc)∧
    appOk td201 (List.length (l.map tkEnc++[.agg [nI 1,nS (ByteArray.extract s (Int.toNat (i:Int)) (Int.toNat ((i+n:Nat):Int))),nI (i:Int)]])) [] [.agg [nI 1,nS (ByteArray.extract s (Int.toNat (i:Int)) (Int.toNat ((i+n:Nat):Int))),nI (i:Int)]]∧
    List.length (l.map tkEnc++[.agg [nI 1,nS (ByteArray.extract s (Int.toNat (i:Int)) (Int.toNat ((i+n:Nat):Int))),nI (i:Int)]])=List.length (l.map tkEnc++[.agg [nI 1,nS (ByteArray.extract s (Int.toNat (i:Int)) (Int.toNat ((i+n:Nat):Int))),nI (i:Int)]])∧
    p2 ((s,(),(),rem,((i+n:Nat):Int),()),((0,0,0,⟨#[]⟩,()),l.map tkEnc++[.agg [nI 1,nS (ByteArray.extract s (Int.toNat (i:Int)) (Int.toNat ((i+n:Nat):Int))),nI (i:Int)]],()))):=by
  intro h0
  rw[h0,Nat.add_zero] at h3
  rw[h3] at hR hp
  obtain⟨t,ht⟩:=refHead_calls (s:=ByteArray.extract s (Int.toNat (i:Int)) (Int.toNat ((i+n:Nat):Int)))
  refine ITE.intro (fun h=>?_) fun h=>?_
  ·have h:30<n:=by(have:(n:Int)>30:=by simpa using h);omega
   exact⟨_,_,refOf_calls (by omega) (by omega),⟨by omega,by omega,by omega⟩,t,ht,hR h _ _ _⟩
  ·have h:n≤30:=by(have:¬(n:Int)>30:=by simpa using h);omega
   refine⟨⟨by omega,by omega,by omega⟩,rfl,appOk_one rfl (by simp;omega) (by decide),rfl,?_⟩
   have:=hp h
   rw[←tk_snoc] at this
   exact this
 refine ITE.intro (fun h=>?_) fun h=>?_
 ·have hlt:i+n<s.size:=by(have:((i+n:Nat):Int)<s.size:=by simpa using h);omega
  have hlt':i+n<(bytesI s).length:=by omega
  refine⟨⟨by omega,by omega⟩,_,Inner_calls,?_⟩
  rw[strAt_eq hlt']
  rw[List.drop_eq_getElem_cons hlt',runN_cons] at h3
  refine ITE.intro (fun h=>?_) fun h=>?_
  ·rw[if_pos h] at h3
   rw[wrap_n (by omega)]
   exact⟨rfl,hag (n+1) ⟨by omega,by omega,by rw[h3,show i+(n+1)=i+n+1 from by omega];omega⟩ (by omega)⟩
  ·exact fin (by rw[List.drop_eq_getElem_cons hlt',runN_cons,if_neg (by rw[h];simp)])
 ·have hge:s.size≤i+n:=by(have:¬((i+n:Nat):Int)<s.size:=by simpa using h);omega
  exact fin (by rw[List.drop_eq_nil_of_le (by omega)];rfl)
theorem split_digits {rem:Bool} {i:Nat} {l:List Tk} {R:AV→Prop} {p2:(ByteArray×Unit×Unit×Bool×Int×Unit)×((Int×Int×Int×ByteArray×Unit)×List AV×Unit)→Prop} (hs:s.size≤20000) (hi:i<s.size) (hll:l.length≤i)
  (hR:∀a b w,R (.tup [.sl [],.agg [nI 2,nI a,nI b,nS w]]))
  (hp:∀n:Nat,1≤n→i+n≤s.size→p2 ((s,(),(),rem,((i+n:Nat):Int),()),((0,0,0,⟨#[]⟩,()),(l++[(2,s.extract i (i+n),(i:Int))]).map tkEnc,()))):
  vc121_L18 ((s,(),(),rem,(i:Int),1,2,9,()),((0,0,0,⟨#[]⟩,()),l.map tkEnc,())) R p2:=by
 unfold vc121_L18
 have hl:=bytesI_len s
 refine LoopP.intro (fun n:Nat=>((s,(),(),rem,(i:Int),(n:Int),2,9,()),((0,0,0,⟨#[]⟩,()),l.map tkEnc,()))) (fun n=>1≤n∧i+n≤s.size) (fun n=>s.size-n) 1 rfl ⟨Nat.le_refl _,by omega⟩ ?_
 intro n ⟨h1,h2⟩ again hag
 dsimp only
 rw[wrap_i (n:=(i:Int)+(n:Int)) (by omega) (by omega),show (i:Int)+(n:Int)=((i+n:Nat):Int) from by omega]
 have fin:ITE (decide ((n:Int)>9))
   (∃(i54 i55:Int),PureIs Tryz.prog 155 [nS s,nI (i:Int)] (.agg [nI i54,nI i55])∧
    (0≤(i:Int)∧(i:Int)≤((i+n:Nat):Int)∧((i+n:Nat):Int)≤s.size)∧
    ∃(s56:ByteArray),PureIs Tryz.prog 156 [nS (ByteArray.extract s (Int.toNat (i:Int)) (Int.toNat ((i+n:Nat):Int)))] (nS s56)∧R (.tup [.sl [],.agg [nI 2,nI i54,nI i55,nS s56]]))
   ((0≤(i:Int)∧(i:Int)≤((i+n:Nat):Int)∧((i+n:Nat):Int)≤s.size)∧List.length (l.map tkEnc)=List.length (l.map tkEnc)∧
    appOk td201 (List.length (l.map tkEnc++[.agg [nI 2,nS (ByteArray.extract s (Int.toNat (i:Int)) (Int.toNat ((i+n:Nat):Int))),nI (i:Int)]])) [] [.agg [nI 2,nS (ByteArray.extract s (Int.toNat (i:Int)) (Int.toNat ((i+n:Nat):Int))),nI (i:Int)]]∧
    List.length (l.map tkEnc++[.agg [nI 2,nS (ByteArray.extract s (Int.toNat (i:Int)) (Int.toNat ((i+n:Nat):Int))),nI (i:Int)]])=List.length (l.map tkEnc++[.agg [nI 2,nS (ByteArray.extract s (Int.toNat (i:Int)) (Int.toNat ((i+n:Nat):Int))),nI (i:Int)]])∧
    p2 ((s,(),(),rem,((i+n:Nat):Int),()),((0,0,0,⟨#[]⟩,()),l.map tkEnc++[.agg [nI 2,nS (ByteArray.extract s (Int.toNat (i:Int)) (Int.toNat ((i+n:Nat):Int))),nI (i:Int)]],()))):=by
  obtain⟨t,ht⟩:=refHead_calls (s:=ByteArray.extract s (Int.toNat (i:Int)) (Int.toNat ((i+n:Nat):Int)))
  refine ITE.intro (fun h=>?_) fun h=>?_
  ·exact⟨_,_,refOf_calls (by omega) (by omega),⟨by omega,by omega,by omega⟩,t,ht,hR _ _ _⟩
  ·refine⟨⟨by omega,by omega,by omega⟩,rfl,appOk_one rfl (by simp;omega) (by decide),rfl,?_⟩
   have:=hp n h1 h2
   rw[←tk_snoc] at this
   exact this
 refine ITE.intro (fun h=>?_) fun h=>?_
 ·have hlt:i+n<s.size:=by(have:((i+n:Nat):Int)<s.size:=by simpa using h);omega
  have hlt':i+n<(bytesI s).length:=by omega
  refine⟨⟨by omega,by omega⟩,_,Digit_calls,?_⟩
  refine ITE.intro (fun h=>?_) fun h=>fin
  rw[wrap_n (by omega)]
  exact⟨rfl,hag (n+1) ⟨by omega,by omega⟩ (by omega)⟩
 ·exact fin
theorem Split_calls:Pure Tryz.prog 121 [nS s] (SplitR s):=by
 have hl:=bytesI_len s
 refine vc121_ok ?_
 unfold vc121
 by_cases hw:isWord s=true
 ·
  cases hb:bytesI s with
  |nil=>simp[isWord,hb] at hw
  |cons c l=>
   obtain⟨w1,w2,w3⟩:=(isWord_cons hb).1 hw
   rw[hb,List.length_cons] at hl
   have hrun:runN ((bytesI s).drop (0+1))=l.length:=by rw[hb];exact(runN_all l).2 w3
   refine ITE.neg (by simp;omega) ⟨rfl,?_⟩
   unfold vc121_L6
   refine LoopP.intro (fun k:Nat=>((s,(),(),false,((if k=0 then 0 else s.size:Nat):Int),()),((0,0,0,⟨#[]⟩,()),(if k=0 then([]:List Tk) else[(1,s,0)]).map tkEnc,()))) (fun k=>k≤1) (fun k=>1-k) 0 rfl (by omega) ?_
   intro k hk again hag
   rcases Nat.lt_or_ge k 1 with hk0|hk1
   ·obtain rfl:k=0:=by omega
    dsimp only[if_pos]
    rw[if_pos rfl,if_pos rfl]
    have hc:strAt s ((0:Nat):Int)=c:=by
     have:=strAt_eq (s:=s) (k:=0) (by rw[hb];simp)
     simp only[hb,List.getElem_cons_zero] at this
     exact this
    refine ITE.pos (by simp;omega) ⟨⟨by omega,by omega⟩,ITE.neg rfl ⟨_,among_calls (by decide),ITE.neg ?_ ⟨_,Letter_calls,ITE.pos (by rw[hc];exact w2) ⟨rfl,?_⟩⟩⟩⟩
    ·rw[hc]
     simp only[isLetter,Bool.or_eq_true,decide_eq_true_eq] at w2
     have:¬memB c ⟨#[32,9,10,13,35]⟩=true:=by simp[memB,bytesI];omega
     simpa using this
    ·refine split_letters (i:=0) (l:=[]) (by omega) (by omega) (by simp) (fun h=>by omega) fun h=>?_
     have:=hag 1 (by omega) (by omega)
     rw[hrun]
     have e:s.extract 0 (0+(1+l.length))=s:=by
      apply bytesI_inj
      rw[bytesI_extract,hb,List.drop_zero,List.take_of_length_le (by rw[List.length_cons];omega)]
     rw[e,show 0+(1+l.length)=s.size from by omega]
     simpa using this
   ·obtain rfl:k=1:=by omega
    dsimp only
    rw[if_neg (by decide),if_neg (by decide)]
    refine ITE.neg (by simp) ⟨rfl,0,0,0,⟨#[]⟩,[(1,s,0)],rfl,fun t ht=>?_,fun _=>⟨rfl,rfl⟩⟩
    rw[List.mem_singleton.1 ht]
    exact fun _=>hw
 ·
  have hno:∀{code a b:Int} {w:ByteArray} {l:List Tk},(∀t∈l,TokOk t)→SplitR s (.tup [.sl (l.map tkEnc),.agg [nI code,nI a,nI b,nS w]]):=fun h=>⟨_,_,_,_,_,rfl,h,fun h=>(hw h).elim⟩
  have hno0:∀(code a b:Int) (w:ByteArray),SplitR s (.tup [.sl [],.agg [nI code,nI a,nI b,nS w]]):=fun code a b w=>hno (l:=[]) fun t ht=>by cases ht
  refine ITE.intro (fun h=>hno0 _ _ _ _) fun h=>⟨rfl,?_⟩
  have hs:s.size≤20000:=by(have:¬(s.size:Int)>20000:=by simpa using h);omega
  unfold vc121_L6
  refine LoopP.intro (fun p:Bool×Nat×List Tk=>((s,(),(),p.1,(p.2.1:Int),()),((0,0,0,⟨#[]⟩,()),p.2.2.map tkEnc,()))) (fun p=>p.2.1≤s.size∧p.2.2.length≤p.2.1∧∀t∈p.2.2,TokOk t) (fun p=>s.size-p.2.1) (false,0,[]) rfl ⟨Nat.zero_le _,Nat.le_refl _,fun t ht=>by cases ht⟩ ?_
  intro ⟨rem,i,l⟩ ⟨hi,hll,hok⟩ again hag
  dsimp only at hi hll hok ⊢
  refine ITE.intro (fun h=>?_) fun h=>⟨rfl,hno hok⟩
  have hlt:i<s.size:=by simpa using h
  have hlt':i<(bytesI s).length:=by omega
  have step:∀(rem':Bool) (j:Nat) (m:List Tk),i<j→j≤s.size→m.length≤j→(∀t∈m,TokOk t)→again ((s,(),(),rem',(j:Int),()),((0,0,0,⟨#[]⟩,()),m.map tkEnc,())):=fun rem' j m h1 h2 h3 h4=>hag (rem',j,m) ⟨h2,h3,h4⟩ (by dsimp only;omega)
  have one:∀rem',again ((s,(),(),rem',IntKind.wrap .i64 ((i:Int)+1),()),((0,0,0,⟨#[]⟩,()),l.map tkEnc,())):=fun rem'=>by
   rw[wrap_n (by omega)]
   exact step rem' (i+1) l (by omega) (by omega) (by omega) hok
  have oks:∀t:Tk,TokOk t→∀u∈l++[t],TokOk u:=fun t ht u hu=>by
   rcases List.mem_append.1 hu with h|h
   ·exact hok u h
   ·rw[List.mem_singleton.1 h];exact ht
  have sign:∀n:Nat,1≤n→i+n≤s.size→n≤2→(0≤(i:Int)∧(i:Int)≤IntKind.wrap .i64 ((i:Int)+(n:Int))∧IntKind.wrap .i64 ((i:Int)+(n:Int))≤s.size)∧
    List.length (l.map tkEnc)=List.length (l.map tkEnc)∧
    appOk td201 (List.length (l.map tkEnc++[.agg [nI 3,nS (ByteArray.extract s (Int.toNat (i:Int)) (Int.toNat (IntKind.wrap .i64 ((i:Int)+(n:Int))))),nI (i:Int)]])) [] [.agg [nI 3,nS (ByteArray.extract s (Int.toNat (i:Int)) (Int.toNat (IntKind.wrap .i64 ((i:Int)+(n:Int))))),nI (i:Int)]]∧
    List.length (l.map tkEnc++[.agg [nI 3,nS (ByteArray.extract s (Int.toNat (i:Int)) (Int.toNat (IntKind.wrap .i64 ((i:Int)+(n:Int))))),nI (i:Int)]])=List.length (l.map tkEnc++[.agg [nI 3,nS (ByteArray.extract s (Int.toNat (i:Int)) (Int.toNat (IntKind.wrap .i64 ((i:Int)+(n:Int))))),nI (i:Int)]])∧
    again ((s,(),(),rem,IntKind.wrap .i64 ((i:Int)+(n:Int)),()),((0,0,0,⟨#[]⟩,()),l.map tkEnc++[.agg [nI 3,nS (ByteArray.extract s (Int.toNat (i:Int)) (Int.toNat (IntKind.wrap .i64 ((i:Int)+(n:Int))))),nI (i:Int)]],())):=fun n h1 h2 h3=>by
   rw[wrap_i (by omega) (by omega),show (i:Int)+(n:Int)=((i+n:Nat):Int) from by omega]
   refine⟨⟨by omega,by omega,by omega⟩,rfl,appOk_one rfl (by simp;omega) (by decide),rfl,?_⟩
   rw[show (.agg [nI 3,nS (ByteArray.extract s (Int.toNat (i:Int)) (Int.toNat ((i+n:Nat):Int))),nI (i:Int)]:AV)=.agg [nI ((3,ByteArray.extract s i (i+n),(i:Int)):Tk).1,nS ((3,ByteArray.extract s i (i+n),(i:Int)):Tk).2.1,nI ((3,ByteArray.extract s i (i+n),(i:Int)):Tk).2.2] from rfl,tk_snoc]
   exact step rem (i+n) _ (by omega) h2 (by simp;omega) (oks _ fun h=>by cases h)
  have other:∃b56:Bool,PureIs Tryz.prog 151 [.prim (.int .u8 (strAt s (i:Int))),nS (⟨#[40,41,92,46,44,59,58,61,62,60,91,93,123,125,33,63,64]⟩:ByteArray)] (nB b56)∧
    ITE (!b56)
     (ITE (decide (strAt s (i:Int)>32))
      (ITE (decide (strAt s (i:Int)<127))
       ((0≤(i:Int)∧(i:Int)≤IntKind.wrap .i64 ((i:Int)+1)∧IntKind.wrap .i64 ((i:Int)+1)≤s.size)∧
        ∃(a b:Int),PureIs Tryz.prog 155 [nS s,nI (i:Int)] (.agg [nI a,nI b])∧SplitR s (.tup [.sl [],.agg [nI 3,nI a,nI b,nS (ByteArray.extract s (Int.toNat (i:Int)) (Int.toNat (IntKind.wrap .i64 ((i:Int)+1))))]]))
       (∃(a b:Int),PureIs Tryz.prog 155 [nS s,nI (i:Int)] (.agg [nI a,nI b])∧SplitR s (.tup [.sl [],.agg [nI 3,nI a,nI b,nS (⟨#[]⟩:ByteArray)]])))
      (∃(a b:Int),PureIs Tryz.prog 155 [nS s,nI (i:Int)] (.agg [nI a,nI b])∧SplitR s (.tup [.sl [],.agg [nI 3,nI a,nI b,nS (⟨#[]⟩:ByteArray)]])))
     ((0≤(i:Int)∧(i:Int)≤IntKind.wrap .i64 ((i:Int)+1)∧IntKind.wrap .i64 ((i:Int)+1)≤s.size)∧
    List.length (l.map tkEnc)=List.length (l.map tkEnc)∧
    appOk td201 (List.length (l.map tkEnc++[.agg [nI 3,nS (ByteArray.extract s (Int.toNat (i:Int)) (Int.toNat (IntKind.wrap .i64 ((i:Int)+1)))),nI (i:Int)]])) [] [.agg [nI 3,nS (ByteArray.extract s (Int.toNat (i:Int)) (Int.toNat (IntKind.wrap .i64 ((i:Int)+1)))),nI (i:Int)]]∧
    List.length (l.map tkEnc++[.agg [nI 3,nS (ByteArray.extract s (Int.toNat (i:Int)) (Int.toNat (IntKind.wrap .i64 ((i:Int)+1)))),nI (i:Int)]])=List.length (l.map tkEnc++[.agg [nI 3,nS (ByteArray.extract s (Int.toNat (i:Int)) (Int.toNat (IntKind.wrap .i64 ((i:Int)+1)))),nI (i:Int)]])∧
    again ((s,(),(),rem,IntKind.wrap .i64 ((i:Int)+1),()),((0,0,0,⟨#[]⟩,()),l.map tkEnc++[.agg [nI 3,nS (ByteArray.extract s (Int.toNat (i:Int)) (Int.toNat (IntKind.wrap .i64 ((i:Int)+1)))),nI (i:Int)]],()))):=by
   refine⟨_,among_calls (by decide),ITE.intro (fun _=>ITE.intro (fun _=>ITE.intro (fun _=>⟨?_,?_⟩) fun _=>?_) fun _=>?_) fun _=>sign 1 (by omega) (by omega) (by omega)⟩
   ·exact(sign 1 (by omega) (by omega) (by omega)).1
   ·exact⟨_,_,refOf_calls (by omega) (by omega),hno0 _ _ _ _⟩
   ·exact⟨_,_,refOf_calls (by omega) (by omega),hno0 _ _ _ _⟩
   ·exact⟨_,_,refOf_calls (by omega) (by omega),hno0 _ _ _ _⟩
  have blank:ITE (strAt s (i:Int) != 10)
    (ITE rem (List.length (l.map tkEnc)=List.length (l.map tkEnc)∧again ((s,(),(),true,IntKind.wrap .i64 ((i:Int)+1),()),((0,0,0,⟨#[]⟩,()),l.map tkEnc,())))
     (List.length (l.map tkEnc)=List.length (l.map tkEnc)∧again ((s,(),(),strAt s (i:Int)==35,IntKind.wrap .i64 ((i:Int)+1),()),((0,0,0,⟨#[]⟩,()),l.map tkEnc,()))))
    (List.length (l.map tkEnc)=List.length (l.map tkEnc)∧again ((s,(),(),false,IntKind.wrap .i64 ((i:Int)+1),()),((0,0,0,⟨#[]⟩,()),l.map tkEnc,()))):=
   ITE.intro (fun _=>ITE.intro (fun _=>⟨rfl,one _⟩) fun _=>⟨rfl,one _⟩) fun _=>⟨rfl,one _⟩
  refine⟨⟨by omega,by omega⟩,ITE.intro (fun _=>blank) fun _=>⟨_,among_calls (by decide),ITE.intro (fun _=>blank) fun _=>⟨_,Letter_calls,ITE.intro (fun hc=>⟨rfl,?_⟩) fun _=>⟨_,Digit_calls,ITE.intro (fun _=>⟨rfl,?_⟩) fun _=>ITE.intro (fun _=>?_) fun _=>other⟩⟩⟩⟩
  ·refine split_letters hs hlt hll (fun _ _ _ _=>hno0 _ _ _ _) fun h=>?_
   have hrl:=runN_le ((bytesI s).drop (i+1))
   rw[List.length_drop] at hrl
   refine step rem _ _ (by omega) (by omega) (by simp;omega) (oks _ fun _=>?_)
   rw[strAt_eq hlt'] at hc
   have hb:bytesI (s.extract i (i+(1+runN ((bytesI s).drop (i+1)))))=(bytesI s)[i]::((bytesI s).drop (i+1)).take (runN ((bytesI s).drop (i+1))):=by
    rw[bytesI_extract,show i+(1+runN ((bytesI s).drop (i+1)))-i=runN ((bytesI s).drop (i+1))+1 from by omega,List.drop_eq_getElem_cons hlt',List.take_succ_cons]
   refine(isWord_cons hb).2 ⟨?_,hc,take_run _⟩
   rw[List.length_take];omega
  ·exact split_digits hs hlt hll (fun _ _ _=>hno0 _ _ _ _) fun n h1 h2=>step rem _ _ (by omega) h2 (by simp;omega) (oks _ fun h=>by cases h)
  ·rw[wrap_n (by omega)]
   refine ITE.intro (fun h=>⟨⟨by omega,?_⟩,ITE.intro (fun _=>?_) fun _=>?_⟩) fun _=>?_
   ·have:((i+1:Nat):Int)<s.size:=by simpa using h
    omega
   ·have:((i+1:Nat):Int)<s.size:=by simpa using h
    exact sign 2 (by omega) (by omega) (by omega)
   ·have:=other
    rw[wrap_n (by omega)] at this
    exact this
   ·have:=other
    rw[wrap_n (by omega)] at this
    exact this
theorem refIs_calls:PureIs Tryz.prog 86 [nS s,nI 1] (nB (isWord s)):=by
 refine vc86_ok ⟨_,Split_calls,fun r ⟨code,a,b,w,l,hr,hok,hw⟩=>⟨_,_,_,_,_,hr,?_⟩⟩
 have no:(code=0→l.length=1→(∀t,l=[t]→t.1=1→t.2.1=s→False))→nB false=nB (isWord s):=fun h=>by
  cases hi:isWord s with
  |false=>rfl
  |true=>obtain⟨h1,h2⟩:=hw hi;exact(h h1 (by rw[h2];rfl) _ h2 rfl rfl).elim
 refine ITE.intro (fun h1=>ITE.intro (fun h2=>?_) fun h2=>?_) fun h1=>?_
 ·have h2:l.length=1:=by(have:(l.length:Int)=1:=by simpa using h2);omega
  match l,h2,hok,no with
  | [t],_,hok,no=>
   refine⟨by omega,by simp,t.1,t.2.1,t.2.2,rfl,ITE.intro (fun h3=>⟨by omega,by simp,t.1,t.2.1,t.2.2,rfl,?_⟩) fun h3=>?_⟩
   ·rw[strEq_iff]
    by_cases ht:t.2.1=s
    ·rw[decide_eq_true ht]
     have:=hok t (List.mem_singleton.2 rfl) (by simpa using h3)
     rw[ht] at this
     rw[this]
    ·rw[decide_eq_false ht]
     exact no fun _ _ u hu _ hs=>by simp only[List.cons.injEq,and_true] at hu;subst hu;exact ht hs
   ·exact no fun _ _ u hu h1 _=>by simp only[List.cons.injEq,and_true] at hu;subst hu;rw[h1] at h3;simp at h3
 ·exact no fun _ h=>by rw[List.length_map,h] at h2;simp at h2
 ·exact no fun h=>by rw[h] at h1;simp at h1
theorem refword_calls:PureIs Tryz.prog 49 [nS s] (nB (isWord s)):=
 vc49_ok ⟨_,refIs_calls,rfl⟩
end Go.Proofs.YtghnkppcncbddaaGreatDoor

namespace Go.Proofs.YtghnkppcncbddaaGreatDoor
open Go
set_option linter.unusedSimpArgs false
set_option linter.unusedVariables false
def rightT:Nd→Bool
 | .mk k w _ []=>k==1&&isWord w
 | .mk k w _ [x,y]=>k==2&&(decide (w.size=0)&&(rightT x&&rightT y))
 | .mk _ _ _ _=>false
def rightM:Nd→Bool
 | .mk k w _ []=>k==1&&isWord w
 | .mk k w _ [x,y]=>(k==3&&(isWord w&&(rightT x&&rightM y)))||(k==4&&(decide (w.size=0)&&(rightM x&&rightM y)))
 | .mk _ _ _ _=>false
theorem rightT_name {w:ByteArray} {k a:Int}:rightT (.mk k w a [])=(k==1&&isWord w):=by rw[rightT]
theorem rightT_two {w:ByteArray} {k a:Int} {x y:Nd}:rightT (.mk k w a [x,y])=(k==2&&(decide (w.size=0)&&(rightT x&&rightT y))):=by rw[rightT]
theorem rightM_name {w:ByteArray} {k a:Int}:rightM (.mk k w a [])=(k==1&&isWord w):=by rw[rightM]
theorem rightM_two {w:ByteArray} {k a:Int} {x y:Nd}:rightM (.mk k w a [x,y])=((k==3&&(isWord w&&(rightT x&&rightM y)))||(k==4&&(decide (w.size=0)&&(rightM x&&rightM y)))):=by rw[rightM]
theorem kids_cases (l:List Nd):l=[]∨(∃x y,l=[x,y])∨(l≠[]∧l.length≠2):=by
 match l with
 | []=>exact .inl rfl
 | [_]=>exact .inr (.inr ⟨by simp,by simp⟩)
 | [x,y]=>exact .inr (.inl ⟨x,y,rfl⟩)
 |_::_::_::_=>exact .inr (.inr ⟨by simp,by simp⟩)
theorem rightT_no {w:ByteArray} {k a:Int} {l:List Nd} (h1:l≠[]) (h2:l.length≠2):rightT (.mk k w a l)=false:=by
 match l,h1,h2 with
 | [_],_,_=>rw[rightT]<;>simp
 |_::_::_::_,_,_=>rw[rightT]<;>simp
theorem rightM_no {w:ByteArray} {k a:Int} {l:List Nd} (h1:l≠[]) (h2:l.length≠2):rightM (.mk k w a l)=false:=by
 match l,h1,h2 with
 | [_],_,_=>rw[rightM]<;>simp
 |_::_::_::_,_,_=>rw[rightM]<;>simp
theorem size_two {k a:Int} {w:ByteArray} {x y:Nd}:(Nd.mk k w a [x,y]).size=1+(x.size+y.size):=by simp[Nd.size,Nd.sizes]
theorem nd0 {x y:Nd}:List.getD ([x,y].map Nd.enc) (Int.toNat 0) .top=.agg [nI x.kind,nS x.word,nI x.at_,.sl (x.kids.map Nd.enc)]:=by simp[List.getD,Nd.enc_eq]
theorem nd1 {x y:Nd}:List.getD ([x,y].map Nd.enc) (Int.toNat 1) .top=.agg [nI y.kind,nS y.word,nI y.at_,.sl (y.kids.map Nd.enc)]:=by simp[List.getD,Nd.enc_eq]
theorem lt0 {x y:Nd}:(0:Int)<([x,y].map Nd.enc).length:=by simp
theorem lt1 {x y:Nd}:(1:Int)<([x,y].map Nd.enc).length:=by simp
theorem isoB {b c:Bool} (h:b=c):nB b=nB c:=congrArg nB h
theorem refRightT_calls:∀(n:Nat) (t:Nd),t.size≤n→PureIs Tryz.prog 50 [t.enc] (nB (rightT t)):=by
 intro n
 induction n with
 |zero=>intro t h;have:=t.size_pos;omega
 |succ n ih=>
  intro ⟨k,w,a,l⟩ hn
  rw[Nd.enc_eq]
  simp only[Nd.kind,Nd.word,Nd.at_,Nd.kids]
  refine vc50_ok (ITE.intro (fun h=>?_) fun h=>?_)
  ·have hk:(k==1)=true:=h
   have hk2:(k==2)=false:=by(have:k=1:=by simpa using hk);rw[this];rfl
   refine⟨_,refword_calls,ITE.intro (fun hw=>isoB ?_) fun hw=>isoB ?_⟩
   ·rcases kids_cases l with rfl|⟨x,y,rfl⟩|⟨h1,h2⟩
    ·simp[rightT_name,hk,hw]
    ·simp[rightT_two,hk2]
    ·rw[rightT_no h1 h2];cases l<;>simp_all<;>omega
   ·rcases kids_cases l with rfl|⟨x,y,rfl⟩|⟨h1,h2⟩
    ·simp[rightT_name,hk,hw]
    ·simp[rightT_two,hk2]
    ·rw[rightT_no h1 h2]
  ·have hk:(k==1)=false:=h
   rcases kids_cases l with rfl|⟨x,y,rfl⟩|⟨h1,h2⟩
   ·refine ITE.intro (fun _=>ITE.intro (fun _=>ITE.neg rfl (isoB ?_)) fun _=>isoB ?_) fun _=>isoB ?_<;>simp[rightT_name,hk]
   ·have e:=size_two (k:=k) (a:=a) (w:=w) (x:=x) (y:=y)
    have p1:=x.size_pos
    have p2:=y.size_pos
    have hx:=ih x (by omega)
    have hy:=ih y (by omega)
    rw[Nd.enc_eq] at hx hy
    refine ITE.intro (fun h2=>ITE.intro (fun h3=>ITE.pos rfl ⟨by decide,lt0,_,_,_,_,nd0,_,hx,ITE.intro (fun h4=>⟨by decide,lt1,_,_,_,_,nd1,_,hy,isoB ?_⟩) fun h4=>isoB ?_⟩) fun h3=>isoB ?_) fun h2=>isoB ?_
    ·have:w.size=0:=by simpa using h3
     simp[rightT_two,h2,this,h4]
    ·simp[rightT_two,h4]
    ·have:¬w.size=0:=by simpa using h3
     simp[rightT_two,this]
    ·simp[rightT_two,h2]
   ·have:((((l.map Nd.enc).length:Nat):Int)==2)=false:=by rw[List.length_map];simp;omega
    refine ITE.intro (fun _=>ITE.intro (fun _=>ITE.neg this (isoB ?_)) fun _=>isoB ?_) fun _=>isoB ?_<;>rw[rightT_no h1 h2]
def nameB (t:Nd):Bool:=t.kind==1&&(isWord t.word&&t.kids.isEmpty)
theorem name_calls {t:Nd}:PureIs Tryz.prog 114 [t.enc] (nB (nameB t)):=by
 rw[Nd.enc_eq]
 refine vc114_ok (ITE.intro (fun h=>⟨_,IsWord_calls,ITE.intro (fun h2=>isoB ?_) fun h2=>isoB ?_⟩) fun h=>isoB ?_)
 ·simp only[nameB,h,h2,Bool.true_and,List.length_map]
  cases t.kids<;>simp;omega
 ·simp[nameB,h2]
 ·simp[nameB,h]
theorem word_empty {w:ByteArray}:strEq w (⟨#[]⟩:ByteArray)=decide (w.size=0):=by
 rw[strEq_iff]
 by_cases h:w.size=0
 ·rw[decide_eq_true h,decide_eq_true (bytesI_inj (List.eq_nil_of_length_eq_zero (by rw[bytesI_len];exact h)))]
 ·rw[decide_eq_false h,decide_eq_false (fun e=>h (by rw[e];rfl))]
theorem RightT_calls:∀(n:Nat) (t:Nd),t.size≤n→PureIs Tryz.prog 70 [t.enc] (nB (rightT t)):=by
 intro n
 induction n with
 |zero=>intro t h;have:=t.size_pos;omega
 |succ n ih=>
  intro ⟨k,w,a,l⟩ hn
  have hname:=name_calls (t:=.mk k w a l)
  rw[Nd.enc_eq] at hname ⊢
  simp only[Nd.kind,Nd.word,Nd.at_,Nd.kids,nameB] at hname ⊢
  refine vc70_ok ⟨_,hname,?_⟩
  rcases kids_cases l with rfl|⟨x,y,rfl⟩|⟨h1,h2⟩
  ·refine ITE.intro (fun h=>isoB ?_) fun h=>?_
   ·rw[rightT_name,←h];simp
   ·have e:rightT (.mk k w a [])=false:=by rw[rightT_name,←h];simp
    refine ITE.intro (fun _=>ITE.intro (fun _=>ITE.neg rfl (isoB ?_)) fun _=>isoB ?_) fun _=>isoB ?_<;>rw[e]
  ·refine ITE.neg (by simp) ?_
   have e:=size_two (k:=k) (a:=a) (w:=w) (x:=x) (y:=y)
   have p1:=x.size_pos
   have p2:=y.size_pos
   have hx:=ih x (by omega)
   have hy:=ih y (by omega)
   rw[Nd.enc_eq] at hx hy
   rw[word_empty]
   refine ITE.intro (fun h2=>ITE.intro (fun h3=>ITE.pos rfl ⟨by decide,lt0,_,_,_,_,nd0,_,hx,ITE.intro (fun h4=>⟨by decide,lt1,_,_,_,_,nd1,_,hy,isoB ?_⟩) fun h4=>isoB ?_⟩) fun h3=>isoB ?_) fun h2=>isoB ?_
   ·rw[rightT_two,h2,h3,h4];rfl
   ·rw[rightT_two,h4];simp
   ·rw[rightT_two,h3];simp
   ·rw[rightT_two,h2];rfl
  ·have:((((l.map Nd.enc).length:Nat):Int)==2)=false:=by rw[List.length_map];simp;omega
   have hne:l.isEmpty=false:=by cases l<;>simp_all
   refine ITE.neg (by rw[hne];simp) (ITE.intro (fun _=>ITE.intro (fun _=>ITE.neg this (isoB ?_)) fun _=>isoB ?_) fun _=>isoB ?_)<;>rw[rightT_no h1 h2]
theorem RightM_calls:∀(n:Nat) (t:Nd),t.size≤n→PureIs Tryz.prog 72 [t.enc] (nB (rightM t)):=by
 intro n
 induction n with
 |zero=>intro t h;have:=t.size_pos;omega
 |succ n ih=>
  intro ⟨k,w,a,l⟩ hn
  have hname:=name_calls (t:=.mk k w a l)
  rw[Nd.enc_eq] at hname ⊢
  simp only[Nd.kind,Nd.word,Nd.at_,Nd.kids,nameB] at hname ⊢
  refine vc72_ok ⟨_,hname,?_⟩
  rcases kids_cases l with rfl|⟨x,y,rfl⟩|⟨h1,h2⟩
  ·refine ITE.intro (fun h=>isoB ?_) fun h=>ITE.pos rfl (isoB ?_)
   ·rw[rightM_name,←h];simp
   ·rw[rightM_name,←h];simp
  ·refine ITE.neg (by simp) (ITE.neg rfl ?_)
   have e:=size_two (k:=k) (a:=a) (w:=w) (x:=x) (y:=y)
   have p1:=x.size_pos
   have p2:=y.size_pos
   have hx:=ih x (by omega)
   have hy:=ih y (by omega)
   have hxT:=RightT_calls _ x (Nat.le_refl _)
   rw[Nd.enc_eq] at hx hy hxT
   rw[word_empty]
   refine⟨by decide,lt1,_,_,_,_,nd1,_,hy,ITE.intro (fun h1=>isoB ?_) fun h1=>?_⟩
   ·have:rightM y=false:=by simpa using h1
    simp[rightM_two,this]
   ·have hy1:rightM y=true:=by simpa using h1
    refine ITE.intro (fun h2=>⟨_,IsWord_calls,ITE.intro (fun h3=>⟨by decide,lt0,_,_,_,_,nd0,_,hxT,isoB ?_⟩) fun h3=>isoB ?_⟩) fun h2=>
     ITE.intro (fun h3=>ITE.intro (fun h4=>⟨by decide,lt0,_,_,_,_,nd0,_,hx,isoB ?_⟩) fun h4=>isoB ?_) fun h3=>isoB ?_
    ·have:k=3:=by simpa using h2
     simp[rightM_two,this,h3,hy1]
    ·have:k=3:=by simpa using h2
     simp[rightM_two,this,h3]
    ·rw[rightM_two,h2,h3,h4,hy1];simp
    ·rw[rightM_two,h2,h4];simp
    ·rw[rightM_two,h2,h3];rfl
  ·have:((((l.map Nd.enc).length:Nat):Int) != 2)=true:=by rw[List.length_map];simp;omega
   have hne:l.isEmpty=false:=by cases l<;>simp_all
   exact ITE.neg (by rw[hne];simp) (ITE.pos this (isoB (by rw[rightM_no h1 h2])))
def inT (b:Bool) (s:ByteArray):ByteArray:=match b with
 |true=>((⟨#[40]⟩:ByteArray)++s)++(⟨#[41]⟩:ByteArray)
 |false=>s
def txtT:Nd→ByteArray
 | .mk _ w _ []=>w
 | .mk _ _ _ [x,y]=>(inT (x.kind==2) (txtT x)++(⟨#[32,45,62,32]⟩:ByteArray))++txtT y
 | .mk _ _ _ _=>⟨#[]⟩
def txtM:Nd→ByteArray
 | .mk _ w _ []=>w
 | .mk k w _ [x,y]=>if(k==3)=true then(((((⟨#[92]⟩:ByteArray)++w)++(⟨#[58]⟩:ByteArray))++txtT x)++(⟨#[46,32]⟩:ByteArray))++txtM y
  else(inT (x.kind==3) (txtM x)++(⟨#[32]⟩:ByteArray))++inT (y.kind != 1) (txtM y)
 | .mk _ _ _ _=>⟨#[]⟩
theorem txtT_name {w:ByteArray} {k a:Int}:txtT (.mk k w a [])=w:=by rw[txtT]
theorem txtT_two {w:ByteArray} {k a:Int} {x y:Nd}:txtT (.mk k w a [x,y])=(inT (x.kind==2) (txtT x)++(⟨#[32,45,62,32]⟩:ByteArray))++txtT y:=by rw[txtT]
theorem txtM_name {w:ByteArray} {k a:Int}:txtM (.mk k w a [])=w:=by rw[txtM]
theorem txtM_two {w:ByteArray} {k a:Int} {x y:Nd}:txtM (.mk k w a [x,y])=if(k==3)=true then(((((⟨#[92]⟩:ByteArray)++w)++(⟨#[58]⟩:ByteArray))++txtT x)++(⟨#[46,32]⟩:ByteArray))++txtM y
  else(inT (x.kind==3) (txtM x)++(⟨#[32]⟩:ByteArray))++inT (y.kind != 1) (txtM y):=by rw[txtM]
theorem isWord_size {w:ByteArray} (h:isWord w=true):w.size≤30:=by
 rw[←bytesI_len]
 cases hb:bytesI w with
 |nil=>simp
 |cons c l=>have:=((isWord_cons hb).1 h).1;simp;omega
theorem bsz (a b:ByteArray):(a++b).size=a.size+b.size:=ByteArray.size_append
theorem inT_size (b:Bool) (s:ByteArray):(inT b s).size≤s.size+2:=by
 cases b
 ·exact Nat.le_add_right _ _
 ·simp only[inT,bsz]
  show 1+s.size+1≤_
  omega
theorem sz4:(⟨#[32,45,62,32]⟩:ByteArray).size=4:=rfl
theorem sz2:(⟨#[46,32]⟩:ByteArray).size=2:=rfl
theorem sz1 {c:UInt8}:(⟨#[c]⟩:ByteArray).size=1:=rfl
theorem rightT_inv {t:Nd} (h:rightT t=true):(∃w a,t=.mk 1 w a []∧isWord w=true)∨∃w a x y,t=.mk 2 w a [x,y]∧w.size=0∧rightT x=true∧rightT y=true:=by
 obtain⟨k,w,a,l⟩:=t
 rcases kids_cases l with rfl|⟨x,y,rfl⟩|⟨h1,h2⟩
 ·rw[rightT_name,Bool.and_eq_true] at h
  have:k=1:=by simpa using h.1
  subst this;exact .inl ⟨w,a,rfl,h.2⟩
 ·simp only[rightT_two,Bool.and_eq_true,decide_eq_true_eq] at h
  have:k=2:=by simpa using h.1
  subst this;exact .inr ⟨w,a,x,y,rfl,h.2.1,h.2.2.1,h.2.2.2⟩
 ·rw[rightT_no h1 h2] at h;cases h
theorem rightM_inv {t:Nd} (h:rightM t=true):(∃w a,t=.mk 1 w a []∧isWord w=true)∨(∃w a x y,t=.mk 3 w a [x,y]∧isWord w=true∧rightT x=true∧rightM y=true)∨∃w a x y,t=.mk 4 w a [x,y]∧w.size=0∧rightM x=true∧rightM y=true:=by
 obtain⟨k,w,a,l⟩:=t
 rcases kids_cases l with rfl|⟨x,y,rfl⟩|⟨h1,h2⟩
 ·rw[rightM_name,Bool.and_eq_true] at h
  have:k=1:=by simpa using h.1
  subst this;exact .inl ⟨w,a,rfl,h.2⟩
 ·simp only[rightM_two,Bool.or_eq_true,Bool.and_eq_true,decide_eq_true_eq] at h
  rcases h with h|h
  ·have:k=3:=by simpa using h.1
   subst this;exact .inr (.inl ⟨w,a,x,y,rfl,h.2.1,h.2.2.1,h.2.2.2⟩)
  ·have:k=4:=by simpa using h.1
   subst this;exact .inr (.inr ⟨w,a,x,y,rfl,h.2.1,h.2.2.1,h.2.2.2⟩)
 ·rw[rightM_no h1 h2] at h;cases h
theorem txtT_size:∀(n:Nat) (t:Nd),t.size≤n→rightT t=true→(txtT t).size≤50*t.size:=by
 intro n
 induction n with
 |zero=>intro t h;have:=t.size_pos;omega
 |succ n ih=>
  intro t hn ht
  have hp:=t.size_pos
  rcases rightT_inv ht with⟨w,a,rfl,h1⟩|⟨w,a,x,y,rfl,h1,h2,h3⟩
  ·rw[txtT_name];have:=isWord_size h1;omega
  ·have e:=size_two (k:=2) (a:=a) (w:=w) (x:=x) (y:=y)
   have p1:=x.size_pos
   have p2:=y.size_pos
   have hx:=ih x (by omega) h2
   have hy:=ih y (by omega) h3
   have:=inT_size (x.kind==2) (txtT x)
   rw[txtT_two,bsz,bsz,sz4];omega
theorem txtM_size:∀(n:Nat) (t:Nd),t.size≤n→rightM t=true→(txtM t).size≤50*t.size:=by
 intro n
 induction n with
 |zero=>intro t h;have:=t.size_pos;omega
 |succ n ih=>
  intro t hn ht
  have hp:=t.size_pos
  rcases rightM_inv ht with⟨w,a,rfl,h1⟩|⟨w,a,x,y,rfl,h1,h2,h3⟩|⟨w,a,x,y,rfl,h1,h2,h3⟩
  ·rw[txtM_name];have:=isWord_size h1;omega
  ·have e:=size_two (k:=3) (a:=a) (w:=w) (x:=x) (y:=y)
   have p1:=x.size_pos
   have p2:=y.size_pos
   have hx:=txtT_size _ x (Nat.le_refl _) h2
   have hy:=ih y (by omega) h3
   have:=isWord_size h1
   rw[txtM_two,if_pos (by decide),bsz,bsz,bsz,bsz,bsz,sz2,sz1,sz1];omega
  ·have e:=size_two (k:=4) (a:=a) (w:=w) (x:=x) (y:=y)
   have p1:=x.size_pos
   have p2:=y.size_pos
   have hx:=ih x (by omega) h2
   have hy:=ih y (by omega) h3
   have q1:=inT_size (x.kind==3) (txtM x)
   have q2:=inT_size (y.kind != 1) (txtM y)
   rw[txtM_two,if_neg (by decide),bsz,bsz,sz1];omega
end Go.Proofs.YtghnkppcncbddaaGreatDoor

namespace Go.Proofs.YtghnkppcncbddaaGreatDoor
open Go Go.Shelf
set_option linter.unusedSimpArgs false
set_option linter.unusedVariables false
section
variable {P:Program} {w w':World} {F:Nat→Nat→Prop} {η:List Value} {hp:List AObj}
def AObj.noRow:AObj→Prop
 | .box _=>True
 | .bld _ _=>True
 | .mapo _=>True
 |_=>False
theorem hpost_set {r0:AV} {q:Nat} {o o':AObj} {b:Nat} {v0:Value} {v:Value} (hpre:HPre w F η hp) (hq:hp[q]?=some o) (hn:o.noRow) (hn':o'.noRow) (hb:η[q]?=some v0) (hbk:blk v0=some b)
  (hk:Keeps (fun k=>k=b) w w') (hs:w'.heap.size=w.heap.size)
  (ho':Ext w F η hp w' (OntoH F w η hp w' η (hp.set q o')) η (hp.set q o')→ObjOk w' (OntoH F w η hp w' η (hp.set q o')) η (hp.set q o') o' v0) (hrv:Rep w F η hp r0 v):
  HPost w F η hp w' η (hp.set q o') r0 v:=by
 have hl:o.live:=by cases o<;>first|exact True.intro|exact hn.elim
 have hl':o'.live:=by cases o'<;>first|exact True.intro|exact hn'.elim
 have hql:q<hp.length:=(List.getElem?_eq_some_iff.1 hq).1
 have hself:(hp.set q o')[q]?=some o':=by simp[List.getElem?_set,hql]
 have live2:∀k,LiveBlk η (hp.set q o') k↔LiveBlk η hp k:=by
  intro k
  constructor
  ·intro ⟨r,x,u,e1,e2,e3,e4⟩
   by_cases hr:q=r
   ·subst hr;exact⟨q,_,u,hq,hl,e3,e4⟩
   ·rw[get_set_other hr] at e1;exact⟨r,x,u,e1,e2,e3,e4⟩
  ·intro ⟨r,x,u,e1,e2,e3,e4⟩
   by_cases hr:q=r
   ·subst hr;exact⟨q,_,u,hself,hl',e3,e4⟩
   ·exact⟨r,x,u,by rw[get_set_other hr];exact e1,e2,e3,e4⟩
 have hbl:LiveBlk η hp b:=⟨q,_,_,hq,hl,hb,hbk⟩
 have noF:∀x,¬F b x:=by
  intro x hf
  obtain⟨p1,q1,q2⟩:=(objF_iff b x).1 (hpre.foot b x hf).2 q _ hb hbk
  rw[hq] at q1
  obtain rfl:=Option.some.inj q1
  cases o<;>first|exact q2|exact hn
 have objF2:∀k x,ObjF η hp k x→ObjF η (hp.set q o') k x:=by
  intro k x hf
  refine(objF_iff k x).2 fun r u e1 e2=>?_
  obtain⟨p1,q1,q2⟩:=(objF_iff k x).1 hf r u e1 e2
  by_cases hr:q=r
  ·subst hr
   rw[hq] at q1
   obtain rfl:=Option.some.inj q1
   exact(show False by cases o<;>first|exact q2|exact hn).elim
  ·exact⟨p1,by rw[get_set_other hr];exact q1,q2⟩
 have hblk:∀k,k<w.heap.size→k≠b→w'.heap[k]?=w.heap[k]?:=fun k h1 h2=>hk.block k h1 h2
 have foot:∀k x,F k x→OntoH F w η hp w' η (hp.set q o') k x:=fun k x hf=>⟨.inl hf,by rw[hs];exact(hpre.foot k x hf).1,objF2 k x (hpre.foot k x hf).2⟩
 have hext:Ext w F η hp w' (OntoH F w η hp w' η (hp.set q o')) η (hp.set q o'):=by
  refine⟨fun k x u hf hc=>?_,fun k es c hf hc=>?_,foot,fun r a h=>h,fun r a h=>h,fun r n u h=>?_⟩
  ·have hne:k≠b:=fun h=>noF x (h▸hf)
   simp only[World.cell?] at hc ⊢
   rw[hblk k (hpre.foot k x hf).1 hne];exact hc
  ·have hne:k≠b:=fun h=>noF 0 (h▸hf)
   rw[hblk k (hpre.foot k 0 hf).1 hne];exact hc
  ·unfold OwnOk at h ⊢
   by_cases hr:q=r
   ·subst hr;rw[hq] at h;exact(show False by cases o<;>first|exact h|exact hn).elim
   ·rw[get_set_other hr];exact h
 refine⟨⟨hk.os,hk.tape,hk.output,hk.size,fun k h1 h3=>hblk k h1 fun h=>h3 (h▸hbl)⟩,hext,⟨by rw[List.length_set];exact hpre.heap.len,fun r x u e1 e2=>?_,fun r r' x x' u u' k hne e1 e2 l1 l2 e3 e4 e5=>?_⟩,fun k h=>.inr ((live2 k).1 h),hrv.ext hext⟩
 ·by_cases hr':q=r
  ·subst hr'
   rw[hself] at e1
   obtain rfl:=Option.some.inj e1
   rw[hb] at e2
   obtain rfl:=Option.some.inj e2
   exact ho' hext
  ·rw[get_set_other hr'] at e1
   by_cases hlv:x.live
   ·refine(hpre.heap.obj r x u e1 e2).ext hext hk.size fun k hk1 hk2=>hblk k hk2 fun h=>?_
    subst h
    exact hpre.heap.sep q r _ x _ u k hr' hq e1 hl hlv hb e2 hbk hk1
   ·cases x<;>first|exact True.intro|exact(hlv True.intro).elim
 ·have look:∀{r:Nat} {x:AObj},(hp.set q o')[r]?=some x→x.live→∃p,hp[r]?=some p∧p.live:=by
   intro r x e l
   by_cases hr:q=r
   ·subst hr;exact⟨_,hq,hl⟩
   ·rw[get_set_other hr] at e;exact⟨x,e,l⟩
  obtain⟨p,e1',l1'⟩:=look e1 l1
  obtain⟨p',e2',l2'⟩:=look e2 l2
  exact hpre.heap.sep r r' p p' u u' k hne e1' e2' l1' l2' e3 e4 e5
theorem hpost_dead {r0:AV} {v:Value} (hpre:HPre w F η hp) (hk:Keeps (LiveBlk η hp) w w') (hc:∀b o u,F b o→w.cell? ⟨b,o,none⟩=some u→w'.cell? ⟨b,o,none⟩=some u) (hm:∀b es c,F b 0→w.heap[b]?=some (.map es c)→w'.heap[b]?=some (.map es c)) {hp':List AObj} (hl:hp'.length=hp.length) (hd:∀(r:Nat) (o:AObj),hp'[r]?=some o→o=.dead)
  (hrv:∀F',Rep w' F' η hp' r0 v):HPost w F η hp w' η hp' r0 v:=by
 refine⟨hk,⟨hc,hm,fun k o hf=>⟨.inl hf,Nat.lt_of_lt_of_le (hpre.foot k o hf).1 hk.size,fun r u e1 e2=>?_⟩,fun r a h=>h,fun r a h=>h,fun r n u h=>?_⟩,⟨by rw[hl];exact hpre.heap.len,fun r x u e1 e2=>?_,fun r r' x x' u u' k hne e1 e2 l1 l2=>?_⟩,fun k h=>?_,hrv _⟩
 ·have hr:r<hp'.length:=by rw[hl,←hpre.heap.len];exact(List.getElem?_eq_some_iff.1 e1).1
  obtain⟨x,hx⟩:∃x,hp'[r]?=some x:=⟨_,List.getElem?_eq_getElem hr⟩
  rw[hx,hd r x hx];exact True.intro
 ·have hr:r<hp'.length:=by
   unfold OwnOk at h
   rw[hl]
   rcases Nat.lt_or_ge r hp.length with h1|h1
   ·exact h1
   ·rw[List.getElem?_eq_none h1] at h;exact h.elim
  obtain⟨x,hx⟩:∃x,hp'[r]?=some x:=⟨_,List.getElem?_eq_getElem hr⟩
  unfold OwnOk
  rw[hx,hd r x hx];exact True.intro
 ·rw[hd r x e1];exact True.intro
 ·rw[hd r x e1] at l1;exact l1.elim
 ·obtain⟨r,x,u,e1,e2,_⟩:=h
  rw[hd r x e1] at e2;exact e2.elim
end
theorem bld_ptr {w:World} {F:Nat→Nat→Prop} {η:List Value} {hp:List AObj} {r o:Nat} {v:Value} (h:Rep w F η hp (.ptr r o) v):∃b,v=.pointer (some ⟨b,o,none⟩)∧η[r]?=some (.pointer (some ⟨b,0,none⟩)):=by
 cases h with|ptr _ _ b h1=>exact⟨b,rfl,h1⟩
theorem copyCheck_calls {us:List AV} {n:Nat}:HFn Tryz.prog 127 [.ptr 0 0] [.bld 1 n,.row 5 1 us] (fun r hp'=>r=.tup []∧hp'=[.bld 1 n,.row 5 1 us]):=by
 refine⟨⟨_,Tryz.func127,by kernel_rfl,by kernel_rfl⟩,fun w F η vals hpre hv=>?_⟩
 match vals,hv with
 | [v0],⟨r0,_⟩=>
  obtain⟨b,rfl,h0⟩:=bld_ptr r0
  obtain⟨b',vs,e1,h1,h2,h3,u,h4,h5⟩:=hpre.heap.obj 0 _ _ rfl h0
  cases e1
  have c0:∀x,vs[0]?=some x→w.cell? ⟨b,0,none⟩=some x:=fun x hx=>by simp only[World.cell?,h1];exact hx
  rcases h3 with h3|h3
  ·refine callsIn_wide.2 ((Any.Builder_copyCheck_fresh lay240 layX72 b w (c0 _ h3) (by simp only[World.shape?,h1,h2.1];rfl) (by simp[World.frozen?,h1])).mono ?_)
   rintro e w' ⟨rfl,rfl⟩
   have g1:=heap_setCell_same w b 0 _ bldT (.pointer (some ⟨b,0,none⟩)) h1
   exact⟨_,.tup [],[.bld 1 n,.row 5 1 us],η,rfl,⟨rfl,rfl⟩,hpost_set (q:=0) (b:=b) (o':=.bld 1 n) hpre rfl True.intro True.intro h0 rfl ⟨rfl,rfl,rfl,by simp,fun k _ hk=>heap_setCell_other _ _ _ _ hk⟩ (by simp)
    (fun hext=>⟨b,_,rfl,g1,⟨by simp[h2.1],fun e=>by rw[Array.getElem?_setIfInBounds_ne (by omega)];exact h2.2 e⟩,.inr (by simp[h2.1]),u,by rw[Array.getElem?_setIfInBounds_ne (by omega)];exact h4,h5.ext hext⟩) (.tup [] #[] rfl fun j y u hy _=>by cases hy)⟩
  ·refine callsIn_wide.2 ((Any.Builder_copyCheck_used lay240 layX72 b w (c0 _ h3)).mono ?_)
   rintro e w' ⟨rfl,rfl⟩
   exact⟨_,.tup [],[.bld 1 n,.row 5 1 us],η,rfl,⟨rfl,rfl⟩,hpost_set (q:=0) (b:=b) (o':=.bld 1 n) hpre rfl True.intro True.intro h0 rfl ⟨rfl,rfl,rfl,Nat.le_refl _,fun _ _ _=>rfl⟩ rfl
    (fun hext=>⟨b,_,rfl,h1,h2,.inr h3,u,h4,h5.ext hext⟩) (.tup [] #[] rfl fun j y u hy _=>by cases hy)⟩
theorem WriteString_calls {us:List AV} {s:ByteArray} (h:us.length+s.size≤140737488355328) (hne:s.size≠0):HFn Tryz.prog 94 [.ptr 0 0,nS s] [.bld 1 us.length,.row 5 1 us]
  (fun r hp'=>r=.tup [nI s.size,.prim (.nilIface)]∧hp'=[.bld 1 (us++strAV s).length,.row 5 1 (us++strAV s)]):=
 vc94_ok ⟨_,copyCheck_calls,fun r q ⟨h1,h2⟩=>⟨us,⟨h1,h2⟩,rfl,h,by rw[List.length_append,strAV_len];omega,rfl,rfl⟩⟩
theorem layX:Builder.Extra Tryz.prog shRen:={ layX72 with t5:=Tryz.underlying5,a5:=Tryz.isAgg5,z5:=Tryz.sizeOf5,v5:=Tryz.zeroValue5,infoByte:=by kernel_rfl,cellsByte:=by kernel_rfl,sizeByte:=by kernel_rfl,neB5:=by decide }
set_option maxHeartbeats 1000000 in
set_option maxRecDepth 100000 in
theorem string_do {P:Program} {ρ:Ren} (L:Lays.n169 P ρ) (X:Builder.Extra P ρ) {b g cap:Nat} {cur vs:Array Value} {l:List UInt8} {w:World} (hbk:w.heap[b]?=some (.cells vs (ρ.t 72) (0,0)))
  (hvs:vs[1]?=some (.slice (some ⟨g,0,none⟩) l.length cap)) (hg:w.heap[g]?=some (.cells cur (ρ.t 5) (0,0))) (hnc:l.length≤cap) (hcm:cap≤maxLen) (hcs:cur.size=cap*1) (htake:cur.toList.take (l.length*1)=Lib.byteCells l) (h0:l≠[]):
  Calls P (ρ.f 169) #[.pointer (some ⟨b,0,none⟩)] w fun e w'=>e=.returned (.string ⟨l.toArray⟩)∧w'=w.drew.freeze ⟨g,0,none⟩ l.length:=by
 have hl0:l.length≠0:=by simpa using h0
 have c1:w.drew.cell? ⟨b,1,none⟩=some (.slice (some ⟨g,0,none⟩) l.length cap):=by
  have:w.drew.heap[b]?=some (.cells vs (ρ.t 72) (0,0)):=hbk
  rw[Lib.cell_of_heap this];exact hvs
 have hSD:(Builtin.unsafeSliceData_ #[(ρ.t 37)] (ρ.t 127) #[.slice (some ⟨g,0,none⟩) l.length cap]).run P w.drew=.ok (.pointer (some ⟨g,0,none⟩)) w.drew:=
  Lib.run_unsafeSliceData_row _ _ _ _ _ _ (by omega)
 have hUS:(Builtin.unsafeString_ #[(ρ.t 127),(ρ.t 3)] (ρ.t 9) #[.pointer (some ⟨g,0,none⟩),.int .i64 l.length]).run P w.drew=.ok (.string ⟨l.toArray⟩) (w.drew.freeze ⟨g,0,none⟩ l.length):=by
  refine Lib.run_unsafeString_row w.drew (ρ.t 127) (ρ.t 3) (ρ.t 9) (ρ.t 5) L.t127 X.cellsByte g cur.size (by have hg':w.drew.heap[g]?=some (.cells cur (ρ.t 5) (0,0)):=hg;simp[World.shape?,hg']) l h0 (by omega) (by unfold maxLen at hcm;omega) ?_
  intro j x hx
  have hj:j<l.length:=(List.getElem?_eq_some_iff.1 hx).1
  have e1:(cur.toList.take (l.length*1))[j]?=some (.int .u8 x.toNat):=by rw[htake];simp[Lib.byteCells,hx]
  rw[List.getElem?_take_of_lt (by omega)] at e1
  have hg':w.drew.heap[g]?=some (.cells cur (ρ.t 5) (0,0)):=hg
  rw[Addr.add_lit,Lib.cell_of_heap hg']
  simpa using e1
 have mixed:=L.mixed
 have t72:=L.t72;have a72:=L.a72;have z72:=L.z72;have v72:=L.v72;have u72:=run_underlying L.t72
 have t70:=L.t70;have a70:=L.a70;have z70:=L.z70;have v70:=L.v70;have u70:=run_underlying L.t70
 have t37:=L.t37;have a37:=L.a37;have z37:=L.z37;have v37:=L.v37;have u37:=run_underlying L.t37
 have t127:=L.t127;have a127:=L.a127;have z127:=L.z127;have v127:=L.v127;have u127:=run_underlying L.t127
 have t3:=L.t3;have a3:=L.a3;have z3:=L.z3;have v3:=L.v3;have u3:=run_underlying L.t3
 have t9:=L.t9;have a9:=L.a9;have z9:=L.z9;have v9:=L.v9;have u9:=run_underlying L.t9
 have t5:=X.t5;have a5:=X.a5;have z5:=X.z5;have v5:=X.v5;have u5:=run_underlying X.t5
 go_enter L.f169,Body.n169_ntmps ρ
 go_wp2
 go_region_o
 all_goals (go_wp2;go_ret;exact⟨rfl,rfl⟩)
set_option maxHeartbeats 2000000 in
set_option maxRecDepth 100000 in
theorem string_nil {P:Program} {ρ:Ren} (L:Lays.n169 P ρ) (X:Builder.Extra P ρ) {b:Nat} {vs:Array Value} {w:World} (hbk:w.heap[b]?=some (.cells vs (ρ.t 72) (0,0))) (hvs:vs[1]?=some (.slice none 0 0)):
  Calls P (ρ.f 169) #[.pointer (some ⟨b,0,none⟩)] w fun e w'=>e=.returned (.string ⟨#[]⟩)∧w'=w.drew:=by
 have hUS:=Any.unsafeString_none L X
 have c1:w.drew.cell? ⟨b,1,none⟩=some (.slice none 0 0):=by
  have:w.drew.heap[b]?=some (.cells vs (ρ.t 72) (0,0)):=hbk
  rw[Lib.cell_of_heap this];exact hvs
 have hSD:(Builtin.unsafeSliceData_ #[(ρ.t 37)] (ρ.t 127) #[.slice none 0 0]).run P w.drew=.ok (.pointer none) w.drew:=rfl
 have mixed:=L.mixed
 have t72:=L.t72;have a72:=L.a72;have z72:=L.z72;have v72:=L.v72;have u72:=run_underlying L.t72
 have t70:=L.t70;have a70:=L.a70;have z70:=L.z70;have v70:=L.v70;have u70:=run_underlying L.t70
 have t37:=L.t37;have a37:=L.a37;have z37:=L.z37;have v37:=L.v37;have u37:=run_underlying L.t37
 have t127:=L.t127;have a127:=L.a127;have z127:=L.z127;have v127:=L.v127;have u127:=run_underlying L.t127
 have t3:=L.t3;have a3:=L.a3;have z3:=L.z3;have v3:=L.v3;have u3:=run_underlying L.t3
 have t9:=L.t9;have a9:=L.a9;have z9:=L.z9;have v9:=L.v9;have u9:=run_underlying L.t9
 have t5:=X.t5;have a5:=X.a5;have z5:=X.z5;have v5:=X.v5;have u5:=run_underlying X.t5
 go_enter L.f169,Body.n169_ntmps ρ
 go_wp2
 go_region_o
 all_goals (go_wp2;go_ret;exact⟨rfl,rfl⟩)
theorem freeze_heap {w:World} {g n k:Nat} (h:k≠g):(w.freeze ⟨g,0,none⟩ n).heap[k]?=w.heap[k]?:=by
 unfold World.freeze
 split
 ·rfl
 ·simp only[Array.getElem?_modify];rw[if_neg (Ne.symm h)]
theorem freeze_cell {w:World} {g n b o:Nat} {cur:Array Value} {T:TypeId} {z:Nat×Nat} (hg:w.heap[g]?=some (.cells cur T z)):(w.freeze ⟨g,0,none⟩ n).cell? ⟨b,o,none⟩=w.cell? ⟨b,o,none⟩:=by
 by_cases h:b=g
 ·subst h
  unfold World.freeze
  split
  ·rfl
  ·simp[World.cell?,Array.getElem?_modify,hg]
 ·simp only[World.cell?,freeze_heap h]
theorem String_calls {s:ByteArray}:HFn Tryz.prog 57 [.ptr 0 0] [.bld 1 (strAV s).length,.row 5 1 (strAV s)] (fun r hp'=>r=nS s∧hp'=[.dead,.dead]):=by
 refine⟨⟨_,Tryz.func57,by kernel_rfl,by kernel_rfl⟩,fun w F η vals hpre hv=>?_⟩
 match vals,hv with
 | [v0],⟨r0,_⟩=>
  obtain⟨b,rfl,h0⟩:=bld_ptr r0
  obtain⟨b',vs,e1,h1,h2,h3,u,h4,h5⟩:=hpre.heap.obj 0 _ _ rfl h0
  cases e1
  by_cases h:s.size=0
  ·have hz:strAV s=[]:=List.eq_nil_of_length_eq_zero (by rw[strAV_len];exact h)
   have hs:s=⟨#[]⟩:=by
    obtain⟨d⟩:=s
    have:d.size=0:=h
    rw[Array.eq_empty_of_size_eq_zero this]
   refine callsIn_wide.2 ((string_nil lay169 layX (b:=b) h1 (h2.2 (by rw[hz];rfl))).mono ?_)
   rintro e w' ⟨rfl,rfl⟩
   refine⟨_,nS s,[.dead,.dead],η,rfl,⟨rfl,rfl⟩,hpost_dead (w':=w.drew) (hp':=[.dead,.dead]) hpre ⟨rfl,rfl,rfl,Nat.le_refl _,fun _ _ _=>rfl⟩ (fun _ _ _ _ hc=>hc) (fun _ _ _ _ hc=>hc) rfl (fun r o e=>?_) fun F'=>by rw[hs];exact .prim (.string ⟨#[]⟩)⟩
   match r,e with
   |0,e=>exact(Option.some.inj e).symm
   |1,e=>exact(Option.some.inj e).symm
  have h6:η[1]?=some u:=by cases h5 with|own _ _ _ _ ho=>exact ho.2 rfl
  obtain⟨_,xs,⟨g0,g1⟩,g2⟩:=hpre.heap.obj 1 _ _ rfl h6
  have hlen:(strAV s).length=s.data.toList.length:=by unfold strAV;exact List.length_map _
  have hxs:xs=Lib.byteCells s.data.toList:=by
   refine List.ext_getElem? fun i=>?_
   cases hs:s.data.toList[i]? with
   |none=>
    have:s.data.toList.length≤i:=List.getElem?_eq_none_iff.1 hs
    rw[List.getElem?_eq_none (by rw[g0,hlen];omega),List.getElem?_eq_none (by rw[Lib.byteCells_length];exact this)]
   |some c=>
    obtain⟨u,k1,k2,_⟩:=(g2 i (.prim (.int .u8 c.toNat)) (by simp[strAV,hs])).2 0 _ rfl
    have k3:xs[i]?=some u:=by simpa using k1
    rw[k3]
    cases k2
    simp[Lib.byteCells,hs]
  have hne:s.data.toList≠[]:=fun e=>h (by rw[←strAV_len,hlen,e];rfl)
  rcases g1 with⟨g1,_⟩|⟨g,cap,cur,rfl,k0,k1,k2,k3,k4,k5⟩
  ·exact(h (by rw[←strAV_len];exact g1)).elim
  ·rw[hlen] at h4 k2 k5 h6
   refine callsIn_wide.2 ((string_do lay169 layX (b:=b) (g:=g) (cap:=cap) (cur:=cur) (l:=s.data.toList) h1 h4 k1 k2 k3 k4 (by rw[k5];exact hxs) hne).mono ?_)
   rintro e w' ⟨rfl,rfl⟩
   have hgl:LiveBlk η [.bld 1 (strAV s).length,.row 5 1 (strAV s)] g:=⟨1,_,_,rfl,True.intro,h6,blk_slice k0⟩
   refine⟨_,nS s,[.dead,.dead],η,rfl,⟨rfl,rfl⟩,hpost_dead hpre ⟨?_,?_,?_,?_,fun k _ hk=>?_⟩ (fun b o u _ hc=>?_) (fun b es c _ hc=>?_) rfl (fun r o e=>?_) fun F'=>?_⟩
   ·unfold World.freeze;split<;>rfl
   ·unfold World.freeze;split<;>rfl
   ·unfold World.freeze;split<;>rfl
   ·unfold World.freeze;split
    ·exact Nat.le_refl _
    ·show w.heap.size≤(w.heap.modify _ _).size;rw[Array.size_modify];exact Nat.le_refl _
   ·exact freeze_heap (w:=w.drew) fun e=>hk (e▸hgl)
   ·rw[freeze_cell (w:=w.drew) (cur:=cur) k1];exact hc
   ·have:b≠g:=fun e=>by rw[e] at hc;rw[hc] at k1;cases k1
    rw[freeze_heap (w:=w.drew) this];exact hc
   ·match r,e with
    |0,e=>exact(Option.some.inj e).symm
    |1,e=>exact(Option.some.inj e).symm
   ·exact .prim _
end Go.Proofs.YtghnkppcncbddaaGreatDoor

namespace Go.Proofs.YtghnkppcncbddaaGreatDoor
open Go
set_option linter.unusedSimpArgs false
set_option linter.unusedVariables false
theorem strAV_app (a b:ByteArray):strAV (a++b)=strAV a++strAV b:=by
 unfold strAV
 rw[ByteArray.data_append,Array.toList_append,List.map_append]
abbrev bl (us:List AV):List AObj:=[.bld 1 us.length,.row 5 1 us]
theorem wr_res {n:Int}:RepW (.tup [nI n,.prim .nilIface]) (.tup [nI n,.top]):=fun w F η hp v h=>by
 cases h with
 |tup cs vs hl hr=>
  refine .tup _ vs hl fun j x u hx hu=>?_
  match j,hx with
  |0,hx=>exact hr 0 x u hx hu
  |1,hx=>cases hx;exact .top _
theorem isWord_ne {w:ByteArray} (h:isWord w=true):w.size≠0:=by
 rw[←bytesI_len]
 cases hb:bytesI w with
 |nil=>simp[isWord,hb] at h
 |cons c l=>simp
theorem wr_calls {us:List AV} {s:ByteArray} (hne:s.size≠0) (h:us.length+s.size≤140737488355328):HFn Tryz.prog 94 [.ptr 0 0,nS s] (bl us)
  (fun r hp'=>r=.tup [nI s.size,.top]∧hp'=bl (us++strAV s)):=
 (WriteString_calls h hne).res fun r h' ⟨h1,h2⟩=>⟨_,h1▸wr_res,rfl,h2⟩
theorem lenS (us:List AV) (s:ByteArray):(us++strAV s).length=us.length+s.size:=by rw[List.length_append,strAV_len]
def Tells (f:Nat) (args:List AV) (s:ByteArray) (us:List AV):Prop:=HFn Tryz.prog f args (bl us) (fun r hp'=>r=.tup []∧hp'=bl (us++strAV s))
theorem inTyp_calls {b:Bool} {x:Nd} {us:List AV} (hu:us.length+(50*x.size+2)≤100000000) (hx:rightT x=true) (h:∀us:List AV,us.length+50*x.size≤100000000→Tells 71 [.agg [.ptr 0 0],x.enc] (txtT x) us):
  Tells 115 [.agg [.ptr 0 0],nB b,.mclo 71 [.agg [.ptr 0 0]],x.enc] (inT b (txtT x)) us:=by
 have z1:=txtT_size _ x (Nat.le_refl _) hx
 unfold Tells at h ⊢
 rw[Nd.enc_eq] at h ⊢
 cases b
 ·exact vc_inTyp_ok (ITE.neg rfl ⟨_,h us (by omega),fun r q ⟨e1,e2⟩=>⟨_,⟨e1,e2⟩,ITE.neg rfl ⟨rfl,rfl⟩⟩⟩)
 ·refine vc_inTyp_ok (ITE.pos rfl ⟨_,wr_calls (by decide) (by rw[sz1];omega),fun r q ⟨e1,e2⟩=>⟨_,_,⟨e1,e2⟩,_,h _ (by rw[lenS,sz1];omega),fun r q ⟨e1,e2⟩=>⟨_,⟨e1,e2⟩,ITE.pos rfl ⟨_,wr_calls (by decide) (by rw[lenS,lenS,sz1,sz1];omega),fun r q ⟨e1,e2⟩=>⟨_,_,⟨e1,e2⟩,rfl,?_⟩⟩⟩⟩⟩)
  simp only[inT,strAV_app,List.append_assoc]
theorem inTerm_calls {b:Bool} {x:Nd} {us:List AV} (hu:us.length+(50*x.size+2)≤100000000) (hx:rightM x=true) (h:∀us:List AV,us.length+50*x.size≤100000000→Tells 73 [.agg [.ptr 0 0],x.enc] (txtM x) us):
  Tells 115 [.agg [.ptr 0 0],nB b,.mclo 73 [.agg [.ptr 0 0]],x.enc] (inT b (txtM x)) us:=by
 have z1:=txtM_size _ x (Nat.le_refl _) hx
 unfold Tells at h ⊢
 rw[Nd.enc_eq] at h ⊢
 cases b
 ·exact vc_inTerm_ok (ITE.neg rfl ⟨_,h us (by omega),fun r q ⟨e1,e2⟩=>⟨_,⟨e1,e2⟩,ITE.neg rfl ⟨rfl,rfl⟩⟩⟩)
 ·refine vc_inTerm_ok (ITE.pos rfl ⟨_,wr_calls (by decide) (by rw[sz1];omega),fun r q ⟨e1,e2⟩=>⟨_,_,⟨e1,e2⟩,_,h _ (by rw[lenS,sz1];omega),fun r q ⟨e1,e2⟩=>⟨_,⟨e1,e2⟩,ITE.pos rfl ⟨_,wr_calls (by decide) (by rw[lenS,lenS,sz1,sz1];omega),fun r q ⟨e1,e2⟩=>⟨_,_,⟨e1,e2⟩,rfl,?_⟩⟩⟩⟩⟩)
  simp only[inT,strAV_app,List.append_assoc]
theorem typ_calls:∀(n:Nat) (t:Nd),t.size≤n→rightT t=true→∀us:List AV,us.length+50*t.size≤100000000→Tells 71 [.agg [.ptr 0 0],t.enc] (txtT t) us:=by
 intro n
 induction n with
 |zero=>intro t h;have:=t.size_pos;omega
 |succ n ih=>
  intro t hn ht us hu
  unfold Tells
  rcases rightT_inv ht with⟨w,a,rfl,h1⟩|⟨w,a,x,y,rfl,h1,h2,h3⟩
  ·have:=isWord_size h1
   have e:(Nd.mk 1 w a []).size=1:=by simp[Nd.size,Nd.sizes]
   rw[Nd.enc_eq,txtT_name]
   exact vc71_ok (ITE.pos rfl ⟨_,wr_calls (s:=w) (isWord_ne h1) (by omega),fun r q ⟨e1,e2⟩=>⟨_,_,⟨e1,e2⟩,rfl,rfl⟩⟩)
  ·have e:=size_two (k:=2) (a:=a) (w:=w) (x:=x) (y:=y)
   have p1:=x.size_pos
   have p2:=y.size_pos
   have hx:=inTyp_calls (b:=x.kind==2) (us:=us) (by omega) h2 (ih x (by omega) h2)
   have hy:=ih y (by omega) h3
   have z1:=txtT_size _ x (Nat.le_refl _) h2
   have z2:=txtT_size _ y (Nat.le_refl _) h3
   have z3:=inT_size (x.kind==2) (txtT x)
   rw[txtT_two]
   unfold Tells at hx hy
   rw[Nd.enc_eq] at hx hy ⊢
   refine vc71_ok (ITE.neg rfl ⟨by decide,lt0,_,_,_,_,nd0,by decide,lt0,_,_,_,_,nd0,_,hx,fun r q ⟨e1,e2⟩=>⟨_,⟨e1,e2⟩,_,wr_calls (by decide) (by rw[lenS,sz4];omega),fun r q ⟨e1,e2⟩=>⟨_,_,⟨e1,e2⟩,by decide,lt1,_,_,_,_,nd1,_,hy _ (by rw[lenS,lenS,sz4];omega),fun r q ⟨e1,e2⟩=>⟨_,⟨e1,e2⟩,rfl,?_⟩⟩⟩⟩)
   simp only[strAV_app,List.append_assoc]
theorem term_calls:∀(n:Nat) (t:Nd),t.size≤n→rightM t=true→∀us:List AV,us.length+50*t.size≤100000000→Tells 73 [.agg [.ptr 0 0],t.enc] (txtM t) us:=by
 intro n
 induction n with
 |zero=>intro t h;have:=t.size_pos;omega
 |succ n ih=>
  intro t hn ht us hu
  unfold Tells
  rcases rightM_inv ht with⟨w,a,rfl,h1⟩|⟨w,a,x,y,rfl,h1,h2,h3⟩|⟨w,a,x,y,rfl,h1,h2,h3⟩
  ·have:=isWord_size h1
   have e:(Nd.mk 1 w a []).size=1:=by simp[Nd.size,Nd.sizes]
   rw[Nd.enc_eq,txtM_name]
   exact vc73_ok (ITE.pos rfl ⟨_,wr_calls (s:=w) (isWord_ne h1) (by omega),fun r q ⟨e1,e2⟩=>⟨_,_,⟨e1,e2⟩,rfl,rfl⟩⟩)
  ·have e:=size_two (k:=3) (a:=a) (w:=w) (x:=x) (y:=y)
   have p1:=x.size_pos
   have p2:=y.size_pos
   have hx:=typ_calls _ x (Nat.le_refl _) h2
   have hy:=ih y (by omega) h3
   have z1:=txtT_size _ x (Nat.le_refl _) h2
   have z2:=txtM_size _ y (Nat.le_refl _) h3
   have z3:=isWord_size h1
   rw[txtM_two,if_pos (by decide)]
   unfold Tells at hx hy
   rw[Nd.enc_eq] at hx hy ⊢
   refine vc73_ok (ITE.neg rfl (ITE.pos rfl ⟨?_,?_,_,wr_calls ?_ ?_,fun r q ⟨e1,e2⟩=>⟨_,_,⟨e1,e2⟩,by decide,lt0,_,_,_,_,nd0,_,hx _ ?_,fun r q ⟨e1,e2⟩=>⟨_,⟨e1,e2⟩,_,wr_calls (by decide) ?_,fun r q ⟨e1,e2⟩=>⟨_,_,⟨e1,e2⟩,by decide,lt1,_,_,_,_,nd1,_,hy _ ?_,fun r q ⟨e1,e2⟩=>⟨_,⟨e1,e2⟩,rfl,?_⟩⟩⟩⟩⟩))
   all_goals try (simp only[lenS,bsz,sz2,sz1,Nd.word];omega)
   simp only[strAV_app,List.append_assoc,Nd.word]
  ·have e:=size_two (k:=4) (a:=a) (w:=w) (x:=x) (y:=y)
   have p1:=x.size_pos
   have p2:=y.size_pos
   have z1:=txtM_size _ x (Nat.le_refl _) h2
   have z2:=txtM_size _ y (Nat.le_refl _) h3
   have z3:=inT_size (x.kind==3) (txtM x)
   have z4:=inT_size (y.kind != 1) (txtM y)
   have hx:=inTerm_calls (b:=x.kind==3) (us:=us) (by omega) h2 (ih x (by omega) h2)
   have hy:=inTerm_calls (b:=y.kind != 1) (us:=(us++strAV (inT (x.kind==3) (txtM x)))++strAV (⟨#[32]⟩:ByteArray)) (by rw[lenS,lenS,sz1];omega) h3 (ih y (by omega) h3)
   rw[txtM_two,if_neg (by decide)]
   unfold Tells at hx hy
   rw[Nd.enc_eq] at hx hy ⊢
   refine vc73_ok (ITE.neg rfl (ITE.neg rfl ⟨by decide,lt0,_,_,_,_,nd0,by decide,lt0,_,_,_,_,nd0,_,hx,fun r q ⟨e1,e2⟩=>⟨_,⟨e1,e2⟩,_,wr_calls (by decide) ?_,fun r q ⟨e1,e2⟩=>⟨_,_,⟨e1,e2⟩,by decide,lt1,_,_,_,_,nd1,by decide,lt1,_,_,_,_,nd1,_,hy,fun r q ⟨e1,e2⟩=>⟨_,⟨e1,e2⟩,rfl,?_⟩⟩⟩⟩))
   ·simp only[lenS,sz1];omega
   ·simp only[strAV_app,List.append_assoc]
def shown (ok:Bool) (s:ByteArray):AV:=.tup [nS (if ok then s else(⟨#[]⟩:ByteArray)),nI (if ok then 0 else 1)]
theorem Type_calls {t:Nd} (h:t.size≤1000000):PureIs Tryz.prog 35 [t.enc] (shown (rightT t) (txtT t)):=by
 have h1:=RightT_calls _ t (Nat.le_refl _)
 rw[Nd.enc_eq] at h1 ⊢
 refine vc35_ok ⟨_,h1,?_⟩
 cases hr:rightT t
 ·exact ITE.pos rfl rfl
 ·have h2:=typ_calls _ t (Nat.le_refl _) hr [] (by simp;omega)
  unfold Tells at h2
  rw[Nd.enc_eq] at h2
  exact ITE.neg rfl ⟨_,h2,fun r q ⟨e1,e2⟩=>⟨_,⟨e1,e2⟩,_,String_calls,fun r q ⟨e1,e2⟩=>⟨_,⟨e1,e2⟩,rfl⟩⟩⟩
theorem Term_calls {t:Nd} (h:t.size≤1000000):PureIs Tryz.prog 36 [t.enc] (shown (rightM t) (txtM t)):=by
 have h1:=RightM_calls _ t (Nat.le_refl _)
 rw[Nd.enc_eq] at h1 ⊢
 refine vc36_ok ⟨_,h1,?_⟩
 cases hr:rightM t
 ·exact ITE.pos rfl rfl
 ·have h2:=term_calls _ t (Nat.le_refl _) hr [] (by simp;omega)
  unfold Tells at h2
  rw[Nd.enc_eq] at h2
  exact ITE.neg rfl ⟨_,h2,fun r q ⟨e1,e2⟩=>⟨_,⟨e1,e2⟩,_,String_calls,fun r q ⟨e1,e2⟩=>⟨_,⟨e1,e2⟩,rfl⟩⟩⟩
end Go.Proofs.YtghnkppcncbddaaGreatDoor

namespace Go.Proofs.YtghnkppcncbddaaGreatDoor
open Go
set_option linter.unusedSimpArgs false
set_option linter.unusedVariables false
theorem growW_calls {hp:List AObj} {n:Nat} (hn:n≤1000000000) (hcl:∀o∈hp,AObj.closed (hp.length+1) o=true):
  HFn Tryz.prog 77 [.prim (.slice none 0 0),.prim (.int .i64 (n:Nat))] hp (fun r hp'=>r=.own hp.length 0∧hp'=hp++[.row 9 1 []]):=by
 refine heap_of_body_at tab_ok (hp.length+1) (by simp) (fn:=Tryz.f77) Tryz.func77 rfl (by kernel_rfl) (by simp[Tryz.ntmps77]) ?_
 intro Γ hok hP hnt hh0 hfree0
 rw[Tryz.ntmps77] at hnt
 have htab:TabOk Γ.P tab:=by rw[hP];exact tab_ok
 refine AWp.seqK fun K1 hK1=>?_
 refine AWp.regionC hok htab hnt ?_
 simp only[ARunC,CStep,isRoom,nilCmp,xval,callArgs,bne_self_eq_false,  pval,heff,bopAll,bopX,cvtVal,bopVal,bopInt,lenVal,fieldsOf,ldCells,ldElem,fillCells,setCells,lookVal,mapGet,mapPut,boundOf,idxOk,lensOk,appOk,Value.cells,TK.agg,thenQ,inBlockQ,AS.put,AS.ev,startT,upd_eq,dstOk,gslot,condP,tabs,reduceIte,Nat.reduceLT,Nat.reduceEqDiff,Nat.reduceAdd,Nat.reduceLeDiff,Nat.reduceMul,Nat.reduceSub,List.getElem?_nil,List.length_nil,List.nil_append,List.append_nil,List.take_zero,List.map_nil,Option.map_none,Option.bind_none,reduceCtorEq,Int.toNat_natCast,Int.natCast_nonneg,List.not_mem_nil,retQ,resAll,resOne,resTup,AV.toDataR,wrap_succ,Int.ofNat_lt,Int.not_lt,obo1,obo2,obo3,core1,core2,core3]
 refine hK1 _ ?_
 try clear hK1 K1
 refine AWp.seqK fun K2 hK2=>?_
 refine AWp.seqK fun K3 hK3=>?_
 refine AWp.regionC hok htab hnt ?_
 simp only[ARunC,CStep,isRoom,nilCmp,xval,callArgs,bne_self_eq_false,  pval,heff,bopAll,bopX,cvtVal,bopVal,bopInt,lenVal,fieldsOf,ldCells,ldElem,fillCells,setCells,lookVal,mapGet,mapPut,boundOf,idxOk,lensOk,appOk,Value.cells,TK.agg,thenQ,inBlockQ,AS.put,AS.ev,startT,upd_eq,dstOk,gslot,condP,tabs,reduceIte,Nat.reduceLT,Nat.reduceEqDiff,Nat.reduceAdd,Nat.reduceLeDiff,Nat.reduceMul,Nat.reduceSub,List.getElem?_nil,List.length_nil,List.nil_append,List.append_nil,List.take_zero,List.map_nil,Option.map_none,Option.bind_none,reduceCtorEq,Int.toNat_natCast,Int.natCast_nonneg,List.not_mem_nil,retQ,resAll,resOne,resTup,AV.toDataR,wrap_succ,Int.ofNat_lt,Int.not_lt,obo1,obo2,obo3,core1,core2,core3]
 refine hK3 _ ?_
 try clear hK3 K3
 refine AWp.condB (by simp only[AS.ev,upd_eq,Nat.reduceEqDiff,if_true,if_false,reduceIte,reduceCtorEq];rfl) (fun hc=>?_) (fun hc=>?_)
 all_goals (try simp only[decide_eq_true_eq,decide_eq_false_iff_not,Int.ofNat_lt,Int.not_lt,Nat.not_lt,bne_iff_ne,bne_eq_false_iff_eq,ne_eq,Bool.not_eq_true',Bool.not_eq_false',Bool.and_eq_true,Bool.or_eq_true,Bool.and_eq_false_iff,Bool.or_eq_false_iff,beq_iff_eq,beq_eq_false_iff_ne,Bool.not_eq_eq_eq_not,Bool.not_true,Bool.not_false] at hc)
 ·exfalso;omega
 ·refine AWp.skip ?_
  refine hK2 _ ?_
  try clear hK2 K2
  refine AWp.seqK fun K9 hK9=>?_
  refine AWp.seqK fun K10 hK10=>?_
  have hw:IntKind.i64.wrap ((n:Int)-IntKind.i64.wrap (0-((0:Nat):Int)))=(n:Int):=by
   rw[show IntKind.i64.wrap (0-((0:Nat):Int))=0 from by decide,Int.sub_zero,IntWalk.i64_in _ (by omega)]
  refine AWp.regionC hok htab hnt ?_
  simp only[ARunC,CStep,isRoom,nilCmp,xval,callArgs,bne_self_eq_false,  pval,heff,bopAll,bopX,cvtVal,bopVal,bopInt,lenVal,fieldsOf,ldCells,ldElem,fillCells,setCells,lookVal,mapGet,mapPut,boundOf,idxOk,lensOk,appOk,Value.cells,TK.agg,thenQ,inBlockQ,AS.put,AS.ev,startT,upd_eq,dstOk,gslot,condP,tabs,reduceIte,Nat.reduceLT,Nat.reduceEqDiff,Nat.reduceAdd,Nat.reduceLeDiff,Nat.reduceMul,Nat.reduceSub,List.getElem?_nil,List.length_nil,List.nil_append,List.append_nil,List.take_zero,List.map_nil,Option.map_none,Option.bind_none,reduceCtorEq,Int.toNat_natCast,Int.natCast_nonneg,List.not_mem_nil,retQ,resAll,resOne,resTup,AV.toDataR,wrap_succ,Int.ofNat_lt,Int.not_lt,obo1,obo2,obo3,core1,core2,core3,hw]
  refine hK10 _ ?_
  try clear hK10 K10
  refine AWp.seqK fun K11 hK11=>?_
  refine AWp.regionC hok htab hnt ?_
  simp only[ARunC,CStep,isRoom,nilCmp,xval,callArgs,bne_self_eq_false,  pval,heff,bopAll,bopX,cvtVal,bopVal,bopInt,lenVal,fieldsOf,ldCells,ldElem,fillCells,setCells,lookVal,mapGet,mapPut,boundOf,idxOk,lensOk,appOk,Value.cells,TK.agg,thenQ,inBlockQ,AS.put,AS.ev,startT,upd_eq,dstOk,gslot,condP,tabs,reduceIte,Nat.reduceLT,Nat.reduceEqDiff,Nat.reduceAdd,Nat.reduceLeDiff,Nat.reduceMul,Nat.reduceSub,List.getElem?_nil,List.length_nil,List.nil_append,List.append_nil,List.take_zero,List.map_nil,Option.map_none,Option.bind_none,reduceCtorEq,Int.toNat_natCast,Int.natCast_nonneg,List.not_mem_nil,retQ,resAll,resOne,resTup,AV.toDataR,wrap_succ,Int.ofNat_lt,Int.not_lt,obo1,obo2,obo3,core1,core2,core3]
  refine hK11 _ ?_
  try clear hK11 K11
  refine AWp.condB (by simp only[AS.ev,upd_eq,Nat.reduceEqDiff,if_true,if_false,reduceIte,reduceCtorEq];rfl) (fun hc=>?_) (fun hc=>?_)
  all_goals (try simp only[decide_eq_true_eq,decide_eq_false_iff_not,Int.ofNat_lt,Int.not_lt,Nat.not_lt,bne_iff_ne,bne_eq_false_iff_eq,ne_eq,Bool.not_eq_true',Bool.not_eq_false',Bool.and_eq_true,Bool.or_eq_true,Bool.and_eq_false_iff,Bool.or_eq_false_iff,beq_iff_eq,beq_eq_false_iff_ne,Bool.not_eq_eq_eq_not,Bool.not_true,Bool.not_false] at hc)  
  ·refine AWp.regionC hok htab hnt ?_
   simp only[ARunC,CStep,isRoom,nilCmp,xval,callArgs,bne_self_eq_false,  pval,heff,bopAll,bopX,cvtVal,bopVal,bopInt,lenVal,fieldsOf,ldCells,ldElem,fillCells,setCells,lookVal,mapGet,mapPut,boundOf,idxOk,lensOk,appOk,Value.cells,TK.agg,thenQ,inBlockQ,AS.put,AS.ev,startT,upd_eq,dstOk,gslot,condP,tabs,reduceIte,Nat.reduceLT,Nat.reduceEqDiff,Nat.reduceAdd,Nat.reduceLeDiff,Nat.reduceMul,Nat.reduceSub,List.getElem?_nil,List.length_nil,List.nil_append,List.append_nil,List.take_zero,List.map_nil,Option.map_none,Option.bind_none,reduceCtorEq,Int.toNat_natCast,Int.natCast_nonneg,List.not_mem_nil,retQ,resAll,resOne,resTup,AV.toDataR,wrap_succ,Int.ofNat_lt,Int.not_lt,obo1,obo2,obo3,core1,core2,core3]
   refine AList.room hok htab (c1:={ callee:=.builtin .append,args:=#[.tmp 20,.tmp 21],argTypes:=#[22,3] }) (c3:={ callee:=.builtin .len,args:=#[.tmp 23],argTypes:=#[22] }) (n:=n) rfl rfl rfl rfl rfl rfl rfl rfl tab_22 rfl tab_9 tab_3 rfl (by decide) rfl rfl (by omega) (by simp only[maxLen];omega) (by simp only[td9];omega)
    rfl rfl (by simp) rfl rfl rfl rfl rfl rfl rfl rfl rfl (by omega) (by omega) (by omega) (by omega) (by decide) (by decide) ?_
   refine ARunC.sound hok htab hnt _ _ ?_
   simp only[ARunC,CStep,isRoom,nilCmp,xval,callArgs,bne_self_eq_false,  pval,heff,bopAll,bopX,cvtVal,bopVal,bopInt,lenVal,fieldsOf,ldCells,ldElem,fillCells,setCells,lookVal,mapGet,mapPut,boundOf,idxOk,lensOk,appOk,Value.cells,TK.agg,thenQ,inBlockQ,AS.put,AS.ev,startT,upd_eq,dstOk,gslot,condP,tabs,reduceIte,Nat.reduceLT,Nat.reduceEqDiff,Nat.reduceAdd,Nat.reduceLeDiff,Nat.reduceMul,Nat.reduceSub,List.getElem?_nil,List.length_nil,List.nil_append,List.append_nil,List.take_zero,List.map_nil,Option.map_none,Option.bind_none,reduceCtorEq,Int.toNat_natCast,Int.natCast_nonneg,List.not_mem_nil,retQ,resAll,resOne,resTup,AV.toDataR,wrap_succ,Int.ofNat_lt,Int.not_lt,obo1,obo2,obo3,core1,core2,core3]
   refine hK9 _ ?_
   try clear hK9 K9
   refine AWp.seqK fun K12 hK12=>?_
   refine AWp.regionC hok htab hnt ?_
   simp only[ARunC,CStep,isRoom,nilCmp,xval,callArgs,bne_self_eq_false,  pval,heff,bopAll,bopX,cvtVal,bopVal,bopInt,lenVal,fieldsOf,ldCells,ldElem,fillCells,setCells,lookVal,mapGet,mapPut,boundOf,idxOk,lensOk,appOk,Value.cells,TK.agg,thenQ,inBlockQ,AS.put,AS.ev,startT,upd_eq,dstOk,gslot,condP,tabs,reduceIte,Nat.reduceLT,Nat.reduceEqDiff,Nat.reduceAdd,Nat.reduceLeDiff,Nat.reduceMul,Nat.reduceSub,List.getElem?_nil,List.length_nil,List.nil_append,List.append_nil,List.take_zero,List.map_nil,Option.map_none,Option.bind_none,reduceCtorEq,Int.toNat_natCast,Int.natCast_nonneg,List.not_mem_nil,retQ,resAll,resOne,resTup,AV.toDataR,wrap_succ,Int.ofNat_lt,Int.not_lt,obo1,obo2,obo3,core1,core2,core3]
   refine hK12 _ ?_
   try clear hK12 K12
   refine AWp.ret ?_
   simp only[ARunC,CStep,isRoom,nilCmp,xval,callArgs,bne_self_eq_false,  pval,heff,bopAll,bopX,cvtVal,bopVal,bopInt,lenVal,fieldsOf,ldCells,ldElem,fillCells,setCells,lookVal,mapGet,mapPut,boundOf,idxOk,lensOk,appOk,Value.cells,TK.agg,thenQ,inBlockQ,AS.put,AS.ev,startT,upd_eq,dstOk,gslot,condP,tabs,reduceIte,Nat.reduceLT,Nat.reduceEqDiff,Nat.reduceAdd,Nat.reduceLeDiff,Nat.reduceMul,Nat.reduceSub,List.getElem?_nil,List.length_nil,List.nil_append,List.append_nil,List.take_zero,List.map_nil,Option.map_none,Option.bind_none,reduceCtorEq,Int.toNat_natCast,Int.natCast_nonneg,List.not_mem_nil,retQ,resAll,resOne,resTup,AV.toDataR,wrap_succ,Int.ofNat_lt,Int.not_lt,obo1,obo2,obo3,core1,core2,core3,Tryz.results77,retH]
   have e:List.take (hp.length+1) (hp++[AObj.row 9 1 []])=hp++[AObj.row 9 1 []]:=List.take_of_length_le (by simp)
   rw[e]
   refine⟨fun o ho=>?_,?_,rfl⟩
   ·rcases List.mem_append.1 ho with h1|h1
    ·exact hcl o h1
    ·rw[List.mem_singleton.1 h1];rfl
   ·simp[AV.out,AV.outV,AV.outC,AV.closedC]
  ·refine AWp.skip ?_
   refine hK9 _ ?_
   try clear hK9 K9
   refine AWp.weak (Weak.row hok 0 9 1 (by decide) rfl) ?_
   refine AWp.seqK fun K13 hK13=>?_
   refine AWp.regionC hok htab hnt ?_
   simp only[ARunC,CStep,isRoom,nilCmp,xval,callArgs,bne_self_eq_false,  pval,heff,bopAll,bopX,cvtVal,bopVal,bopInt,lenVal,fieldsOf,ldCells,ldElem,fillCells,setCells,lookVal,mapGet,mapPut,boundOf,idxOk,lensOk,appOk,Value.cells,TK.agg,thenQ,inBlockQ,AS.put,AS.ev,startT,upd_eq,dstOk,gslot,condP,tabs,reduceIte,Nat.reduceLT,Nat.reduceEqDiff,Nat.reduceAdd,Nat.reduceLeDiff,Nat.reduceMul,Nat.reduceSub,List.getElem?_nil,List.length_nil,List.nil_append,List.append_nil,List.take_zero,List.map_nil,Option.map_none,Option.bind_none,reduceCtorEq,Int.toNat_natCast,Int.natCast_nonneg,List.not_mem_nil,retQ,resAll,resOne,resTup,AV.toDataR,wrap_succ,Int.ofNat_lt,Int.not_lt,obo1,obo2,obo3,core1,core2,core3]
   refine hK13 _ ?_
   try clear hK13 K13
   refine AWp.ret ?_
   simp only[ARunC,CStep,isRoom,nilCmp,xval,callArgs,bne_self_eq_false,  pval,heff,bopAll,bopX,cvtVal,bopVal,bopInt,lenVal,fieldsOf,ldCells,ldElem,fillCells,setCells,lookVal,mapGet,mapPut,boundOf,idxOk,lensOk,appOk,Value.cells,TK.agg,thenQ,inBlockQ,AS.put,AS.ev,startT,upd_eq,dstOk,gslot,condP,tabs,reduceIte,Nat.reduceLT,Nat.reduceEqDiff,Nat.reduceAdd,Nat.reduceLeDiff,Nat.reduceMul,Nat.reduceSub,List.getElem?_nil,List.length_nil,List.nil_append,List.append_nil,List.take_zero,List.map_nil,Option.map_none,Option.bind_none,reduceCtorEq,Int.toNat_natCast,Int.natCast_nonneg,List.not_mem_nil,retQ,resAll,resOne,resTup,AV.toDataR,wrap_succ,Int.ofNat_lt,Int.not_lt,obo1,obo2,obo3,core1,core2,core3,Tryz.results77,retH]
   have e:List.take (hp.length+1) (hp++[AObj.row 9 1 []])=hp++[AObj.row 9 1 []]:=List.take_of_length_le (by simp)
   rw[e]
   refine⟨fun o ho=>?_,?_,rfl⟩
   ·rcases List.mem_append.1 ho with h1|h1
    ·exact hcl o h1
    ·rw[List.mem_singleton.1 h1];rfl
   ·simp[AV.out,AV.outV,AV.outC,AV.closedC]
def wRows (ll:List (List ByteArray)):List AV:=ll.map fun l=>.sl (l.map nS)
theorem wRows_getD {ll:List (List ByteArray)} {k:Nat} (h:k<ll.length):(wRows ll).getD k .top=.sl (ll[k].map nS):=by
 simp[wRows,List.getD,h]
theorem wRows_len (ll:List (List ByteArray)):(wRows ll).length=ll.length:=by simp[wRows]
theorem wflat_take {ll:List (List ByteArray)} {k:Nat} (h:k<ll.length):(ll.take (k+1)).flatten=(ll.take k).flatten++ll[k]:=by
 rw[List.take_succ_eq_append_getElem h,List.flatten_append,List.flatten_singleton]
theorem wflat_take_le (ll:List (List ByteArray)) (k:Nat):(ll.take k).flatten.length≤ll.flatten.length:=by
 have h:ll.flatten=(ll.take k).flatten++(ll.drop k).flatten:=by rw[←List.flatten_append,List.take_append_drop]
 rw[h,List.length_append];omega
theorem wcells_mem {l:List ByteArray} {x:AV} (h:x∈l.map nS):x.cells.length=1:=by
 obtain⟨t,_,rfl⟩:=List.mem_map.1 h
 rfl
theorem concatW_calls {ll:List (List ByteArray)} (h0:ll.length≤1000000000) (hn:ll.flatten.length≤1000000000):
  PureIs Tryz.prog 42 [.sl (wRows ll)] (.sl (ll.flatten.map nS)):=by
 refine pure_of_body tab_ok (fn:=Tryz.f42) Tryz.func42 rfl (by kernel_rfl) (by simp[Tryz.ntmps42]) ?_
 intro Γ hok hP hnt hh0 hfree0
 rw[Tryz.ntmps42] at hnt
 have htab:TabOk Γ.P tab:=by rw[hP];exact tab_ok
 refine AWp.seqK fun K1 hK1=>?_
 refine AWp.regionC hok htab hnt ?_
 simp only[ARunC,CStep,isRoom,nilCmp,xval,callArgs,bne_self_eq_false,  pval,heff,bopAll,bopX,cvtVal,bopVal,bopInt,lenVal,fieldsOf,ldCells,ldElem,fillCells,setCells,lookVal,mapGet,mapPut,boundOf,idxOk,lensOk,appOk,Value.cells,TK.agg,thenQ,inBlockQ,AS.put,AS.ev,startT,upd_eq,dstOk,gslot,condP,tabs,reduceIte,Nat.reduceLT,Nat.reduceEqDiff,Nat.reduceAdd,Nat.reduceLeDiff,Nat.reduceMul,Nat.reduceSub,List.getElem?_nil,List.length_nil,List.nil_append,List.append_nil,List.take_zero,List.map_nil,Option.map_none,Option.bind_none,reduceCtorEq,Int.toNat_natCast,Int.natCast_nonneg,List.not_mem_nil,retQ,resAll,resOne,resTup,AV.toDataR,wrap_succ,Int.ofNat_lt,Int.not_lt,obo1,obo2,obo3,core1,core2,core3]
 refine hK1 _ ?_
 try clear hK1 K1
 refine AWp.seqK fun K2 hK2=>?_
 refine AWp.regionC hok htab hnt ?_
 simp only[ARunC,CStep,isRoom,nilCmp,xval,callArgs,bne_self_eq_false,  pval,heff,bopAll,bopX,cvtVal,bopVal,bopInt,lenVal,fieldsOf,ldCells,ldElem,fillCells,setCells,lookVal,mapGet,mapPut,boundOf,idxOk,lensOk,appOk,Value.cells,TK.agg,thenQ,inBlockQ,AS.put,AS.ev,startT,upd_eq,dstOk,gslot,condP,tabs,reduceIte,Nat.reduceLT,Nat.reduceEqDiff,Nat.reduceAdd,Nat.reduceLeDiff,Nat.reduceMul,Nat.reduceSub,List.getElem?_nil,List.length_nil,List.nil_append,List.append_nil,List.take_zero,List.map_nil,Option.map_none,Option.bind_none,reduceCtorEq,Int.toNat_natCast,Int.natCast_nonneg,List.not_mem_nil,retQ,resAll,resOne,resTup,AV.toDataR,wrap_succ,Int.ofNat_lt,Int.not_lt,obo1,obo2,obo3,core1,core2,core3]
 refine hK2 _ ?_
 try clear hK2 K2
 refine AWp.seqK fun K3 hK3=>?_
 refine AWp.seqK fun K4 hK4=>?_
 refine AWp.regionC hok htab hnt ?_
 simp only[ARunC,CStep,isRoom,nilCmp,xval,callArgs,bne_self_eq_false,  pval,heff,bopAll,bopX,cvtVal,bopVal,bopInt,lenVal,fieldsOf,ldCells,ldElem,fillCells,setCells,lookVal,mapGet,mapPut,boundOf,idxOk,lensOk,appOk,Value.cells,TK.agg,thenQ,inBlockQ,AS.put,AS.ev,startT,upd_eq,dstOk,gslot,condP,tabs,reduceIte,Nat.reduceLT,Nat.reduceEqDiff,Nat.reduceAdd,Nat.reduceLeDiff,Nat.reduceMul,Nat.reduceSub,List.getElem?_nil,List.length_nil,List.nil_append,List.append_nil,List.take_zero,List.map_nil,Option.map_none,Option.bind_none,reduceCtorEq,Int.toNat_natCast,Int.natCast_nonneg,List.not_mem_nil,retQ,resAll,resOne,resTup,AV.toDataR,wrap_succ,Int.ofNat_lt,Int.not_lt,obo1,obo2,obo3,core1,core2,core3,wRows_len]
 refine hK4 _ ?_
 try clear hK4 K4
 refine AWp.block ?_
 refine AWp.loop (fun k:Nat=>k≤ll.length)
  (fun k=>⟨(upd (upd (upd (upd (upd (fun _=>.top) 0 (.sl (wRows ll))) 3 (.prim (.int .i64 ((ll.take k).flatten.length:Nat)))) 9 (.sl (wRows ll))) 10 (.prim (.int .i64 (ll.length:Nat)))) 11 (.prim (.int .i64 (k:Nat)))),[],()⟩)
  (fun k=>ll.length-k) 0 (Nat.zero_le _) ?_ ?_
 ·refine Weak.cut hok 0 (by omega) ?_ ?_ ?_ ?_
  ·repeat' (first|exact Sub.nil|refine Sub.upd ?_ ?_)
   all_goals rfl
  ·repeat' (first|exact ShutF.nil|refine ShutF.upd ?_ ?_)
   all_goals first|rfl|assumption|exact CapsOk.cl (by assumption) _
  ·rfl
  ·simp[AObj.closed,AV.closedC]
 ·intro k hk
  refine AWp.seqK fun K5 hK5=>?_
  refine AWp.regionC hok htab hnt ?_
  simp only[ARunC,CStep,isRoom,nilCmp,xval,callArgs,bne_self_eq_false,  pval,heff,bopAll,bopX,cvtVal,bopVal,bopInt,lenVal,fieldsOf,ldCells,ldElem,fillCells,setCells,lookVal,mapGet,mapPut,boundOf,idxOk,lensOk,appOk,Value.cells,TK.agg,thenQ,inBlockQ,AS.put,AS.ev,startT,upd_eq,dstOk,gslot,condP,tabs,reduceIte,Nat.reduceLT,Nat.reduceEqDiff,Nat.reduceAdd,Nat.reduceLeDiff,Nat.reduceMul,Nat.reduceSub,List.getElem?_nil,List.length_nil,List.nil_append,List.append_nil,List.take_zero,List.map_nil,Option.map_none,Option.bind_none,reduceCtorEq,Int.toNat_natCast,Int.natCast_nonneg,List.not_mem_nil,retQ,resAll,resOne,resTup,AV.toDataR,wrap_succ,Int.ofNat_lt,Int.not_lt,obo1,obo2,obo3,core1,core2,core3]
  refine hK5 _ ?_
  try clear hK5 K5
  refine AWp.seqK fun K6 hK6=>?_
  refine AWp.condB (by simp only[AS.ev,upd_eq,Nat.reduceEqDiff,if_true,if_false,reduceIte,reduceCtorEq];rfl) (fun hc=>?_) (fun hc=>?_)
  all_goals (try simp only[decide_eq_true_eq,decide_eq_false_iff_not,Int.ofNat_lt,Int.not_lt,Nat.not_lt,bne_iff_ne,bne_eq_false_iff_eq,ne_eq,Bool.not_eq_true',Bool.not_eq_false',Bool.and_eq_true,Bool.or_eq_true,Bool.and_eq_false_iff,Bool.or_eq_false_iff,beq_iff_eq,beq_eq_false_iff_ne,Bool.not_eq_eq_eq_not,Bool.not_true,Bool.not_false] at hc)  
  ·refine AWp.skip ?_
   refine hK6 _ ?_
   try clear hK6 K6
   have hg:=wRows_getD hc
   have hle:=wflat_take_le ll (k+1)
   have hft:=wflat_take hc
   have hln:(ll.take (k+1)).flatten.length=(ll.take k).flatten.length+ll[k].length:=by rw[hft,List.length_append]
   refine AWp.seqK fun K7 hK7=>?_
   refine AWp.block ?_
   refine AWp.seqK fun K8 hK8=>?_
   refine AWp.regionC hok htab hnt ?_
   simp only[ARunC,CStep,isRoom,nilCmp,xval,callArgs,bne_self_eq_false,  pval,heff,bopAll,bopX,cvtVal,bopVal,bopInt,lenVal,fieldsOf,ldCells,ldElem,fillCells,setCells,lookVal,mapGet,mapPut,boundOf,idxOk,lensOk,appOk,Value.cells,TK.agg,thenQ,inBlockQ,AS.put,AS.ev,startT,upd_eq,dstOk,gslot,condP,tabs,reduceIte,Nat.reduceLT,Nat.reduceEqDiff,Nat.reduceAdd,Nat.reduceLeDiff,Nat.reduceMul,Nat.reduceSub,List.getElem?_nil,List.length_nil,List.nil_append,List.append_nil,List.take_zero,List.map_nil,Option.map_none,Option.bind_none,reduceCtorEq,Int.toNat_natCast,Int.natCast_nonneg,List.not_mem_nil,retQ,resAll,resOne,resTup,AV.toDataR,wrap_succ,Int.ofNat_lt,Int.not_lt,obo1,obo2,obo3,core1,core2,core3,hg,wRows_len]
   refine⟨by omega,?_⟩ 
   refine hK8 _ ?_
   try clear hK8 K8
   refine AWp.seqK fun K9 hK9=>?_
   have hw:IntKind.i64.wrap (((ll.take k).flatten.length:Int)+(ll[k].length:Int))=(((ll.take (k+1)).flatten.length:Nat):Int):=by
    rw[IntWalk.i64_in _ (by omega)];omega
   refine AWp.regionC hok htab hnt ?_
   simp only[ARunC,CStep,isRoom,nilCmp,xval,callArgs,bne_self_eq_false,  pval,heff,bopAll,bopX,cvtVal,bopVal,bopInt,lenVal,fieldsOf,ldCells,ldElem,fillCells,setCells,lookVal,mapGet,mapPut,boundOf,idxOk,lensOk,appOk,Value.cells,TK.agg,thenQ,inBlockQ,AS.put,AS.ev,startT,upd_eq,dstOk,gslot,condP,tabs,reduceIte,Nat.reduceLT,Nat.reduceEqDiff,Nat.reduceAdd,Nat.reduceLeDiff,Nat.reduceMul,Nat.reduceSub,List.getElem?_nil,List.length_nil,List.nil_append,List.append_nil,List.take_zero,List.map_nil,Option.map_none,Option.bind_none,reduceCtorEq,Int.toNat_natCast,Int.natCast_nonneg,List.not_mem_nil,retQ,resAll,resOne,resTup,AV.toDataR,wrap_succ,Int.ofNat_lt,Int.not_lt,obo1,obo2,obo3,core1,core2,core3,hw]
   refine hK9 _ ?_
   try clear hK9 K9
   refine AWp.seqK fun K10 hK10=>?_
   refine AWp.regionC hok htab hnt ?_
   simp only[ARunC,CStep,isRoom,nilCmp,xval,callArgs,bne_self_eq_false,  pval,heff,bopAll,bopX,cvtVal,bopVal,bopInt,lenVal,fieldsOf,ldCells,ldElem,fillCells,setCells,lookVal,mapGet,mapPut,boundOf,idxOk,lensOk,appOk,Value.cells,TK.agg,thenQ,inBlockQ,AS.put,AS.ev,startT,upd_eq,dstOk,gslot,condP,tabs,reduceIte,Nat.reduceLT,Nat.reduceEqDiff,Nat.reduceAdd,Nat.reduceLeDiff,Nat.reduceMul,Nat.reduceSub,List.getElem?_nil,List.length_nil,List.nil_append,List.append_nil,List.take_zero,List.map_nil,Option.map_none,Option.bind_none,reduceCtorEq,Int.toNat_natCast,Int.natCast_nonneg,List.not_mem_nil,retQ,resAll,resOne,resTup,AV.toDataR,wrap_succ,Int.ofNat_lt,Int.not_lt,obo1,obo2,obo3,core1,core2,core3]
   refine hK10 _ ?_
   try clear hK10 K10
   refine AWp.condB (by simp only[AS.ev,upd_eq,Nat.reduceEqDiff,if_true,if_false,reduceIte,reduceCtorEq];rfl) (fun hc=>?_) (fun hc=>?_)
   all_goals (try simp only[decide_eq_true_eq,decide_eq_false_iff_not,Int.ofNat_lt,Int.not_lt,Nat.not_lt,bne_iff_ne,bne_eq_false_iff_eq,ne_eq,Bool.not_eq_true',Bool.not_eq_false',Bool.and_eq_true,Bool.or_eq_true,Bool.and_eq_false_iff,Bool.or_eq_false_iff,beq_iff_eq,beq_eq_false_iff_ne,Bool.not_eq_eq_eq_not,Bool.not_true,Bool.not_false] at hc)  
   ·exfalso;omega
   ·refine AWp.skip ?_
    refine hK7 _ ?_
    try clear hK7 K7
    have hw1:IntKind.i64.wrap ((k:Int)+1)=((k+1:Nat):Int):=wrap_succ (by omega)
    refine AWp.regionC hok htab hnt ?_
    simp only[ARunC,CStep,isRoom,nilCmp,xval,callArgs,bne_self_eq_false,  pval,heff,bopAll,bopX,cvtVal,bopVal,bopInt,lenVal,fieldsOf,ldCells,ldElem,fillCells,setCells,lookVal,mapGet,mapPut,boundOf,idxOk,lensOk,appOk,Value.cells,TK.agg,thenQ,inBlockQ,AS.put,AS.ev,startT,upd_eq,dstOk,gslot,condP,tabs,reduceIte,Nat.reduceLT,Nat.reduceEqDiff,Nat.reduceAdd,Nat.reduceLeDiff,Nat.reduceMul,Nat.reduceSub,List.getElem?_nil,List.length_nil,List.nil_append,List.append_nil,List.take_zero,List.map_nil,Option.map_none,Option.bind_none,reduceCtorEq,Int.toNat_natCast,Int.natCast_nonneg,List.not_mem_nil,retQ,resAll,resOne,resTup,AV.toDataR,wrap_succ,Int.ofNat_lt,Int.not_lt,obo1,obo2,obo3,core1,core2,core3,hw1]
    refine⟨k+1,by omega,?_,by omega⟩
    refine Weak.cut hok 0 (by omega) ?_ ?_ ?_ ?_
    ·repeat' (first|exact Sub.nil|refine Sub.upd ?_ ?_)
     all_goals rfl
    ·repeat' (first|exact ShutF.nil|refine ShutF.upd ?_ ?_)
     all_goals first|rfl|assumption|exact CapsOk.cl (by assumption) _
    ·rfl
    ·simp[AObj.closed,AV.closedC]
  ·obtain rfl:k=ll.length:=by omega
   refine AWp.exit ?_
   simp only[ARunC,CStep,isRoom,nilCmp,xval,callArgs,bne_self_eq_false,  pval,heff,bopAll,bopX,cvtVal,bopVal,bopInt,lenVal,fieldsOf,ldCells,ldElem,fillCells,setCells,lookVal,mapGet,mapPut,boundOf,idxOk,lensOk,appOk,Value.cells,TK.agg,thenQ,inBlockQ,AS.put,AS.ev,startT,upd_eq,dstOk,gslot,condP,tabs,reduceIte,Nat.reduceLT,Nat.reduceEqDiff,Nat.reduceAdd,Nat.reduceLeDiff,Nat.reduceMul,Nat.reduceSub,List.getElem?_nil,List.length_nil,List.nil_append,List.append_nil,List.take_zero,List.map_nil,Option.map_none,Option.bind_none,reduceCtorEq,Int.toNat_natCast,Int.natCast_nonneg,List.not_mem_nil,retQ,resAll,resOne,resTup,AV.toDataR,wrap_succ,Int.ofNat_lt,Int.not_lt,obo1,obo2,obo3,core1,core2,core3]
   refine hK3 _ ?_
   try clear hK3 K3
   refine AWp.seqK fun K11 hK11=>?_
   refine AWp.regionC hok htab hnt ?_
   simp only[ARunC,CStep,isRoom,nilCmp,xval,callArgs,bne_self_eq_false,  pval,heff,bopAll,bopX,cvtVal,bopVal,bopInt,lenVal,fieldsOf,ldCells,ldElem,fillCells,setCells,lookVal,mapGet,mapPut,boundOf,idxOk,lensOk,appOk,Value.cells,TK.agg,thenQ,inBlockQ,AS.put,AS.ev,startT,upd_eq,dstOk,gslot,condP,tabs,reduceIte,Nat.reduceLT,Nat.reduceEqDiff,Nat.reduceAdd,Nat.reduceLeDiff,Nat.reduceMul,Nat.reduceSub,List.getElem?_nil,List.length_nil,List.nil_append,List.append_nil,List.take_zero,List.map_nil,Option.map_none,Option.bind_none,reduceCtorEq,Int.toNat_natCast,Int.natCast_nonneg,List.not_mem_nil,retQ,resAll,resOne,resTup,AV.toDataR,wrap_succ,Int.ofNat_lt,Int.not_lt,obo1,obo2,obo3,core1,core2,core3,List.take_length]
   have hcall:=growW_calls (hp:=[]) hn (by simp)
   rw[←hP] at hcall
   refine .inr ⟨_,hcall,?_⟩ 
   rintro r hp' ⟨rfl,rfl⟩
   refine ARunC.sound hok htab hnt _ _ ?_
   simp only[ARunC,CStep,isRoom,nilCmp,xval,callArgs,bne_self_eq_false,  pval,heff,bopAll,bopX,cvtVal,bopVal,bopInt,lenVal,fieldsOf,ldCells,ldElem,fillCells,setCells,lookVal,mapGet,mapPut,boundOf,idxOk,lensOk,appOk,Value.cells,TK.agg,thenQ,inBlockQ,AS.put,AS.ev,startT,upd_eq,dstOk,gslot,condP,tabs,reduceIte,Nat.reduceLT,Nat.reduceEqDiff,Nat.reduceAdd,Nat.reduceLeDiff,Nat.reduceMul,Nat.reduceSub,List.getElem?_nil,List.length_nil,List.nil_append,List.append_nil,List.take_zero,List.map_nil,Option.map_none,Option.bind_none,reduceCtorEq,Int.toNat_natCast,Int.natCast_nonneg,List.not_mem_nil,retQ,resAll,resOne,resTup,AV.toDataR,wrap_succ,Int.ofNat_lt,Int.not_lt,obo1,obo2,obo3,core1,core2,core3]
   refine hK11 _ ?_
   try clear hK11 K11
   refine AWp.seqK fun K12 hK12=>?_
   refine AWp.seqK fun K13 hK13=>?_
   refine AWp.regionC hok htab hnt ?_
   simp only[ARunC,CStep,isRoom,nilCmp,xval,callArgs,bne_self_eq_false,  pval,heff,bopAll,bopX,cvtVal,bopVal,bopInt,lenVal,fieldsOf,ldCells,ldElem,fillCells,setCells,lookVal,mapGet,mapPut,boundOf,idxOk,lensOk,appOk,Value.cells,TK.agg,thenQ,inBlockQ,AS.put,AS.ev,startT,upd_eq,dstOk,gslot,condP,tabs,reduceIte,Nat.reduceLT,Nat.reduceEqDiff,Nat.reduceAdd,Nat.reduceLeDiff,Nat.reduceMul,Nat.reduceSub,List.getElem?_nil,List.length_nil,List.nil_append,List.append_nil,List.take_zero,List.map_nil,Option.map_none,Option.bind_none,reduceCtorEq,Int.toNat_natCast,Int.natCast_nonneg,List.not_mem_nil,retQ,resAll,resOne,resTup,AV.toDataR,wrap_succ,Int.ofNat_lt,Int.not_lt,obo1,obo2,obo3,core1,core2,core3,wRows_len]
   refine hK13 _ ?_
   try clear hK13 K13
   refine AWp.block ?_
   refine AWp.loop (fun k:Nat=>k≤ll.length)
    (fun k=>⟨(upd (upd (upd (upd (fun _=>.top) 6 (.own 0 (ll.take k).flatten.length)) 25 (.sl (wRows ll))) 26 (.prim (.int .i64 (ll.length:Nat)))) 27 (.prim (.int .i64 (k:Nat)))),[.row 9 1 ((ll.take k).flatten.map nS)],()⟩)
    (fun k=>ll.length-k) 0 (Nat.zero_le _) ?_ ?_
   ·refine Weak.cut hok 1 (by omega) ?_ ?_ ?_ ?_
    ·repeat' (first|exact Sub.nil|refine Sub.upd ?_ ?_)
     all_goals rfl
    ·repeat' (first|exact ShutF.nil|refine ShutF.upd ?_ ?_)
     all_goals first|rfl|assumption|exact CapsOk.cl (by assumption) _
    ·rfl
    ·simp[AObj.closed,AV.closedC]
   ·intro k hk
    refine AWp.seqK fun K14 hK14=>?_
    refine AWp.regionC hok htab hnt ?_
    simp only[ARunC,CStep,isRoom,nilCmp,xval,callArgs,bne_self_eq_false,  pval,heff,bopAll,bopX,cvtVal,bopVal,bopInt,lenVal,fieldsOf,ldCells,ldElem,fillCells,setCells,lookVal,mapGet,mapPut,boundOf,idxOk,lensOk,appOk,Value.cells,TK.agg,thenQ,inBlockQ,AS.put,AS.ev,startT,upd_eq,dstOk,gslot,condP,tabs,reduceIte,Nat.reduceLT,Nat.reduceEqDiff,Nat.reduceAdd,Nat.reduceLeDiff,Nat.reduceMul,Nat.reduceSub,List.getElem?_nil,List.length_nil,List.nil_append,List.append_nil,List.take_zero,List.map_nil,Option.map_none,Option.bind_none,reduceCtorEq,Int.toNat_natCast,Int.natCast_nonneg,List.not_mem_nil,retQ,resAll,resOne,resTup,AV.toDataR,wrap_succ,Int.ofNat_lt,Int.not_lt,obo1,obo2,obo3,core1,core2,core3]
    refine hK14 _ ?_
    try clear hK14 K14
    refine AWp.seqK fun K15 hK15=>?_
    refine AWp.condB (by simp only[AS.ev,upd_eq,Nat.reduceEqDiff,if_true,if_false,reduceIte,reduceCtorEq];rfl) (fun hc=>?_) (fun hc=>?_)
    all_goals (try simp only[decide_eq_true_eq,decide_eq_false_iff_not,Int.ofNat_lt,Int.not_lt,Nat.not_lt,bne_iff_ne,bne_eq_false_iff_eq,ne_eq,Bool.not_eq_true',Bool.not_eq_false',Bool.and_eq_true,Bool.or_eq_true,Bool.and_eq_false_iff,Bool.or_eq_false_iff,beq_iff_eq,beq_eq_false_iff_ne,Bool.not_eq_eq_eq_not,Bool.not_true,Bool.not_false] at hc)  
    ·refine AWp.skip ?_
     refine hK15 _ ?_
     try clear hK15 K15
     have hg:=wRows_getD hc
     have hle:=wflat_take_le ll (k+1)
     have hft:=wflat_take hc
     have hln:(ll.take (k+1)).flatten.length=(ll.take k).flatten.length+ll[k].length:=by rw[hft,List.length_append]
     refine AWp.seqK fun K16 hK16=>?_
     refine AWp.block ?_
     refine AWp.seqK fun K17 hK17=>?_
     refine AWp.regionC hok htab hnt ?_
     simp only[ARunC,CStep,isRoom,nilCmp,xval,callArgs,bne_self_eq_false,  pval,heff,bopAll,bopX,cvtVal,bopVal,bopInt,lenVal,fieldsOf,ldCells,ldElem,fillCells,setCells,lookVal,mapGet,mapPut,boundOf,idxOk,lensOk,appOk,Value.cells,TK.agg,thenQ,inBlockQ,AS.put,AS.ev,startT,upd_eq,dstOk,gslot,condP,tabs,reduceIte,Nat.reduceLT,Nat.reduceEqDiff,Nat.reduceAdd,Nat.reduceLeDiff,Nat.reduceMul,Nat.reduceSub,List.getElem?_nil,List.length_nil,List.nil_append,List.append_nil,List.take_zero,List.map_nil,Option.map_none,Option.bind_none,reduceCtorEq,Int.toNat_natCast,Int.natCast_nonneg,List.not_mem_nil,retQ,resAll,resOne,resTup,AV.toDataR,wrap_succ,Int.ofNat_lt,Int.not_lt,obo1,obo2,obo3,core1,core2,core3,hg,wRows_len]
     refine⟨by omega,?_⟩ 
     refine hK17 _ ?_
     try clear hK17 K17
     refine AWp.regionC hok htab hnt ?_
     simp only[ARunC,CStep,isRoom,nilCmp,xval,callArgs,bne_self_eq_false,  pval,heff,bopAll,bopX,cvtVal,bopVal,bopInt,lenVal,fieldsOf,ldCells,ldElem,fillCells,setCells,lookVal,mapGet,mapPut,boundOf,idxOk,lensOk,appOk,Value.cells,TK.agg,thenQ,inBlockQ,AS.put,AS.ev,startT,upd_eq,dstOk,gslot,condP,tabs,reduceIte,Nat.reduceLT,Nat.reduceEqDiff,Nat.reduceAdd,Nat.reduceLeDiff,Nat.reduceMul,Nat.reduceSub,List.getElem?_nil,List.length_nil,List.nil_append,List.append_nil,List.take_zero,List.map_nil,Option.map_none,Option.bind_none,reduceCtorEq,Int.toNat_natCast,Int.natCast_nonneg,List.not_mem_nil,retQ,resAll,resOne,resTup,AV.toDataR,wrap_succ,Int.ofNat_lt,Int.not_lt,obo1,obo2,obo3,core1,core2,core3]
     refine⟨⟨fun x hx=>wcells_mem hx,by simp only[maxLen];omega,by omega⟩,?_⟩
     refine hK16 _ ?_
     try clear hK16 K16
     have hw1:IntKind.i64.wrap ((k:Int)+1)=((k+1:Nat):Int):=wrap_succ (by omega)
     refine AWp.regionC hok htab hnt ?_
     simp only[ARunC,CStep,isRoom,nilCmp,xval,callArgs,bne_self_eq_false,  pval,heff,bopAll,bopX,cvtVal,bopVal,bopInt,lenVal,fieldsOf,ldCells,ldElem,fillCells,setCells,lookVal,mapGet,mapPut,boundOf,idxOk,lensOk,appOk,Value.cells,TK.agg,thenQ,inBlockQ,AS.put,AS.ev,startT,upd_eq,dstOk,gslot,condP,tabs,reduceIte,Nat.reduceLT,Nat.reduceEqDiff,Nat.reduceAdd,Nat.reduceLeDiff,Nat.reduceMul,Nat.reduceSub,List.getElem?_nil,List.length_nil,List.nil_append,List.append_nil,List.take_zero,List.map_nil,Option.map_none,Option.bind_none,reduceCtorEq,Int.toNat_natCast,Int.natCast_nonneg,List.not_mem_nil,retQ,resAll,resOne,resTup,AV.toDataR,wrap_succ,Int.ofNat_lt,Int.not_lt,obo1,obo2,obo3,core1,core2,core3,hw1]
     refine⟨k+1,by omega,?_,by omega⟩
     rw[←hln]
     refine Weak.cut hok 1 (by omega) ?_ ?_ ?_ ?_
     ·repeat' (first|exact Sub.nil|refine Sub.upd ?_ ?_)
      all_goals rfl
     ·repeat' (first|exact ShutF.nil|refine ShutF.upd ?_ ?_)
      all_goals first|rfl|assumption|exact CapsOk.cl (by assumption) _
     ·rw[hft,List.map_append];rfl
     ·simp[AObj.closed,AV.closedC]
    ·obtain rfl:k=ll.length:=by omega
     refine AWp.exit ?_
     simp only[ARunC,CStep,isRoom,nilCmp,xval,callArgs,bne_self_eq_false,  pval,heff,bopAll,bopX,cvtVal,bopVal,bopInt,lenVal,fieldsOf,ldCells,ldElem,fillCells,setCells,lookVal,mapGet,mapPut,boundOf,idxOk,lensOk,appOk,Value.cells,TK.agg,thenQ,inBlockQ,AS.put,AS.ev,startT,upd_eq,dstOk,gslot,condP,tabs,reduceIte,Nat.reduceLT,Nat.reduceEqDiff,Nat.reduceAdd,Nat.reduceLeDiff,Nat.reduceMul,Nat.reduceSub,List.getElem?_nil,List.length_nil,List.nil_append,List.append_nil,List.take_zero,List.map_nil,Option.map_none,Option.bind_none,reduceCtorEq,Int.toNat_natCast,Int.natCast_nonneg,List.not_mem_nil,retQ,resAll,resOne,resTup,AV.toDataR,wrap_succ,Int.ofNat_lt,Int.not_lt,obo1,obo2,obo3,core1,core2,core3]
     refine hK12 _ ?_
     try clear hK12 K12
     refine AWp.seqK fun K18 hK18=>?_
     refine AWp.regionC hok htab hnt ?_
     simp only[ARunC,CStep,isRoom,nilCmp,xval,callArgs,bne_self_eq_false,  pval,heff,bopAll,bopX,cvtVal,bopVal,bopInt,lenVal,fieldsOf,ldCells,ldElem,fillCells,setCells,lookVal,mapGet,mapPut,boundOf,idxOk,lensOk,appOk,Value.cells,TK.agg,thenQ,inBlockQ,AS.put,AS.ev,startT,upd_eq,dstOk,gslot,condP,tabs,reduceIte,Nat.reduceLT,Nat.reduceEqDiff,Nat.reduceAdd,Nat.reduceLeDiff,Nat.reduceMul,Nat.reduceSub,List.getElem?_nil,List.length_nil,List.nil_append,List.append_nil,List.take_zero,List.map_nil,Option.map_none,Option.bind_none,reduceCtorEq,Int.toNat_natCast,Int.natCast_nonneg,List.not_mem_nil,retQ,resAll,resOne,resTup,AV.toDataR,wrap_succ,Int.ofNat_lt,Int.not_lt,obo1,obo2,obo3,core1,core2,core3]
     refine hK18 _ ?_
     try clear hK18 K18
     refine AWp.ret ?_
     simp only[ARunC,CStep,isRoom,nilCmp,xval,callArgs,bne_self_eq_false,  pval,heff,bopAll,bopX,cvtVal,bopVal,bopInt,lenVal,fieldsOf,ldCells,ldElem,fillCells,setCells,lookVal,mapGet,mapPut,boundOf,idxOk,lensOk,appOk,Value.cells,TK.agg,thenQ,inBlockQ,AS.put,AS.ev,startT,upd_eq,dstOk,gslot,condP,tabs,reduceIte,Nat.reduceLT,Nat.reduceEqDiff,Nat.reduceAdd,Nat.reduceLeDiff,Nat.reduceMul,Nat.reduceSub,List.getElem?_nil,List.length_nil,List.nil_append,List.append_nil,List.take_zero,List.map_nil,Option.map_none,Option.bind_none,reduceCtorEq,Int.toNat_natCast,Int.natCast_nonneg,List.not_mem_nil,retQ,resAll,resOne,resTup,AV.toDataR,wrap_succ,Int.ofNat_lt,Int.not_lt,obo1,obo2,obo3,core1,core2,core3,Tryz.results42,List.take_length]
end Go.Proofs.YtghnkppcncbddaaGreatDoor

namespace Go.Proofs.YtghnkppcncbddaaGreatDoor
open Go
set_option linter.unusedSimpArgs false
set_option linter.unusedVariables false
inductive Rw where
 |mk (kind:Int) (type:Ty) (index:Int) (kids:List Rw)
mutual
def Rw.size:Rw→Nat
 | .mk _ _ _ l=>1+Rw.sizes l
def Rw.sizes:List Rw→Nat
 | []=>0
 |t::l=>Rw.size t+Rw.sizes l
end
def Rw.kids:Rw→List Rw | .mk _ _ _ l=>l
theorem Rw.size_eq (r:Rw):r.size=1+Rw.sizes r.kids:=by cases r;rfl
end Go.Proofs.YtghnkppcncbddaaGreatDoor

namespace Go.Proofs.YtghnkppcncbddaaGreatDoor
open Go
set_option linter.unusedSimpArgs false
set_option linter.unusedVariables false
def encP (p:Nat×Ty):List AV:=[nI p.1,.agg [.sl (p.2.args.map Ty.enc),nI p.2.base]]
def encE (p:Nat×Ty):Int×(List AV×Int×Unit)×Unit:=(p.1,(p.2.args.map Ty.enc,p.2.base,()),())
end Go.Proofs.YtghnkppcncbddaaGreatDoor

namespace Go.Proofs.YtghnkppcncbddaaGreatDoor
open Go
set_option linter.unusedSimpArgs false
set_option linter.unusedVariables false
abbrev noT:Ty:=.mk [] 0
end Go.Proofs.YtghnkppcncbddaaGreatDoor

namespace Go.Proofs.YtghnkppcncbddaaGreatDoor
open Go
set_option linter.unusedSimpArgs false
set_option linter.unusedVariables false
theorem ofKind_calls {b:Int} {l:List Ty} (h:Ty.sizes l≤500000000):PureIs Tryz.prog 32 [nI b,.sl (l.map Ty.enc)] (.agg [.sl (l.map Ty.enc),nI b]):=by
 have hc:=copied_calls _ (.mk l b) (Nat.le_refl _) (by simp only[Ty.size];omega)
 rw[Ty.enc_mk] at hc
 exact vc32_ok ⟨_,_,hc,rfl⟩
mutual
def Tm.pre (a d:Nat):Tm→List ((Nat×Nat)×Tm)
 | .mk b k i l=>((a+b.length,d),.mk b k i l)::Tm.pres (a+b.length) (d+1) l
def Tm.pres (a d:Nat):List Tm→List ((Nat×Nat)×Tm)
 | []=>[]
 |t::l=>Tm.pre a d t++Tm.pres a d l
end
theorem Tm.pre_eq (a d:Nat) (t:Tm):t.pre a d=((a+t.binds.length,d),t)::Tm.pres (a+t.binds.length) (d+1) t.args:=by cases t;rfl
theorem Tm.pres_drop {a d:Nat} {l:List Tm} {k:Nat} (h:k<l.length):Tm.pres a d (l.drop k)=l[k].pre a d++Tm.pres a d (l.drop (k+1)):=by
 rw[List.drop_eq_getElem_cons h,Tm.pres]
def encQ (p:(Nat×Nat)×Tm):List AV:=[.agg [nI p.1.1,nI p.1.2],.agg [.sl (p.2.binds.map Ty.enc),nI p.2.kind,nI p.2.index,.sl (p.2.args.map Tm.enc)]]
def encQE (p:(Nat×Nat)×Tm):(Int×Int×Unit)×(List AV×Int×Int×List AV×Unit)×Unit:=((p.1.1,p.1.2,()),(p.2.binds.map Ty.enc,p.2.kind,p.2.index,p.2.args.map Tm.enc,()),())
theorem tdown_calls:∀(n:Nat) (t:Tm) (a d:Nat),t.size≤n→a+t.size≤1000000000→d+t.size≤1000000000→YFn Tryz.prog 117 (fun v=>[.agg [.sl (t.binds.map Ty.enc),nI t.kind,nI t.index,.sl (t.args.map Tm.enc)],.agg [nI a,nI d],v]) ((t.pre a d).map encQ) true:=by
 intro n
 induction n with
 |zero=>intro t a d h;have:=t.size_pos;omega
 |succ n ih=>
  intro t a d h ha hd
  have hq:=Tm.sizes_len t.args
  have hq2:=Ty.sizes_len t.binds
  have hts:=t.size_eq
  have hw:IntKind.wrap .i64 ((a:Int)+((List.length (t.binds.map Ty.enc):Nat):Int))=((a+t.binds.length:Nat):Int):=by
   rw[List.length_map,wrap_i (by omega) (by omega)];omega
  refine vc117_ok fun yv more=>?_
  unfold vc117
  rw[hw,wrap_n (by omega)]
  refine⟨rfl,(Tm.pres (a+t.binds.length) (d+1) t.args).map encQ++more,by rw[Tm.pre_eq];rfl,fun b=>ITE.intro (fun h=>?_) fun h=>?_⟩
  ·have:b=false:=by simpa using h
   subst this;rfl
  ·have:b=true:=by simpa using h
   subst this
   refine LoopP.intro (fun k:Nat=>(((yv,(),t.args.map Tm.enc,(t.args.length:Int),(k:Int),()),((t.binds.map Ty.enc,t.kind,t.index,t.args.map Tm.enc,()),(((a+t.binds.length:Nat):Int),((d+1:Nat):Int),()),())),some ((Tm.pres (a+t.binds.length) (d+1) (t.args.drop k)).map encQ++more))) (fun k=>k≤t.args.length) (fun k=>t.args.length-k) 0 (by rw[List.length_map];rfl) (Nat.zero_le _) ?_
   intro k hk again hag
   dsimp only
   rw[List.length_map]
   refine ITE.intro (fun h=>?_) fun h=>?_
   ·have hlt:k<t.args.length:=by simpa using h
    have hsm:=Tm.sizes_mem (List.getElem_mem hlt)
    have hi:=ih t.args[k] (a+t.binds.length) (d+1) (by omega) (by omega) (by omega)
    refine⟨by omega,by omega,_,_,_,_,Tm.enc_getD hlt,_,_,(Tm.pres (a+t.binds.length) (d+1) (t.args.drop (k+1))).map encQ++more,rfl,hi,?_,fun b=>ITE.intro (fun h=>?_) fun h=>?_⟩
    ·rw[Tm.pres_drop hlt,List.map_append,List.append_assoc]
    ·have:b=false:=by simpa using h
     subst this;rfl
    ·have:b=true:=by simpa using h
     subst this
     rw[wrap_n (by omega)]
     exact hag (k+1) (by omega) (by omega)
   ·have:t.args.length≤k:=by simpa using h
    rw[List.drop_eq_nil_of_le this];rfl
theorem teach1_calls {t:Tm} (h:t.size≤500000000):YFn Tryz.prog 116 (fun v=>[v,.eptr (.agg [.sl (t.binds.map Ty.enc),nI t.kind,nI t.index,.sl (t.args.map Tm.enc)]) 0]) ((t.pre 0 1).map encQ) false:=
 vc116_ok fun yv more=>⟨_,_,more,rfl,tdown_calls _ t 0 1 (Nat.le_refl _) (by omega) (by omega),rfl,fun b=>⟨b,rfl⟩⟩
theorem teach_calls (t:Tm):PureIs Tryz.prog 76 [.agg [.sl (t.binds.map Ty.enc),nI t.kind,nI t.index,.sl (t.args.map Tm.enc)]] (.clo 116 [.eptr (.agg [.sl (t.binds.map Ty.enc),nI t.kind,nI t.index,.sl (t.args.map Tm.enc)]) 0]):=vc76_ok rfl
theorem teach_seq {t:Tm} (h:t.size≤500000000):SeqIs Tryz.prog 116 [.eptr (.agg [.sl (t.binds.map Ty.enc),nI t.kind,nI t.index,.sl (t.args.map Tm.enc)]) 0] [.v (.a [.i .i64,.i .i64]),.v (.a [.l,.i .i64,.i .i64,.l])] ((t.pre 0 1).map encQE):=
 seqIs_of (prm:=[.v (.a [.i .i64,.i .i64]),.v (.a [.l,.i .i64,.i .i64,.l])]) encQE (teach1_calls h)
def trest:Nat→List ((Nat×Nat)×Tm)→Bool
 |_,[]=>true
 |n,p::l=>if n+1>5000 then false else if p.1.2>60 then false else trest (n+1) l
theorem tright_calls {t:Tm} (h:t.size≤500000000):PureIs Tryz.prog 40 [.agg [.sl (t.binds.map Ty.enc),nI t.kind,nI t.index,.sl (t.args.map Tm.enc)]] (nB (trest 0 (t.pre 0 1))):=by
 refine vc40_ok ⟨teach_calls t,?_⟩
 refine RangeP.intro2 (fun n:Nat=>((t.binds.map Ty.enc,t.kind,t.index,t.args.map Tm.enc,()),(false,()),((n:Int),()),())) encQE (t.pre 0 1) (teach_seq h) (fun r n=>n≤5000∧trest 0 (t.pre 0 1)=trest n r) 0 rfl ⟨by omega,rfl⟩ (fun p r n ⟨hI,hk⟩ again hag=>?_) fun n ⟨hI,hk⟩=>?_
 ·rw[trest] at hk
  dsimp only[encQE]
  rw[wrap_n (by omega)]
  refine ITE.intro (fun h1=>?_) fun h1=>ITE.intro (fun h2=>?_) fun h2=>?_
  ·have:n+1>5000:=by have:=of_decide_eq_true h1;omega
   rw[hk,if_pos this]
  ·have g:¬n+1>5000:=by have:=of_decide_eq_false h1;omega
   have:p.1.2>60:=by have:=of_decide_eq_true h2;omega
   rw[hk,if_neg g,if_pos this]
  ·have g:¬n+1>5000:=by have:=of_decide_eq_false h1;omega
   have g2:¬p.1.2>60:=by have:=of_decide_eq_false h2;omega
   rw[if_neg g,if_neg g2] at hk
   exact hag (n+1) ⟨by omega,hk⟩
 ·rw[hk];rfl
end Go.Proofs.YtghnkppcncbddaaGreatDoor

namespace Go.Proofs.YtghnkppcncbddaaGreatDoor
open Go
set_option linter.unusedSimpArgs false
set_option linter.unusedVariables false
def bwL (l:List Ty):Nat→List (Nat×Ty)
 |0=>[]
 |k+1=>(k,l.getD k noT)::bwL l k
theorem getD_ty {l:List Ty} {k:Nat} (h:k<l.length):l.getD k noT=l[k]:=by simp[List.getD,h]
theorem backward_calls (l:List Ty):PureIs Tryz.prog 38 [.sl (l.map Ty.enc)] (.clo 74 [.eptr (.sl (l.map Ty.enc)) 0]):=vc38_ok rfl
theorem backward1_calls {l:List Ty} (h:l.length≤1000000000):YFn Tryz.prog 74 (fun v=>[v,.eptr (.sl (l.map Ty.enc)) 0]) ((bwL l l.length).map encP) false:=by
 refine vc74_ok fun yv more=>⟨rfl,?_⟩
 refine LoopP.intro (fun k:Nat=>(((yv,(),(k:Int)-1,()),()),some ((bwL l k).map encP++more))) (fun k=>k≤l.length) (fun k=>k) l.length (by rw[List.length_map,wrap_i (by omega) (by omega)]) (Nat.le_refl _) ?_
 intro k hk again hag
 dsimp only
 rw[List.length_map]
 refine ITE.intro (fun h=>?_) fun h=>?_
 ·have h':(k:Int)-1≥0:=of_decide_eq_true h
  obtain⟨j,rfl⟩:∃j,k=j+1:=⟨k-1,by omega⟩
  have hlt:j<l.length:=by omega
  have e:((j+1:Nat):Int)-1=(j:Int):=by omega
  rw[e]
  refine⟨by omega,by omega,_,_,Ty.enc_getD hlt,rfl,(bwL l j).map encP++more,by rw[bwL,getD_ty hlt];rfl,fun b=>ITE.intro (fun h=>?_) fun h=>?_⟩
  ·have:b=false:=by simpa using h
   subst this
   exact⟨false,rfl⟩
  ·have:b=true:=by simpa using h
   subst this
   refine⟨rfl,?_⟩
   rw[wrap_i (n:=(j:Int)-1) (by omega) (by omega)]
   exact hag j (by omega) (by omega)
 ·have h':¬(k:Int)-1≥0:=of_decide_eq_false h
  have:k=0:=by omega
  subst this
  exact⟨true,rfl⟩
theorem backward_seq {l:List Ty} (h:l.length≤1000000000):SeqIs Tryz.prog 74 [.eptr (.sl (l.map Ty.enc)) 0] [.v (.c (.i .i64)),.v (.a [.l,.i .i64])] ((bwL l l.length).map encE):=
 seqIs_of (prm:=[.v (.c (.i .i64)),.v (.a [.l,.i .i64])]) encE (backward1_calls h)
theorem kindOf_calls (b:Int):PureIs Tryz.prog 32 [nI b,.sl []] (.agg [.sl [],nI b]):=by
 have hc:=copied_calls _ (.mk [] b) (Nat.le_refl _) (by simp[Ty.size,Ty.sizes])
 rw[Ty.enc_mk] at hc
 exact vc32_ok ⟨_,_,hc,rfl⟩
end Go.Proofs.YtghnkppcncbddaaGreatDoor

namespace Go.Proofs.YtghnkppcncbddaaGreatDoor
open Go
set_option linter.unusedSimpArgs false
set_option linter.unusedVariables false
mutual
def etaT:Int→Int→Ty→Tm
 |k,i,.mk l _=>.mk l k (if k=0 then IntKind.wrap .i64 (i+(l.length:Nat)) else i) (etaTs l.length 0 l)
def etaTs (n:Nat):Nat→List Ty→List Tm
 |_,[]=>[]
 |j,t::r=>etaT 0 ((n:Int)-1-j) t::etaTs n (j+1) r
end
theorem etaT_eq (k i:Int) (t:Ty):etaT k i t=.mk t.args k (if k=0 then IntKind.wrap .i64 (i+(t.args.length:Nat)) else i) (etaTs t.args.length 0 t.args):=by cases t;rw[etaT];rfl
theorem etaTs_len (n:Nat):∀(l:List Ty) (j:Nat),(etaTs n j l).length=l.length
 | [],_=>rfl
 |t::l,j=>by rw[etaTs,List.length_cons,List.length_cons,etaTs_len n l]
theorem etaTs_get (n:Nat):∀(l:List Ty) (j k:Nat) (h:k<l.length),(etaTs n j l)[k]?=some (etaT 0 ((n:Int)-1-(j+k:Nat)) l[k])
 |t::l,j,0,_=>by rw[etaTs];rfl
 |t::l,j,k+1,h=>by
  rw[etaTs,List.getElem?_cons_succ,etaTs_get n l (j+1) k (by simpa using h),List.getElem_cons_succ,show j+1+k=j+(k+1) by omega]
theorem etaTs_take {n:Nat} {l:List Ty} {k:Nat} (h:k<l.length):(etaTs n 0 l).take (k+1)=(etaTs n 0 l).take k++[etaT 0 ((n:Int)-1-(k:Nat)) l[k]]:=by
 have hk:k<(etaTs n 0 l).length:=by rw[etaTs_len];exact h
 have hg:=etaTs_get n l 0 k h
 rw[List.getElem?_eq_getElem hk,Nat.zero_add] at hg
 rw[←take_snoc' hk,Option.some.inj hg]
theorem pEta_calls:∀(d:Nat) (t:Ty) (k i:Int),t.size≤d→d≤1000→(k=0→0≤i∧i≤1000)→PureIs Tryz.prog 31 [.agg [nI k,nI i],t.enc] (etaT k i t).enc:=by
 intro d
 induction d with
 |zero=>intro t k i h;have:=t.size_pos;omega
 |succ d ih=>
  intro t k i h hd h0
  have hq:=Ty.sizes_len t.args
  have hts:=t.size_eq
  have harr:=arrow_calls (t:=t) (l:=[]) (by simp[Ty.sizes];omega)
  rw[Ty.arrow,List.nil_append,Ty.enc_mk,Ty.enc_eq,List.map_nil] at harr
  have loop:∀ix:Int,ix=(if k=0 then IntKind.wrap .i64 (i+(t.args.length:Nat)) else i)→vc31_L8 (((),((List.length (t.args.map Ty.enc):Nat):Int),(),t.args.map Ty.enc,((List.length (t.args.map Ty.enc):Nat):Int),0,()),((k,i,()),(t.args.map Ty.enc,t.base,()),((),0,0,(),()),(t.args.map Ty.enc,k,ix,(),()),[],())) (fun x=>x=(etaT k i t).enc):=by
   intro ix hix
   refine LoopP.intro (fun j:Nat=>(((),(t.args.length:Int),(),t.args.map Ty.enc,(t.args.length:Int),(j:Int),()),((k,i,()),(t.args.map Ty.enc,t.base,()),((),0,0,(),()),(t.args.map Ty.enc,k,ix,(),()),((etaTs t.args.length 0 t.args).take j).map Tm.enc,())))
    (fun j=>j≤t.args.length) (fun j=>t.args.length-j) 0 (by rw[List.length_map];rfl) (Nat.zero_le _) ?_
   intro j hj again hag
   dsimp only
   rw[List.length_map]
   refine ITE.intro (fun h=>?_) fun h=>?_
   ·have hlt:j<t.args.length:=by simpa using h
    have hi:=ih t.args[j] 0 ((t.args.length:Int)-1-(j:Nat)) (by have:=Ty.arg_size hlt;omega) (by omega) (fun _=>⟨by omega,by omega⟩)
    rw[Ty.enc_eq,Tm.enc_eq] at hi
    have hw:IntKind.wrap .i64 (IntKind.wrap .i64 ((t.args.length:Int)-1)-(j:Int))=(t.args.length:Int)-1-(j:Nat):=by
     rw[wrap_i (n:=(t.args.length:Int)-1) (by omega) (by omega),wrap_i (by omega) (by omega)]
    rw[hw]
    refine⟨by omega,by omega,_,_,Ty.enc_getD hlt,_,_,_,_,hi,rfl,appOk_one rfl (by simp;omega) (by decide),rfl,?_⟩
    rw[wrap_n (by omega),Tm.enc_snoc,←etaTs_take hlt]
    exact hag (j+1) (by omega) (by omega)
   ·have hle:t.args.length≤j:=by simpa using h
    refine⟨rfl,?_⟩
    rw[List.take_of_length_le (by rw[etaTs_len];exact hle),etaT_eq,Tm.enc_mk,hix]
  rw[Ty.enc_eq]
  refine vc31_ok (ITE.intro (fun h=>?_) fun h=>?_)
  ·have hk:k=0:=by simpa using h
   have:=h0 hk
   refine ITE.neg (decide_eq_false (by omega)) (ITE.neg (decide_eq_false (by omega)) ⟨_,_,harr,ITE.pos h ⟨rfl,loop _ ?_⟩⟩)
   rw[if_pos hk,List.length_map]
  ·have hk:¬k=0:=by simpa using h
   exact⟨_,_,harr,ITE.neg h ⟨rfl,loop _ (by rw[if_neg hk])⟩⟩
end Go.Proofs.YtghnkppcncbddaaGreatDoor

namespace Go.Proofs.YtghnkppcncbddaaGreatDoor
open Go Go.Shelf
set_option linter.unusedSimpArgs false
set_option linter.unusedVariables false
abbrev ndAV (n:Nd):AV:=.agg [nI n.kind,nS n.word,nI n.at_,.sl (n.kids.map Nd.enc)]
abbrev noN:Nd:=.mk 0 ⟨#[]⟩ 0 []
abbrev wsAV (l:List ByteArray):AV:=.sl (l.map nS)
abbrev nmAV (b c m:List ByteArray):AV:=.agg [wsAV b,wsAV c,wsAV m]
def atW (l:List ByteArray) (i:Int):Option Nd:=if i<0 then none else(l[i.toNat]?).map fun w=>.mk 1 w 0 []
def atAV (o:Option Nd):AV:=.tup [ndAV (o.getD noN),nB o.isSome]
theorem at_calls {l:List ByteArray} {i:Int}:PureIs Tryz.prog 37 [.sl (l.map nS),nI i] (atAV (atW l i)):=by
 refine vc37_ok (ITE.intro (fun h=>?_) fun h=>ITE.intro (fun h2=>?_) fun h2=>?_)
 ·have:i<0:=by simpa using h
  rw[atW,if_pos this];rfl
 ·have:¬i<0:=by simpa using h
  have h3:l.length≤i.toNat:=by(have:((l.length:Nat):Int)≤i:=by simpa using h2);omega
  rw[atW,if_neg this,List.getElem?_eq_none h3];rfl
 ·have h0:¬i<0:=by simpa using h
  have h3:i.toNat<l.length:=by(have:i<((l.length:Nat):Int):=by simpa using h2);omega
  refine⟨by omega,by rw[List.length_map];omega,_,by rw[List.getD_eq_getElem?_getD,List.getElem?_map,List.getElem?_eq_getElem h3];rfl,?_⟩
  rw[atW,if_neg h0,List.getElem?_eq_getElem h3];rfl
mutual
def typN (b:List ByteArray):Ty→Option Nd
 | .mk l k=>match atW b k with|none=>none|some n=>typNs b n l
def typNs (b:List ByteArray) (n:Nd):List Ty→Option Nd
 | []=>some n
 |a::l=>match typNs b n l with|none=>none|some m=>(match typN b a with|none=>none|some x=>some (.mk 2 ⟨#[]⟩ 0 [x,m]))
end
theorem typN_eq (b:List ByteArray) (t:Ty):typN b t=match atW b t.base with|none=>none|some n=>typNs b n t.args:=by cases t;rw[typN];rfl
theorem typNs_none {b:List ByteArray} {n:Nd}:∀{l:List Ty} {k:Nat} (h:k<l.length),typN b l[k]=none→typNs b n l=none
 | [],k,h,_=>by simp at h
 |a::l,0,h,e=>by
  rw[typNs]
  cases typNs b n l with
  |none=>rfl
  |some m=>simp only[List.getElem_cons_zero] at e;rw[e]
 |a::l,k+1,h,e=>by
  rw[typNs,typNs_none (l:=l) (k:=k) (by simpa using h) (by simpa using e)]
theorem typNs_step {b:List ByteArray} {n s x:Nd} {l:List Ty} {k:Nat} (h:k<l.length) (h1:typNs b n (l.drop (k+1))=some s) (h2:typN b l[k]=some x):typNs b n (l.drop k)=some (.mk 2 ⟨#[]⟩ 0 [x,s]):=by
 rw[List.drop_eq_getElem_cons h,typNs,h1,h2]
def shownN (o:Option Nd):AV:=.tup [ndAV (o.getD noN),nI (if o.isSome then 0 else 10)]
theorem two_nd (x y:Nd):[ndAV x,ndAV y]=[x,y].map Nd.enc:=by simp[ndAV,←Nd.enc_eq]
theorem OfType_calls {b c m:List ByteArray}:∀(n:Nat) (t:Ty),t.size≤n→n≤500000000→PureIs Tryz.prog 11 [nmAV b c m,.agg [.sl (t.args.map Ty.enc),nI t.base]] (shownN (typN b t)):=by
 intro n
 induction n with
 |zero=>intro t h;have:=t.size_pos;omega
 |succ n ih=>
  intro t hn hm
  refine vc11_ok ⟨_,_,_,_,_,at_calls,?_⟩
  rw[typN_eq]
  cases ha:atW b t.base with
  |none=>exact ITE.pos rfl rfl
  |some n0=>
   have hl:=Ty.sizes_len t.args
   have hs:=t.size_eq
   refine ITE.neg rfl ⟨backward_calls t.args,?_⟩
   refine RangeP.intro2 (fun s:Nd=>((b.map nS,c.map nS,m.map nS,()),(t.args.map Ty.enc,t.base,()),(0,⟨#[]⟩,0,(),()),(0,()),(s.kind,s.word,s.at_,s.kids.map Nd.enc,()),())) encE (bwL t.args t.args.length) (backward_seq (by omega))
    (fun rest s=>∃k,k≤t.args.length∧rest=bwL t.args k∧typNs b n0 (t.args.drop k)=some s) n0 rfl ⟨t.args.length,Nat.le_refl _,rfl,by rw[List.drop_length,typNs]⟩ (fun g rest s ⟨k,hk,he,hs⟩ again hag=>?_) fun s ⟨k,hk,he,hs⟩=>?_
   ·cases k with
    |zero=>cases he
    |succ k=>
     simp only[bwL,List.cons.injEq] at he
     obtain⟨rfl,rfl⟩:=he
     have hlt:k<t.args.length:=by omega
     rw[getD_ty hlt]
     dsimp only[encE]
     have hz:=Ty.arg_size hlt
     refine⟨_,_,_,_,_,ih t.args[k] (by omega) (by omega),?_⟩
     cases hx:typN b t.args[k] with
     |none=>exact ITE.pos rfl (by rw[typNs_none hlt hx];rfl)
     |some x=>
      refine ITE.neg rfl ?_
      have:=hag (.mk 2 ⟨#[]⟩ 0 [x,s]) ⟨k,by omega,rfl,typNs_step hlt hs hx⟩
      rw[show (Nd.mk 2 ⟨#[]⟩ 0 [x,s]).kids.map Nd.enc=[ndAV x,ndAV s] from(two_nd x s).symm] at this
      exact this
   ·cases k with
    |zero=>rw[List.drop_zero] at hs;show _=shownN (typNs b n0 t.args);rw[hs];rfl
    |succ k=>cases he
def headN (B:Int→ByteArray) (c m:List ByteArray) (around:Nat) (k i:Int):Option Nd:=
 if k=0 then some (.mk 1 (B ((around:Int)-1-i)) 0 []) else if k=1 then atW c i else if k=2 then atW m i else none
def lamN (B:Int→ByteArray) (b:List ByteArray) (n:Nd):Nat→List Ty→Option Nd
 |_,[]=>some n
 |a,t::l=>match lamN B b n (a+1) l with|none=>none|some m=>(match typN b t with|none=>none|some x=>some (.mk 3 (B a) 0 [x,m]))
mutual
def termN (B:Int→ByteArray) (b c m:List ByteArray):Nat→Tm→Option Nd
 |a,.mk bs k i l=>match headN B c m (a+bs.length) k i with
  |none=>none
  |some n=>(match appN B b c m (a+bs.length) l n with|none=>none|some s=>lamN B b s a bs)
def appN (B:Int→ByteArray) (b c m:List ByteArray):Nat→List Tm→Nd→Option Nd
 |_,[],n=>some n
 |a,t::l,n=>match termN B b c m a t with|none=>none|some x=>appN B b c m a l (.mk 4 ⟨#[]⟩ 0 [n,x])
end
theorem termN_eq (B:Int→ByteArray) (b c m:List ByteArray) (a:Nat) (t:Tm):termN B b c m a t=match headN B c m (a+t.binds.length) t.kind t.index with
  |none=>none
  |some n=>(match appN B b c m (a+t.binds.length) t.args n with|none=>none|some s=>lamN B b s a t.binds):=by cases t;rw[termN];rfl
theorem appN_step {B:Int→ByteArray} {b c m:List ByteArray} {a:Nat} {l:List Tm} {k:Nat} {s:Nd} (h:k<l.length):appN B b c m a (l.drop k) s=match termN B b c m a l[k] with|none=>none|some x=>appN B b c m a (l.drop (k+1)) (.mk 4 ⟨#[]⟩ 0 [s,x]):=by
 rw[List.drop_eq_getElem_cons h,appN]
theorem lamN_none {B:Int→ByteArray} {b:List ByteArray} {n:Nd}:∀{l:List Ty} {k a:Nat} (h:k<l.length),typN b l[k]=none→lamN B b n a l=none
 | [],k,a,h,_=>by simp at h
 |t::l,0,a,h,e=>by
  rw[lamN]
  cases lamN B b n (a+1) l with
  |none=>rfl
  |some m=>simp only[List.getElem_cons_zero] at e;rw[e]
 |t::l,k+1,a,h,e=>by
  rw[lamN,lamN_none (l:=l) (k:=k) (by simpa using h) (by simpa using e)]
theorem lamN_step {B:Int→ByteArray} {b:List ByteArray} {n s x:Nd} {a:Nat} {l:List Ty} {k:Nat} (h:k<l.length) (h1:lamN B b n (a+(k+1)) (l.drop (k+1))=some s) (h2:typN b l[k]=some x):
  lamN B b n (a+k) (l.drop k)=some (.mk 3 (B (a+k:Nat)) 0 [x,s]):=by
 rw[List.drop_eq_getElem_cons h,lamN,show a+k+1=a+(k+1) from rfl,h1,h2]
mutual
def Tm.named:Tm→Bool
 | .mk _ k i l=>!((k==0)&&decide (i<0))&&Tm.nameds l
def Tm.nameds:List Tm→Bool
 | []=>true
 |t::l=>t.named&&Tm.nameds l
end
theorem Tm.named_eq (t:Tm):t.named=(!((t.kind==0)&&decide (t.index<0))&&Tm.nameds t.args):=by cases t;rw[Tm.named];rfl
theorem Tm.nameds_all (l:List Tm):Tm.nameds l=l.all Tm.named:=by
 induction l with
 |nil=>rfl
 |cons t l ih=>rw[Tm.nameds,ih];rfl
abbrev shAV (b c m:List ByteArray) (es:List (ByteArray×Value)):AV:=.agg [wsAV b,wsAV c,wsAV m,.mapv (.s es)]
theorem head_calls {b c m:List ByteArray} {es:List (ByteArray×Value)} {B:Int→ByteArray} {k i:Int} {around:Nat} (ha:around≤1000000000) (hi:I64 i) (h0:k=0→0≤i)
  (hB:∀k,I64 k→PureIs Tryz.prog 81 [shAV b c m es,nI k] (nS (B k))):
  PureIs Tryz.prog 80 [shAV b c m es,.agg [nI k,nI i],nI (around:Nat)] (atAV (headN B c m around k i)):=by
 have hi1:=hi.1
 have hi2:=hi.2
 refine vc80_ok (ITE.intro (fun h=>?_) fun h=>ITE.intro (fun h1=>?_) fun h1=>ITE.intro (fun h2=>?_) fun h2=>?_)
 ·have hk:k=0:=by simpa using h
  have:=h0 hk
  refine⟨_,hB _ ?_,?_⟩
  ·rw[wrap_i (n:=(around:Int)-1) (by omega) (by omega),wrap_i (by omega) (by omega)]
   exact⟨by omega,by omega⟩
  ·rw[wrap_i (n:=(around:Int)-1) (by omega) (by omega),wrap_i (by omega) (by omega),headN,if_pos hk];rfl
 ·have hk:¬k=0:=by simpa using h
  have hk1:k=1:=by simpa using h1
  refine⟨_,_,_,_,_,at_calls,?_⟩
  rw[headN,if_neg hk,if_pos hk1];rfl
 ·have hk:¬k=0:=by simpa using h
  have hk1:¬k=1:=by simpa using h1
  have hk2:k=2:=by simpa using h2
  refine⟨_,_,_,_,_,at_calls,?_⟩
  rw[headN,if_neg hk,if_neg hk1,if_pos hk2];rfl
 ·have hk:¬k=0:=by simpa using h
  have hk1:¬k=1:=by simpa using h1
  have hk2:¬k=2:=by simpa using h2
  rw[headN,if_neg hk,if_neg hk1,if_neg hk2];rfl
theorem named1_calls {b c m:List ByteArray} {t:Tm} (ih:PureIs Tryz.prog 43 [nmAV b c m,.agg [.sl (t.binds.map Ty.enc),nI t.kind,nI t.index,.sl (t.args.map Tm.enc)]] (nB t.named)):
  PureIs Tryz.prog 79 [.agg [.sl (t.binds.map Ty.enc),nI t.kind,nI t.index,.sl (t.args.map Tm.enc)],.eptr (nmAV b c m) 0] (nB (!t.named)):=
 vc79_ok ⟨_,ih,rfl⟩
def idxN:List Tm→Nat→Int
 | [],_ => -1
 |t::l,k=>if t.named then idxN l (k+1) else k
theorem idxN_sign:∀(l:List Tm) (k:Nat),decide (idxN l k≥0)=!(Tm.nameds l)
 | [],_=>rfl
 |t::l,k=>by
  rw[idxN,Tm.nameds]
  cases t.named
  ·rw[if_neg (by decide)];exact decide_eq_true (Int.natCast_nonneg k)
  ·rw[if_pos rfl,idxN_sign l (k+1)];rfl
theorem indexF_calls {b c m:List ByteArray} {l:List Tm} (hl:l.length≤1000000000) (ih:∀t∈l,PureIs Tryz.prog 43 [nmAV b c m,.agg [.sl (t.binds.map Ty.enc),nI t.kind,nI t.index,.sl (t.args.map Tm.enc)]] (nB t.named)):
  PureIs Tryz.prog 118 [.sl (l.map Tm.enc),.clo 79 [.eptr (nmAV b c m) 0]] (nI (idxN l 0)):=by
 refine vc118_ok ⟨rfl,?_⟩
 refine LoopP.intro (fun k:Nat=>((l.map Tm.enc,((),()),((l.length:Nat):Int),(k:Int),()),())) (fun k=>k≤l.length∧idxN l 0=idxN (l.drop k) k) (fun k=>l.length-k) 0 (by rw[List.length_map];rfl) ⟨Nat.zero_le _,by rw[List.drop_zero]⟩ ?_
 intro k ⟨hk,hd⟩ again hag
 dsimp only
 rw[List.length_map]
 refine ITE.intro (fun h=>?_) fun h=>?_
 ·have hlt:k<l.length:=by simpa using h
  refine⟨by omega,by omega,_,_,_,_,Tm.enc_getD hlt,_,named1_calls (ih _ (List.getElem_mem hlt)),ITE.intro (fun h1=>?_) fun h1=>⟨rfl,?_⟩⟩
  ·have:l[k].named=false:=by simpa using h1
   rw[hd,List.drop_eq_getElem_cons hlt,idxN,this];rfl
  ·have:l[k].named=true:=by simpa using h1
   rw[wrap_n (by omega)]
   exact hag (k+1) ⟨by omega,by rw[hd,List.drop_eq_getElem_cons hlt,idxN,this];rfl⟩ (by omega)
 ·have:l.length≤k:=by simpa using h
  rw[hd,List.drop_eq_nil_of_le this];rfl
theorem containsF_calls {b c m:List ByteArray} {l:List Tm} (hl:l.length≤1000000000) (ih:∀t∈l,PureIs Tryz.prog 43 [nmAV b c m,.agg [.sl (t.binds.map Ty.enc),nI t.kind,nI t.index,.sl (t.args.map Tm.enc)]] (nB t.named)):
  PureIs Tryz.prog 78 [.sl (l.map Tm.enc),.clo 79 [.eptr (nmAV b c m) 0]] (nB (!(Tm.nameds l))):=
 vc78_ok ⟨_,indexF_calls hl ih,by rw[idxN_sign]⟩
theorem named_calls {b c m:List ByteArray}:∀(n:Nat) (t:Tm),t.size≤n→n≤500000000→PureIs Tryz.prog 43 [nmAV b c m,.agg [.sl (t.binds.map Ty.enc),nI t.kind,nI t.index,.sl (t.args.map Tm.enc)]] (nB t.named):=by
 intro n
 induction n with
 |zero=>intro t h;have:=t.size_pos;omega
 |succ n ih=>
  intro t hn hm
  have hl:=Tm.sizes_len t.args
  have hs:=t.size_eq
  have hc:=containsF_calls (b:=b) (c:=c) (m:=m) (l:=t.args) (by omega) fun u hu=>ih u (by have:=Tm.sizes_mem hu;omega) (by omega)
  refine vc43_ok (ITE.intro (fun h=>ITE.intro (fun h1=>?_) fun h1=>⟨_,hc,?_⟩) fun h=>⟨_,hc,?_⟩)
  ·rw[Tm.named_eq,h,h1];rfl
  ·rw[Tm.named_eq,h,h1];cases Tm.nameds t.args<;>rfl
  ·rw[Tm.named_eq,h];cases Tm.nameds t.args<;>rfl
theorem showerTerm_calls {b c m:List ByteArray} {es:List (ByteArray×Value)} {B:Int→ByteArray} (hB:∀k,I64 k→PureIs Tryz.prog 81 [shAV b c m es,nI k] (nS (B k))):
  ∀(n:Nat) (t:Tm) (a:Nat),t.size≤n→a+t.size≤500000000→t.Ok→t.named=true→
   PureIs Tryz.prog 44 [shAV b c m es,.agg [.sl (t.binds.map Ty.enc),nI t.kind,nI t.index,.sl (t.args.map Tm.enc)],nI (a:Nat)] (shownN (termN B b c m a t)):=by
 intro n
 induction n with
 |zero=>intro t a h;have:=t.size_pos;omega
 |succ n ih=>
  intro t a hn hm hk hnm
  have hl:=Tm.sizes_len t.args
  have hl2:=Ty.sizes_len t.binds
  have hs:=t.size_eq
  have hk':=Tm.ok_eq hk
  rw[Tm.named_eq,Bool.and_eq_true] at hnm
  have h0:t.kind=0→0≤t.index:=fun e=>by
   have:=hnm.1
   rw[e] at this
   simp at this;exact this
  have hw:IntKind.wrap .i64 ((a:Int)+((t.binds.length:Nat):Int))=((a+t.binds.length:Nat):Int):=by rw[wrap_i (by omega) (by omega)];omega
  have hh:=head_calls (b:=b) (c:=c) (m:=m) (es:=es) (B:=B) (k:=t.kind) (i:=t.index) (around:=a+t.binds.length) (by omega) hk'.2.1 h0 hB
  refine vc44_ok ⟨_,_,_,_,_,by rw[List.length_map,hw];exact hh,?_⟩
  rw[termN_eq]
  cases ha:headN B c m (a+t.binds.length) t.kind t.index with
  |none=>exact ITE.pos rfl rfl
  |some n0=>
   refine ITE.neg rfl ?_
   rw[List.length_map,hw,List.length_map]
   show vc44_L6 _ (fun r=>r=shownN (match appN B b c m (a+t.binds.length) t.args n0 with|none=>none|some s=>lamN B b s a t.binds))
   refine LoopP.intro (fun p:Nat×Nd=>(((),(),(),(),(),((a+t.binds.length:Nat):Int),(),(),(),t.args.map Tm.enc,((t.args.length:Nat):Int),(p.1:Int),(),(),()),((b.map nS,c.map nS,m.map nS,es,()),(t.binds.map Ty.enc,t.kind,t.index,t.args.map Tm.enc,()),((a:Int),()),(0,⟨#[]⟩,0,(),()),(0,()),(p.2.kind,p.2.word,p.2.at_,p.2.kids.map Nd.enc,()),())))
    (fun p=>p.1≤t.args.length∧appN B b c m (a+t.binds.length) t.args n0=appN B b c m (a+t.binds.length) (t.args.drop p.1) p.2) (fun p=>t.args.length-p.1) (0,n0) rfl ⟨Nat.zero_le _,by rw[List.drop_zero]⟩ ?_
   intro ⟨k,s⟩ ⟨hk1,hd⟩ again hag
   dsimp only at hk1 hd ⊢
   refine ITE.intro (fun h=>?_) fun h=>?_
   ·have hlt:k<t.args.length:=by simpa using h
    have hz:=Tm.arg_size hlt
    have hz2:=Tm.sizes_mem (List.getElem_mem hlt)
    have hnk:t.args[k].named=true:=by
     have:=hnm.2
     rw[Tm.nameds_all,List.all_eq_true] at this
     exact this _ (List.getElem_mem hlt)
    refine⟨by omega,by rw[List.length_map];omega,_,_,_,_,Tm.enc_getD hlt,_,_,_,_,_,ih t.args[k] (a+t.binds.length) (by omega) (by omega) (Tm.Oks_mem hk'.2.2 (List.getElem_mem hlt)) hnk,?_⟩
    rw[hd,appN_step hlt]
    cases hx:termN B b c m (a+t.binds.length) t.args[k] with
    |none=>exact ITE.pos rfl rfl
    |some x=>
     refine ITE.neg rfl ?_
     rw[wrap_n (by omega)]
     have:=hag (k+1,.mk 4 ⟨#[]⟩ 0 [s,x]) ⟨by show k+1≤_;omega,by rw[hd,appN_step hlt,hx]⟩ (by show t.args.length-(k+1)<t.args.length-k;omega)
     dsimp only at this
     rw[show (Nd.mk 4 ⟨#[]⟩ 0 [s,x]).kids.map Nd.enc=[ndAV s,ndAV x] from(two_nd s x).symm] at this
     exact this
   ·have hge:t.args.length≤k:=by simpa using h
    rw[hd,List.drop_eq_nil_of_le hge,appN]
    refine⟨backward_calls t.binds,?_⟩
    refine RangeP.intro2 (fun u:Nd=>((b.map nS,c.map nS,m.map nS,es,()),(t.binds.map Ty.enc,t.kind,t.index,t.args.map Tm.enc,()),((a:Int),()),(0,⟨#[]⟩,0,(),()),(0,()),(u.kind,u.word,u.at_,u.kids.map Nd.enc,()),())) encE (bwL t.binds t.binds.length) (backward_seq (by omega))
     (fun rest u=>∃k,k≤t.binds.length∧rest=bwL t.binds k∧lamN B b s (a+k) (t.binds.drop k)=some u) s rfl ⟨t.binds.length,Nat.le_refl _,rfl,by rw[List.drop_length,lamN]⟩ (fun g rest u ⟨k,hk,he,hs⟩ again hag=>?_) fun u ⟨k,hk,he,hs⟩=>?_
    ·cases k with
     |zero=>cases he
     |succ k=>
      simp only[bwL,List.cons.injEq] at he
      obtain⟨rfl,rfl⟩:=he
      have hlt:k<t.binds.length:=by omega
      rw[getD_ty hlt]
      dsimp only[encE]
      have hz:=Ty.sizes_mem (List.getElem_mem hlt)
      refine⟨_,_,_,_,_,OfType_calls _ t.binds[k] (Nat.le_refl _) (by omega),?_⟩
      have hs':=hs
      cases hx:typN b t.binds[k] with
      |none=>exact ITE.pos rfl (by rw[lamN_none hlt hx];rfl)
      |some x=>
       have hw2:IntKind.wrap .i64 ((a:Int)+(k:Int))=((a+k:Nat):Int):=by rw[wrap_i (by omega) (by omega)];omega
       refine ITE.neg rfl ⟨_,by rw[hw2];exact hB _ ⟨by omega,by omega⟩,?_⟩
       have:=hag (.mk 3 (B ((a+k:Nat):Int)) 0 [x,u]) ⟨k,by omega,rfl,lamN_step hlt hs hx⟩
       rw[show (Nd.mk 3 (B ((a+k:Nat):Int)) 0 [x,u]).kids.map Nd.enc=[ndAV x,ndAV u] from(two_nd x u).symm] at this
       exact this
    ·cases k with
     |zero=>rw[List.drop_zero] at hs;show _=shownN (lamN B b s a t.binds);rw[show lamN B b s a t.binds=some u from hs];rfl
     |succ k=>cases he
end Go.Proofs.YtghnkppcncbddaaGreatDoor

namespace Go.Proofs.YtghnkppcncbddaaGreatDoor
open Go Go.Shelf
set_option linter.unusedSimpArgs false
set_option linter.unusedVariables false
theorem pow_tab {w:World} (h:Glob w):Lib.TabIs Tryz.prog w "internal/strconv.uint64pow10" .u64 Lib.pow10Tab:=by
 obtain⟨T,h1⟩:=h (laids.head (by decide)) (List.head_mem _)
 unfold Lib.TabIs World.var?
 rw[show Tryz.prog.globalNamed "internal/strconv.uint64pow10"=some (laids.head (by decide)).1 from by kernel_rfl]
 simp only[Option.bind_some,h1]
 rfl
def numW (k:Int):ByteArray:=⟨(Lib.itoa k).toArray⟩
theorem itoa_calls {k:Int} (hk:I64 k):PureIs Tryz.prog 96 [nI k] (nS (numW k)):=by
 refine⟨⟨_,Tryz.func96,by kernel_rfl,by kernel_rfl⟩,fun w F vals hF hg hv=>?_⟩
 match vals,hv with
 | [v0],⟨r0,_⟩=>
  cases r0
  refine callsIn_wide.2 ((Any.strconv_Itoa layM171 k hk.1 (by have:=hk.2;omega) w (pow_tab hg)).mono ?_)
  rintro e w' ⟨rfl,n,os,rfl⟩
  refine⟨_,_,rfl,rfl,⟨rfl,rfl,rfl,?_,fun j hj=>?_⟩,.prim _⟩
  ·show w.heap.size≤(w.heap++os).size
   rw[Array.size_append];omega
  ·show (w.heap++os)[j]?=_
   rw[Array.getElem?_append_left hj]
theorem numW_size {k:Int} (hk:I64 k):(numW k).size≤30:=by
 have h1:=hk.1
 have h2:=hk.2
 have:=Lib.itoa_length_le k h1 (by omega)
 show (Lib.itoa k).toArray.size≤30
 rw[List.size_toArray];omega
theorem mapGet_put {κ:Type} [DecidableEq κ] {l:List (κ×Value)} {i v:κ} {x:Value}:mapGet (mapPut l v x) i=if i=v then some x else mapGet l i:=by
 induction l with
 |nil=>simp only[mapPut,mapGet]
 |cons p l ih=>
  obtain⟨k,u⟩:=p
  simp only[mapPut]
  by_cases h:v=k
  ·subst h
   simp only[if_pos,mapGet]
   by_cases h2:i=v<;>simp[h2]
  ·rw[if_neg h,mapGet,ih,mapGet]
   by_cases h2:i=k
   ·subst h2;simp[Ne.symm h]
   ·simp[h2]
def inW (l:List ByteArray) (w:ByteArray):Bool:=l.any fun x=>decide (x=w)
theorem inW_iff {l:List ByteArray} {w:ByteArray}:inW l w=true↔w∈l:=by
 simp only[inW,List.any_eq_true,decide_eq_true_eq]
 exact⟨fun⟨x,h1,h2⟩=>h2▸h1,fun h=>⟨w,h,rfl⟩⟩
def IsTak (es:List (ByteArray×Value)) (l:List ByteArray):Prop:=∀w,mapGet es w=if inW l w=true then some (.bool true) else none
theorem IsTak.nil:IsTak [] []:=fun w=>rfl
theorem IsTak.put {es:List (ByteArray×Value)} {l:List ByteArray} {x:ByteArray} (h:IsTak es l):IsTak (mapPut es x (.bool true)) (l++[x]):=by
 intro w
 rw[mapGet_put,h w]
 have e:inW (l++[x]) w=(inW l w||decide (x=w)):=by simp[inW]
 rw[e]
 by_cases h1:w=x
 ·subst h1;simp
 ·have:¬x=w:=fun e=>h1 e.symm
  simp[h1,this]
def tickW (l:List ByteArray):Nat→ByteArray→ByteArray
 |0,w=>w
 |n+1,w=>if inW l w=true then tickW l n (w++(⟨#[39]⟩:ByteArray)) else w
def boundW (l:List ByteArray) (k:Int):ByteArray:=tickW l (l.length+1) ((⟨#[118]⟩:ByteArray)++numW k)
theorem tick_left {w:ByteArray}:∀{l:List ByteArray},w∈l→l.countP (fun x=>decide (w.size+1≤x.size))<l.countP (fun x=>decide (w.size≤x.size))
 |x::l,h=>by
  have hm:l.countP (fun x=>decide (w.size+1≤x.size))≤l.countP (fun x=>decide (w.size≤x.size)):=List.countP_mono_left fun y _ hy=>by
   simp only[decide_eq_true_eq] at hy ⊢;omega
  rcases List.mem_cons.1 h with rfl|h
  ·rw[List.countP_cons_of_neg (by simp),List.countP_cons_of_pos (by simp)];omega
  ·have:=tick_left h
   rw[List.countP_cons,List.countP_cons]
   by_cases h1:w.size+1≤x.size
   ·rw[if_pos (by simpa using h1),if_pos (by(have:w.size≤x.size:=by omega);simpa using this)];omega
   ·rw[if_neg (by simpa using h1)]
    split<;>omega
theorem bound_calls {b c m:List ByteArray} {es:List (ByteArray×Value)} {l:List ByteArray} {k:Int} (hk:I64 k) (he:IsTak es l) (hl:l.length≤1000000):
  PureIs Tryz.prog 81 [shAV b c m es,nI k] (nS (boundW l k)):=by
 have hz:=numW_size hk
 have hg:∀w,(mapGet es w).getD (.bool false)=.bool (inW l w):=fun w=>by
  rw[he w]
  cases inW l w<;>rfl
 refine vc81_ok ⟨_,itoa_calls hk,by rw[sz1];omega,?_⟩
 refine LoopP.intro (fun w:ByteArray=>(((),w,()),((b.map nS,c.map nS,m.map nS,es,()),()))) (fun w=>∃n,l.countP (fun x=>decide (w.size≤x.size))≤n∧w.size+n≤2000000∧boundW l k=tickW l (n+1) w)
  (fun w=>l.countP (fun x=>decide (w.size≤x.size))) ((⟨#[118]⟩:ByteArray)++numW k) rfl ⟨l.length,List.countP_le_length,by rw[bsz,sz1];omega,rfl⟩ ?_
 intro w ⟨n,h1,h2,h3⟩ again hag
 dsimp only
 rw[hg]
 refine⟨rfl,ITE.intro (fun h=>?_) fun h=>?_⟩
 ·have hw:inW l w=true:=h
  have ht:=tick_left (inW_iff.1 hw)
  refine⟨by rw[sz1];omega,hag _ ⟨n-1,?_,?_,?_⟩ ?_⟩
  ·rw[bsz,sz1];omega
  ·rw[bsz,sz1];omega
  ·obtain⟨j,rfl⟩:∃j,n=j+1:=⟨n-1,by omega⟩
   rw[h3,tickW,if_pos hw];rfl
  ·rw[bsz,sz1];exact ht
 ·have hw:inW l w=false:=h
  rw[h3,tickW,hw];rfl
def looseS (n:Int) (p:(Nat×Nat)×Tm):Int:=if p.2.kind=0∧p.2.index≥(p.1.1:Nat) then(if(if 1000<p.2.index-(p.1.1:Nat) then 1000 else p.2.index-(p.1.1:Nat))+1>n then(if 1000<p.2.index-(p.1.1:Nat) then 1000 else p.2.index-(p.1.1:Nat))+1 else n) else n
def looseF:Int→List ((Nat×Nat)×Tm)→Int
 |n,[]=>n
 |n,p::l=>looseF (looseS n p) l
def looseP (p:(Nat×Nat)×Tm):Bool:=(p.2.kind==0)&&decide (p.2.index≥(p.1.1:Nat))
def looseB (t:Tm):Bool:=(t.pre 0 1).any looseP
theorem looseF_pos:∀(l:List ((Nat×Nat)×Tm)) (n:Int),0≤n→decide (looseF n l>0)=(decide (n>0)||l.any looseP)
 | [],n,_=>by simp[looseF]
 |p::l,n,h=>by
  rw[looseF,List.any_cons]
  by_cases hp:p.2.kind=0∧p.2.index≥(p.1.1:Nat)
  ·have e:looseP p=true:=by simp[looseP,hp.1,hp.2]
   have hs:0<looseS n p:=by
    unfold looseS
    rw[if_pos hp]
    have:=hp.2
    split<;>split<;>omega
   rw[looseF_pos l _ (by omega),e,decide_eq_true hs];simp
  ·have e:looseP p=false:=by
    by_cases h1:p.2.kind=0
    ·have:¬p.2.index≥(p.1.1:Nat):=fun h2=>hp ⟨h1,h2⟩
     simp[looseP,this]
    ·simp[looseP,h1]
   rw[show looseS n p=n from if_neg hp,looseF_pos l n h,e];simp
theorem pre_ok:∀(t:Tm) (a d:Nat),t.Ok→∀p∈t.pre a d,I64 p.2.index:=by
 have key:∀(n:Nat),(∀(t:Tm) (a d:Nat),t.size≤n→t.Ok→∀p∈t.pre a d,I64 p.2.index):=by
  intro n
  induction n with
  |zero=>intro t a d h;have:=t.size_pos;omega
  |succ n ih=>
   intro t a d hn hk p hp
   have hs:=t.size_eq
   have hk':=Tm.ok_eq hk
   rw[Tm.pre_eq] at hp
   rcases List.mem_cons.1 hp with rfl|hp
   ·exact hk'.2.1
   ·have:∀(l:List Tm),Tm.sizes l≤n→Tm.Oks l→∀p∈Tm.pres (a+t.binds.length) (d+1) l,I64 p.2.index:=by
     intro l
     induction l with
     |nil=>intro _ _ p hp;rw[Tm.pres] at hp;cases hp
     |cons u l ihl=>
      intro hz hok p hp
      have hz':Tm.sizes (u::l)=u.size+Tm.sizes l:=rfl
      rw[Tm.pres] at hp
      rcases List.mem_append.1 hp with hp|hp
      ·exact ih u _ _ (by omega) hok.1 p hp
      ·exact ihl (by omega) hok.2 p hp
    exact this t.args (by omega) hk'.2.2 p hp
 exact fun t a d=>key _ t a d (Nat.le_refl _)
theorem looseN_calls {t:Tm} (h:t.size≤500000000) (hk:t.Ok):PureIs Tryz.prog 41 [.agg [.sl (t.binds.map Ty.enc),nI t.kind,nI t.index,.sl (t.args.map Tm.enc)]] (nI (looseF 0 (t.pre 0 1))):=by
 refine vc41_ok ⟨teach_calls t,?_⟩
 refine RangeP.intro2 (fun n:Int=>((t.binds.map Ty.enc,t.kind,t.index,t.args.map Tm.enc,()),(n,()),())) encQE (t.pre 0 1) (teach_seq h) (fun r n=>looseF 0 (t.pre 0 1)=looseF n r∧∀p∈r,I64 p.2.index) 0 rfl ⟨rfl,pre_ok t 0 1 hk⟩ (fun p r n hI again hag=>?_) fun n hI=>?_
 ·have go:=hag (looseS n p) ⟨by rw[hI.1,looseF],fun q hq=>hI.2 q (List.mem_cons_of_mem _ hq)⟩
  obtain⟨i1,i2⟩:=hI.2 p List.mem_cons_self
  dsimp only[encQE]
  refine ITE.intro (fun h1=>ITE.intro (fun h2=>?_) fun h2=>?_) fun h1=>?_
  ·have h1':p.2.kind=0:=by simpa using h1
   have h2':p.2.index≥(p.1.1:Nat):=by simpa using h2
   have w1:IntKind.wrap .i64 (p.2.index-((p.1.1:Nat):Int))=p.2.index-((p.1.1:Nat):Int):=wrap_i (by omega) (by omega)
   have w2:IntKind.wrap .i64 ((if 1000<p.2.index-((p.1.1:Nat):Int) then 1000 else p.2.index-((p.1.1:Nat):Int))+1)=(if 1000<p.2.index-((p.1.1:Nat):Int) then 1000 else p.2.index-((p.1.1:Nat):Int))+1:=wrap_i (by split<;>omega) (by split<;>omega)
   simp only[encQE,w1,w2]
   have e:looseS n p=if(if 1000<p.2.index-(p.1.1:Nat) then 1000 else p.2.index-(p.1.1:Nat))+1>n then(if 1000<p.2.index-(p.1.1:Nat) then 1000 else p.2.index-(p.1.1:Nat))+1 else n:=if_pos ⟨h1',h2'⟩
   rw[e] at go
   exact go
  ·have h2':¬p.2.index≥(p.1.1:Nat):=by simpa using h2
   rw[show looseS n p=n from if_neg fun e=>h2' e.2] at go
   exact go
  ·have h1':¬p.2.kind=0:=by simpa using h1
   rw[show looseS n p=n from if_neg fun e=>h1' e.1] at go
   exact go
 ·show nI n=nI (looseF 0 (t.pre 0 1))
  rw[hI.1];rfl
def ofTermR (b c m:List ByteArray) (t:Tm):Nd×Int:=
 if(trest 0 (t.pre 0 1)&&!(looseB t))=true then
  (match (if t.named=true then termN (boundW (c++m)) b c m 0 t else none) with|some n=>(n,0)|none=>(noN,10))
 else(noN,1)
def foundAV (p:Nd×Int):AV:=.tup [ndAV p.1,nI p.2]
theorem wsFlat (c m:List ByteArray):wRows [c,m]=[wsAV c,wsAV m]:=rfl
theorem OfTerm_calls {b c m:List ByteArray} {t:Tm} (h:t.size≤100000000) (hk:t.Ok) (hl:c.length+m.length≤1000000):
  PureIs Tryz.prog 14 [nmAV b c m,.agg [.sl (t.binds.map Ty.enc),nI t.kind,nI t.index,.sl (t.args.map Tm.enc)]] (foundAV (ofTermR b c m t)):=by
 have hcat:=concatW_calls (ll:=[c,m]) (by simp) (by simp;omega)
 rw[show [c,m].flatten=c++m by simp,wsFlat] at hcat
 refine vc14_ok ⟨_,tright_calls (by omega),ITE.intro (fun h1=>?_) fun h1=>⟨_,looseN_calls (by omega) hk,ITE.intro (fun h2=>?_) fun h2=>⟨_,hcat,?_⟩⟩⟩
 ·have e:trest 0 (t.pre 0 1)=false:=by simpa using h1
  rw[ofTermR,e];rfl
 ·rw[looseF_pos _ _ (Int.le_refl 0)] at h2
  have e:looseB t=true:=by simpa [looseB] using h2
  rw[ofTermR,e];simp;rfl
 ·have e1:trest 0 (t.pre 0 1)=true:=by simpa using h1
  rw[looseF_pos _ _ (Int.le_refl 0)] at h2
  have e2:looseB t=false:=by simpa [looseB] using h2
  have er:ofTermR b c m t=match (if t.named=true then termN (boundW (c++m)) b c m 0 t else none) with|some n=>(n,0)|none=>(noN,10):=by rw[ofTermR,e1,e2];rfl
  rw[er]
  rw[List.length_map]
  refine LoopP.intro (fun p:Nat×List (ByteArray×Value)=>(((),(),(),(),(c++m).map nS,(((c++m).length:Nat):Int),(p.1:Int),()),((b.map nS,c.map nS,m.map nS,()),(t.binds.map Ty.enc,t.kind,t.index,t.args.map Tm.enc,()),(0,⟨#[]⟩,0,(),()),p.2,())))
   (fun p=>p.1≤(c++m).length∧IsTak p.2 ((c++m).take p.1)) (fun p=>(c++m).length-p.1) (0,[]) rfl ⟨Nat.zero_le _,IsTak.nil⟩ ?_
  intro ⟨k,es⟩ ⟨hk1,hd⟩ again hag
  dsimp only at hk1 hd ⊢
  have hlen:(c++m).length=c.length+m.length:=List.length_append
  refine ITE.intro (fun h=>?_) fun h=>?_
  ·have hlt:k<(c++m).length:=by have:=of_decide_eq_true h;omega
   refine⟨by omega,by rw[List.length_map];omega,_,getD_map hlt,?_⟩
   rw[wrap_n (by omega)]
   exact hag (k+1,_) ⟨by show k+1≤_;omega,by show IsTak _ ((c++m).take (k+1));rw[←List.take_append_getElem hlt];exact hd.put⟩ (by show (c++m).length-(k+1)<(c++m).length-k;omega)
  ·have hge:(c++m).length≤k:=by have:=of_decide_eq_false h;omega
   rw[List.take_of_length_le hge] at hd
   refine⟨_,named_calls _ t (Nat.le_refl _) (by omega),ITE.intro (fun h3=>?_) fun h3=>?_⟩
   ·have e3:t.named=false:=by simpa using h3
    rw[e3];rfl
   ·have e3:t.named=true:=by simpa using h3
    have hst:=showerTerm_calls (b:=b) (c:=c) (m:=m) (es:=es) (B:=boundW (c++m)) (fun k hk=>bound_calls hk hd (by omega)) _ t 0 (Nat.le_refl _) (by omega) hk e3
    refine⟨_,_,_,_,_,hst,?_⟩
    rw[if_pos e3]
    cases termN (boundW (c++m)) b c m 0 t<;>rfl
def lineR (b c m:List ByteArray) (t:Tm):AV:=if(ofTermR b c m t).2=0 then shown (rightM (ofTermR b c m t).1) (txtM (ofTermR b c m t).1) else .tup [nS (⟨#[]⟩:ByteArray),nI (ofTermR b c m t).2]
theorem Line_calls {b c m:List ByteArray} {t:Tm} (h:t.size≤100000000) (hk:t.Ok) (hl:c.length+m.length≤1000000) (hz:(ofTermR b c m t).1.size≤1000000):
  PureIs Tryz.prog 17 [nmAV b c m,.agg [.sl (t.binds.map Ty.enc),nI t.kind,nI t.index,.sl (t.args.map Tm.enc)]] (lineR b c m t):=by
 have ht:=Term_calls hz
 rw[Nd.enc_eq] at ht
 refine vc17_ok ⟨_,_,_,_,_,OfTerm_calls h hk hl,ITE.intro (fun h1=>?_) fun h1=>⟨_,_,ht,?_⟩⟩
 ·have:¬(ofTermR b c m t).2=0:=by simpa using h1
  rw[lineR,if_neg this]
 ·have:(ofTermR b c m t).2=0:=by simpa using h1
  rw[lineR,if_pos this];rfl
end Go.Proofs.YtghnkppcncbddaaGreatDoor

namespace Go.Proofs.YtghnkppcncbddaaGreatDoor
open Go Go.Shelf
set_option linter.unusedSimpArgs false
set_option linter.unusedVariables false
set_option maxRecDepth 100000
abbrev wd (w:ByteArray):Nd:=.mk 1 w 0 []
theorem known1W_calls {w:ByteArray}:PureIs Tryz.prog 33 [nS w] (ndAV (wd w)):=vc33_ok rfl
theorem known2W_calls {k:Int} {x y:Nd}:PureIs Tryz.prog 34 [nI k,ndAV x,ndAV y] (ndAV (.mk k ⟨#[]⟩ 0 [x,y])):=
 vc34_ok (by show AV.agg [nI k,nS ⟨#[]⟩,nI 0,.sl [ndAV x,ndAV y]]=ndAV (.mk k ⟨#[]⟩ 0 [x,y]);rw[two_nd];rfl)
theorem knownLine:lineR [(⟨#[97]⟩:ByteArray)] [(⟨#[102]⟩:ByteArray)] [] (etaT 1 0 (.mk [.mk [] 0] 0))=.tup [nS (⟨#[92,118,48,58,97,46,32,102,32,118,48]⟩:ByteArray),nI 0]:=by kernel_rfl
abbrev knA:Nd:=.mk 2 ⟨#[]⟩ 0 [.mk 2 ⟨#[]⟩ 0 [wd ⟨#[97]⟩,wd ⟨#[97]⟩],wd ⟨#[98]⟩]
abbrev knT:Nd:=.mk 4 ⟨#[]⟩ 0 [.mk 4 ⟨#[]⟩ 0 [wd ⟨#[102]⟩,wd ⟨#[120]⟩],.mk 4 ⟨#[]⟩ 0 [wd ⟨#[103]⟩,wd ⟨#[121]⟩]]
abbrev knU:Ty:=.mk [.mk [] 0] 0
theorem knownTree:(ofTermR [(⟨#[97]⟩:ByteArray)] [(⟨#[102]⟩:ByteArray)] [] (etaT 1 0 knU)).1.size=5:=by kernel_rfl
theorem knownType:shown (rightT knA) (txtT knA)=.tup [nS (⟨#[40,97,32,45,62,32,97,41,32,45,62,32,98]⟩:ByteArray),nI 0]:=by kernel_rfl
theorem knownTerm:shown (rightM knT) (txtM knT)=.tup [nS (⟨#[102,32,120,32,40,103,32,121,41]⟩:ByteArray),nI 0]:=by kernel_rfl
theorem knownOk:(etaT 1 0 knU).Ok:=by
 refine⟨⟨by decide,by decide⟩,⟨by decide,by decide⟩,?_⟩
 exact⟨⟨⟨by decide,by decide⟩,⟨by decide,by decide⟩,True.intro⟩,True.intro⟩
theorem strEq_self (w:ByteArray):strEq w w=true:=by rw[strEq_iff];exact decide_eq_true rfl
theorem knownS_calls:PureIs Tryz.prog 8 [] (nB true):=by
 have h1:=kindOf_calls 0
 have h2:=ofKind_calls (b:=0) (l:=[.mk [] 0]) (by decide)
 have h3:=pEta_calls _ knU 1 0 (Nat.le_refl _) (by decide) (by decide)
 have h4:=Line_calls (b:=[(⟨#[97]⟩:ByteArray)]) (c:=[(⟨#[102]⟩:ByteArray)]) (m:=[]) (t:=etaT 1 0 knU) (by decide) knownOk (by decide) (by rw[knownTree];decide)
 rw[knownLine] at h4
 rw[Ty.enc_eq,Tm.enc_eq] at h3
 have h5:=Type_calls (t:=knA) (by decide)
 rw[knownType,Nd.enc_eq] at h5
 have h6:=Term_calls (t:=knT) (by decide)
 rw[knownTerm,Nd.enc_eq] at h6
 refine vc8_ok ⟨_,_,h1,_,_,h2,_,_,_,_,h3,_,_,h4,_,_,_,_,known1W_calls,_,_,_,_,known1W_calls,_,_,_,_,known2W_calls,_,_,_,_,known1W_calls,_,_,_,_,known2W_calls,_,_,h5,
  _,_,_,_,known1W_calls,_,_,_,_,known1W_calls,_,_,_,_,known2W_calls,_,_,_,_,known1W_calls,_,_,_,_,known1W_calls,_,_,_,_,known2W_calls,_,_,_,_,known2W_calls,_,_,h6,?_⟩
 refine ITE.pos rfl (ITE.pos ?_ (ITE.pos rfl (ITE.pos ?_ (ITE.pos rfl ?_))))
 ·exact strEq_self _
 ·exact strEq_self _
 ·rw[strEq_self]
end Go.Proofs.YtghnkppcncbddaaGreatDoor
