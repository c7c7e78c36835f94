/- Texts of ours laid together for a claim: P71 P72 P73 P74 P75 P08 P15 P78. -/
import Derived.Lib.Strings
import Derived.Lib.ItoaLen
import Derived.Test.YtjhanogfpkbamaaDoorQ43
namespace Go.Proofs.YtjhanogfpkbamaaDoor
open Go
set_option linter.unusedSimpArgs false
set_option linter.unusedVariables false
theorem nB_congr {a b:Bool} (h:a=true↔b=true):nB a=nB b:=congrArg nB (Bool.eq_iff_iff.2 h)
def isLetter (c:Int):Bool:=decide (97≤c∧c≤122)||decide (65≤c∧c≤90)
def isDigit (c:Int):Bool:=decide (48≤c∧c≤57)
def isInner (c:Int):Bool:=isLetter c||(isDigit c||(c==95||c==39))
def isBlank (c:Int):Bool:=c==32||(c==9||(c==10||(c==13||c==35)))
def bytesI (s:ByteArray):List Int:=s.data.toList.map fun b=>(b.toNat:Int)
theorem bytesI_len (s:ByteArray):(bytesI s).length=s.size:=by simp[bytesI]
theorem strAt_eq {s:ByteArray} {k:Nat} (h:k<(bytesI s).length):strAt s (k:Int)=(bytesI s)[k]:=by
 have h2:k<s.data.size:=by rw[bytesI_len] at h;exact h
 unfold strAt
 simp only[Int.toNat_natCast,bytesI,List.getElem_map,Array.getElem_toList]
 rw[Array.getElem?_eq_getElem h2];rfl
theorem bytesI_range (s:ByteArray):∀c∈bytesI s,0≤c∧c≤255:=by
 intro c hc
 simp only[bytesI,List.mem_map] at hc
 obtain⟨b,_,rfl⟩:=hc
 have:=b.toNat_lt
 omega
theorem bytesI_inj {s t:ByteArray} (h:bytesI s=bytesI t):s=t:=by
 obtain⟨s⟩:=s;obtain⟨t⟩:=t
 congr 1
 apply Array.ext'
 exact(List.map_inj_right (fun a b (hab:(a.toNat:Int)=b.toNat)=>UInt8.toNat_inj.1 (by omega))).1 h
theorem strEq_iff (a b:ByteArray):strEq a b=decide (a=b):=by
 obtain⟨a⟩:=a;obtain⟨b⟩:=b
 simp only[strEq]
 by_cases h:a=b
 ·subst h;simp
 ·have h1:¬(ByteArray.mk a=ByteArray.mk b):=fun e=>h (by injection e)
  rw[decide_eq_false h1,beq_eq_false_iff_ne]
  intro e
  apply h1
  have e1:=congrArg List.length e
  apply bytesI_inj
  rw[Lib.toList_data,Lib.toList_data] at e
  exact congrArg (List.map fun b:UInt8=>(b.toNat:Int)) e
def isWord (s:ByteArray):Bool:=match bytesI s with
 | []=>false
 |c::l=>decide (l.length≤29)&&isLetter c&&l.all isInner
theorem letter_calls {c:Int}:PureIs Tryd.prog 46 [.prim (.int .u8 c)] (nB (isLetter c)):=by
 refine vc46_ok ?_
 have two:ITE (decide (c≥65)) (nB (decide (c≤90))=nB (decide (65≤c∧c≤90))) (nB false=nB (decide (65≤c∧c≤90))):=by
  refine ITE.intro (fun h=>?_) fun h=>?_
  ·have h:c≥65:=by simpa using h
   exact nB_congr (by simp;omega)
  ·have h:¬c≥65:=by simpa using h
   exact nB_congr (by simp;omega)
 refine ITE.intro (fun h=>ITE.intro (fun h1=>?_) fun h1=>?_) fun h=>?_
 ·have h:c≥97:=by simpa using h
  have h1:c≤122:=by simpa using h1
  simp[isLetter];omega
 ·have h1:¬c≤122:=by simpa using h1
  have:isLetter c=decide (65≤c∧c≤90):=by unfold isLetter;rw[decide_eq_false (by omega),Bool.false_or]
  rw[this];exact two
 ·have h:¬c≥97:=by simpa using h
  have:isLetter c=decide (65≤c∧c≤90):=by unfold isLetter;rw[decide_eq_false (by omega),Bool.false_or]
  rw[this];exact two
theorem digit_calls {c:Int}:PureIs Tryd.prog 49 [.prim (.int .u8 c)] (nB (isDigit c)):=by
 refine vc49_ok (ITE.intro (fun h=>?_) fun h=>?_)
 ·have h:c≥48:=by simpa using h
  exact nB_congr (by simp[isDigit];omega)
 ·have h:¬c≥48:=by simpa using h
  exact nB_congr (by simp[isDigit];omega)
theorem inner_calls {c:Int}:PureIs Tryd.prog 48 [.prim (.int .u8 c)] (nB (isInner c)):=by
 refine vc48_ok ⟨_,letter_calls,ITE.intro (fun h=>?_) fun h=>⟨_,digit_calls,ITE.intro (fun h1=>?_) fun h1=>ITE.intro (fun h2=>?_) fun h2=>?_⟩⟩
 ·simp[isInner,h]
 ·simp[isInner,h,h1]
 ·simp[isInner,h,h1,h2]
 ·simp[isInner,h,h1,h2]
def runN (l:List Int):Nat:=(l.takeWhile isInner).length
theorem runN_cons (c:Int) (l:List Int):runN (c::l)=if isInner c=true then runN l+1 else 0:=by
 unfold runN;rw[List.takeWhile_cons];split<;>simp
theorem run_calls {s:ByteArray} (hs:s.size≤1000000000):PureIs Tryd.prog 47 [nS s,.clo 48 []] (nI (runN (bytesI s):Nat)):=by
 refine vc47_ok ?_
 unfold vc47 vc47_L2
 have hl:=bytesI_len s
 refine LoopP.intro (fun k:Nat=>((s,(),(k:Int),()),())) (fun k=>k≤s.size∧runN (bytesI s)=k+runN ((bytesI s).drop k)) (fun k=>s.size-k) 0 rfl ⟨Nat.zero_le _,by simp⟩ ?_
 intro k ⟨hk,hm⟩ again hag
 dsimp only
 refine ITE.intro (fun h=>?_) fun h=>?_
 ·have hlt:k<s.size:=by simpa using h
  have hlt':k<(bytesI s).length:=by omega
  rw[List.drop_eq_getElem_cons hlt'] at hm
  refine⟨⟨by omega,by omega⟩,_,inner_calls,?_⟩
  rw[strAt_eq hlt']
  refine ITE.intro (fun h=>?_) fun h=>?_
  ·rw[wrap_n (by omega)]
   refine hag (k+1) ⟨by omega,?_⟩ (by omega)
   rw[hm,runN_cons,if_pos h];omega
  ·rw[hm,runN_cons,if_neg (by rw[h];simp)];rfl
 ·have:s.size≤k:=by simpa using h
  rw[List.drop_eq_nil_of_le (by omega)] at hm
  rw[hm];simp[runN]
theorem letter_inner {c:Int} (h:isLetter c=true):isInner c=true:=by simp[isInner,h]
end Go.Proofs.YtjhanogfpkbamaaDoor

namespace Go.Proofs.YtjhanogfpkbamaaDoor
open Go
set_option linter.unusedSimpArgs false
set_option linter.unusedVariables false
set_option maxRecDepth 100000
def markR:Int×Int→List Int→Int×Int
 |m,[]=>m
 |m,c::l=>markR (if c==10 then(m.1+1,1) else(m.1,m.2+1)) l
theorem bytesI_extract (s:ByteArray) (i j:Nat):bytesI (s.extract i j)=((bytesI s).drop i).take (j-i):=by
 simp only[bytesI,ByteArray.data_extract,Array.toList_extract,List.extract_eq_take_drop,List.map_take,List.map_drop]
abbrev Tk:=Int×ByteArray×Int
def tkEnc (t:Tk):AV:=.agg [nI t.1,nS t.2.1,nI t.2.2]
theorem isWord_cons {s:ByteArray} {c:Int} {l:List Int} (h:bytesI s=c::l):isWord s=true↔l.length≤29∧isLetter c=true∧l.all isInner=true:=by
 simp only[isWord,h,Bool.and_eq_true,decide_eq_true_eq,and_assoc]
theorem runN_le (l:List Int):runN l≤l.length:=by
 induction l with
 |nil=>simp[runN]
 |cons c l ih=>rw[runN_cons,List.length_cons];split<;>omega
variable {s:ByteArray}
theorem tk_snoc (l:List Tk) (t:Tk):l.map tkEnc++[.agg [nI t.1,nS t.2.1,nI t.2.2]]=(l++[t]).map tkEnc:=by simp[tkEnc]
end Go.Proofs.YtjhanogfpkbamaaDoor

namespace Go.Proofs.YtjhanogfpkbamaaDoor
open Go
set_option linter.unusedSimpArgs false
set_option linter.unusedVariables false
theorem word_empty {w:ByteArray}:strEq w (⟨#[]⟩:ByteArray)=decide (w.size=0):=by
 rw[strEq_iff]
 by_cases h:w.size=0
 ·rw[decide_eq_true h,decide_eq_true (bytesI_inj (List.eq_nil_of_length_eq_zero (by rw[bytesI_len];exact h)))]
 ·rw[decide_eq_false h,decide_eq_false (fun e=>h (by rw[e];rfl))]
theorem bsz (a b:ByteArray):(a++b).size=a.size+b.size:=ByteArray.size_append
theorem sz1 {c:UInt8}:(⟨#[c]⟩:ByteArray).size=1:=rfl
end Go.Proofs.YtjhanogfpkbamaaDoor

namespace Go.Proofs.YtjhanogfpkbamaaDoor
open Go Go.Shelf
set_option linter.unusedSimpArgs false
set_option linter.unusedVariables false
section
variable {P:Program} {w w':World} {F:Nat→Nat→Prop} {η:List Value} {hp:List AObj}
def AObj.noRow:AObj→Prop
 | .box _=>True
 | .bld _ _=>True
 | .mapo _=>True
 |_=>False
theorem hpost_set {r0:AV} {q:Nat} {o o':AObj} {b:Nat} {v0:Value} {v:Value} (hpre:HPre w F η hp) (hq:hp[q]?=some o) (hn:o.noRow) (hn':o'.noRow) (hb:η[q]?=some v0) (hbk:blk v0=some b)
  (hk:Keeps (fun k=>k=b) w w') (hs:w'.heap.size=w.heap.size)
  (ho':Ext w F η hp w' (OntoH F w η hp w' η (hp.set q o')) η (hp.set q o')→ObjOk w' (OntoH F w η hp w' η (hp.set q o')) η (hp.set q o') o' v0) (hrv:Rep w F η hp r0 v):
  HPost w F η hp w' η (hp.set q o') r0 v:=by
 have hl:o.live:=by cases o<;>first|exact True.intro|exact hn.elim
 have hl':o'.live:=by cases o'<;>first|exact True.intro|exact hn'.elim
 have hql:q<hp.length:=(List.getElem?_eq_some_iff.1 hq).1
 have hself:(hp.set q o')[q]?=some o':=by simp[List.getElem?_set,hql]
 have live2:∀k,LiveBlk η (hp.set q o') k↔LiveBlk η hp k:=by
  intro k
  constructor
  ·intro ⟨r,x,u,e1,e2,e3,e4⟩
   by_cases hr:q=r
   ·subst hr;exact⟨q,_,u,hq,hl,e3,e4⟩
   ·rw[get_set_other hr] at e1;exact⟨r,x,u,e1,e2,e3,e4⟩
  ·intro ⟨r,x,u,e1,e2,e3,e4⟩
   by_cases hr:q=r
   ·subst hr;exact⟨q,_,u,hself,hl',e3,e4⟩
   ·exact⟨r,x,u,by rw[get_set_other hr];exact e1,e2,e3,e4⟩
 have hbl:LiveBlk η hp b:=⟨q,_,_,hq,hl,hb,hbk⟩
 have noF:∀x,¬F b x:=by
  intro x hf
  obtain⟨p1,q1,q2⟩:=(objF_iff b x).1 (hpre.foot b x hf).2 q _ hb hbk
  rw[hq] at q1
  obtain rfl:=Option.some.inj q1
  cases o<;>first|exact q2|exact hn
 have objF2:∀k x,ObjF η hp k x→ObjF η (hp.set q o') k x:=by
  intro k x hf
  refine(objF_iff k x).2 fun r u e1 e2=>?_
  obtain⟨p1,q1,q2⟩:=(objF_iff k x).1 hf r u e1 e2
  by_cases hr:q=r
  ·subst hr
   rw[hq] at q1
   obtain rfl:=Option.some.inj q1
   exact(show False by cases o<;>first|exact q2|exact hn).elim
  ·exact⟨p1,by rw[get_set_other hr];exact q1,q2⟩
 have hblk:∀k,k<w.heap.size→k≠b→w'.heap[k]?=w.heap[k]?:=fun k h1 h2=>hk.block k h1 h2
 have foot:∀k x,F k x→OntoH F w η hp w' η (hp.set q o') k x:=fun k x hf=>⟨.inl hf,by rw[hs];exact(hpre.foot k x hf).1,objF2 k x (hpre.foot k x hf).2⟩
 have hext:Ext w F η hp w' (OntoH F w η hp w' η (hp.set q o')) η (hp.set q o'):=by
  refine⟨fun k x u hf hc=>?_,fun k es c hf hc=>?_,foot,fun r a h=>h,fun r a h=>h,fun r n u h=>?_⟩
  ·have hne:k≠b:=fun h=>noF x (h▸hf)
   simp only[World.cell?] at hc ⊢
   rw[hblk k (hpre.foot k x hf).1 hne];exact hc
  ·have hne:k≠b:=fun h=>noF 0 (h▸hf)
   rw[hblk k (hpre.foot k 0 hf).1 hne];exact hc
  ·unfold OwnOk at h ⊢
   by_cases hr:q=r
   ·subst hr;rw[hq] at h;exact(show False by cases o<;>first|exact h|exact hn).elim
   ·rw[get_set_other hr];exact h
 refine⟨⟨hk.os,hk.tape,hk.output,hk.size,fun k h1 h3=>hblk k h1 fun h=>h3 (h▸hbl)⟩,hext,⟨by rw[List.length_set];exact hpre.heap.len,fun r x u e1 e2=>?_,fun r r' x x' u u' k hne e1 e2 l1 l2 e3 e4 e5=>?_⟩,fun k h=>.inr ((live2 k).1 h),hrv.ext hext⟩
 ·by_cases hr':q=r
  ·subst hr'
   rw[hself] at e1
   obtain rfl:=Option.some.inj e1
   rw[hb] at e2
   obtain rfl:=Option.some.inj e2
   exact ho' hext
  ·rw[get_set_other hr'] at e1
   by_cases hlv:x.live
   ·refine(hpre.heap.obj r x u e1 e2).ext hext hk.size fun k hk1 hk2=>hblk k hk2 fun h=>?_
    subst h
    exact hpre.heap.sep q r _ x _ u k hr' hq e1 hl hlv hb e2 hbk hk1
   ·cases x<;>first|exact True.intro|exact(hlv True.intro).elim
 ·have look:∀{r:Nat} {x:AObj},(hp.set q o')[r]?=some x→x.live→∃p,hp[r]?=some p∧p.live:=by
   intro r x e l
   by_cases hr:q=r
   ·subst hr;exact⟨_,hq,hl⟩
   ·rw[get_set_other hr] at e;exact⟨x,e,l⟩
  obtain⟨p,e1',l1'⟩:=look e1 l1
  obtain⟨p',e2',l2'⟩:=look e2 l2
  exact hpre.heap.sep r r' p p' u u' k hne e1' e2' l1' l2' e3 e4 e5
theorem hpost_frz {r0:AV} {q:Nat} {e size hi hi' g cap:Nat} {els:List AV} {cur:Array Value} {v:Value} (hpre:HPre w F η hp) (hq:hp[q]?=some (.row e size els)) (hη:η[q]?=some (.slice (some ⟨g,0,none⟩) els.length cap)) (hc0:0<cap)
  (hg:w.heap[g]?=some (.cells cur e (0,hi))) (hg':w'.heap[g]?=some (.cells cur e (0,hi'))) (hh:hi'≤els.length*size)
  (hs:w'.os=w.os∧w'.tape=w.tape∧w'.output=w.output∧w'.heap.size=w.heap.size) (hk:∀k,k≠g→w'.heap[k]?=w.heap[k]?) (hrv:Rep w F η hp r0 v):
  HPost w F η hp w' η hp r0 v:=by
 have hcell:∀b o,w'.cell? ⟨b,o,none⟩=w.cell? ⟨b,o,none⟩:=by
  intro b o
  by_cases hb:b=g
  ·subst hb;simp only[World.cell?,hg,hg']
  ·simp only[World.cell?,hk b hb]
 have hgl:LiveBlk η hp g:=⟨q,_,_,hq,True.intro,hη,blk_slice hc0⟩
 have hext:Ext w F η hp w' (OntoH F w η hp w' η hp) η hp:=by
  refine⟨fun k x u hf hc=>by rw[hcell];exact hc,fun k es c hf hc=>?_,fun k x hf=>⟨.inl hf,by rw[hs.2.2.2];exact(hpre.foot k x hf).1,(hpre.foot k x hf).2⟩,fun r a h=>h,fun r a h=>h,fun r n u h=>h⟩
  have:k≠g:=fun e=>by rw[e] at hc;rw[hc] at hg;cases hg
  rw[hk k this];exact hc
 refine⟨⟨hs.1,hs.2.1,hs.2.2.1,by rw[hs.2.2.2];exact Nat.le_refl _,fun k _ h3=>hk k fun h=>h3 (h▸hgl)⟩,hext,⟨hpre.heap.len,fun r x u e1 e2=>?_,hpre.heap.sep⟩,fun k h=>.inr h,hrv.ext hext⟩
 by_cases hr:q=r
 ·subst hr
  rw[hq] at e1
  obtain rfl:=Option.some.inj e1
  rw[hη] at e2
  obtain rfl:=Option.some.inj e2
  obtain⟨hz,xs,⟨hl,h1⟩,hels⟩:=hpre.heap.obj q _ _ hq hη
  refine⟨hz,xs,⟨hl,?_⟩,fun i el hi=>⟨(hels i el hi).1,fun j y hj=>let ⟨v1,q1,q2,q3⟩:=(hels i el hi).2 j y hj;⟨v1,q1,q2.ext hext.ext0.ext,q3⟩⟩⟩
  rcases h1 with⟨h1,h2|⟨ad,h2⟩⟩|⟨g1,cap1,cur1,h2,h3,⟨_,_,h4⟩,h5⟩
  ·cases h2
  ·simp only[Value.slice.injEq] at h2;omega
  ·simp only[Value.slice.injEq,Option.some.injEq,Addr.mk.injEq,and_true] at h2
   obtain⟨rfl,_,rfl⟩:=h2
   rw[hg] at h4
   simp only[Option.some.injEq,Obj.cells.injEq] at h4
   obtain⟨rfl,_,_⟩:=h4
   exact .inr ⟨g,cap,cur,rfl,hc0,⟨hi',hh,hg'⟩,h5⟩
 ·by_cases hlv:x.live
  ·refine(hpre.heap.obj r x u e1 e2).ext hext (by rw[hs.2.2.2];exact Nat.le_refl _) fun k hk1 hk2=>hk k fun h=>?_
   subst h
   exact hpre.heap.sep q r _ x _ u k hr hq e1 True.intro hlv hη e2 (blk_slice hc0) hk1
  ·cases x<;>first|exact True.intro|exact(hlv True.intro).elim
theorem hpost_dead {r0:AV} {v:Value} (hpre:HPre w F η hp) (hk:Keeps (LiveBlk η hp) w w') (hc:∀b o u,F b o→w.cell? ⟨b,o,none⟩=some u→w'.cell? ⟨b,o,none⟩=some u) (hm:∀b es c,F b 0→w.heap[b]?=some (.map es c)→w'.heap[b]?=some (.map es c)) {hp':List AObj} (hl:hp'.length=hp.length) (hd:∀(r:Nat) (o:AObj),hp'[r]?=some o→o=.dead)
  (hrv:∀F',Rep w' F' η hp' r0 v):HPost w F η hp w' η hp' r0 v:=by
 refine⟨hk,⟨hc,hm,fun k o hf=>⟨.inl hf,Nat.lt_of_lt_of_le (hpre.foot k o hf).1 hk.size,fun r u e1 e2=>?_⟩,fun r a h=>h,fun r a h=>h,fun r n u h=>?_⟩,⟨by rw[hl];exact hpre.heap.len,fun r x u e1 e2=>?_,fun r r' x x' u u' k hne e1 e2 l1 l2=>?_⟩,fun k h=>?_,hrv _⟩
 ·have hr:r<hp'.length:=by rw[hl,←hpre.heap.len];exact(List.getElem?_eq_some_iff.1 e1).1
  obtain⟨x,hx⟩:∃x,hp'[r]?=some x:=⟨_,List.getElem?_eq_getElem hr⟩
  rw[hx,hd r x hx];exact True.intro
 ·have hr:r<hp'.length:=by
   unfold OwnOk at h
   rw[hl]
   rcases Nat.lt_or_ge r hp.length with h1|h1
   ·exact h1
   ·rw[List.getElem?_eq_none h1] at h;exact h.elim
  obtain⟨x,hx⟩:∃x,hp'[r]?=some x:=⟨_,List.getElem?_eq_getElem hr⟩
  unfold OwnOk
  rw[hx,hd r x hx];exact True.intro
 ·rw[hd r x e1];exact True.intro
 ·rw[hd r x e1] at l1;exact l1.elim
 ·obtain⟨r,x,u,e1,e2,_⟩:=h
  rw[hd r x e1] at e2;exact e2.elim
end
theorem bld_ptr {w:World} {F:Nat→Nat→Prop} {η:List Value} {hp:List AObj} {r o:Nat} {v:Value} (h:Rep w F η hp (.ptr r o) v):∃b,v=.pointer (some ⟨b,o,none⟩)∧η[r]?=some (.pointer (some ⟨b,0,none⟩)):=by
 cases h with|ptr _ _ b h1=>exact⟨b,rfl,h1⟩
theorem copyCheck_calls {us:List AV} {n:Nat}:HFn Tryd.prog 22 [.ptr 0 0] [.bld 1 n,.row 5 1 us] (fun r hp'=>r=.tup []∧hp'=[.bld 1 n,.row 5 1 us]):=by
 refine⟨⟨_,Tryd.func22,by kernel_rfl,by kernel_rfl⟩,fun w F η vals hpre hv=>?_⟩
 match vals,hv with
 | [v0],⟨r0,_⟩=>
  obtain⟨b,rfl,h0⟩:=bld_ptr r0
  obtain⟨b',vs,e1,h1,h2,h3,u,h4,h5⟩:=hpre.heap.obj 0 _ _ rfl h0
  cases e1
  have c0:∀x,vs[0]?=some x→w.cell? ⟨b,0,none⟩=some x:=fun x hx=>by simp only[World.cell?,h1];exact hx
  rcases h3 with h3|h3
  ·refine callsIn_wide.2 ((Any.Builder_copyCheck_fresh lay240 layX72 b w (c0 _ h3) (by simp only[World.shape?,h1,h2.1];rfl) (by simp[World.frozen?,h1])).mono ?_)
   rintro e w' ⟨rfl,rfl⟩
   have g1:=heap_setCell_same w b 0 _ bldT (.pointer (some ⟨b,0,none⟩)) h1
   exact⟨_,.tup [],[.bld 1 n,.row 5 1 us],η,rfl,⟨rfl,rfl⟩,hpost_set (q:=0) (b:=b) (o':=.bld 1 n) hpre rfl True.intro True.intro h0 rfl ⟨rfl,rfl,rfl,by simp,fun k _ hk=>heap_setCell_other _ _ _ _ hk⟩ (by simp)
    (fun hext=>⟨b,_,rfl,g1,⟨by simp[h2.1],fun e=>by rw[Array.getElem?_setIfInBounds_ne (by omega)];exact h2.2 e⟩,.inr (by simp[h2.1]),u,by rw[Array.getElem?_setIfInBounds_ne (by omega)];exact h4,h5.ext hext⟩) (.tup [] #[] rfl fun j y u hy _=>by cases hy)⟩
  ·refine callsIn_wide.2 ((Any.Builder_copyCheck_used lay240 layX72 b w (c0 _ h3)).mono ?_)
   rintro e w' ⟨rfl,rfl⟩
   exact⟨_,.tup [],[.bld 1 n,.row 5 1 us],η,rfl,⟨rfl,rfl⟩,hpost_set (q:=0) (b:=b) (o':=.bld 1 n) hpre rfl True.intro True.intro h0 rfl ⟨rfl,rfl,rfl,Nat.le_refl _,fun _ _ _=>rfl⟩ rfl
    (fun hext=>⟨b,_,rfl,h1,h2,.inr h3,u,h4,h5.ext hext⟩) (.tup [] #[] rfl fun j y u hy _=>by cases hy)⟩
theorem WriteString_calls {us:List AV} {s:ByteArray} (h:us.length+s.size≤140737488355328) (hne:s.size≠0):HFn Tryd.prog 20 [.ptr 0 0,nS s] [.bld 1 us.length,.row 5 1 us]
  (fun r hp'=>r=.tup [nI s.size,.prim (.nilIface)]∧hp'=[.bld 1 (us++strAV s).length,.row 5 1 (us++strAV s)]):=
 vc20_ok ⟨_,copyCheck_calls,fun r q ⟨h1,h2⟩=>⟨us,⟨h1,h2⟩,rfl,h,by rw[List.length_append,strAV_len];omega,rfl,rfl⟩⟩
theorem layX:Builder.Extra Tryd.prog shRen:={ layX72 with t5:=Tryd.underlying5,a5:=Tryd.isAgg5,z5:=Tryd.sizeOf5,v5:=Tryd.zeroValue5,infoByte:=by kernel_rfl,cellsByte:=by kernel_rfl,sizeByte:=by kernel_rfl,neB5:=by decide }
set_option maxHeartbeats 1000000 in
set_option maxRecDepth 100000 in
theorem string_do {P:Program} {ρ:Ren} (L:Lays.n169 P ρ) (X:Builder.Extra P ρ) {b g cap hi:Nat} {cur vs:Array Value} {l:List UInt8} {w:World} (hbk:w.heap[b]?=some (.cells vs (ρ.t 72) (0,0)))
  (hvs:vs[1]?=some (.slice (some ⟨g,0,none⟩) l.length cap)) (hg:w.heap[g]?=some (.cells cur (ρ.t 5) (0,hi))) (hnc:l.length≤cap) (hcm:cap≤maxLen) (hcs:cur.size=cap*1) (htake:cur.toList.take (l.length*1)=Lib.byteCells l) (h0:l≠[]):
  Calls P (ρ.f 169) #[.pointer (some ⟨b,0,none⟩)] w fun e w'=>e=.returned (.string ⟨l.toArray⟩)∧w'=w.drew.freeze ⟨g,0,none⟩ l.length:=by
 have hl0:l.length≠0:=by simpa using h0
 have c1:w.drew.cell? ⟨b,1,none⟩=some (.slice (some ⟨g,0,none⟩) l.length cap):=by
  have:w.drew.heap[b]?=some (.cells vs (ρ.t 72) (0,0)):=hbk
  rw[Lib.cell_of_heap this];exact hvs
 have hSD:(Builtin.unsafeSliceData_ #[(ρ.t 37)] (ρ.t 127) #[.slice (some ⟨g,0,none⟩) l.length cap]).run P w.drew=.ok (.pointer (some ⟨g,0,none⟩)) w.drew:=
  Lib.run_unsafeSliceData_row _ _ _ _ _ _ (by omega)
 have hUS:(Builtin.unsafeString_ #[(ρ.t 127),(ρ.t 3)] (ρ.t 9) #[.pointer (some ⟨g,0,none⟩),.int .i64 l.length]).run P w.drew=.ok (.string ⟨l.toArray⟩) (w.drew.freeze ⟨g,0,none⟩ l.length):=by
  refine Lib.run_unsafeString_row w.drew (ρ.t 127) (ρ.t 3) (ρ.t 9) (ρ.t 5) L.t127 X.cellsByte g cur.size (by have hg':w.drew.heap[g]?=some (.cells cur (ρ.t 5) (0,hi)):=hg;simp[World.shape?,hg']) l h0 (by omega) (by unfold maxLen at hcm;omega) ?_
  intro j x hx
  have hj:j<l.length:=(List.getElem?_eq_some_iff.1 hx).1
  have e1:(cur.toList.take (l.length*1))[j]?=some (.int .u8 x.toNat):=by rw[htake];simp[Lib.byteCells,hx]
  rw[List.getElem?_take_of_lt (by omega)] at e1
  have hg':w.drew.heap[g]?=some (.cells cur (ρ.t 5) (0,hi)):=hg
  rw[Addr.add_lit,Lib.cell_of_heap hg']
  simpa using e1
 have mixed:=L.mixed
 have t72:=L.t72;have a72:=L.a72;have z72:=L.z72;have v72:=L.v72;have u72:=run_underlying L.t72
 have t70:=L.t70;have a70:=L.a70;have z70:=L.z70;have v70:=L.v70;have u70:=run_underlying L.t70
 have t37:=L.t37;have a37:=L.a37;have z37:=L.z37;have v37:=L.v37;have u37:=run_underlying L.t37
 have t127:=L.t127;have a127:=L.a127;have z127:=L.z127;have v127:=L.v127;have u127:=run_underlying L.t127
 have t3:=L.t3;have a3:=L.a3;have z3:=L.z3;have v3:=L.v3;have u3:=run_underlying L.t3
 have t9:=L.t9;have a9:=L.a9;have z9:=L.z9;have v9:=L.v9;have u9:=run_underlying L.t9
 have t5:=X.t5;have a5:=X.a5;have z5:=X.z5;have v5:=X.v5;have u5:=run_underlying X.t5
 go_enter L.f169,Body.n169_ntmps ρ
 go_wp2
 go_region_o
 all_goals (go_wp2;go_ret;exact⟨rfl,rfl⟩)
set_option maxHeartbeats 2000000 in
set_option maxRecDepth 100000 in
theorem string_nil {P:Program} {ρ:Ren} (L:Lays.n169 P ρ) (X:Builder.Extra P ρ) {b:Nat} {vs:Array Value} {w:World} (hbk:w.heap[b]?=some (.cells vs (ρ.t 72) (0,0))) (hvs:vs[1]?=some (.slice none 0 0)):
  Calls P (ρ.f 169) #[.pointer (some ⟨b,0,none⟩)] w fun e w'=>e=.returned (.string ⟨#[]⟩)∧w'=w.drew:=by
 have hUS:=Any.unsafeString_none L X
 have c1:w.drew.cell? ⟨b,1,none⟩=some (.slice none 0 0):=by
  have:w.drew.heap[b]?=some (.cells vs (ρ.t 72) (0,0)):=hbk
  rw[Lib.cell_of_heap this];exact hvs
 have hSD:(Builtin.unsafeSliceData_ #[(ρ.t 37)] (ρ.t 127) #[.slice none 0 0]).run P w.drew=.ok (.pointer none) w.drew:=rfl
 have mixed:=L.mixed
 have t72:=L.t72;have a72:=L.a72;have z72:=L.z72;have v72:=L.v72;have u72:=run_underlying L.t72
 have t70:=L.t70;have a70:=L.a70;have z70:=L.z70;have v70:=L.v70;have u70:=run_underlying L.t70
 have t37:=L.t37;have a37:=L.a37;have z37:=L.z37;have v37:=L.v37;have u37:=run_underlying L.t37
 have t127:=L.t127;have a127:=L.a127;have z127:=L.z127;have v127:=L.v127;have u127:=run_underlying L.t127
 have t3:=L.t3;have a3:=L.a3;have z3:=L.z3;have v3:=L.v3;have u3:=run_underlying L.t3
 have t9:=L.t9;have a9:=L.a9;have z9:=L.z9;have v9:=L.v9;have u9:=run_underlying L.t9
 have t5:=X.t5;have a5:=X.a5;have z5:=X.z5;have v5:=X.v5;have u5:=run_underlying X.t5
 go_enter L.f169,Body.n169_ntmps ρ
 go_wp2
 go_region_o
 all_goals (go_wp2;go_ret;exact⟨rfl,rfl⟩)
theorem freeze_heap {w:World} {g n k:Nat} (h:k≠g):(w.freeze ⟨g,0,none⟩ n).heap[k]?=w.heap[k]?:=by
 unfold World.freeze
 split
 ·rfl
 ·simp only[Array.getElem?_modify];rw[if_neg (Ne.symm h)]
theorem freeze_cell {w:World} {g n b o:Nat} {cur:Array Value} {T:TypeId} {z:Nat×Nat} (hg:w.heap[g]?=some (.cells cur T z)):(w.freeze ⟨g,0,none⟩ n).cell? ⟨b,o,none⟩=w.cell? ⟨b,o,none⟩:=by
 by_cases h:b=g
 ·subst h
  unfold World.freeze
  split
  ·rfl
  ·simp[World.cell?,Array.getElem?_modify,hg]
 ·simp only[World.cell?,freeze_heap h]
theorem freeze_row {w:World} {g n hi:Nat} {cur:Array Value} {T:TypeId} (hg:w.heap[g]?=some (.cells cur T (0,hi))) (hn:n≠0) (h:hi≤n):(w.freeze ⟨g,0,none⟩ n).heap[g]?=some (.cells cur T (0,n)):=by
 unfold World.freeze
 rw[if_neg hn]
 simp only[Array.getElem?_modify,if_true,hg,Option.map_some]
 congr 2
 by_cases h0:hi=0
 ·subst h0;simp
 ·have:(0==hi)=false:=by simp;omega
  rw[this]
  simp;omega
theorem freeze_same (w:World) (a:Addr) (n:Nat):(w.freeze a n).os=w.os∧(w.freeze a n).tape=w.tape∧(w.freeze a n).output=w.output∧(w.freeze a n).heap.size=w.heap.size:=by
 unfold World.freeze
 split
 ·exact⟨rfl,rfl,rfl,rfl⟩
 ·exact⟨rfl,rfl,rfl,by simp⟩
theorem bld_row {P:Program} {w:World} {F:Nat→Nat→Prop} {η:List Value} {hp:List AObj} {q:Nat} {s:ByteArray} {u:Value} (hpre:HPre w F η hp) (hq:hp[q]?=some (.row 5 1 (strAV s))) (hη:η[q]?=some u) (h:s.size≠0):
  s.data.toList≠[]∧(strAV s).length=s.data.toList.length∧∃g cap cur hi,u=.slice (some ⟨g,0,none⟩) (strAV s).length cap∧0<cap∧hi≤(strAV s).length∧w.heap[g]?=some (.cells cur 5 (0,hi))∧(strAV s).length≤cap∧cap≤maxLen∧cur.size=cap*1∧cur.toList.take ((strAV s).length*1)=Lib.byteCells s.data.toList:=by
 obtain⟨_,xs,⟨g0,g1⟩,g2⟩:=hpre.heap.obj q _ _ hq hη
 have hlen:(strAV s).length=s.data.toList.length:=by unfold strAV;exact List.length_map _
 have hxs:xs=Lib.byteCells s.data.toList:=by
  refine List.ext_getElem? fun i=>?_
  cases hs:s.data.toList[i]? with
  |none=>
   have:s.data.toList.length≤i:=List.getElem?_eq_none_iff.1 hs
   rw[List.getElem?_eq_none (by rw[g0,hlen];omega),List.getElem?_eq_none (by rw[Lib.byteCells_length];exact this)]
  |some c=>
   obtain⟨u,k1,k2,_⟩:=(g2 i (.prim (.int .u8 c.toNat)) (by simp[strAV,hs])).2 0 _ rfl
   have k3:xs[i]?=some u:=by simpa using k1
   rw[k3]
   cases k2
   simp[Lib.byteCells,hs]
 have hne:s.data.toList≠[]:=fun e=>h (by rw[←strAV_len,hlen,e];rfl)
 rcases g1 with⟨g1,_⟩|⟨g,cap,cur,rfl,k0,⟨hi,kh,k1⟩,k2,k3,k4,k5⟩
 ·exact(h (by rw[←strAV_len];exact g1)).elim
 ·exact⟨hne,hlen,g,cap,cur,hi,rfl,k0,by omega,k1,k2,k3,k4,by rw[k5];exact hxs⟩
theorem String_calls {s:ByteArray}:HFn Tryd.prog 12 [.ptr 0 0] [.bld 1 (strAV s).length,.row 5 1 (strAV s)] (fun r hp'=>r=nS s∧hp'=[.dead,.dead]):=by
 refine⟨⟨_,Tryd.func12,by kernel_rfl,by kernel_rfl⟩,fun w F η vals hpre hv=>?_⟩
 match vals,hv with
 | [v0],⟨r0,_⟩=>
  obtain⟨b,rfl,h0⟩:=bld_ptr r0
  obtain⟨b',vs,e1,h1,h2,h3,u,h4,h5⟩:=hpre.heap.obj 0 _ _ rfl h0
  cases e1
  by_cases h:s.size=0
  ·have hz:strAV s=[]:=List.eq_nil_of_length_eq_zero (by rw[strAV_len];exact h)
   have hs:s=⟨#[]⟩:=by
    obtain⟨d⟩:=s
    have:d.size=0:=h
    rw[Array.eq_empty_of_size_eq_zero this]
   refine callsIn_wide.2 ((string_nil lay169 layX (b:=b) h1 (h2.2 (by rw[hz];rfl))).mono ?_)
   rintro e w' ⟨rfl,rfl⟩
   refine⟨_,nS s,[.dead,.dead],η,rfl,⟨rfl,rfl⟩,hpost_dead (w':=w.drew) (hp':=[.dead,.dead]) hpre ⟨rfl,rfl,rfl,Nat.le_refl _,fun _ _ _=>rfl⟩ (fun _ _ _ _ hc=>hc) (fun _ _ _ _ hc=>hc) rfl (fun r o e=>?_) fun F'=>by rw[hs];exact .prim (.string ⟨#[]⟩)⟩
   match r,e with
   |0,e=>exact(Option.some.inj e).symm
   |1,e=>exact(Option.some.inj e).symm
  have h6:η[1]?=some u:=by cases h5 with|own _ _ _ _ ho=>exact ho.2 rfl
  obtain⟨hne,hlen,g,cap,cur,hi,rfl,k0,kh,k1,k2,k3,k4,k5⟩:=bld_row (P:=Tryd.prog) (q:=1) hpre rfl h6 h
  rw[hlen] at h4 k2 k5 h6
  refine callsIn_wide.2 ((string_do lay169 layX (b:=b) (g:=g) (cap:=cap) (cur:=cur) (l:=s.data.toList) h1 h4 k1 k2 k3 k4 k5 hne).mono ?_)
  rintro e w' ⟨rfl,rfl⟩
  have hgl:LiveBlk η [.bld 1 (strAV s).length,.row 5 1 (strAV s)] g:=⟨1,_,_,rfl,True.intro,h6,blk_slice k0⟩
  obtain⟨f1,f2,f3,f4⟩:=freeze_same w.drew ⟨g,0,none⟩ s.data.toList.length
  refine⟨_,nS s,[.dead,.dead],η,rfl,⟨rfl,rfl⟩,hpost_dead hpre ⟨f1,f2,f3,by rw[f4];exact Nat.le_refl _,fun k _ hk=>?_⟩ (fun b o u _ hc=>?_) (fun b es c _ hc=>?_) rfl (fun r o e=>?_) fun F'=>?_⟩
  ·exact freeze_heap (w:=w.drew) fun e=>hk (e▸hgl)
  ·rw[freeze_cell (w:=w.drew) (cur:=cur) k1];exact hc
  ·have:b≠g:=fun e=>by rw[e] at hc;rw[hc] at k1;cases k1
   rw[freeze_heap (w:=w.drew) this];exact hc
  ·match r,e with
   |0,e=>exact(Option.some.inj e).symm
   |1,e=>exact(Option.some.inj e).symm
  ·exact .prim _
theorem String_live {s:ByteArray}:HFn Tryd.prog 12 [.ptr 0 0] [.bld 1 (strAV s).length,.row 5 1 (strAV s)] (fun r hp'=>r=nS s∧hp'=[.bld 1 (strAV s).length,.row 5 1 (strAV s)]):=by
 refine⟨⟨_,Tryd.func12,by kernel_rfl,by kernel_rfl⟩,fun w F η vals hpre hv=>?_⟩
 match vals,hv with
 | [v0],⟨r0,_⟩=>
  obtain⟨b,rfl,h0⟩:=bld_ptr r0
  obtain⟨b',vs,e1,h1,h2,h3,u,h4,h5⟩:=hpre.heap.obj 0 _ _ rfl h0
  cases e1
  by_cases h:s.size=0
  ·have hz:strAV s=[]:=List.eq_nil_of_length_eq_zero (by rw[strAV_len];exact h)
   have hs:s=⟨#[]⟩:=by
    obtain⟨d⟩:=s
    have:d.size=0:=h
    rw[Array.eq_empty_of_size_eq_zero this]
   refine callsIn_wide.2 ((string_nil lay169 layX (b:=b) h1 (h2.2 (by rw[hz];rfl))).mono ?_)
   rintro e w' ⟨rfl,rfl⟩
   refine⟨_,nS s,[.bld 1 (strAV s).length,.row 5 1 (strAV s)],η,rfl,⟨rfl,rfl⟩,hpost_set (w':=w.drew) (q:=0) (b:=b) (o':=.bld 1 (strAV s).length) hpre rfl True.intro True.intro h0 rfl ⟨rfl,rfl,rfl,Nat.le_refl _,fun _ _ _=>rfl⟩ rfl
    (fun hext=>⟨b,_,rfl,h1,h2,h3,u,h4,h5.ext hext⟩) (by rw[hs];exact .prim (.string ⟨#[]⟩))⟩
  have h6:η[1]?=some u:=by cases h5 with|own _ _ _ _ ho=>exact ho.2 rfl
  obtain⟨hne,hlen,g,cap,cur,hi,rfl,k0,kh,k1,k2,k3,k4,k5⟩:=bld_row (P:=Tryd.prog) (q:=1) hpre rfl h6 h
  have h4':=h4
  have k5':=k5
  rw[hlen] at h4' k5'
  refine callsIn_wide.2 ((string_do lay169 layX (b:=b) (g:=g) (cap:=cap) (cur:=cur) (l:=s.data.toList) h1 h4' k1 (hlen▸k2) k3 k4 k5' hne).mono ?_)
  rintro e w' ⟨rfl,rfl⟩
  obtain⟨f1,f2,f3,f4⟩:=freeze_same w.drew ⟨g,0,none⟩ s.data.toList.length
  have hbg:b≠g:=fun e=>hpre.heap.sep 0 1 _ _ _ _ g (by decide) rfl rfl True.intro True.intro h0 h6 (by rw[e];rfl) (blk_slice k0)
  exact⟨_,nS s,_,η,rfl,⟨rfl,rfl⟩,hpost_frz (q:=1) hpre rfl h6 k0 k1 (freeze_row (w:=w.drew) k1 (by rw[←hlen,strAV_len];exact h) (hlen▸kh)) (by rw[hlen];omega) ⟨f1,f2,f3,f4⟩ (fun k hk=>freeze_heap (w:=w.drew) hk) (.prim _)⟩
end Go.Proofs.YtjhanogfpkbamaaDoor

namespace Go.Proofs.YtjhanogfpkbamaaDoor
open Go
set_option linter.unusedSimpArgs false
set_option linter.unusedVariables false
theorem strAV_app (a b:ByteArray):strAV (a++b)=strAV a++strAV b:=by
 unfold strAV
 rw[ByteArray.data_append,Array.toList_append,List.map_append]
abbrev bl (us:List AV):List AObj:=[.bld 1 us.length,.row 5 1 us]
theorem wr_res {n:Int}:RepW (.tup [nI n,.prim .nilIface]) (.tup [nI n,.top]):=fun w F η hp v h=>by
 cases h with
 |tup cs vs hl hr=>
  refine .tup _ vs hl fun j x u hx hu=>?_
  match j,hx with
  |0,hx=>exact hr 0 x u hx hu
  |1,hx=>cases hx;exact .top _
theorem wr_calls {us:List AV} {s:ByteArray} (hne:s.size≠0) (h:us.length+s.size≤140737488355328):HFn Tryd.prog 20 [.ptr 0 0,nS s] (bl us)
  (fun r hp'=>r=.tup [nI s.size,.top]∧hp'=bl (us++strAV s)):=
 (WriteString_calls h hne).res fun r h' ⟨h1,h2⟩=>⟨_,h1▸wr_res,rfl,h2⟩
def shown (ok:Bool) (s:ByteArray):AV:=.tup [nS (if ok then s else(⟨#[]⟩:ByteArray)),nI (if ok then 0 else 1)]
end Go.Proofs.YtjhanogfpkbamaaDoor

namespace Go.Proofs.YtjhanogfpkbamaaDoor
open Go
set_option linter.unusedSimpArgs false
set_option linter.unusedVariables false
mutual
def Tm.same:Tm→Tm→Bool
 | .mk b k i a,.mk b' k' i' a'=>(k==k'&&i==i')&&(Ty.sames b b'&&Tm.sames a a')
def Tm.sames:List Tm→List Tm→Bool
 | [],[]=>true
 |t::l,u::m=>Tm.same t u&&Tm.sames l m
 |_,_=>false
end
theorem Tm.same_eq (t u:Tm):Tm.same t u=((t.kind==u.kind&&t.index==u.index)&&(Ty.sames t.binds u.binds&&Tm.sames t.args u.args)):=by cases t;cases u;simp[Tm.same,Tm.kind,Tm.index,Tm.binds,Tm.args]
theorem Tm.sames_drop {l m:List Tm} {k:Nat} (h1:k<l.length) (h2:k<m.length):Tm.sames (l.drop k) (m.drop k)=(Tm.same l[k] m[k]&&Tm.sames (l.drop (k+1)) (m.drop (k+1))):=by
 rw[List.drop_eq_getElem_cons h1,List.drop_eq_getElem_cons h2,Tm.sames]
theorem Tm.sames_len {l m:List Tm} (h:¬l.length=m.length):Tm.sames l m=false:=by
 induction l generalizing m with
 |nil=>cases m with
  |nil=>simp at h
  |cons u m=>rfl
 |cons t l ih=>cases m with
  |nil=>rfl
  |cons u m=>rw[Tm.sames,ih (by simpa using h),Bool.and_false]
end Go.Proofs.YtjhanogfpkbamaaDoor

namespace Go.Proofs.YtjhanogfpkbamaaDoor
open Go
set_option linter.unusedSimpArgs false
set_option linter.unusedVariables false
inductive Rw where
 |mk (kind:Int) (type:Ty) (index:Int) (kids:List Rw)
mutual
def Rw.size:Rw→Nat
 | .mk _ _ _ l=>1+Rw.sizes l
def Rw.sizes:List Rw→Nat
 | []=>0
 |t::l=>Rw.size t+Rw.sizes l
end
def Rw.kids:Rw→List Rw | .mk _ _ _ l=>l
theorem Rw.size_eq (r:Rw):r.size=1+Rw.sizes r.kids:=by cases r;rfl
end Go.Proofs.YtjhanogfpkbamaaDoor

namespace Go.Proofs.YtjhanogfpkbamaaDoor
open Go Go.Shelf
set_option linter.unusedSimpArgs false
set_option linter.unusedVariables false
theorem pow_tab {w:World} (h:Glob w):Lib.TabIs Tryd.prog w "internal/strconv.uint64pow10" .u64 Lib.pow10Tab:=by
 obtain⟨T,h1⟩:=h (laids.head (by decide)) (List.head_mem _)
 unfold Lib.TabIs World.var?
 rw[show Tryd.prog.globalNamed "internal/strconv.uint64pow10"=some (laids.head (by decide)).1 from by kernel_rfl]
 simp only[Option.bind_some,h1]
 rfl
def numW (k:Int):ByteArray:=⟨(Lib.itoa k).toArray⟩
theorem itoa_calls {k:Int} (hk:I64 k):PureIs Tryd.prog 42 [nI k] (nS (numW k)):=by
 refine⟨⟨_,Tryd.func42,by kernel_rfl,by kernel_rfl⟩,fun w F vals hF hg hv=>?_⟩
 match vals,hv with
 | [v0],⟨r0,_⟩=>
  cases r0
  refine callsIn_wide.2 ((Any.strconv_Itoa layM171 k hk.1 (by have:=hk.2;omega) w (pow_tab hg)).mono ?_)
  rintro e w' ⟨rfl,n,os,rfl⟩
  refine⟨_,_,rfl,rfl,⟨rfl,rfl,rfl,?_,fun j hj=>?_⟩,.prim _⟩
  ·show w.heap.size≤(w.heap++os).size
   rw[Array.size_append];omega
  ·show (w.heap++os)[j]?=_
   rw[Array.getElem?_append_left hj]
theorem numW_size {k:Int} (hk:I64 k):(numW k).size≤30:=by
 have h1:=hk.1
 have h2:=hk.2
 have:=Lib.itoa_length_le k h1 (by omega)
 show (Lib.itoa k).toArray.size≤30
 rw[List.size_toArray];omega
end Go.Proofs.YtjhanogfpkbamaaDoor
