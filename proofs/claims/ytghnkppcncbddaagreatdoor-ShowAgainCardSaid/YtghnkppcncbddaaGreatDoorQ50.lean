/- Texts of ours laid together for a claim: P90 P91 P92 P93 P94 P95 P96 P83 P84 P80 P85 P97 P86 P87 P98 P99 P9A P9B P9C P9D P9E P9F. -/
import Derived.Shelf.Small.Strs
import Derived.Shelf.Strings.OnBuilder
import Derived.Lib.ItoaMem
import Derived.Test.YtghnkppcncbddaaGreatDoorQ49
namespace Go.Proofs.YtghnkppcncbddaaGreatDoor
open Go Go.Shelf
set_option linter.unusedSimpArgs false
set_option linter.unusedVariables false
def runC (c:Int) (l:List Int):Nat:=(l.takeWhile (· != c)).length
def idxI (c:Int) (l:List Int):Int:=if runC c l=l.length then -1 else(runC c l:Int)
theorem runC_cons (c b:Int) (l:List Int):runC c (b::l)=if b=c then 0 else runC c l+1:=by
 unfold runC
 rw[List.takeWhile_cons]
 by_cases h:b=c
 ·simp[h]
 ·rw[if_neg h,if_pos (by simpa using h)];rfl
theorem runC_le (c:Int) (l:List Int):runC c l≤l.length:=by
 induction l with
 |nil=>simp[runC]
 |cons b l ih=>rw[runC_cons,List.length_cons];split<;>omega
theorem runC_no {c:Int} {l:List Int} {n:Nat} (h:n≤runC c l):∀b∈l.take n,b≠c:=by
 induction l generalizing n with
 |nil=>simp
 |cons b l ih=>
  rw[runC_cons] at h
  cases n with
  |zero=>simp
  |succ n=>
   split at h
   ·omega
   ·rename_i hb
    intro x hx
    rw[List.take_succ_cons] at hx
    rcases List.mem_cons.1 hx with rfl|hx
    ·exact hb
    ·exact ih (by omega) x hx
theorem runC_at {c:Int} {l:List Int} (h:runC c l<l.length):l[runC c l]=c:=by
 induction l with
 |nil=>simp at h
 |cons b l ih=>
  simp only[runC_cons,List.length_cons] at h ⊢
  by_cases hb:b=c
  ·simp only[if_pos hb];simpa using hb
  ·simp only[if_neg hb] at h ⊢
   simp only[List.getElem_cons_succ]
   exact ih (by omega)
theorem idx_eq (l:List UInt8) (c:UInt8):Lib.indexByte l c=idxI (c.toNat:Int) (l.map fun b=>(b.toNat:Int)):=by
 induction l with
 |nil=>rfl
 |cons b l ih=>
  unfold Lib.indexByte idxI
  rw[ih,List.map_cons,runC_cons,List.length_cons]
  have hle:=runC_le (c.toNat:Int) (l.map fun b=>(b.toNat:Int))
  by_cases h:b=c
  ·subst h;simp
  ·have h2:¬(b.toNat:Int)=(c.toNat:Int):=fun e=>h (UInt8.toNat_inj.1 (by omega))
   rw[if_neg (by simpa using h),if_neg h2]
   unfold idxI
   by_cases hr:runC (c.toNat:Int) (l.map fun b=>(b.toNat:Int))=(l.map fun b=>(b.toNat:Int)).length
   ·rw[if_pos hr,hr,if_pos rfl];rfl
   ·have hne:((((runC (c.toNat:Int) (l.map fun b=>(b.toNat:Int)):Nat):Int)) == -1)=false:=beq_eq_false_iff_ne.2 (by omega)
    rw[if_neg hr,if_neg (by rw[hne];decide),if_neg (fun e=>hr (by omega))];omega
theorem indexByte_calls {s:ByteArray} {c:Int} (h0:0≤c) (h1:c≤255):PureIs Tryz.prog 162 [nS s,.prim (.int .u8 c)] (nI (idxI c (bytesI s))):=by
 refine⟨⟨_,Tryz.func162,by kernel_rfl,by kernel_rfl⟩,fun w F vals hF hg hv=>?_⟩
 match vals,hv with
 | [v0,v1],⟨r0,r1,_⟩=>
  cases r0;cases r1
  refine callsIn_wide.2 ((Any.strings_IndexByte lay137 s c w).mono ?_)
  rintro e w' ⟨rfl,rfl⟩
  refine⟨_,_,rfl,rfl,Same.refl _,?_⟩
  have:(c.toNat.toUInt8.toNat:Int)=c:=by
   have:c.toNat.toUInt8.toNat=c.toNat % 256:=rfl
   rw[this];omega
  rw[idx_eq,this]
  exact .prim _
def linesF (s:ByteArray):Nat→Nat→List (Nat×ByteArray)
 |0,_=>[]
 |f+1,a=>(a,s.extract a (a+runC 10 ((bytesI s).drop a)))::(if a+runC 10 ((bytesI s).drop a)=s.size then[] else linesF s f (a+runC 10 ((bytesI s).drop a)+1))
def encL (p:Nat×ByteArray):Int×ByteArray×Unit:=((p.1:Int),p.2,())
def encLV (p:Nat×ByteArray):List AV:=[nI (p.1:Int),nS p.2]
theorem bytes_to_end {s:ByteArray} {a:Nat}:bytesI (s.extract a s.size)=(bytesI s).drop a:=by
 rw[bytesI_extract,List.take_of_length_le]
 rw[List.length_drop,bytesI_len];exact Nat.le_refl _
theorem lines1_calls {s:ByteArray} (hs:s.size≤1000000000):YFn Tryz.prog 169 (fun v=>[v,.eptr (nS s) 0]) ((linesF s (s.size+1) 0).map encLV) false:=by
 have hl:=bytesI_len s
 refine vc169_ok fun yv more=>⟨rfl,?_⟩
 refine LoopP.intro (fun p:Nat×Nat=>(((yv,(),(p.2:Int),()),()),some ((linesF s p.1 p.2).map encLV++more))) (fun p=>p.2≤s.size∧s.size+1≤p.1+p.2) (fun p=>s.size+1-p.2) (s.size+1,0) rfl ⟨Nat.zero_le _,by dsimp only;omega⟩ ?_
 intro ⟨f,a⟩ ⟨ha,hf⟩ again hag
 dsimp only at ha hf ⊢
 obtain⟨f,rfl⟩:∃g,f=g+1:=⟨f-1,by omega⟩
 have hr:=runC_le 10 ((bytesI s).drop a)
 rw[List.length_drop,hl] at hr
 have hix:=indexByte_calls (s:=s.extract a s.size) (c:=10) (by decide) (by decide)
 rw[bytes_to_end,idxI,List.length_drop,hl] at hix
 refine⟨⟨by omega,by omega,by omega⟩,_,hix,?_⟩
 by_cases he:runC 10 ((bytesI s).drop a)=s.size-a
 ·rw[if_pos he]
  refine ITE.pos (by decide) ⟨⟨by omega,by omega,by omega⟩,rfl,more,?_,fun b=>⟨b,rfl⟩⟩
  rw[linesF,he,if_pos (by omega)]
  have:a+(s.size-a)=s.size:=by omega
  rw[this];rfl
 ·rw[if_neg he]
  have w1:IntKind.wrap .i64 ((a:Int)+((runC 10 ((bytesI s).drop a):Nat):Int))=((a+runC 10 ((bytesI s).drop a):Nat):Int):=by rw[wrap_i (by omega) (by omega)];omega
  have w2:IntKind.wrap .i64 ((a:Int)+IntKind.wrap .i64 (((runC 10 ((bytesI s).drop a):Nat):Int)+1))=((a+runC 10 ((bytesI s).drop a)+1:Nat):Int):=by rw[wrap_n (by omega),wrap_i (by omega) (by omega)];omega
  rw[w1,w2]
  refine ITE.neg (decide_eq_false (by omega)) ⟨⟨by omega,by omega,by omega⟩,rfl,(linesF s f (a+runC 10 ((bytesI s).drop a)+1)).map encLV++more,?_,fun b=>ITE.intro (fun h=>?_) fun h=>?_⟩
  ·rw[linesF,if_neg (by omega)];rfl
  ·have:b=false:=by simpa using h
   subst this
   exact⟨false,rfl⟩
  ·have:b=true:=by simpa using h
   subst this
   exact⟨rfl,hag (f,_) ⟨by dsimp only;omega,by dsimp only;omega⟩ (by dsimp only;omega)⟩
theorem lines_seq {s:ByteArray} (hs:s.size≤1000000000):SeqIs Tryz.prog 169 [.eptr (nS s) 0] [.v (.c (.i .i64)),.v (.c (.s))] ((linesF s (s.size+1) 0).map encL):=
 seqIs_of (prm:=[.v (.c (.i .i64)),.v (.c (.s))]) encL (lines1_calls hs)
theorem markR_app (m:Int×Int) (a b:List Int):markR m (a++b)=markR (markR m a) b:=by
 induction a generalizing m with
 |nil=>rfl
 |cons c a ih=>exact ih _
theorem markR_no {l:List Int} (m:Int×Int) (h:∀b∈l,b≠10):markR m l=(m.1,m.2+l.length):=by
 induction l generalizing m with
 |nil=>simp[markR]
 |cons c l ih=>
  have hc:(c==10)=false:=by simpa using h c List.mem_cons_self
  rw[markR,hc,ih _ fun b hb=>h b (List.mem_cons_of_mem _ hb)]
  simp;omega
def markA (s:ByteArray) (i:Nat):AV:=.agg [nI (markR (1,1) ((bytesI s).take i)).1,nI (markR (1,1) ((bytesI s).take i)).2]
theorem placeOf_calls {s:ByteArray} {i:Nat} (hi:i≤s.size) (hs:s.size≤1000000000):PureIs Tryz.prog 131 [nS s,nI (i:Int)] (.tup [markA s i,nI 0]):=by
 have hl:=bytesI_len s
 refine vc131_ok (ITE.neg (decide_eq_false (by omega)) (ITE.neg (decide_eq_false (by omega)) ⟨vc161_ok rfl,?_⟩))
 refine RangeP.intro2 (fun n:Nat=>(((i:Int),()),(0,0,()),(0,()),((n:Int),()),())) encL (linesF s (s.size+1) 0) (lines_seq hs)
  (fun rest n=>∃f a,rest=linesF s f a∧a≤i∧s.size+1≤f+a∧n≤a∧markR (1,1) ((bytesI s).take a)=(((n+1:Nat):Int),1)) 0 rfl ⟨_,_,rfl,Nat.zero_le _,Nat.le_refl _,Nat.le_refl _,rfl⟩ (fun p rest n hI again hag=>?_) fun n hI=>?_
 ·obtain⟨f,a,he,ha,hf,hna,hm⟩:=hI
  obtain⟨f,rfl⟩:∃g,f=g+1:=⟨f-1,by omega⟩
  rw[linesF] at he
  obtain⟨rfl,rfl⟩:=List.cons.inj he
  have hr:=runC_le 10 ((bytesI s).drop a)
  rw[List.length_drop,hl] at hr
  have hz:(s.extract a (a+runC 10 ((bytesI s).drop a))).size=runC 10 ((bytesI s).drop a):=by rw[←bytesI_len,bytesI_extract,List.length_take,List.length_drop,hl];omega
  dsimp only[encL]
  rw[wrap_n (by omega)]
  have hw:IntKind.wrap .i64 ((a:Int)+(((s.extract a (a+runC 10 ((bytesI s).drop a))).size:Nat):Int))=(a:Int)+(runC 10 ((bytesI s).drop a):Nat):=by rw[hz,wrap_i (by omega) (by omega)]
  refine ITE.intro (fun h=>?_) fun h=>?_
  ·have h:i≤a+runC 10 ((bytesI s).drop a):=by
    have:=of_decide_eq_true h
    rw[hw] at this;omega
   rw[wrap_i (n:=(i:Int)-a) (by omega) (by omega),wrap_i (by omega) (by omega)]
   have e:(bytesI s).take i=(bytesI s).take a++((bytesI s).drop a).take (i-a):=by rw[←List.take_add,show a+(i-a)=i by omega]
   have hm2:markR (1,1) ((bytesI s).take i)=(((n+1:Nat):Int),1+((i-a:Nat):Int)):=by
    rw[e,markR_app,hm,markR_no _ (runC_no (by omega)),List.length_take,List.length_drop,hl,Nat.min_eq_left (by omega)]
   show _=AV.tup [markA s i,nI 0]
   rw[markA,hm2]
   have:(1:Int)+((i-a:Nat):Int)=(i:Int)-a+1:=by omega
   rw[this]
  ·have h:a+runC 10 ((bytesI s).drop a)<i:=by
    have:=of_decide_eq_false h
    rw[hw] at this;omega
   refine hag (n+1) ⟨f,a+runC 10 ((bytesI s).drop a)+1,if_neg (by omega),by omega,by omega,by omega,?_⟩
   have hlt:a+runC 10 ((bytesI s).drop a)<(bytesI s).length:=by omega
   rw[List.take_succ_eq_append_getElem hlt,List.take_add,List.append_assoc,markR_app,hm,markR_app,markR_no _ (runC_no (Nat.le_refl _))]
   have hc:(bytesI s)[a+runC 10 ((bytesI s).drop a)]=10:=by
    have:=runC_at (c:=10) (l:=(bytesI s).drop a) (by rw[List.length_drop];omega)
    rw[List.getElem_drop] at this
    exact this
   rw[hc]
   simp[markR]
 ·obtain⟨f,a,he,ha,hf,hna,hm⟩:=hI
  obtain⟨f,rfl⟩:∃g,f=g+1:=⟨f-1,by omega⟩
  rw[linesF] at he
  cases he
end Go.Proofs.YtghnkppcncbddaaGreatDoor

namespace Go.Proofs.YtghnkppcncbddaaGreatDoor
open Go
set_option linter.unusedSimpArgs false
set_option linter.unusedVariables false
def skipB:Bool→List Int→Nat
 |_,[]=>0
 |r,c::l=>if r||isBlank c then skipB (c != 10&&(r||c==35)) l+1 else 0
theorem skipB_le:∀(r:Bool) (l:List Int),skipB r l≤l.length
 |_,[]=>Nat.le_refl _
 |r,c::l=>by
  rw[skipB,List.length_cons]
  split
  ·have:=skipB_le (c != 10&&(r||c==35)) l;omega
  ·omega
theorem skipB_true:∀(l:List Int),skipB true l=if runC 10 l=l.length then l.length else runC 10 l+skipB false (l.drop (runC 10 l))
 | []=>rfl
 |c::l=>by
  rw[skipB,runC_cons,List.length_cons]
  by_cases h:c=10
  ·subst h
   rw[if_pos rfl,if_neg (Nat.ne_of_lt (Nat.succ_pos _)),List.drop_zero,skipB];simp[isBlank]
  ·have e:(c != 10&&(true||c==35))=true:=by simpa using h
   rw[Bool.true_or,if_pos rfl,e,skipB_true l,if_neg h]
   by_cases h2:runC 10 l=l.length
   ·rw[if_pos h2,if_pos (by omega)]
   ·rw[if_neg h2,if_neg (by omega),List.drop_succ_cons];omega
theorem skipB_hash (l:List Int):skipB false (35::l)=skipB true (35::l):=rfl
theorem strAt_drop {s:ByteArray} {k:Nat} {c:Int} {l:List Int} (h:(bytesI s).drop k=c::l):strAt s (k:Int)=c∧k<s.size∧(bytesI s).drop (k+1)=l:=by
 have hlt:k<(bytesI s).length:=by
  rcases Nat.lt_or_ge k (bytesI s).length with h1|h1
  ·exact h1
  ·rw[List.drop_eq_nil_of_le h1] at h;cases h
 rw[List.drop_eq_getElem_cons hlt] at h
 obtain⟨h1,h2⟩:=List.cons.inj h
 exact⟨by rw[strAt_eq hlt,h1],by rw[←bytesI_len];exact hlt,h2⟩
theorem skip_calls {s:ByteArray} (hs:s.size≤1000000000):PureIs Tryz.prog 133 [nS s] (nI (skipB false (bytesI s):Nat)):=by
 have hl:=bytesI_len s
 refine vc133_ok ?_
 refine LoopP.intro (fun k:Nat=>((s,(k:Int),()),())) (fun k=>k≤s.size∧skipB false (bytesI s)=k+skipB false ((bytesI s).drop k)) (fun k=>(s.size-k)*2+(if(bytesI s).drop k=[] then 0 else if((bytesI s).drop k).head?=some 10 then 0 else 1)) 0 rfl ⟨Nat.zero_le _,by simp⟩ ?_
 intro k ⟨hk,hd⟩ again hag
 dsimp only
 refine ITE.intro (fun h=>?_) fun h=>?_
 ·have hlt:k<s.size:=by have:=of_decide_eq_true h;omega
  obtain⟨c,l,hcl⟩:∃c l,(bytesI s).drop k=c::l:=⟨_,_,List.drop_eq_getElem_cons (by omega)⟩
  obtain⟨hat,_,hl2⟩:=strAt_drop hcl
  refine⟨⟨by omega,by omega⟩,?_⟩
  rw[hat]
  have blank:(isBlank c=true∧c≠35)→again ((s,IntKind.wrap .i64 ((k:Int)+1),()),()):=fun⟨hb,hc⟩=>by
   rw[wrap_n (by omega)]
   refine hag (k+1) ⟨by omega,?_⟩ (by split<;>split<;>(try split)<;>omega)
   have e:(c != 10&&(false||c==35))=false:=by simp[hc]
   rw[hd,hcl,skipB,Bool.false_or,if_pos hb,e,←hl2];omega
  have stop:isBlank c=false→nI (k:Int)=nI ((skipB false (bytesI s):Nat):Int):=fun hb=>by
   rw[hd,hcl,skipB,hb];simp
  have hash:c=35→0≤(k:Int)∧(k:Int)≤((s.size:Nat):Int)∧((s.size:Nat):Int)≤s.size:=fun _=>⟨by omega,by omega,by omega⟩
  have hix:=indexByte_calls (s:=s.extract k s.size) (c:=10) (by decide) (by decide)
  rw[bytes_to_end,idxI,List.length_drop,hl] at hix
  have hr:=runC_le 10 ((bytesI s).drop k)
  rw[List.length_drop,hl] at hr
  have rem:(c==35)=true→∃i53,pI 162 [nS (ByteArray.extract s (Int.toNat k) (Int.toNat ((ByteArray.size s:Nat):Int))),.prim (.int .u8 10)] (nI i53)∧
    ITE (decide (i53<0)) ((fun r=>r=nI ((skipB false (bytesI s):Nat):Int)) (nI ((ByteArray.size s:Nat):Int))) (again ((s,IntKind.wrap .i64 ((k:Int)+i53),()),())):=fun hc=>by
   have hc:c=35:=by simpa using hc
   subst hc
   refine⟨_,hix,?_⟩
   have e:=skipB_true ((bytesI s).drop k)
   rw[List.length_drop,hl] at e
   rw[hcl,skipB_hash,←hcl,e] at hd
   by_cases h1:runC 10 ((bytesI s).drop k)=s.size-k
   ·rw[if_pos h1] at hd
    rw[if_pos h1]
    refine ITE.pos rfl ?_
    show nI _=nI _
    rw[hd];congr 1;congr 1;congr 1;omega
   ·rw[if_neg h1] at hd
    rw[if_neg h1]
    refine ITE.neg (decide_eq_false (by omega)) ?_
    rw[wrap_i (n:=(k:Int)+_) (by omega) (by omega),show (k:Int)+(runC 10 ((bytesI s).drop k):Nat)=((k+runC 10 ((bytesI s).drop k):Nat):Int) by omega]
    have h0:0<runC 10 ((bytesI s).drop k):=by rw[hcl,runC_cons];simp
    refine hag _ ⟨by omega,?_⟩ (by split<;>split<;>(try split)<;>omega)
    rw[hd,List.drop_drop];omega
  refine ITE.intro (fun h1=>?_) fun h1=>ITE.intro (fun h2=>?_) fun h2=>ITE.intro (fun h3=>?_) fun h3=>ITE.intro (fun h4=>?_) fun h4=>ITE.intro (fun h5=>?_) fun h5=>?_
  ·exact ITE.pos h1 (blank ⟨by unfold isBlank;rw[h1];rfl,fun e=>by rw[e] at h1;cases h1⟩)
  ·exact ITE.pos h2 (blank ⟨by unfold isBlank;rw[h1,h2];rfl,fun e=>by rw[e] at h2;cases h2⟩)
  ·exact ITE.pos h3 (blank ⟨by unfold isBlank;rw[h1,h2,h3];rfl,fun e=>by rw[e] at h3;cases h3⟩)
  ·exact blank ⟨by unfold isBlank;rw[h1,h2,h3,h4];rfl,fun e=>by rw[e] at h4;cases h4⟩
  ·exact⟨hash (by simpa using h5),rem h5⟩
  ·exact stop (by unfold isBlank;rw[h1,h2,h3,h4,h5];rfl)
 ·have:s.size≤k:=by have:=of_decide_eq_false h;omega
  rw[List.drop_eq_nil_of_le (by omega)] at hd
  rw[hd];rfl
def runD (l:List Int):Nat:=(l.takeWhile isDigit).length
theorem runD_cons (c:Int) (l:List Int):runD (c::l)=if isDigit c=true then runD l+1 else 0:=by
 unfold runD;rw[List.takeWhile_cons];split<;>simp
theorem runD_le (l:List Int):runD l≤l.length:=by
 induction l with
 |nil=>simp[runD]
 |cons c l ih=>rw[runD_cons,List.length_cons];split<;>omega
theorem runD_calls {s:ByteArray} (hs:s.size≤1000000000):PureIs Tryz.prog 124 [nS s,.clo 157 []] (nI (runD (bytesI s):Nat)):=by
 refine vc_runD_ok ?_
 have hl:=bytesI_len s
 refine LoopP.intro (fun k:Nat=>((s,(),(k:Int),()),())) (fun k=>k≤s.size∧runD (bytesI s)=k+runD ((bytesI s).drop k)) (fun k=>s.size-k) 0 rfl ⟨Nat.zero_le _,by simp⟩ ?_
 intro k ⟨hk,hm⟩ again hag
 dsimp only
 refine ITE.intro (fun h=>?_) fun h=>?_
 ·have hlt:k<s.size:=by simpa using h
  have hlt':k<(bytesI s).length:=by omega
  rw[List.drop_eq_getElem_cons hlt'] at hm
  refine⟨⟨by omega,by omega⟩,_,digit_calls,?_⟩
  rw[strAt_eq hlt']
  refine ITE.intro (fun h=>?_) fun h=>?_
  ·rw[wrap_n (by omega)]
   refine hag (k+1) ⟨by omega,?_⟩ (by omega)
   rw[hm,runD_cons,if_pos h];omega
  ·rw[hm,runD_cons,if_neg (by rw[h];simp)];rfl
 ·have:s.size≤k:=by simpa using h
  rw[List.drop_eq_nil_of_le (by omega)] at hm
  rw[hm];simp[runD]
def signs:List Int:=[40,41,92,46,44,59,58,61,62,60,91,93,123,125,33,63,64]
def signN:List Int→Nat
 | []=>0
 |c::l=>if c=45∧l.head?=some 62 then 2 else if c∈signs then 1 else 0
def tokN:List Int→Nat×Nat
 | []=>(3,0)
 |c::l=>if isLetter c=true then(1,runN (c::l)) else if isDigit c=true then(2,runD (c::l)) else(3,signN (c::l))
theorem hasPrefix_calls {s p:ByteArray}:PureIs Tryz.prog 171 [nS s,nS p] (nB (decide ((bytesI s).take p.size=bytesI p))):=by
 have hl:=bytesI_len s
 have hp:=bytesI_len p
 refine vc171_ok ⟨_,vc178_ok (R:=fun r=>r=nB (decide ((bytesI s).take p.size=bytesI p))) (ITE.intro (fun h=>?_) fun h=>?_),rfl⟩
 ·have h:p.size≤s.size:=by have:=of_decide_eq_true h;omega
  refine⟨⟨by decide,by omega,by omega⟩,?_⟩
  show nB _=nB _
  rw[strEq_iff]
  refine nB_congr ?_
  rw[decide_eq_true_iff,decide_eq_true_iff]
  have e:bytesI (s.extract (Int.toNat 0) (Int.toNat ((p.size:Nat):Int)))=(bytesI s).take p.size:=by rw[bytesI_extract];rfl
  rw[←e]
  exact⟨fun h=>by rw[h],bytesI_inj⟩
 ·have h:s.size<p.size:=by have:=of_decide_eq_false h;omega
  refine(nB_congr ?_).symm
  rw[decide_eq_true_iff]
  refine⟨fun e=>?_,fun e=>by cases e⟩
  have:=congrArg List.length e
  rw[List.length_take] at this;omega
theorem sign_calls {s:ByteArray} (hs:s.size≤1000000000):PureIs Tryz.prog 163 [nS s] (nI (signN (bytesI s):Nat)):=by
 refine vc163_ok ⟨_,hasPrefix_calls,?_⟩
 have e1:bytesI (⟨#[45,62]⟩:ByteArray)=[45,62]:=rfl
 have e2:(⟨#[45,62]⟩:ByteArray).size=2:=rfl
 rw[e1,e2]
 cases hb:bytesI s with
 |nil=>
  obtain rfl:s=⟨#[]⟩:=bytesI_inj hb
  exact ITE.neg rfl (ITE.neg (by rw[strEq_iff];rfl) rfl)
 |cons c l=>
  have hat:strAt s ((0:Nat):Int)=c∧0<s.size∧_:=strAt_drop (by rw[List.drop_zero];exact hb)
  have hix:=indexByte_calls (s:=(⟨#[40,41,92,46,44,59,58,61,62,60,91,93,123,125,33,63,64]⟩:ByteArray)) (c:=c)
   (by have:=bytesI_range s c (by rw[hb];exact List.mem_cons_self);omega) (by have:=bytesI_range s c (by rw[hb];exact List.mem_cons_self);omega)
  rw[←show strAt s (0:Int)=c from hat.1] at hix
  have e3:bytesI (⟨#[40,41,92,46,44,59,58,61,62,60,91,93,123,125,33,63,64]⟩:ByteArray)=signs:=rfl
  rw[e3] at hix
  have hix2:=hix
  have hc0:strAt s (0:Int)=c:=hat.1
  have hsg:decide (idxI c signs≥0)=decide (c∈signs):=by
   have key:∀L:List Int,(runC c L=L.length↔c∉L):=by
    intro L
    induction L with
    |nil=>simp[runC]
    |cons b L ih=>
     rw[runC_cons,List.length_cons,List.mem_cons]
     by_cases h:b=c
     ·subst h;simp
     ·rw[if_neg h]
      have h':¬c=b:=fun e=>h e.symm
      simp only[Nat.add_right_cancel_iff,ih,h',false_or]
   unfold idxI
   by_cases h:c∈signs
   ·rw[if_neg (fun e=>(key _).1 e h),decide_eq_true h];exact decide_eq_true (by omega)
   ·rw[if_pos ((key _).2 h),decide_eq_false h];rfl
  have h2:decide ((c::l).take 2=[45,62])=decide (c=45∧l.head?=some 62):=by
   cases l with
   |nil=>simp
   |cons d l=>simp
  rw[h2]
  refine ITE.intro (fun h=>?_) fun h=>ITE.pos (by rw[strEq_iff,decide_eq_false];rfl;intro e;rw[e] at hb;cases hb) ⟨⟨by decide,by have:=hat.2.1;omega⟩,_,hix2,?_⟩
  ·rw[signN,if_pos (of_decide_eq_true h)];rfl
  ·rw[hc0,hsg]
   refine ITE.intro (fun h3=>?_) fun h3=>?_
   ·rw[signN,if_neg (of_decide_eq_false h),if_pos (of_decide_eq_true h3)];rfl
   ·rw[signN,if_neg (of_decide_eq_false h),if_neg (of_decide_eq_false h3)];rfl
end Go.Proofs.YtghnkppcncbddaaGreatDoor

namespace Go.Proofs.YtghnkppcncbddaaGreatDoor
open Go
set_option linter.unusedSimpArgs false
set_option linter.unusedVariables false
theorem first_calls {s:ByteArray} (hs:s.size≤1000000000) (hne:bytesI s≠[]):PureIs Tryz.prog 134 [nS s] (.tup [nI ((tokN (bytesI s)).1:Nat),nI ((tokN (bytesI s)).2:Nat)]):=by
 cases hb:bytesI s with
 |nil=>exact(hne hb).elim
 |cons c l=>
  have hat:strAt s ((0:Nat):Int)=c∧0<s.size∧_:=strAt_drop (by rw[List.drop_zero];exact hb)
  have hc0:strAt s (0:Int)=c:=hat.1
  have hz:=hat.2.1
  refine vc134_ok ⟨⟨by decide,by omega⟩,_,letter_calls,?_⟩
  rw[hc0]
  refine ITE.intro (fun h=>⟨_,run_calls hs,?_⟩) fun h=>⟨⟨by decide,by omega⟩,_,digit_calls,ITE.intro (fun h2=>⟨_,runD_calls hs,?_⟩) fun h2=>⟨_,sign_calls hs,?_⟩⟩
  ·rw[tokN,if_pos h,hb];rfl
  ·rw[tokN,if_neg (by rw[h];decide),if_pos h2,hb];rfl
  ·rw[tokN,if_neg (by rw[h];decide),if_neg (by rw[h2];decide),hb];rfl
def visW (c:Int):ByteArray:=if c<33∨c>126 then⟨#[]⟩ else strOfNums [c]
theorem visible_calls {c:Int}:PureIs Tryz.prog 135 [.prim (.int .u8 c)] (nS (visW c)):=by
 refine vc135_ok (ITE.intro (fun h=>?_) fun h=>ITE.intro (fun h2=>?_) fun h2=>?_)
 ·rw[visW,if_pos (.inl (of_decide_eq_true h))]
 ·rw[visW,if_pos (.inr (of_decide_eq_true h2))]
 ·rw[visW,if_neg (by have:=of_decide_eq_false h;have:=of_decide_eq_false h2;omega)]
def headW (s:ByteArray):ByteArray:=s.extract 0 (if 10<s.size then 10 else s.size)
theorem lhead_calls {s:ByteArray}:PureIs Tryz.prog 136 [nS s] (nS (headW s)):=by
 refine vc136_ok ⟨⟨by decide,by split<;>omega,by split<;>omega⟩,?_⟩
 rw[headW]
 by_cases h:10<s.size
 ·rw[if_pos h,if_pos (by omega)];rfl
 ·rw[if_neg h,if_neg (by omega)];rfl
abbrev Fa:=Int×Int×Int×ByteArray
abbrev faC (f:Fa):List AV:=[nI f.1,nI f.2.1,nI f.2.2.1,nS f.2.2.2]
def noFa:Fa:=(0,0,0,⟨#[]⟩)
def atFa (s:ByteArray) (code:Int) (i:Nat) (w:ByteArray):Fa:=(code,(markR (1,1) ((bytesI s).take i)).1,(markR (1,1) ((bytesI s).take i)).2,w)
def lexA (s:ByteArray) (i:Nat):Nat:=i+skipB false ((bytesI s).drop i)
def lexT (s:ByteArray) (i:Nat):Nat×Nat:=tokN ((bytesI s).drop i)
def lexF (s:ByteArray):Nat→Nat→List Tk→List Tk×Int×Nat×ByteArray
 |0,_,acc=>(acc,0,0,⟨#[]⟩)
 |f+1,i,acc=>if lexA s i=s.size then(acc,0,0,⟨#[]⟩)
  else if(lexT s (lexA s i)).2=0 then([],3,lexA s i,visW (strAt s (lexA s i)))
  else if((lexT s (lexA s i)).1=1∧30<(lexT s (lexA s i)).2)∨((lexT s (lexA s i)).1=2∧9<(lexT s (lexA s i)).2) then([],2,lexA s i,headW (s.extract (lexA s i) (lexA s i+(lexT s (lexA s i)).2)))
  else lexF s f (lexA s i+(lexT s (lexA s i)).2) (acc++[((((lexT s (lexA s i)).1:Nat):Int),s.extract (lexA s i) (lexA s i+(lexT s (lexA s i)).2),((lexA s i:Nat):Int))])
def finS (s:ByteArray) (r:List Tk×Int×Nat×ByteArray):List Tk×Fa:=if r.2.1=0 then(r.1,noFa) else([],atFa s r.2.1 r.2.2.1 r.2.2.2)
def splitP (s:ByteArray):List Tk×Fa:=if s.size>20000 then([],(2,1,1,⟨#[]⟩)) else finS s (lexF s (s.size+1) 0 [])
theorem tokN_le:∀l:List Int,(tokN l).2≤l.length
 | []=>Nat.le_refl _
 |c::l=>by
  have h1:=runN_le (c::l)
  have h2:=runD_le (c::l)
  rw[tokN]
  split
  ·exact h1
  ·split
   ·exact h2
   ·rw[signN]
    split
    ·rename_i h
     obtain⟨d,hd⟩:∃d,l.head?=some d:=⟨_,h.2⟩
     cases l with
     |nil=>cases hd
     |cons d l=>simp
    ·split<;>simp
theorem splitFail_calls {s w:ByteArray} {f:Fa} {us:List AV} {i:Nat} {c:Int} (hi:i≤s.size) (hs:s.size≤1000000000):HFn Tryz.prog 130 [nI c,nS w,.ptr 0 0,.ptr 3 0] (spO s f.1 f.2.1 f.2.2.1 f.2.2.2 us.length (i:Int) us)
  (fun r hp'=>r=.tup [.prim (.slice none 0 0),.agg (faC (atFa s c i w))]∧hp'=spO s f.1 f.2.1 f.2.2.1 f.2.2.2 us.length (i:Int) us):=
 vc130_ok ⟨_,_,_,placeOf_calls hi hs,rfl,rfl⟩
theorem splitCut_calls {s:ByteArray} {f:Fa} {us:List Tk} {i n:Nat} {k:Int} (hi:i+n≤s.size) (hs:s.size≤1000000000) (hu:us.length≤1000000000):HFn Tryz.prog 132 [nI k,nI (n:Int),.ptr 2 0,.ptr 0 0,.ptr 3 0] (spO s f.1 f.2.1 f.2.2.1 f.2.2.2 (us.map tkEnc).length (i:Int) (us.map tkEnc))
  (fun r hp'=>r=.tup []∧hp'=spO s f.1 f.2.1 f.2.2.1 f.2.2.2 ((us++[(k,s.extract i (i+n),(i:Int))]).map tkEnc).length ((i+n:Nat):Int) ((us++[(k,s.extract i (i+n),(i:Int))]).map tkEnc)):=by
 refine vc132_ok ?_
 have w:IntKind.wrap .i64 ((i:Int)+(n:Int))=((i+n:Nat):Int):=by rw[wrap_i (by omega) (by omega)];omega
 unfold vc132
 rw[w]
 have e:=tk_snoc us (k,s.extract i (i+n),(i:Int))
 refine⟨⟨by omega,by omega,by omega⟩,rfl,appOk_one rfl (by simp;omega) (by decide),rfl,?_⟩
 rw[←e];rfl
theorem lexSplit_calls {s:ByteArray} (hs:s.size≤1000000000):PureIs Tryz.prog 97 [nS s] (.tup [.sl ((splitP s).1.map tkEnc),.agg (faC (splitP s).2)]):=by
 have hl:=bytesI_len s
 refine vc97_ok ?_
 refine ITE.intro (fun h=>?_) fun h=>?_
 ·have h:s.size>20000:=by have:=of_decide_eq_true h;omega
  rw[splitP,if_pos h];rfl
 refine⟨rfl,?_⟩
 have hsz:¬s.size>20000:=by have:=of_decide_eq_false h;omega
 have hsp:splitP s=finS s (lexF s (s.size+1) 0 []):=if_neg hsz
 refine LoopP.intro (fun p:Nat×Nat×List Tk=>(((),(),(),(),((),(),()),((),(),(),()),()),((s,()),(0,0,0,⟨#[]⟩,()),((),()),((p.2.1:Int),()),p.2.2.map tkEnc,()))) (fun p=>p.2.1≤s.size∧s.size+1≤p.1+p.2.1∧p.2.2.length≤p.2.1∧splitP s=finS s (lexF s p.1 p.2.1 p.2.2)) (fun p=>s.size-p.2.1)
  (s.size+1,0,[]) rfl ⟨Nat.zero_le _,by dsimp only;omega,Nat.le_refl _,hsp⟩ ?_
 intro ⟨f,i,acc⟩ ⟨hi,hf,hac,hd⟩ again hag
 dsimp only at hi hf hac hd ⊢
 obtain⟨f,rfl⟩:∃g,f=g+1:=⟨f-1,by omega⟩
 have hsk:=skip_calls (s:=s.extract i s.size) (by rw[ByteArray.size_extract];omega)
 rw[bytes_to_end] at hsk
 have hle:=skipB_le false ((bytesI s).drop i)
 rw[List.length_drop,hl] at hle
 have w1:IntKind.wrap .i64 ((i:Int)+((skipB false ((bytesI s).drop i):Nat):Int))=((lexA s i:Nat):Int):=by rw[wrap_i (by omega) (by omega),lexA];omega
 have ha:lexA s i≤s.size:=by rw[lexA];omega
 have hai:i≤lexA s i:=by rw[lexA];omega
 refine⟨⟨by omega,by omega,by omega⟩,_,hsk,?_⟩
 rw[w1]
 rw[lexF] at hd
 clear w1 hsk hle
 generalize hA:lexA s i=a at ha hai hd ⊢
 refine ITE.intro (fun h1=>⟨rfl,?_⟩) fun h1=>?_
 ·have h1:a=s.size:=by have:=eq_of_beq h1;omega
  rw[if_pos h1] at hd
  rw[hd];rfl
 have h1:¬a=s.size:=fun e=>by rw[e] at h1;simp at h1
 rw[if_neg h1] at hd
 have hfi:=first_calls (s:=s.extract a s.size) (by rw[ByteArray.size_extract];omega) (by rw[bytes_to_end];intro e;have:=congrArg List.length e;rw[List.length_drop,hl] at this;simp at this;omega)
 rw[bytes_to_end] at hfi
 have htl:=tokN_le ((bytesI s).drop a)
 rw[List.length_drop,hl] at htl
 change PureIs _ _ _ (.tup [nI ((lexT s a).1:Nat),nI ((lexT s a).2:Nat)]) at hfi
 change (lexT s a).2≤_ at htl
 refine⟨⟨by omega,by omega,by omega⟩,_,_,hfi,?_⟩
 generalize hT:lexT s a=t at htl hd ⊢
 obtain⟨k,n⟩:=t
 dsimp only at htl hd ⊢
 have toobig:(k=1∧30<n∨k=2∧9<n)→¬n=0→nI (0:Int)=nI 0→AV.tup [.sl [],.agg (faC (atFa s 2 a (headW (s.extract a (a+n)))))]=AV.tup [.sl ((splitP s).1.map tkEnc),.agg (faC (splitP s).2)]:=fun h h0 _=>by
  rw[if_neg h0,if_pos h] at hd
  rw[hd];rfl
 have w2:IntKind.wrap .i64 ((a:Int)+(n:Int))=((a+n:Nat):Int):=by rw[wrap_i (by omega) (by omega)];omega
 have cut:¬(k=1∧30<n∨k=2∧9<n)→¬n=0→callX 132 [nI (k:Int),nI (n:Int),.ptr 2 0,.ptr 0 0,.ptr 3 0] (spO s 0 0 0 ⟨#[]⟩ (acc.map tkEnc).length (a:Int) (acc.map tkEnc)) fun r q=>∃l s2 i1 i2 i3 w i,(r=.tup []∧q=spO s2 i1 i2 i3 w (List.length l) i l)∧List.length l=List.length l∧
   again (((),(),(),(),((),(),()),((),(),(),()),()),((s2,()),(i1,i2,i3,w,()),((),()),(i,()),l,())):=fun h h0=>by
  rw[if_neg h0,if_neg h] at hd
  exact⟨_,splitCut_calls (f:=noFa) (by omega) hs (by omega),fun r q ⟨e1,e2⟩=>⟨_,_,_,_,_,_,_,⟨e1,e2⟩,rfl,hag (f,a+n,acc++[((k:Int),s.extract a (a+n),(a:Int))]) ⟨by dsimp only;omega,by dsimp only;omega,by simp;omega,hd⟩ (by dsimp only;omega)⟩⟩
 have rest:∀b:Bool,(b=true→(k=1∧30<n∨k=2∧9<n))→(b=false→¬(k=1∧30<n∨k=2∧9<n))→¬n=0→
   vc97_R15 b (a:Int) (n:Int) s 0 0 0 ⟨#[]⟩ (acc.map tkEnc).length (acc.map tkEnc) (fun r=>r=.tup [.sl ((splitP s).1.map tkEnc),.agg (faC (splitP s).2)]) (k:Int) again:=fun b hb1 hb2 h0=>by
  refine ITE.intro (fun h=>?_) fun h=>cut (hb2 h) h0
  rw[w2]
  exact⟨⟨by omega,by omega,by omega⟩,_,lhead_calls,_,splitFail_calls (f:=noFa) (by omega) hs,fun r q ⟨e1,e2⟩=>⟨_,_,_,_,_,_,_,_,_,_,_,⟨e1,e2⟩,toobig (hb1 h) h0 rfl⟩⟩
 refine ITE.intro (fun h2=>?_) fun h2=>?_
 ·have h2:n=0:=by have:=eq_of_beq h2;omega
  rw[if_pos h2] at hd
  refine⟨⟨by omega,by omega⟩,_,visible_calls,_,splitFail_calls (f:=noFa) (by omega) hs,fun r q ⟨e1,e2⟩=>⟨_,_,_,_,_,_,_,_,_,_,_,⟨e1,e2⟩,?_⟩⟩
  rw[hd];rfl
 have h0:¬n=0:=fun e=>by subst e;cases h2
 refine ITE.intro (fun h3=>ITE.intro (fun h4=>?_) fun h4=>ITE.intro (fun h5=>?_) fun h5=>?_) fun h3=>ITE.intro (fun h5=>?_) fun h5=>?_
 ·have h3:k=1:=by have:=eq_of_beq h3;omega
  have h4':30<n:=by have:=of_decide_eq_true h4;omega
  rw[h4]
  exact rest _ (fun _=>.inl ⟨h3,h4'⟩) (fun h=>by cases h) h0
 ·have h3:k=1:=by have:=eq_of_beq h3;omega
  have h5:k=2:=by have:=eq_of_beq h5;omega
  omega
 ·have h3:k=1:=by have:=eq_of_beq h3;omega
  have h4:¬30<n:=by have:=of_decide_eq_false h4;omega
  exact cut (by omega) h0
 ·have h5:k=2:=by have:=eq_of_beq h5;omega
  exact rest _ (fun h=>.inr ⟨h5,by have:=of_decide_eq_true h;omega⟩) (fun h=>by have:=of_decide_eq_false h;omega) h0
 ·have h3:¬k=1:=fun e=>by subst e;cases h3
  have h5:¬k=2:=fun e=>by subst e;cases h5
  exact cut (by omega) h0
end Go.Proofs.YtghnkppcncbddaaGreatDoor

namespace Go.Proofs.YtghnkppcncbddaaGreatDoor
open Go
set_option linter.unusedSimpArgs false
set_option linter.unusedVariables false
abbrev St:=Nat×Fa
structure PE (L:List Tk) (s:ByteArray):Prop where
 len:L.length≤1000000
 size:s.size≤1000000000
 at_:∀t∈L,0≤t.2.2∧t.2.2≤(s.size:Int)
 kind:∀t∈L,t.1≠4
abbrev RO (L:List Tk) (s:ByteArray) (i:Nat):List AObj:=rdO (L.map tkEnc) s (i:Int)
abbrev PO (L:List Tk) (s:ByteArray) (o:Int) (st:St):List AObj:=psO (L.map tkEnc) s (st.1:Int) o st.2.1 st.2.2.1 st.2.2.2.1 st.2.2.2.2
abbrev PQ (L:List Tk) (s:ByteArray) (o:Int) (st:St):List AObj:=psQ (L.map tkEnc) s (st.1:Int) o st.2.1 st.2.2.1 st.2.2.2.1 st.2.2.2.2
def endT (s:ByteArray):Tk:=(4,⟨#[]⟩,(s.size:Int))
def pk (L:List Tk) (s:ByteArray) (i:Nat):Tk:=L.getD i (endT s)
def okS (st:St):Bool:=st.2.1==0
def failS (L:List Tk) (s:ByteArray) (c:Int) (st:St):St:=if okS st=true then(st.1,atFa s c (pk L s st.1).2.2.toNat (headW (pk L s st.1).2.1)) else st
def isT (w:ByteArray) (t:Tk):Bool:=(t.1==1||t.1==3)&&decide (t.2.1=w)
def nextS (L:List Tk) (s w:ByteArray) (st:St):Bool×St:=if(okS st&&isT w (pk L s st.1))=true then(true,(st.1+1,st.2)) else(false,st)
def mustS (L:List Tk) (s w:ByteArray) (st:St):St:=if okS st=true then(if isT w (pk L s st.1)=true then(st.1+1,st.2) else failS L s 3 st) else st
def tokS (L:List Tk) (s:ByteArray) (k:Int) (st:St):Tk×St:=if okS st=true then(if(pk L s st.1).1=k then(pk L s st.1,(st.1+1,st.2)) else((0,⟨#[]⟩,0),failS L s 3 st)) else((0,⟨#[]⟩,0),st)
variable {L:List Tk} {s w:ByteArray} {o:Int} {st:St} {i n:Nat}
theorem pk_lt (h:i<L.length):pk L s i=L[i]:=by simp[pk,List.getD,h]
theorem pk_ge (h:L.length≤i):pk L s i=endT s:=by simp[pk,List.getD,h]
theorem pk_at (h:PE L s):0≤(pk L s i).2.2∧(pk L s i).2.2≤(s.size:Int):=by
 rcases Nat.lt_or_ge i L.length with h1|h1
 ·rw[pk_lt h1];exact h.at_ _ (List.getElem_mem h1)
 ·rw[pk_ge h1];exact⟨by simp[endT],Int.le_refl _⟩
theorem pk_in (h:PE L s) (hk:(pk L s i).1≠4):i<L.length:=by
 rcases Nat.lt_or_ge i L.length with h1|h1
 ·exact h1
 ·rw[pk_ge h1] at hk;exact(hk rfl).elim
theorem isT_in (h:isT w (pk L s i)=true):i<L.length:=by
 rcases Nat.lt_or_ge i L.length with h1|h1
 ·exact h1
 ·rw[pk_ge h1] at h;simp[isT,endT] at h
def Ahd (L:List Tk) (st st':St):Prop:=st.1≤st'.1∧(st.1≤L.length→st'.1≤L.length)
theorem Ahd.refl:Ahd L st st:=⟨Nat.le_refl _,id⟩
theorem Ahd.trans {a b c:St} (h1:Ahd L a b) (h2:Ahd L b c):Ahd L a c:=⟨Nat.le_trans h1.1 h2.1,fun h=>h2.2 (h1.2 h)⟩
theorem Ahd.succ (h:st.1<L.length) {f:Fa}:Ahd L st (st.1+1,f):=⟨by simp,fun _=>by simp;omega⟩
theorem failS_adv {c:Int}:Ahd L st (failS L s c st):=by
 unfold failS
 split
 ·exact⟨Nat.le_refl _,id⟩
 ·exact Ahd.refl
theorem nextS_adv:Ahd L st (nextS L s w st).2:=by
 unfold nextS
 split
 ·rename_i h
  rw[Bool.and_eq_true] at h
  exact Ahd.succ (isT_in h.2)
 ·exact Ahd.refl
theorem mustS_adv:Ahd L st (mustS L s w st):=by
 unfold mustS
 split
 ·split
  ·rename_i h;exact Ahd.succ (isT_in h)
  ·exact failS_adv
 ·exact Ahd.refl
theorem tokS_adv (h:PE L s) {k:Int} (hk:k≠4):Ahd L st (tokS L s k st).2:=by
 unfold tokS
 split
 ·split
  ·rename_i h1;exact Ahd.succ (pk_in h (by rw[h1];exact hk))
  ·exact failS_adv
 ·exact Ahd.refl
theorem peek_calls (h:PE L s) (hi:i≤L.length):HFn Tryz.prog 61 [.ptr 0 0,nI 0] (RO L s i) (fun r q=>r=tkEnc (pk L s i)∧q=RO L s i):=by
 have:=h.len
 have hw:IntKind.wrap .i64 (((L.length:Nat):Int)-(i:Int))=(L.length:Int)-i:=wrap_i (by omega) (by omega)
 have hw2:IntKind.wrap .i64 ((i:Int)+0)=(i:Int):=by rw[Int.add_zero,wrap_i (by omega) (by omega)]
 refine vc61_ok (ITE.neg rfl ?_)
 rw[List.length_map]
 refine ITE.intro (fun h1=>?_) fun h1=>?_
 ·have h1:=of_decide_eq_true h1
  rw[hw] at h1
  rw[pk_ge (by omega)]
  exact⟨rfl,rfl⟩
 ·have h1:=of_decide_eq_false h1
  rw[hw] at h1
  have hlt:i<L.length:=by omega
  rw[hw2]
  exact⟨by omega,by omega,_,_,_,getD_map hlt,by rw[pk_lt hlt];rfl,rfl⟩
theorem rnext_calls (h:PE L s) (hi:i≤L.length):HFn Tryz.prog 101 [.ptr 0 0] (RO L s i) (fun r q=>r=tkEnc (pk L s i)∧q=RO L s (if i<L.length then i+1 else i)):=by
 have:=h.len
 refine vc101_ok ⟨_,peek_calls h hi,fun r q ⟨e1,e2⟩=>⟨_,_,_,_,_,_,⟨e1,e2⟩,?_⟩⟩
 rw[List.length_map]
 refine ITE.intro (fun h1=>⟨rfl,?_⟩) fun h1=>⟨rfl,?_⟩
 ·rw[if_pos (by have:=of_decide_eq_true h1;omega),wrap_n (by omega)]
 ·rw[if_neg (by have:=of_decide_eq_false h1;omega)]
theorem take_calls (h:PE L s) (hi:i≤L.length):HFn Tryz.prog 149 [.ptr 0 0,.clip [nS w]] (RO L s i) (fun r q=>r=nB (isT w (pk L s i))∧q=RO L s (if isT w (pk L s i)=true then i+1 else i)):=by
 have:=h.len
 refine HFn.argsW (ys:=[.ptr 0 0,.sl [nS w]]) ⟨RepW.refl _,repW_clip _,True.intro⟩ ?_
 refine vc149_ok ?_
 refine LoopP.intro (fun k:Nat=>(((),[nS w],[nS w],1,(k:Int),()),((L.map tkEnc,s,(i:Int),()),()))) (fun k=>k=0∨k=1∧isT w (pk L s i)=true) (fun k=>1-k) 0 rfl (.inl rfl) ?_
 intro k hk again hag
 dsimp only
 rcases hk with rfl|⟨rfl,hk⟩
 ·refine ITE.pos rfl ⟨by decide,by show (0:Int)<1;decide,_,rfl,_,peek_calls h hi,fun r q ⟨e1,e2⟩=>⟨_,_,_,_,_,_,⟨e1,e2⟩,?_⟩⟩
  rw[strEq_iff]
  have fin:(pk L s i).1=1∨(pk L s i).1=3→ITE (!(decide ((pk L s i).2.1=w))) (nB false=nB (isT w (pk L s i))∧RO L s i=RO L s (if isT w (pk L s i)=true then i+1 else i)) (again (((),[nS w],[nS w],1,IntKind.wrap .i64 (((0:Nat):Int)+1),()),((L.map tkEnc,s,(i:Int),()),()))):=fun hk=>by
   have hk:((pk L s i).1==1||(pk L s i).1==3)=true:=by simpa using hk
   refine ITE.intro (fun h1=>?_) fun h1=>?_
   ·have:isT w (pk L s i)=false:=by rw[isT,hk];simpa using h1
    rw[this];exact⟨rfl,rfl⟩
   ·refine hag 1 (.inr ⟨rfl,?_⟩) (by decide)
    rw[isT,hk];simpa using h1
  refine ITE.intro (fun h1=>ITE.intro (fun h2=>?_) fun h2=>fin (.inr (by simpa using h2))) fun h1=>fin (.inl (by simpa using h1))
  have:isT w (pk L s i)=false:=by
   have h1:¬(pk L s i).1=1:=by simpa using h1
   have h2:¬(pk L s i).1=3:=by simpa using h2
   simp[isT,h1,h2]
  rw[this];exact⟨rfl,rfl⟩
 ·refine ITE.neg rfl ⟨by rw[hk],?_⟩
  have e:IntKind.wrap .i64 ((i:Int)+1)=((i+1:Nat):Int):=wrap_n (by omega)
  show rdO _ _ (IntKind.wrap .i64 ((i:Int)+1))=_
  rw[if_pos hk,e]
theorem rplace_calls (h:PE L s) (hi:i≤L.length):HFn Tryz.prog 138 [.ptr 0 0] (RO L s i) (fun r q=>r=markA s (pk L s i).2.2.toNat∧q=RO L s i):=by
 have ha:=pk_at (i:=i) h
 have hp:PureIs Tryz.prog 131 [nS s,nI (pk L s i).2.2] (.tup [markA s (pk L s i).2.2.toNat,nI 0]):=by
  have:=placeOf_calls (s:=s) (i:=(pk L s i).2.2.toNat) (by omega) h.size
  rwa [show (((pk L s i).2.2.toNat:Nat):Int)=(pk L s i).2.2 by omega] at this
 have key:vc138_L2 (L.map tkEnc) s (i:Int) (fun r q=>r=markA s (pk L s i).2.2.toNat∧q=RO L s i):=
  ⟨_,peek_calls h hi,fun r q ⟨e1,e2⟩=>⟨_,_,_,_,_,_,⟨e1,e2⟩,_,_,_,hp,ITE.pos rfl ⟨rfl,rfl⟩⟩⟩
 have key2:vc138_L2'' (L.map tkEnc) s (i:Int) (fun r q=>r=markA s (pk L s i).2.2.toNat∧q=RO L s i):=
  ⟨_,peek_calls h hi,fun r q ⟨e1,e2⟩=>⟨_,_,_,_,_,_,⟨e1,e2⟩,_,_,_,hp,ITE.pos rfl ⟨rfl,rfl⟩⟩⟩
 exact vc138_ok ⟨⟨key,key⟩,key2,key,key2⟩
theorem rfail_calls (h:PE L s) (hi:i≤L.length) {c:Int}:HFn Tryz.prog 99 [.ptr 0 0,nI c] (RO L s i) (fun r q=>r=.agg (faC (atFa s c (pk L s i).2.2.toNat (headW (pk L s i).2.1)))∧q=RO L s i):=
 vc99_ok ⟨_,rplace_calls h hi,fun r q ⟨e1,e2⟩=>⟨_,_,_,_,_,⟨e1,e2⟩,_,peek_calls h hi,fun r q ⟨e1,e2⟩=>⟨_,_,_,_,_,_,⟨e1,e2⟩,_,lhead_calls,rfl,rfl⟩⟩⟩
theorem pok_calls:HFn Tryz.prog 60 [.ptr 1 0] (PO L s o st) (fun r q=>r=nB (okS st)∧q=PO L s o st):=vc60_ok ⟨rfl,rfl⟩
theorem pfail_calls (h:PE L s) (hi:st.1≤L.length) {c:Int}:HFn Tryz.prog 62 [.ptr 1 0,nI c] (PO L s o st) (fun r q=>r=.tup []∧q=PO L s o (failS L s c st)):=by
 refine vc62_ok ⟨_,pok_calls,fun r q ⟨e1,e2⟩=>⟨_,_,_,_,_,_,_,_,_,⟨e1,e2⟩,ITE.intro (fun h1=>⟨_,rfail_calls h hi,fun r q ⟨e1,e2⟩=>⟨_,_,_,_,_,_,_,⟨e1,e2⟩,rfl,?_⟩⟩) fun h1=>⟨rfl,?_⟩⟩⟩
 ·rw[failS,if_pos h1]
 ·rw[failS,if_neg (by rw[h1];decide)]
theorem pnext_calls (h:PE L s) (hi:st.1≤L.length):HFn Tryz.prog 143 [.ptr 1 0,nS w] (PO L s o st) (fun r q=>r=nB (nextS L s w st).1∧q=PO L s o (nextS L s w st).2):=by
 refine vc143_ok ⟨_,pok_calls,fun r q ⟨e1,e2⟩=>⟨_,_,_,_,_,_,_,_,_,⟨e1,e2⟩,ITE.intro (fun h1=>⟨_,take_calls h hi,fun r q ⟨e1,e2⟩=>⟨_,_,_,_,⟨e1,e2⟩,?_,?_⟩⟩) fun h1=>⟨?_,?_⟩⟩⟩
 ·rw[nextS,h1,Bool.true_and];split<;>simp_all
 ·rw[nextS,h1,Bool.true_and];split<;>rfl
 ·rw[nextS,h1];rfl
 ·rw[nextS,h1];rfl
theorem pmust_calls (h:PE L s) (hi:st.1≤L.length):HFn Tryz.prog 111 [.ptr 1 0,nS w] (PO L s o st) (fun r q=>r=.tup []∧q=PO L s o (mustS L s w st)):=by
 refine vc111_ok ⟨_,pok_calls,fun r q ⟨e1,e2⟩=>⟨_,_,_,_,_,_,_,_,_,⟨e1,e2⟩,ITE.intro (fun h1=>⟨_,take_calls h hi,fun r q ⟨e1,e2⟩=>⟨_,_,_,_,⟨e1,e2⟩,?_⟩⟩) fun h1=>⟨rfl,?_⟩⟩⟩
 ·cases ht:isT w (pk L s st.1)
  ·refine ITE.pos rfl ⟨_,pfail_calls (st:=st) h hi,fun r q ⟨e1,e2⟩=>⟨_,_,_,_,_,_,_,_,⟨e1,e2⟩,rfl,?_⟩⟩
   rw[mustS,if_pos h1,ht];rfl
  ·refine ITE.neg rfl ⟨rfl,?_⟩
   rw[mustS,if_pos h1,ht];rfl
 ·rw[mustS,if_neg (by rw[h1];decide)]
theorem failS_ok {c:Int} (hc:c≠0) (h:okS st=true):okS (failS L s c st)=false:=by
 rw[failS,if_pos h];simp[okS,atFa,hc]
theorem ptok_calls (h:PE L s) (hi:st.1≤L.length) {k:Int} (hk:k≠4):HFn Tryz.prog 144 [.ptr 1 0,nI k] (PO L s o st) (fun r q=>r=tkEnc (tokS L s k st).1∧q=PO L s o (tokS L s k st).2):=by
 have bad:∀{st1:St} {R:AV→List AObj→Prop},okS st1=false→R (.agg [nI 0,nS ⟨#[]⟩,nI 0]) (PO L s o st1)→vc144_R3 (L.map tkEnc) s (st1.1:Int) o st1.2.1 st1.2.2.1 st1.2.2.2.1 st1.2.2.2.2 R:=fun h1 hR=>
  ⟨_,pok_calls,fun r q ⟨e1,e2⟩=>⟨_,_,_,_,_,_,_,_,_,⟨e1,e2⟩,ITE.pos (by rw[h1];rfl) hR⟩⟩
 refine vc144_ok ⟨_,pok_calls,fun r q ⟨e1,e2⟩=>⟨_,_,_,_,_,_,_,_,_,⟨e1,e2⟩,ITE.intro (fun h1=>⟨_,peek_calls h hi,fun r q ⟨e1,e2⟩=>⟨_,_,_,_,_,_,⟨e1,e2⟩,ITE.intro (fun h2=>?_) fun h2=>?_⟩⟩) fun h1=>?_⟩⟩
 ·have h2:¬(pk L s st.1).1=k:=by simpa using h2
  refine⟨_,pfail_calls (st:=st) h hi,fun r q ⟨e1,e2⟩=>⟨_,_,_,_,_,_,_,_,⟨e1,e2⟩,bad (failS_ok (by decide) h1) ?_⟩⟩
  rw[tokS,if_pos h1,if_neg h2];exact⟨rfl,rfl⟩
 ·have h2:(pk L s st.1).1=k:=by simpa using h2
  have hlt:=pk_in (L:=L) (s:=s) (i:=st.1) h (by rw[h2];exact hk)
  refine⟨_,pok_calls (st:=st),fun r q ⟨e1,e2⟩=>⟨_,_,_,_,_,_,_,_,_,⟨e1,e2⟩,ITE.neg (by rw[h1];rfl) ⟨_,rnext_calls h hi,fun r q ⟨e1,e2⟩=>⟨_,_,_,_,_,_,⟨e1,e2⟩,?_,?_⟩⟩⟩⟩
  ·rw[tokS,if_pos h1,if_pos h2];rfl
  ·rw[tokS,if_pos h1,if_pos h2,if_pos hlt]
 ·refine bad (st1:=st) h1 ?_
  rw[tokS,if_neg (by rw[h1];decide)];exact⟨rfl,rfl⟩
def wordS (L:List Tk) (s:ByteArray) (st:St):ByteArray×St:=((tokS L s 1 st).1.2.1,(tokS L s 1 st).2)
theorem wordS_adv (h:PE L s):Ahd L st (wordS L s st).2:=tokS_adv h (by decide)
theorem pword_calls (h:PE L s) (hi:st.1≤L.length):HFn Tryz.prog 107 [.ptr 1 0] (PO L s o st) (fun r q=>r=nS (wordS L s st).1∧q=PO L s o (wordS L s st).2):=
 vc107_ok ⟨_,ptok_calls h hi (by decide),fun r q ⟨e1,e2⟩=>⟨_,_,_,_,_,_,_,_,_,_,_,⟨e1,e2⟩,rfl,rfl⟩⟩
def valF:Int→List Int→Int
 |n,[]=>n
 |n,c::l=>valF (10*n+(c-48)) l
def valP (t:Tk):Int:=if t.1=2∧t.2.1.size≠0∧t.2.1.size≤9∧runD (bytesI t.2.1)=t.2.1.size then valF 0 (bytesI t.2.1) else 0
theorem strAV_eq (s:ByteArray):strAV s=(bytesI s).map fun c=>.prim (.int .u8 c):=by simp[strAV,bytesI]
theorem runD_all {l:List Int} (h:runD l=l.length):∀c∈l,48≤c∧c≤57:=by
 induction l with
 |nil=>simp
 |cons c l ih=>
  rw[runD_cons,List.length_cons] at h
  split at h
  ·rename_i hc
   intro d hd
   rcases List.mem_cons.1 hd with rfl|hd
   ·simpa [isDigit] using hc
   ·exact ih (by omega) d hd
  ·omega
theorem value_calls {t:Tk}:PureIs Tryz.prog 148 [tkEnc t] (.tup [nI (valP t),nI (if t.1=2∧t.2.1.size≠0∧t.2.1.size≤9∧runD (bytesI t.2.1)=t.2.1.size then 0 else 1)]):=by
 have hl:=bytesI_len t.2.1
 have no:¬(t.1=2∧t.2.1.size≠0∧t.2.1.size≤9∧runD (bytesI t.2.1)=t.2.1.size)→AV.tup [nI 0,nI 1]=.tup [nI (valP t),nI (if t.1=2∧t.2.1.size≠0∧t.2.1.size≤9∧runD (bytesI t.2.1)=t.2.1.size then 0 else 1)]:=fun h=>by rw[valP,if_neg h,if_neg h]
 refine vc148_ok (ITE.intro (fun h1=>no fun c=>?_) fun h1=>ITE.intro (fun h2=>no fun c=>?_) fun h2=>ITE.intro (fun h3=>no fun c=>?_) fun h3=>?_)
 ·rw[c.1] at h1;cases h1
 ·rw[word_empty] at h2;exact c.2.1 (of_decide_eq_true h2)
 ·have:=of_decide_eq_true h3;omega
 have h1:t.1=2:=by simpa using h1
 have h2:¬t.2.1.size=0:=by rw[word_empty] at h2;exact of_decide_eq_false h2
 have h3:t.2.1.size≤9:=by have:=of_decide_eq_false h3;omega
 refine⟨_,runD_calls (by omega),ITE.intro (fun h4=>no fun c=>?_) fun h4=>⟨by omega,?_⟩⟩
 ·rw[c.2.2.2] at h4;simp at h4
 have h4:runD (bytesI t.2.1)=t.2.1.size:=by
  have:((runD (bytesI t.2.1):Nat):Int)=(t.2.1.size:Int):=by simpa using h4
  omega
 have hall:=runD_all (by rw[hl];exact h4)
 rw[strAV_eq,List.length_map,hl]
 refine LoopP.intro (fun p:Nat×Int=>((p.2,(bytesI t.2.1).map (fun c=>.prim (.int .u8 c)),((t.2.1.size:Nat):Int),(p.1:Int),()),((t.1,t.2.1,t.2.2,()),()))) (fun p=>p.1≤t.2.1.size∧valF 0 (bytesI t.2.1)=valF p.2 ((bytesI t.2.1).drop p.1)∧0≤p.2∧p.2<(10 ^ p.1:Nat)) (fun p=>t.2.1.size-p.1) (0,0) rfl ⟨Nat.zero_le _,rfl,Int.le_refl _,by decide⟩ ?_
 intro ⟨k,n⟩ ⟨hk,hd,hn0,hn1⟩ again hag
 dsimp only at hk hd hn0 hn1 ⊢
 refine ITE.intro (fun h=>?_) fun h=>?_
 ·have hlt:k<t.2.1.size:=by have:=of_decide_eq_true h;omega
  have hlt':k<(bytesI t.2.1).length:=by omega
  have hc:=hall _ (List.getElem_mem hlt')
  rw[List.drop_eq_getElem_cons hlt',valF] at hd
  have hp:(10 ^ k:Nat)≤10 ^ 8:=Nat.pow_le_pow_right (by decide) (by omega)
  have hp9:(10 ^ 8:Nat)=100000000:=by decide
  have hw:IntKind.wrap .u8 ((bytesI t.2.1)[k]-48)=(bytesI t.2.1)[k]-48:=by
   have key:∀d:Fin 10,IntKind.wrap .u8 ((d.val:Nat):Int)=((d.val:Nat):Int):=by decide
   have:=key ⟨((bytesI t.2.1)[k]-48).toNat,by omega⟩
   rwa [show ((((bytesI t.2.1)[k]-48).toNat:Nat):Int)=(bytesI t.2.1)[k]-48 by omega] at this
  refine⟨by omega,by rw[List.length_map];omega,_,getD_map hlt',?_⟩
  rw[hw,wrap_i (n:=10*n) (by omega) (by omega),wrap_i (n:=(bytesI t.2.1)[k]-48) (by omega) (by omega),wrap_i (by omega) (by omega),wrap_n (by omega)]
  refine hag (k+1,_) ⟨by dsimp only;omega,hd,by dsimp only;omega,?_⟩ (by dsimp only;omega)
  dsimp only
  have:(10 ^ (k+1):Nat)=10*10 ^ k:=by rw[Nat.pow_succ];omega
  rw[this];omega
 ·have hge:t.2.1.size≤k:=by have:=of_decide_eq_false h;omega
  rw[List.drop_eq_nil_of_le (by omega),valF] at hd
  rw[valP,if_pos ⟨h1,h2,h3,h4⟩,if_pos ⟨h1,h2,h3,h4⟩,hd]
def numP (L:List Tk) (s:ByteArray) (st:St):Int×St:=(valP (tokS L s 2 st).1,(tokS L s 2 st).2)
theorem numP_adv (h:PE L s):Ahd L st (numP L s st).2:=tokS_adv h (by decide)
theorem pnum_calls (h:PE L s) (hi:st.1≤L.length):HFn Tryz.prog 110 [.ptr 1 0] (PO L s o st) (fun r q=>r=nI (numP L s st).1∧q=PO L s o (numP L s st).2):=
 vc110_ok ⟨_,ptok_calls h hi (by decide),fun r q ⟨e1,e2⟩=>⟨_,_,_,_,_,_,_,_,_,_,_,⟨e1,e2⟩,_,_,value_calls,rfl,rfl⟩⟩
def partS (L:List Tk) (s:ByteArray) (st:St):Bool:=okS st&&((pk L s st.1).1==1||((pk L s st.1).1==3&&decide ((pk L s st.1).2.1=(⟨#[40]⟩:ByteArray))))
theorem ppart_calls (h:PE L s) (hi:st.1≤L.length):HFn Tryz.prog 147 [.ptr 1 0] (PO L s o st) (fun r q=>r=nB (partS L s st)∧q=PO L s o st):=by
 refine vc147_ok ⟨_,peek_calls h hi,fun r q ⟨e1,e2⟩=>⟨_,_,_,_,_,_,⟨e1,e2⟩,_,pok_calls (st:=st),fun r q ⟨e1,e2⟩=>⟨_,_,_,_,_,_,_,_,_,⟨e1,e2⟩,ITE.intro (fun h1=>ITE.intro (fun h2=>⟨?_,rfl⟩) fun h2=>ITE.intro (fun h3=>⟨?_,rfl⟩) fun h3=>⟨?_,rfl⟩) fun h1=>⟨?_,rfl⟩⟩⟩⟩
 ·rw[partS,h1,h2];rfl
 ·rw[partS,h1,h2,h3,strEq_iff];rfl
 ·rw[partS,h1,h2,h3];rfl
 ·rw[partS,h1];rfl
end Go.Proofs.YtghnkppcncbddaaGreatDoor

namespace Go.Proofs.YtghnkppcncbddaaGreatDoor
open Go
set_option linter.unusedSimpArgs false
set_option linter.unusedVariables false
abbrev lpW:ByteArray:=⟨#[40]⟩
abbrev rpW:ByteArray:=⟨#[41]⟩
abbrev arW:ByteArray:=⟨#[45,62]⟩
abbrev bsW:ByteArray:=⟨#[92]⟩
abbrev coW:ByteArray:=⟨#[58]⟩
abbrev doW:ByteArray:=⟨#[46]⟩
section
variable (L:List Tk) (s:ByteArray)
def atomP (f:St→Nd×St) (st:St):Nd×St:=
 match nextS L s lpW st with
 |(true,st1)=>((f st1).1,mustS L s rpW (f st1).2)
 |(false,st1)=>(.mk 1 (tokS L s 1 st1).1.2.1 (tokS L s 1 st1).1.2.2 [],(tokS L s 1 st1).2)
def typB (f:St→Nd×St) (st:St):Nd×St:=
 match nextS L s arW (atomP L s f st).2 with
 |(true,st2)=>(.mk 2 ⟨#[]⟩ (atomP L s f st).1.at_ [(atomP L s f st).1,(f st2).1],(f st2).2)
 |(false,st2)=>((atomP L s f st).1,st2)
def openP (full:Bool) (f:St→Nd×St) (st:St):Nd×St:=
 if okS st=true then(if full=true then(noN,failS L s 2 st) else f st) else(noN,st)
def typP:Nat→St→Nd×St
 |0=>openP L s true fun st=>(noN,st)
 |n+1=>openP L s false (typB L s (typP n))
def lamP (f g:St→Nd×St) (a:Int) (st:St):Nd×St:=
 (.mk 3 (wordS L s st).1 a [(f (mustS L s coW (wordS L s st).2)).1,(g (mustS L s doW (f (mustS L s coW (wordS L s st).2)).2)).1],(g (mustS L s doW (f (mustS L s coW (wordS L s st).2)).2)).2)
def appsP (g:St→Nd×St):Nat→Nd→St→Nd×St
 |0,a,st=>(a,st)
 |n+1,a,st=>if partS L s st=true then appsP g n (.mk 4 ⟨#[]⟩ a.at_ [a,(atomP L s g st).1]) (atomP L s g st).2 else(a,st)
def termB (f g:St→Nd×St) (st:St):Nd×St:=
 match nextS L s bsW st with
 |(true,st1)=>lamP L s f g (pk L s st.1).2.2 st1
 |(false,st1)=>appsP L s g (L.length+1) (atomP L s g st1).1 (atomP L s g st1).2
def termP:Nat→St→Nd×St
 |0=>openP L s true fun st=>(noN,st)
 |n+1=>openP L s false (termB L s (typP L s n) (termP n))
end
variable {L:List Tk} {s w:ByteArray} {o:Int} {st:St} {i n:Nat}
def Fwd (L:List Tk) (f:St→Nd×St):Prop:=∀st,Ahd L st (f st).2
theorem atomP_adv (h:PE L s) {f:St→Nd×St} (hf:Fwd L f):Fwd L (atomP L s f):=by
 intro st
 have h1:=nextS_adv (L:=L) (s:=s) (w:=lpW) (st:=st)
 unfold atomP
 rcases hx:nextS L s lpW st with⟨b,st1⟩
 rw[hx] at h1
 cases b
 ·exact h1.trans (tokS_adv h (by decide))
 ·exact h1.trans ((hf st1).trans mustS_adv)
theorem openP_adv {f:St→Nd×St} {b:Bool} (hf:Fwd L f):Fwd L (openP L s b f):=by
 intro st
 unfold openP
 split
 ·split
  ·exact failS_adv
  ·exact hf st
 ·exact Ahd.refl
theorem typB_adv (h:PE L s) {f:St→Nd×St} (hf:Fwd L f):Fwd L (typB L s f):=by
 intro st
 have h0:=atomP_adv h hf st
 have h1:=nextS_adv (L:=L) (s:=s) (w:=arW) (st:=(atomP L s f st).2)
 unfold typB
 rcases hx:nextS L s arW (atomP L s f st).2 with⟨b,st1⟩
 rw[hx] at h1
 cases b
 ·exact h0.trans h1
 ·exact h0.trans (h1.trans (hf st1))
theorem typP_adv (h:PE L s):∀n,Fwd L (typP L s n)
 |0=>openP_adv fun _=>Ahd.refl
 |n+1=>openP_adv (typB_adv h (typP_adv h n))
theorem lamP_adv (h:PE L s) {f g:St→Nd×St} (hf:Fwd L f) (hg:Fwd L g) {a:Int}:Fwd L (lamP L s f g a):=fun st=>
 (wordS_adv h).trans (mustS_adv.trans ((hf _).trans (mustS_adv.trans (hg _))))
theorem appsP_adv (h:PE L s) {g:St→Nd×St} (hg:Fwd L g):∀(n:Nat) (a:Nd),Fwd L (appsP L s g n a)
 |0,a,st=>Ahd.refl
 |n+1,a,st=>by
  rw[appsP]
  split
  ·exact(atomP_adv h hg st).trans (appsP_adv h hg n _ _)
  ·exact Ahd.refl
theorem termB_adv (h:PE L s) {f g:St→Nd×St} (hf:Fwd L f) (hg:Fwd L g):Fwd L (termB L s f g):=by
 intro st
 have h1:=nextS_adv (L:=L) (s:=s) (w:=bsW) (st:=st)
 unfold termB
 rcases hx:nextS L s bsW st with⟨b,st1⟩
 rw[hx] at h1
 cases b
 ·exact h1.trans ((atomP_adv h hg st1).trans (appsP_adv h hg _ _ _))
 ·exact h1.trans (lamP_adv h hf hg st1)
theorem termP_adv (h:PE L s):∀n,Fwd L (termP L s n)
 |0=>openP_adv fun _=>Ahd.refl
 |n+1=>openP_adv (termB_adv h (typP_adv h n) (termP_adv h n))
def PRW (x:AV) (H:List AObj):AV→List AObj→Prop:=fun r q=>RepW r x∧q=H
theorem HFn.prw {P:Program} {f:FuncId} {args:List AV} {hp H:List AObj} {x:AV} (h:HFn P f args hp (PRW x H)):HFn P f args hp (fun r q=>r=x∧q=H):=h.res fun r q ⟨h1,h2⟩=>⟨_,h1,rfl,h2⟩
theorem ndW {a b c x y:AV} (h:RepW x y):RepW (.agg [a,b,c,x]) (.agg [a,b,c,y]):=RepW.agg ⟨RepW.refl _,RepW.refl _,RepW.refl _,h,True.intro⟩
theorem kids2 (a b:Nd):[ndAV a,ndAV b]=[a,b].map Nd.enc:=by simp[Nd.enc_eq]
theorem nd2W {k a:Int} {w:ByteArray} {x y:Nd}:RepW (.agg [nI k,nS w,nI a,.clip [ndAV x,ndAV y]]) (ndAV (.mk k w a [x,y])):=by
 have:ndAV (.mk k w a [x,y])=.agg [nI k,nS w,nI a,.sl [ndAV x,ndAV y]]:=by rw[kids2];rfl
 rw[this];exact ndW (repW_clip _)
theorem nilNdW {k a:Int} {w:ByteArray}:RepW (.agg [nI k,nS w,nI a,.prim (.slice none 0 0)]) (ndAV (.mk k w a [])):=ndW repW_nil
def NdC (L:List Tk) (s:ByteArray) (f:Nat) (o:Int) (F:St→Nd×St):Prop:=∀st:St,st.1≤L.length→HFn Tryz.prog f [.ptr 1 0] (PO L s o st) (fun r q=>r=ndAV (F st).1∧q=PO L s o (F st).2)
def NdQ (L:List Tk) (s:ByteArray) (f:Nat) (o:Int) (F:St→Nd×St):Prop:=∀st:St,st.1≤L.length→HFn Tryz.prog f [.ptr 2 0] (PQ L s o st) (fun r q=>r=ndAV (F st).1∧q=PQ L s o (F st).2)
theorem atomT_calls (h:PE L s) {F:St→Nd×St} (hF:NdC L s 104 o F) (ha:Fwd L F) (hi:st.1≤L.length):
  HFn Tryz.prog 142 [.ptr 1 0,.mclo 104 [.ptr 1 0]] (PO L s o st) (fun r q=>r=ndAV (atomP L s F st).1∧q=PO L s o (atomP L s F st).2):=by
 have hn:=pnext_calls (o:=o) (w:=lpW) h hi
 have h1:=nextS_adv (L:=L) (s:=s) (w:=lpW) (st:=st)
 unfold atomP
 rcases hx:nextS L s lpW st with⟨b,st1⟩
 rw[hx] at hn h1
 have hi1:=h1.2 hi
 refine HFn.prw (vc_atomT_ok ⟨_,hn,fun r q ⟨e1,e2⟩=>⟨_,_,_,_,_,_,_,_,_,⟨e1,e2⟩,?_⟩⟩)
 cases b
 ·exact ITE.neg rfl ⟨_,ptok_calls h hi1 (by decide),fun r q ⟨e1,e2⟩=>⟨_,_,_,_,_,_,_,_,_,_,_,⟨e1,e2⟩,nilNdW,rfl⟩⟩
 ·exact ITE.pos rfl ⟨_,hF st1 hi1,fun r q ⟨e1,e2⟩=>⟨_,_,_,_,_,_,_,_,_,_,_,_,⟨e1,e2⟩,_,pmust_calls h ((ha st1).2 hi1),fun r q ⟨e1,e2⟩=>⟨_,_,_,_,_,_,_,_,⟨e1,e2⟩,RepW.refl _,rfl⟩⟩⟩
theorem openedT_calls (h:PE L s) {F:St→Nd×St} (ho:0≤o∧o≤60) (hF:o≠60→NdQ L s 141 (o+1) F) (hi:st.1≤L.length):
  HFn Tryz.prog 140 [.ptr 1 0,.clo 141 [.ptr 2 0]] (PQ L s o st) (fun r q=>r=ndAV (openP L s (o==60) F st).1∧q=PQ L s o (openP L s (o==60) F st).2):=by
 refine HFn.prw (vc_openedT_ok ⟨_,pok_calls (st:=st),fun r q ⟨e1,e2⟩=>⟨_,_,_,_,_,_,_,_,_,⟨e1,e2⟩,ITE.intro (fun h1=>ITE.intro (fun h2=>?_) fun h2=>?_) fun h1=>?_⟩⟩)
 ·refine⟨_,pfail_calls (st:=st) h hi,fun r q ⟨e1,e2⟩=>⟨_,_,_,_,_,_,_,_,⟨e1,e2⟩,_,pok_calls (st:=failS L s 2 st),fun r q ⟨e1,e2⟩=>⟨_,_,_,_,_,_,_,_,_,⟨e1,e2⟩,ITE.pos (by rw[failS_ok (by decide) h1];rfl) ?_⟩⟩⟩
  rw[openP,if_pos h1,if_pos h2];exact⟨nilNdW,rfl⟩
 ·have h3:o≠60:=by simpa using h2
  have hb:=hF h3 st hi
  rw[openP,if_pos h1,if_neg (by rw[h2];decide)]
  refine⟨_,pok_calls (st:=st),fun r q ⟨e1,e2⟩=>⟨_,_,_,_,_,_,_,_,_,⟨e1,e2⟩,ITE.neg (by rw[h1];rfl) ?_⟩⟩
  rw[wrap_i (n:=o+1) (by omega) (by omega)]
  refine⟨_,hb,fun r q ⟨e1,e2⟩=>⟨_,_,_,_,_,_,_,_,_,_,_,_,⟨e1,e2⟩,RepW.refl _,?_⟩⟩
  rw[wrap_i (n:=o+1-1) (by omega) (by omega),Int.add_sub_cancel]
 ·rw[openP,if_neg (by rw[h1];decide)]
  exact⟨_,pok_calls (st:=st),fun r q ⟨e1,e2⟩=>⟨_,_,_,_,_,_,_,_,_,⟨e1,e2⟩,ITE.pos (by rw[h1];rfl) ⟨nilNdW,rfl⟩⟩⟩
theorem ptyp0_calls (h:PE L s) {F:St→Nd×St} (ho:0≤o∧o≤60) (hF:o≠60→NdQ L s 141 (o+1) F):NdC L s 104 o (openP L s (o==60) F):=fun st hi=>
 vc104_ok ⟨_,openedT_calls h ho hF hi,fun r q ⟨e1,e2⟩=>⟨_,_,_,_,_,_,_,_,_,_,_,_,⟨e1,e2⟩,rfl,rfl⟩⟩
theorem atomM_calls (h:PE L s) {F:St→Nd×St} (hF:NdC L s 109 o F) (ha:Fwd L F) (hi:st.1≤L.length):
  HFn Tryz.prog 142 [.ptr 1 0,.mclo 109 [.ptr 1 0]] (PO L s o st) (fun r q=>r=ndAV (atomP L s F st).1∧q=PO L s o (atomP L s F st).2):=by
 have hn:=pnext_calls (o:=o) (w:=lpW) h hi
 have h1:=nextS_adv (L:=L) (s:=s) (w:=lpW) (st:=st)
 unfold atomP
 rcases hx:nextS L s lpW st with⟨b,st1⟩
 rw[hx] at hn h1
 have hi1:=h1.2 hi
 refine HFn.prw (vc_atomM_ok ⟨_,hn,fun r q ⟨e1,e2⟩=>⟨_,_,_,_,_,_,_,_,_,⟨e1,e2⟩,?_⟩⟩)
 cases b
 ·exact ITE.neg rfl ⟨_,ptok_calls h hi1 (by decide),fun r q ⟨e1,e2⟩=>⟨_,_,_,_,_,_,_,_,_,_,_,⟨e1,e2⟩,nilNdW,rfl⟩⟩
 ·exact ITE.pos rfl ⟨_,hF st1 hi1,fun r q ⟨e1,e2⟩=>⟨_,_,_,_,_,_,_,_,_,_,_,_,⟨e1,e2⟩,_,pmust_calls h ((ha st1).2 hi1),fun r q ⟨e1,e2⟩=>⟨_,_,_,_,_,_,_,_,⟨e1,e2⟩,RepW.refl _,rfl⟩⟩⟩
theorem openedM_calls (h:PE L s) {F:St→Nd×St} (ho:0≤o∧o≤60) (hF:o≠60→NdQ L s 145 (o+1) F) (hi:st.1≤L.length):
  HFn Tryz.prog 140 [.ptr 1 0,.clo 145 [.ptr 2 0]] (PQ L s o st) (fun r q=>r=ndAV (openP L s (o==60) F st).1∧q=PQ L s o (openP L s (o==60) F st).2):=by
 refine HFn.prw (vc_openedM_ok ⟨_,pok_calls (st:=st),fun r q ⟨e1,e2⟩=>⟨_,_,_,_,_,_,_,_,_,⟨e1,e2⟩,ITE.intro (fun h1=>ITE.intro (fun h2=>?_) fun h2=>?_) fun h1=>?_⟩⟩)
 ·refine⟨_,pfail_calls (st:=st) h hi,fun r q ⟨e1,e2⟩=>⟨_,_,_,_,_,_,_,_,⟨e1,e2⟩,_,pok_calls (st:=failS L s 2 st),fun r q ⟨e1,e2⟩=>⟨_,_,_,_,_,_,_,_,_,⟨e1,e2⟩,ITE.pos (by rw[failS_ok (by decide) h1];rfl) ?_⟩⟩⟩
  rw[openP,if_pos h1,if_pos h2];exact⟨nilNdW,rfl⟩
 ·have h3:o≠60:=by simpa using h2
  have hb:=hF h3 st hi
  rw[openP,if_pos h1,if_neg (by rw[h2];decide)]
  refine⟨_,pok_calls (st:=st),fun r q ⟨e1,e2⟩=>⟨_,_,_,_,_,_,_,_,_,⟨e1,e2⟩,ITE.neg (by rw[h1];rfl) ?_⟩⟩
  rw[wrap_i (n:=o+1) (by omega) (by omega)]
  refine⟨_,hb,fun r q ⟨e1,e2⟩=>⟨_,_,_,_,_,_,_,_,_,_,_,_,⟨e1,e2⟩,RepW.refl _,?_⟩⟩
  rw[wrap_i (n:=o+1-1) (by omega) (by omega),Int.add_sub_cancel]
 ·rw[openP,if_neg (by rw[h1];decide)]
  exact⟨_,pok_calls (st:=st),fun r q ⟨e1,e2⟩=>⟨_,_,_,_,_,_,_,_,_,⟨e1,e2⟩,ITE.pos (by rw[h1];rfl) ⟨nilNdW,rfl⟩⟩⟩
theorem pterm0_calls (h:PE L s) {F:St→Nd×St} (ho:0≤o∧o≤60) (hF:o≠60→NdQ L s 145 (o+1) F):NdC L s 109 o (openP L s (o==60) F):=fun st hi=>
 vc109_ok ⟨_,openedM_calls h ho hF hi,fun r q ⟨e1,e2⟩=>⟨_,_,_,_,_,_,_,_,_,_,_,_,⟨e1,e2⟩,rfl,rfl⟩⟩
theorem typ1_calls (h:PE L s) {F:St→Nd×St} (hF:NdC L s 104 o F) (ha:Fwd L F):NdQ L s 141 o (typB L s F):=by
 intro st hi
 have h0:=atomP_adv h ha st
 have hn:=pnext_calls (o:=o) (w:=arW) (st:=(atomP L s F st).2) h (h0.2 hi)
 have h1:=nextS_adv (L:=L) (s:=s) (w:=arW) (st:=(atomP L s F st).2)
 unfold typB
 rcases hx:nextS L s arW (atomP L s F st).2 with⟨b,st1⟩
 rw[hx] at hn h1
 have hi1:=h1.2 (h0.2 hi)
 refine HFn.prw (vc141_ok ⟨_,atomT_calls h hF ha hi,fun r q ⟨e1,e2⟩=>⟨_,_,_,_,_,_,_,_,_,_,_,_,⟨e1,e2⟩,_,hn,fun r q ⟨e1,e2⟩=>⟨_,_,_,_,_,_,_,_,_,⟨e1,e2⟩,?_⟩⟩⟩)
 cases b
 ·exact ITE.pos rfl ⟨RepW.refl _,rfl⟩
 ·have key:vc141_L4 (L.map tkEnc) s (st1.1:Int) o st1.2.1 st1.2.2.1 st1.2.2.2.1 st1.2.2.2.2 (PRW (ndAV (.mk 2 ⟨#[]⟩ (atomP L s F st).1.at_ [(atomP L s F st).1,(F st1).1])) (PQ L s o (F st1).2)) (atomP L s F st).1.at_ (atomP L s F st).1.kind (atomP L s F st).1.word ((atomP L s F st).1.kids.map Nd.enc):=
   ⟨_,hF st1 hi1,fun r q ⟨e1,e2⟩=>⟨_,_,_,_,_,_,_,_,_,_,_,_,⟨e1,e2⟩,nd2W,rfl⟩⟩
  exact ITE.neg rfl ⟨key,key⟩
theorem ptyp_calls (h:PE L s):∀n:Nat,n≤60→NdC L s 104 ((60:Int)-n) (typP L s n)
 |0,_=>ptyp0_calls (o:=(60:Int)-(0:Nat)) h (by omega) fun h=>(h rfl).elim
 |n+1,hn=>by
  have:=ptyp0_calls (o:=(60:Int)-((n+1:Nat):Int)) h (by omega) fun _=>typ1_calls (F:=typP L s n) h (by
   rw[show (60:Int)-((n+1:Nat):Int)+1=(60:Int)-(n:Nat) by omega];exact ptyp_calls h n (by omega)) (typP_adv h n)
  rw[show ((60:Int)-((n+1:Nat):Int)==60)=false from beq_eq_false_iff_ne.2 (by omega)] at this
  exact this
theorem lam_calls (h:PE L s) {F G:St→Nd×St} (hF:NdC L s 104 o F) (ha:Fwd L F) (hG:NdC L s 109 o G) (hi:st.1≤L.length) {a:Int}:
  HFn Tryz.prog 146 [.ptr 1 0,nI a] (PO L s o st) (fun r q=>r=ndAV (lamP L s F G a st).1∧q=PO L s o (lamP L s F G a st).2):=by
 have i1:=(wordS_adv (s:=s) h).2 hi
 have i2:=(mustS_adv (L:=L) (s:=s) (w:=coW) (st:=(wordS L s st).2)).2 i1
 have i3:=(ha (mustS L s coW (wordS L s st).2)).2 i2
 have i4:=(mustS_adv (L:=L) (s:=s) (w:=doW) (st:=(F (mustS L s coW (wordS L s st).2)).2)).2 i3
 exact HFn.prw (vc146_ok ⟨_,pword_calls h hi,fun r q ⟨e1,e2⟩=>⟨_,_,_,_,_,_,_,_,_,⟨e1,e2⟩,_,pmust_calls h i1,fun r q ⟨e1,e2⟩=>⟨_,_,_,_,_,_,_,_,⟨e1,e2⟩,_,hF _ i2,fun r q ⟨e1,e2⟩=>
  ⟨_,_,_,_,_,_,_,_,_,_,_,_,⟨e1,e2⟩,_,pmust_calls h i3,fun r q ⟨e1,e2⟩=>⟨_,_,_,_,_,_,_,_,⟨e1,e2⟩,_,hG _ i4,fun r q ⟨e1,e2⟩=>⟨_,_,_,_,_,_,_,_,_,_,_,_,⟨e1,e2⟩,nd2W,rfl⟩⟩⟩⟩⟩⟩)
theorem partS_lt (h:PE L s) {g:St→Nd×St} (hg:Fwd L g) (hp:partS L s st=true):st.1<(atomP L s g st).2.1∧st.1<L.length:=by
 simp only[partS,Bool.and_eq_true,Bool.or_eq_true,beq_iff_eq,decide_eq_true_eq] at hp
 obtain⟨h1,h2⟩:=hp
 have hlt:st.1<L.length:=by
  refine pk_in (L:=L) (s:=s) h ?_
  rcases h2 with h2|⟨h2,_⟩<;>rw[h2]<;>decide
 refine⟨?_,hlt⟩
 unfold atomP
 rcases h2 with h2|⟨h2,h3⟩
 ·cases ht:isT lpW (pk L s st.1)
  ·have:nextS L s lpW st=(false,st):=by rw[nextS,h1,ht];rfl
   rw[this]
   dsimp only
   rw[tokS,if_pos h1,if_pos h2];exact Nat.lt_succ_self _
  ·have:nextS L s lpW st=(true,(st.1+1,st.2)):=by rw[nextS,h1,ht];rfl
   rw[this]
   exact Nat.lt_of_lt_of_le (Nat.lt_succ_self _) ((hg (st.1+1,st.2)).trans (mustS_adv (L:=L) (s:=s) (w:=rpW))).1
 ·have ht:isT lpW (pk L s st.1)=true:=by simp[isT,h2,h3]
  have:nextS L s lpW st=(true,(st.1+1,st.2)):=by rw[nextS,h1,ht];rfl
  rw[this]
  exact Nat.lt_of_lt_of_le (Nat.lt_succ_self _) ((hg (st.1+1,st.2)).trans (mustS_adv (L:=L) (s:=s) (w:=rpW))).1
theorem term1_calls (h:PE L s) {F G:St→Nd×St} (hF:NdC L s 104 o F) (ha:Fwd L F) (hG:NdC L s 109 o G) (hb:Fwd L G):NdQ L s 145 o (termB L s F G):=by
 intro st hi
 have hn:=pnext_calls (o:=o) (w:=bsW) h hi
 have h1:=nextS_adv (L:=L) (s:=s) (w:=bsW) (st:=st)
 unfold termB
 rcases hx:nextS L s bsW st with⟨b,st1⟩
 rw[hx] at hn h1
 have hi1:=h1.2 hi
 refine HFn.prw (vc145_ok ⟨_,peek_calls h hi,fun r q ⟨e1,e2⟩=>⟨_,_,_,_,_,_,⟨e1,e2⟩,_,hn,fun r q ⟨e1,e2⟩=>⟨_,_,_,_,_,_,_,_,_,⟨e1,e2⟩,?_⟩⟩⟩)
 cases b
 ·refine ITE.neg rfl ⟨_,atomM_calls h hG hb hi1,fun r q ⟨e1,e2⟩=>⟨_,_,_,_,_,_,_,_,_,_,_,_,⟨e1,e2⟩,?_⟩⟩
  clear e1 e2
  have hi2:=(atomP_adv h hb st1).2 hi1
  dsimp only
  generalize hX:appsP L s G (L.length+1) (atomP L s G st1).1 (atomP L s G st1).2=X
  refine LoopP.intro (fun p:Nd×St=>(((),(),(),()),((L.map tkEnc,s,(p.2.1:Int),()),((),o,p.2.2.1,p.2.2.2.1,p.2.2.2.2.1,p.2.2.2.2.2,()),((),()),(0,⟨#[]⟩,0,(),()),(p.1.kind,p.1.word,p.1.at_,p.1.kids.map Nd.enc,()),())))
   (fun p=>p.2.1≤L.length∧∃n,L.length+1≤n+p.2.1∧X=appsP L s G n p.1 p.2) (fun p=>L.length-p.2.1) (atomP L s G st1) rfl ⟨hi2,_,by omega,hX.symm⟩ ?_
  intro ⟨a,u⟩ ⟨hu,n,hn1,hn2⟩ again hag
  dsimp only at hu hn1 hn2 ⊢
  obtain⟨n,rfl⟩:∃m,n=m+1:=⟨n-1,by omega⟩
  rw[appsP] at hn2
  refine⟨_,ppart_calls (st:=u) h hu,fun r q ⟨e1,e2⟩=>⟨_,_,_,_,_,_,_,_,_,⟨e1,e2⟩,ITE.intro (fun h2=>?_) fun h2=>?_⟩⟩
  ·rw[if_pos h2] at hn2
   have hlt:=partS_lt h hb h2
   have hu2:=(atomP_adv h hb u).2 hu
   have key:vc145_L6 (L.map tkEnc) s (u.1:Int) o u.2.1 u.2.2.1 u.2.2.2.1 u.2.2.2.2 again 0 ⟨#[]⟩ 0 a.at_ a.kind a.word (a.kids.map Nd.enc):=by
    refine⟨_,atomM_calls h hG hb hu,fun r q ⟨e1,e2⟩=>⟨_,_,_,_,_,_,_,_,_,_,_,_,⟨e1,e2⟩,?_⟩⟩
    have e:[ndAV a,ndAV (atomP L s G u).1]=[a,(atomP L s G u).1].map Nd.enc:=kids2 _ _
    rw[e]
    exact hag (.mk 4 ⟨#[]⟩ a.at_ [a,(atomP L s G u).1],(atomP L s G u).2) ⟨hu2,n,by dsimp only;omega,hn2⟩ (by dsimp only;omega)
   exact⟨key,key⟩
  ·rw[if_neg (by rw[h2];decide)] at hn2
   rw[hn2];exact⟨RepW.refl _,rfl⟩
 ·exact ITE.pos rfl ⟨_,lam_calls h hF ha hG hi1,fun r q ⟨e1,e2⟩=>⟨_,_,_,_,_,_,_,_,_,_,_,_,⟨e1,e2⟩,RepW.refl _,rfl⟩⟩
theorem pterm_calls (h:PE L s):∀n:Nat,n≤60→NdC L s 109 ((60:Int)-n) (termP L s n)
 |0,_=>pterm0_calls (o:=(60:Int)-(0:Nat)) h (by omega) fun h=>(h rfl).elim
 |n+1,hn=>by
  have e:(60:Int)-((n+1:Nat):Int)+1=(60:Int)-(n:Nat):=by omega
  have:=pterm0_calls (o:=(60:Int)-((n+1:Nat):Int)) h (by omega) fun _=>term1_calls (F:=typP L s n) (G:=termP L s n) h (by rw[e];exact ptyp_calls h n (by omega)) (typP_adv h n) (by rw[e];exact pterm_calls h n (by omega)) (termP_adv h n)
  rw[show ((60:Int)-((n+1:Nat):Int)==60)=false from beq_eq_false_iff_ne.2 (by omega)] at this
  exact this
end Go.Proofs.YtghnkppcncbddaaGreatDoor

namespace Go.Proofs.YtghnkppcncbddaaGreatDoor
open Go
set_option linter.unusedSimpArgs false
set_option linter.unusedVariables false
abbrev scW:ByteArray:=⟨#[59]⟩
abbrev gtW:ByteArray:=⟨#[62]⟩
abbrev eqW:ByteArray:=⟨#[61]⟩
def noIt:It:=⟨0,[],[],0,0⟩
def kindW:List ByteArray:=[⟨#[115,111,114,116]⟩,⟨#[99,111,110,115,116]⟩,⟨#[118,97,114]⟩,⟨#[101,113]⟩,⟨#[114,117,108,101]⟩,⟨#[112,114,101,99]⟩,⟨#[115,116,97,116,117,115]⟩,⟨#[99,111,109,112,108,101,116,101]⟩,⟨#[110,111,114,109,97,108]⟩,⟨#[100,101,99,105,100,101]⟩,⟨#[99,111,110,102,108,117,101,110,116]⟩,⟨#[99,101,114,116,105,102,121]⟩]
def posW (w:ByteArray):List ByteArray→Nat→Int
 | [],_ => -1
 |x::l,k=>if w=x then(k:Int) else posW w l (k+1)
def begN (w:ByteArray):Int:=posW w kindW 0+1
section
variable (L:List Tk) (s:ByteArray)
def wsP:Nat→List ByteArray→St→List ByteArray×St
 |0,l,st=>(l,st)
 |n+1,l,st=>if(okS st&&(pk L s st.1).1==1)=true then wsP n (l++[(wordS L s st).1]) (wordS L s st).2 else(l,st)
def wordsP (st:St):List ByteArray×St:=wsP L s (L.length+1) [(wordS L s st).1] (wordS L s st).2
def chP:Nat→List ByteArray→St→List ByteArray×St
 |0,l,st=>(l,st)
 |n+1,l,st=>if(nextS L s gtW st).1=true then chP n (l++[(wordS L s (nextS L s gtW st).2).1]) (wordS L s (nextS L s gtW st).2).2 else(l,(nextS L s gtW st).2)
def chainP (st:St):List ByteArray×St:=
 chP L s (L.length+1) [(wordS L s st).1,(wordS L s (mustS L s gtW (wordS L s st).2)).1] (wordS L s (mustS L s gtW (wordS L s st).2)).2
def termsP (w:ByteArray) (st:St):List Nd×St:=
 ([(termP L s 60 st).1,(termP L s 60 (mustS L s w (termP L s 60 st).2)).1],(termP L s 60 (mustS L s w (termP L s 60 st).2)).2)
def namedP (st:St):List ByteArray×St:=([(wordS L s st).1],mustS L s coW (wordS L s st).2)
def countedP (st:St):Int×St:=((numP L s st).1,mustS L s coW (numP L s st).2)
def oneT (f:St→Nd×St) (st:St):List Nd×St:=([(f st).1],(f st).2)
def bodyP (k:Int) (st:St):(List ByteArray×List Nd×Int)×St:=
 if k=1 then(((wordsP L s st).1,[],0),(wordsP L s st).2)
 else if k=2∨k=3 then(((namedP L s st).1,(oneT (typP L s 60) (namedP L s st).2).1,0),(oneT (typP L s 60) (namedP L s st).2).2)
 else if k=4 then(((namedP L s st).1,(termsP L s eqW (namedP L s st).2).1,0),(termsP L s eqW (namedP L s st).2).2)
 else if k=5 then(((namedP L s st).1,(termsP L s gtW (namedP L s st).2).1,0),(termsP L s gtW (namedP L s st).2).2)
 else if k=6 then(((chainP L s st).1,[],0),(chainP L s st).2)
 else if k=7 then(([(wordS L s st).1,(wordS L s (wordS L s st).2).1],[],0),(wordS L s (wordS L s st).2).2)
 else if k=9 then(([],(oneT (termP L s 60) (countedP L s st).2).1,(countedP L s st).1),(oneT (termP L s 60) (countedP L s st).2).2)
 else if k=10 then(([],(termsP L s eqW (countedP L s st).2).1,(countedP L s st).1),(termsP L s eqW (countedP L s st).2).2)
 else if k=12 then(([(wordS L s st).1],[],0),(wordS L s st).2)
 else(([],[],(numP L s st).1),(numP L s st).2)
def itemP (st:St):It×St:=
 if(pk L s st.1).1=1∧begN (pk L s st.1).2.1≠0 then
  (⟨begN (pk L s st.1).2.1,(bodyP L s (begN (pk L s st.1).2.1) (st.1+1,st.2)).1.1,(bodyP L s (begN (pk L s st.1).2.1) (st.1+1,st.2)).1.2.1,(bodyP L s (begN (pk L s st.1).2.1) (st.1+1,st.2)).1.2.2,(pk L s st.1).2.2⟩,mustS L s scW (bodyP L s (begN (pk L s st.1).2.1) (st.1+1,st.2)).2)
 else(noIt,failS L s 3 st)
def itsP:Nat→List It→St→List It×St
 |0,l,st=>(l,st)
 |n+1,l,st=>if(okS st&&(pk L s st.1).1 != 4)=true then(if l.length=1000 then(l,failS L s 2 st) else itsP n (l++[(itemP L s st).1]) (itemP L s st).2) else(l,st)
def endP (st:St):St:=if(pk L s st.1).1=4 then st else failS L s 3 st
end
def parseP (s:ByteArray):List It×Fa:=
 if(splitP s).2.1=0 then
  (if okS (endP (splitP s).1 s (itsP (splitP s).1 s ((splitP s).1.length+2) [] (0,noFa)).2)=true then((itsP (splitP s).1 s ((splitP s).1.length+2) [] (0,noFa)).1,noFa)
   else([],(endP (splitP s).1 s (itsP (splitP s).1 s ((splitP s).1.length+2) [] (0,noFa)).2).2))
 else([],(splitP s).2)
variable {L:List Tk} {s w:ByteArray} {o:Int} {st:St} {i n:Nat}
theorem wsP_adv (h:PE L s):∀(n:Nat) (l:List ByteArray) (st:St),Ahd L st (wsP L s n l st).2
 |0,_,_=>Ahd.refl
 |n+1,l,st=>by
  rw[wsP]
  split
  ·exact(wordS_adv h).trans (wsP_adv h n _ _)
  ·exact Ahd.refl
theorem wordsP_adv (h:PE L s):Ahd L st (wordsP L s st).2:=(wordS_adv h).trans (wsP_adv h _ _ _)
theorem chP_adv (h:PE L s):∀(n:Nat) (l:List ByteArray) (st:St),Ahd L st (chP L s n l st).2
 |0,_,_=>Ahd.refl
 |n+1,l,st=>by
  rw[chP]
  split
  ·exact nextS_adv.trans ((wordS_adv h).trans (chP_adv h n _ _))
  ·exact nextS_adv
theorem chainP_adv (h:PE L s):Ahd L st (chainP L s st).2:=(wordS_adv h).trans (mustS_adv.trans ((wordS_adv h).trans (chP_adv h _ _ _)))
theorem termsP_adv (h:PE L s):Ahd L st (termsP L s w st).2:=(termP_adv h 60 st).trans (mustS_adv.trans (termP_adv h 60 _))
theorem namedP_adv (h:PE L s):Ahd L st (namedP L s st).2:=(wordS_adv h).trans mustS_adv
theorem countedP_adv (h:PE L s):Ahd L st (countedP L s st).2:=(numP_adv h).trans mustS_adv
theorem bodyP_adv (h:PE L s) {k:Int}:Ahd L st (bodyP L s k st).2:=by
 unfold bodyP
 split
 ·exact wordsP_adv h
 split
 ·exact(namedP_adv h).trans (typP_adv h 60 _)
 split
 ·exact(namedP_adv h).trans (termsP_adv h)
 split
 ·exact(namedP_adv h).trans (termsP_adv h)
 split
 ·exact chainP_adv h
 split
 ·exact(wordS_adv h).trans (wordS_adv h)
 split
 ·exact(countedP_adv h).trans (termP_adv h 60 _)
 split
 ·exact(countedP_adv h).trans (termsP_adv h)
 split
 ·exact wordS_adv h
 ·exact numP_adv h
theorem itemP_adv (h:PE L s):Ahd L st (itemP L s st).2:=by
 unfold itemP
 split
 ·rename_i hk
  have hlt:=pk_in (L:=L) (s:=s) (i:=st.1) h (by rw[hk.1];decide)
  exact(Ahd.succ hlt).trans ((bodyP_adv h).trans mustS_adv)
 ·exact failS_adv
theorem itemP_on (h:PE L s) (ho:okS st=true):st.1<(itemP L s st).2.1∨okS (itemP L s st).2=false:=by
 unfold itemP
 split
 ·exact .inl (Nat.lt_of_lt_of_le (Nat.lt_succ_self _) ((bodyP_adv (st:=(st.1+1,st.2)) h).trans mustS_adv).1)
 ·exact .inr (failS_ok (by decide) ho)
theorem indexW_calls {l:List ByteArray} (hl:l.length≤1000000):PureIs Tryz.prog 139 [wsAV l,nS w] (nI (posW w l 0)):=by
 refine vc139_ok ?_
 refine LoopP.intro (fun k:Nat=>((l.map nS,w,((l.length:Nat):Int),(k:Int),()),())) (fun k=>k≤l.length∧posW w l 0=posW w (l.drop k) k) (fun k=>l.length-k) 0 (by rw[List.length_map];rfl) ⟨Nat.zero_le _,rfl⟩ ?_
 intro k ⟨hk,hd⟩ again hag
 dsimp only
 refine ITE.intro (fun h=>?_) fun h=>?_
 ·have hlt:k<l.length:=by have:=of_decide_eq_true h;omega
  rw[List.drop_eq_getElem_cons hlt,posW] at hd
  refine⟨by omega,by rw[List.length_map];omega,_,getD_map hlt,?_⟩
  rw[strEq_iff]
  refine ITE.intro (fun h1=>?_) fun h1=>?_
  ·rw[hd,if_pos (of_decide_eq_true h1)]
  ·rw[wrap_n (by omega)]
   exact hag (k+1) ⟨by omega,by rw[hd,if_neg (of_decide_eq_false h1)]⟩ (by omega)
 ·have hge:l.length≤k:=by have:=of_decide_eq_false h;omega
  rw[hd,List.drop_eq_nil_of_le hge];rfl
theorem posW_bd:∀(l:List ByteArray) (k:Nat),-1≤posW w l k∧posW w l k≤k+l.length
 | [],k=>by rw[posW];simp
 |x::l,k=>by
  have:=posW_bd l (k+1)
  rw[posW,List.length_cons]
  split<;>omega
theorem begins_calls:PureIs Tryz.prog 100 [nS w] (nI (begN w)):=by
 have hb:=posW_bd (w:=w) kindW 0
 have:kindW.length=12:=rfl
 refine vc100_ok ⟨_,indexW_calls (l:=kindW) (by decide),?_⟩
 rw[wrap_i (by omega) (by omega)];rfl
theorem wstr {x:ByteArray} {l:List ByteArray}:l.map nS++[nS x]=(l++[x]).map nS:=by simp
theorem pwords_calls (h:PE L s) (hi:st.1≤L.length):HFn Tryz.prog 102 [.ptr 1 0] (PO L s o st) (fun r q=>r=wsAV (wordsP L s st).1∧q=PO L s o (wordsP L s st).2):=by
 have hlen:=h.len
 have i1:=(wordS_adv (s:=s) h).2 hi
 generalize hX:wordsP L s st=X
 rw[wordsP] at hX
 have loop:∀(l:List ByteArray) (u:St) (m:Nat),u.1≤L.length→L.length≤m+u.1→l.length≤u.1+2→wsP L s m l u=X→
   vc102_L2 (((),(),()),((L.map tkEnc,s,(u.1:Int),()),((),o,u.2.1,u.2.2.1,u.2.2.2.1,u.2.2.2.2,()),l.map nS,())) (PRW (wsAV X.1) (PO L s o X.2)):=by
  intro l u m hu hm hl he
  refine LoopP.intro (fun p:Nat×List ByteArray×St=>(((),(),()),((L.map tkEnc,s,(p.2.2.1:Int),()),((),o,p.2.2.2.1,p.2.2.2.2.1,p.2.2.2.2.2.1,p.2.2.2.2.2.2,()),p.2.1.map nS,())))
   (fun p=>p.2.2.1≤L.length∧L.length≤p.1+p.2.2.1∧p.2.1.length≤p.2.2.1+2∧wsP L s p.1 p.2.1 p.2.2=X) (fun p=>L.length-p.2.2.1) (m,l,u) rfl ⟨hu,hm,hl,he⟩ ?_
  intro ⟨m,l,u⟩ ⟨hu,hm,hl,he⟩ again hag
  dsimp only at hu hm hl he ⊢
  have stop:(okS u&&(pk L s u.1).1==1)=false→(l.map nS).length=(l.map nS).length∧PRW (wsAV X.1) (PO L s o X.2) (.sl (l.map nS)) (PO L s o u):=fun h1=>by
   have:wsP L s m l u=(l,u):=by
    cases m with
    |zero=>rfl
    |succ m=>rw[wsP,if_neg (by rw[h1];decide)]
   rw[←he,this]
   exact⟨rfl,RepW.refl _,rfl⟩
  refine⟨_,pok_calls (st:=u),fun r q ⟨e1,e2⟩=>⟨_,_,_,_,_,_,_,_,_,⟨e1,e2⟩,ITE.intro (fun h1=>⟨_,peek_calls h hu,fun r q ⟨e1,e2⟩=>⟨_,_,_,_,_,_,⟨e1,e2⟩,ITE.intro (fun h2=>?_) fun h2=>stop (by rw[h1,h2];rfl)⟩⟩) fun h1=>stop (by rw[h1];rfl)⟩⟩
  have hk:(pk L s u.1).1=1:=by simpa using h2
  have hlt:=pk_in (L:=L) (s:=s) (i:=u.1) h (by rw[hk];decide)
  have hw:(wordS L s u).2.1=u.1+1:=by rw[wordS,tokS,if_pos h1,if_pos hk]
  obtain⟨m,rfl⟩:∃j,m=j+1:=⟨m-1,by omega⟩
  rw[wsP,if_pos (by rw[h1,h2];rfl)] at he
  refine⟨_,pword_calls (st:=u) h hu,fun r q ⟨e1,e2⟩=>⟨_,_,_,_,_,_,_,_,_,⟨e1,e2⟩,rfl,appOk_one rfl (by simp;omega) (by decide),rfl,?_⟩⟩
  rw[wstr]
  exact hag (m,l++[(wordS L s u).1],(wordS L s u).2) ⟨by dsimp only;omega,by dsimp only;omega,by simp;omega,he⟩ (by dsimp only;omega)
 refine HFn.prw (vc102_ok ⟨_,pword_calls h hi,fun r q ⟨e1,e2⟩=>⟨_,_,_,_,_,_,_,_,_,⟨e1,e2⟩,?_⟩⟩)
 clear e1 e2
 generalize hu:(wordS L s st).2=u at i1 hX
 generalize (wordS L s st).1=x0 at hX
 have stop:(okS u&&(pk L s u.1).1==1)=false→PRW (wsAV X.1) (PO L s o X.2) (.clip [nS x0]) (PO L s o u):=fun h1=>by
  rw[wsP,if_neg (by rw[h1];decide)] at hX
  rw[←hX];exact⟨repW_clip _,rfl⟩
 refine⟨_,pok_calls (st:=u),fun r q ⟨e1,e2⟩=>⟨_,_,_,_,_,_,_,_,_,⟨e1,e2⟩,ITE.intro (fun h1=>⟨_,peek_calls h i1,fun r q ⟨e1,e2⟩=>⟨_,_,_,_,_,_,⟨e1,e2⟩,ITE.intro (fun h2=>?_) fun h2=>stop (by rw[h1,h2];rfl)⟩⟩) fun h1=>stop (by rw[h1];rfl)⟩⟩
 have hk:(pk L s u.1).1=1:=by simpa using h2
 have hlt:=pk_in (L:=L) (s:=s) (i:=u.1) h (by rw[hk];decide)
 have hw:(wordS L s u).2.1=u.1+1:=by rw[wordS,tokS,if_pos h1,if_pos hk]
 rw[wsP,if_pos (by rw[h1,h2];rfl)] at hX
 refine⟨_,pword_calls (st:=u) h i1,fun r q ⟨e1,e2⟩=>⟨_,_,_,_,_,_,_,_,_,⟨e1,e2⟩,(fun e=>by cases e),appOk_mk (fun x hx=>by rw[List.mem_singleton.1 hx];rfl) (fun x hx=>by rw[List.mem_singleton.1 hx];rfl) (by show 2≤4000000000;decide) (by decide),rfl,?_⟩⟩
 exact loop ([x0]++[(wordS L s u).1]) (wordS L s u).2 L.length (by omega) (by omega) (by show 2≤_;omega) hX
theorem pchain_calls (h:PE L s) (hi:st.1≤L.length):HFn Tryz.prog 106 [.ptr 1 0] (PO L s o st) (fun r q=>r=wsAV (chainP L s st).1∧q=PO L s o (chainP L s st).2):=by
 have hlen:=h.len
 have i1:=(wordS_adv (s:=s) h).2 hi
 have i2:=(mustS_adv (L:=L) (s:=s) (w:=gtW) (st:=(wordS L s st).2)).2 i1
 have i3:=(wordS_adv (st:=mustS L s gtW (wordS L s st).2) (s:=s) h).2 i2
 refine vc106_ok ⟨_,pword_calls h hi,fun r q ⟨e1,e2⟩=>⟨_,_,_,_,_,_,_,_,_,⟨e1,e2⟩,_,pmust_calls h i1,fun r q ⟨e1,e2⟩=>⟨_,_,_,_,_,_,_,_,⟨e1,e2⟩,_,pword_calls h i2,fun r q ⟨e1,e2⟩=>⟨_,_,_,_,_,_,_,_,_,⟨e1,e2⟩,(fun e=>by cases e),
  appOk_mk (fun x hx=>by rw[List.mem_singleton.1 hx];rfl) (fun x hx=>by rw[List.mem_singleton.1 hx];rfl) (by show 2≤4000000000;decide) (by decide),rfl,?_⟩⟩⟩⟩
 clear e1 e2
 rw[chainP]
 generalize hX:chP L s (L.length+1) [(wordS L s st).1,(wordS L s (mustS L s gtW (wordS L s st).2)).1] (wordS L s (mustS L s gtW (wordS L s st).2)).2=X
 refine LoopP.intro (fun p:Nat×List ByteArray×St=>(((),(),()),((L.map tkEnc,s,(p.2.2.1:Int),()),((),o,p.2.2.2.1,p.2.2.2.2.1,p.2.2.2.2.2.1,p.2.2.2.2.2.2,()),p.2.1.map nS,())))
  (fun p=>p.2.2.1≤L.length∧L.length+1≤p.1+p.2.2.1∧p.2.1.length≤p.2.2.1+2∧chP L s p.1 p.2.1 p.2.2=X) (fun p=>L.length-p.2.2.1) (L.length+1,[(wordS L s st).1,(wordS L s (mustS L s gtW (wordS L s st).2)).1],(wordS L s (mustS L s gtW (wordS L s st).2)).2) rfl ⟨i3,by dsimp only;omega,by show 2≤_;omega,hX⟩ ?_
 intro ⟨m,l,u⟩ ⟨hu,hm,hl,he⟩ again hag
 dsimp only at hu hm hl he ⊢
 obtain⟨m,rfl⟩:∃j,m=j+1:=⟨m-1,by omega⟩
 rw[chP] at he
 have hn:=nextS_adv (L:=L) (s:=s) (w:=gtW) (st:=u)
 have hu1:=hn.2 hu
 refine⟨_,pnext_calls h hu,fun r q ⟨e1,e2⟩=>⟨_,_,_,_,_,_,_,_,_,⟨e1,e2⟩,ITE.intro (fun h1=>?_) fun h1=>?_⟩⟩
 ·rw[if_pos h1] at he
  have hlt:u.1<(nextS L s gtW u).2.1:=by
   unfold nextS at h1 ⊢
   split
   ·exact Nat.lt_succ_self _
   ·rename_i hc;rw[if_neg hc] at h1;cases h1
  have hwa:=wordS_adv (st:=(nextS L s gtW u).2) (s:=s) h
  refine⟨_,pword_calls h hu1,fun r q ⟨e1,e2⟩=>⟨_,_,_,_,_,_,_,_,_,⟨e1,e2⟩,rfl,appOk_one rfl (by simp;omega) (by decide),rfl,?_⟩⟩
  rw[wstr]
  have h3:=hwa.1
  have h4:=hwa.2 hu1
  exact hag (m,l++[(wordS L s (nextS L s gtW u).2).1],(wordS L s (nextS L s gtW u).2).2) ⟨h4,by dsimp only;omega,by simp;omega,he⟩ (by dsimp only;omega)
 ·rw[if_neg (by rw[h1];decide)] at he
  rw[←he];exact⟨rfl,rfl,rfl⟩
theorem pterm60_calls (h:PE L s):NdC L s 109 0 (termP L s 60):=pterm_calls h 60 (Nat.le_refl _)
theorem ptyp60_calls (h:PE L s):NdC L s 104 0 (typP L s 60):=ptyp_calls h 60 (Nat.le_refl _)
theorem pterms_calls (h:PE L s) (hi:st.1≤L.length):HFn Tryz.prog 105 [.ptr 1 0,nS w] (PO L s 0 st) (fun r q=>r=.sl ((termsP L s w st).1.map Nd.enc)∧q=PO L s 0 (termsP L s w st).2):=by
 have i1:=(termP_adv h 60 st).2 hi
 have i2:=(mustS_adv (L:=L) (s:=s) (w:=w) (st:=(termP L s 60 st).2)).2 i1
 refine HFn.prw (vc105_ok ⟨_,pterm60_calls h _ hi,fun r q ⟨e1,e2⟩=>⟨_,_,_,_,_,_,_,_,_,_,_,_,⟨e1,e2⟩,_,pmust_calls h i1,fun r q ⟨e1,e2⟩=>⟨_,_,_,_,_,_,_,_,⟨e1,e2⟩,_,pterm60_calls h _ i2,fun r q ⟨e1,e2⟩=>⟨_,_,_,_,_,_,_,_,_,_,_,_,⟨e1,e2⟩,?_,rfl⟩⟩⟩⟩)
 rw[termsP,←kids2];exact repW_clip _
theorem pnamed_calls (h:PE L s) (hi:st.1≤L.length):HFn Tryz.prog 103 [.ptr 1 0] (PO L s o st) (fun r q=>r=wsAV (namedP L s st).1∧q=PO L s o (namedP L s st).2):=
 HFn.prw (vc103_ok ⟨_,pword_calls h hi,fun r q ⟨e1,e2⟩=>⟨_,_,_,_,_,_,_,_,_,⟨e1,e2⟩,_,pmust_calls h ((wordS_adv h).2 hi),fun r q ⟨e1,e2⟩=>⟨_,_,_,_,_,_,_,_,⟨e1,e2⟩,repW_clip _,rfl⟩⟩⟩)
theorem pcounted_calls (h:PE L s) (hi:st.1≤L.length):HFn Tryz.prog 108 [.ptr 1 0] (PO L s o st) (fun r q=>r=nI (countedP L s st).1∧q=PO L s o (countedP L s st).2):=
 vc108_ok ⟨_,pnum_calls h hi,fun r q ⟨e1,e2⟩=>⟨_,_,_,_,_,_,_,_,_,⟨e1,e2⟩,_,pmust_calls h ((numP_adv h).2 hi),fun r q ⟨e1,e2⟩=>⟨_,_,_,_,_,_,_,_,⟨e1,e2⟩,rfl,rfl⟩⟩⟩
end Go.Proofs.YtghnkppcncbddaaGreatDoor

namespace Go.Proofs.YtghnkppcncbddaaGreatDoor
open Go
set_option linter.unusedSimpArgs false
set_option linter.unusedVariables false
variable {L:List Tk} {s w:ByteArray} {o:Int} {st:St} {i n:Nat}
theorem itAW {k n a:Int} {x y:AV} {t:It} (hx:RepW x (wsAV t.words)) (hy:RepW y (.sl (t.nodes.map Nd.enc))) (h1:k=t.kind) (h2:n=t.num) (h3:a=t.at_):RepW (.agg [nI k,x,y,nI n,nI a]) (itAV t):=by
 subst h1 h2 h3
 exact RepW.agg ⟨RepW.refl _,hx,hy,RepW.refl _,RepW.refl _,True.intro⟩
theorem ws1W {w:ByteArray}:RepW (.clip [nS w]) (wsAV [w]):=repW_clip _
theorem nd1W (t:Nd):RepW (.clip [ndAV t]) (.sl ([t].map Nd.enc)):=by
 have:[t].map Nd.enc=[ndAV t]:=by simp[Nd.enc_eq]
 rw[this];exact repW_clip _
theorem pitem_calls (h:PE L s) (hi:st.1≤L.length):HFn Tryz.prog 63 [.ptr 1 0] (PO L s 0 st) (fun r q=>r=itAV (itemP L s st).1∧q=PO L s 0 (itemP L s st).2):=by
 have hlen:=h.len
 refine HFn.prw (vc63_ok ⟨_,peek_calls h hi,fun r q ⟨e1,e2⟩=>⟨_,_,_,_,_,_,⟨e1,e2⟩,_,begins_calls,ITE.intro (fun h1=>?_) fun h1=>ITE.intro (fun h2=>?_) fun h2=>?_⟩⟩)
 ·have h1:¬(pk L s st.1).1=1:=by simpa using h1
  rw[itemP,if_neg fun c=>h1 c.1]
  exact⟨_,pfail_calls (st:=st) h hi,fun r q ⟨e1,e2⟩=>⟨_,_,_,_,_,_,_,_,⟨e1,e2⟩,itAW repW_nil repW_nil rfl rfl rfl,rfl⟩⟩
 ·have h2:begN (pk L s st.1).2.1=0:=by simpa using h2
  rw[itemP,if_neg fun c=>c.2 h2]
  exact⟨_,pfail_calls (st:=st) h hi,fun r q ⟨e1,e2⟩=>⟨_,_,_,_,_,_,_,_,⟨e1,e2⟩,itAW repW_nil repW_nil rfl rfl rfl,rfl⟩⟩
 have h1:(pk L s st.1).1=1:=by simpa using h1
 have h2:begN (pk L s st.1).2.1≠0:=by simpa using h2
 have hlt:=pk_in (L:=L) (s:=s) (i:=st.1) h (by rw[h1];decide)
 rw[itemP,if_pos ⟨h1,h2⟩]
 refine⟨_,rnext_calls h hi,fun r q ⟨e1,e2⟩=>⟨_,_,_,_,_,_,⟨e1,by rw[if_pos hlt] at e2;exact e2⟩,?_⟩⟩
 clear e1 e2
 generalize begN (pk L s st.1).2.1=k at h2 ⊢
 generalize (pk L s st.1).2.2=a
 have hi1:st.1+1≤L.length:=hlt
 have hu:((st.1+1,st.2):St).1≤L.length:=hi1
 generalize hU:((st.1+1,st.2):St)=u at hu ⊢
 have eu1:((st.1+1:Nat):Int)=(u.1:Int):=by rw[←hU]
 have eu2:st.2=u.2:=by rw[←hU]
 rw[eu1,eu2]
 clear hU eu1 eu2 hi1 hlt h1 hi
 have fin:∀{B:(List ByteArray×List Nd×Int)×St} {x y:AV} {m:Int},bodyP L s k u=B→RepW x (wsAV B.1.1)→RepW y (.sl (B.1.2.1.map Nd.enc))→m=B.1.2.2→
   callX 111 [.ptr 1 0,nS scW] (PO L s 0 B.2) fun r q=>∃l s2 i1 i2 i3 i4 i5 w,(r=.tup []∧q=psO l s2 i1 i2 i3 i4 i5 w)∧
    PRW (itAV ⟨k,(bodyP L s k u).1.1,(bodyP L s k u).1.2.1,(bodyP L s k u).1.2.2,a⟩) (PO L s 0 (mustS L s scW (bodyP L s k u).2)) (.agg [nI k,x,y,nI m,nI a]) (psO l s2 i1 i2 i3 i4 i5 w):=by
  intro B x y m hB hx hy hm
  subst hB
  exact⟨_,pmust_calls h ((bodyP_adv h).2 hu),fun r q ⟨e1,e2⟩=>⟨_,_,_,_,_,_,_,_,⟨e1,e2⟩,itAW hx hy rfl hm rfl,rfl⟩⟩
 have r12:=fun(hk:k≠1∧¬(k=2∨k=3)∧k≠4∧k≠5∧k≠6∧k≠7∧k≠9∧k≠10)=>(show vc63_R32 (k==12) (L.map tkEnc) s (u.1:Int) 0 u.2.1 u.2.2.1 u.2.2.2.1 u.2.2.2.2 (PRW (itAV ⟨k,(bodyP L s k u).1.1,(bodyP L s k u).1.2.1,(bodyP L s k u).1.2.2,a⟩) (PO L s 0 (mustS L s scW (bodyP L s k u).2))) k a from by
  obtain⟨g1,g2,g4,g5,g6,g7,g9,g10⟩:=hk
  refine ITE.intro (fun c=>⟨_,pword_calls (st:=u) h hu,fun r q ⟨e1,e2⟩=>⟨_,_,_,_,_,_,_,_,_,⟨e1,e2⟩,?_⟩⟩) fun c=>⟨_,pnum_calls (st:=u) h hu,fun r q ⟨e1,e2⟩=>⟨_,_,_,_,_,_,_,_,_,⟨e1,e2⟩,?_⟩⟩
  ·have c:k=12:=by simpa using c
   exact fin (by rw[bodyP,if_neg g1,if_neg g2,if_neg g4,if_neg g5,if_neg g6,if_neg g7,if_neg g9,if_neg g10,if_pos c]) ws1W repW_nil rfl
  ·have c:¬k=12:=by simpa using c
   exact fin (by rw[bodyP,if_neg g1,if_neg g2,if_neg g4,if_neg g5,if_neg g6,if_neg g7,if_neg g9,if_neg g10,if_neg c]) repW_nil repW_nil rfl)
 have r9:=fun(hk:k≠1∧¬(k=2∨k=3)∧k≠4∧k≠5∧k≠6∧k≠7)=>(show vc63_R26 (k==9) (L.map tkEnc) s (u.1:Int) 0 u.2.1 u.2.2.1 u.2.2.2.1 u.2.2.2.2 (PRW (itAV ⟨k,(bodyP L s k u).1.1,(bodyP L s k u).1.2.1,(bodyP L s k u).1.2.2,a⟩) (PO L s 0 (mustS L s scW (bodyP L s k u).2))) k a from by
  obtain⟨g1,g2,g4,g5,g6,g7⟩:=hk
  refine ITE.intro (fun c=>⟨_,pcounted_calls (st:=u) h hu,fun r q ⟨e1,e2⟩=>⟨_,_,_,_,_,_,_,_,_,⟨e1,e2⟩,_,pterm60_calls h _ ((countedP_adv h).2 hu),fun r q ⟨e1,e2⟩=>⟨_,_,_,_,_,_,_,_,_,_,_,_,⟨e1,e2⟩,?_⟩⟩⟩) fun c=>
   ITE.intro (fun c2=>⟨_,pcounted_calls (st:=u) h hu,fun r q ⟨e1,e2⟩=>⟨_,_,_,_,_,_,_,_,_,⟨e1,e2⟩,_,pterms_calls h ((countedP_adv h).2 hu),fun r q ⟨e1,e2⟩=>⟨_,_,_,_,_,_,_,_,_,⟨e1,e2⟩,?_⟩⟩⟩) fun c2=>?_
  ·have c:k=9:=by simpa using c
   exact fin (by rw[bodyP,if_neg g1,if_neg g2,if_neg g4,if_neg g5,if_neg g6,if_neg g7,if_pos c]) repW_nil (nd1W _) rfl
  ·have c:¬k=9:=by simpa using c
   have c2:k=10:=by simpa using c2
   exact fin (by rw[bodyP,if_neg g1,if_neg g2,if_neg g4,if_neg g5,if_neg g6,if_neg g7,if_neg c,if_pos c2]) repW_nil (RepW.refl _) rfl
  ·exact r12 ⟨g1,g2,g4,g5,g6,g7,by simpa using c,by simpa using c2⟩)
 have r4:=fun(hk:k≠1∧¬(k=2∨k=3))=>(show vc63_R16 (k==4) (L.map tkEnc) s (u.1:Int) 0 u.2.1 u.2.2.1 u.2.2.2.1 u.2.2.2.2 (PRW (itAV ⟨k,(bodyP L s k u).1.1,(bodyP L s k u).1.2.1,(bodyP L s k u).1.2.2,a⟩) (PO L s 0 (mustS L s scW (bodyP L s k u).2))) k a from by
  obtain⟨g1,g2⟩:=hk
  refine ITE.intro (fun c=>⟨_,pnamed_calls (st:=u) h hu,fun r q ⟨e1,e2⟩=>⟨_,_,_,_,_,_,_,_,_,⟨e1,e2⟩,_,pterms_calls h ((namedP_adv h).2 hu),fun r q ⟨e1,e2⟩=>⟨_,_,_,_,_,_,_,_,_,⟨e1,e2⟩,?_⟩⟩⟩) fun c4=>
   ITE.intro (fun c=>⟨_,pnamed_calls (st:=u) h hu,fun r q ⟨e1,e2⟩=>⟨_,_,_,_,_,_,_,_,_,⟨e1,e2⟩,_,pterms_calls h ((namedP_adv h).2 hu),fun r q ⟨e1,e2⟩=>⟨_,_,_,_,_,_,_,_,_,⟨e1,e2⟩,?_⟩⟩⟩) fun c5=>
   ITE.intro (fun c=>⟨_,pchain_calls (st:=u) h hu,fun r q ⟨e1,e2⟩=>⟨_,_,_,_,_,_,_,_,_,⟨e1,e2⟩,?_⟩⟩) fun c6=>
   ITE.intro (fun c=>⟨_,pword_calls (st:=u) h hu,fun r q ⟨e1,e2⟩=>⟨_,_,_,_,_,_,_,_,_,⟨e1,e2⟩,_,pword_calls h ((wordS_adv h).2 hu),fun r q ⟨e1,e2⟩=>⟨_,_,_,_,_,_,_,_,_,⟨e1,e2⟩,?_⟩⟩⟩) fun c7=>?_
  ·have c:k=4:=by simpa using c
   exact fin (by rw[bodyP,if_neg g1,if_neg g2,if_pos c]) (RepW.refl _) (RepW.refl _) rfl
  ·have c4:¬k=4:=by simpa using c4
   have c:k=5:=by simpa using c
   exact fin (by rw[bodyP,if_neg g1,if_neg g2,if_neg c4,if_pos c]) (RepW.refl _) (RepW.refl _) rfl
  ·have c4:¬k=4:=by simpa using c4
   have c5:¬k=5:=by simpa using c5
   have c:k=6:=by simpa using c
   exact fin (by rw[bodyP,if_neg g1,if_neg g2,if_neg c4,if_neg c5,if_pos c]) (RepW.refl _) repW_nil rfl
  ·have c4:¬k=4:=by simpa using c4
   have c5:¬k=5:=by simpa using c5
   have c6:¬k=6:=by simpa using c6
   have c:k=7:=by simpa using c
   exact fin (by rw[bodyP,if_neg g1,if_neg g2,if_neg c4,if_neg c5,if_neg c6,if_pos c]) (repW_clip _) repW_nil rfl
  ·exact r9 ⟨g1,g2,by simpa using c4,by simpa using c5,by simpa using c6,by simpa using c7⟩)
 have t23:k≠1→(k=2∨k=3)→callX 103 [.ptr 1 0] (PO L s 0 u) fun r q=>∃l s2 i1 i2 i3 i4 i5 w l2,(r=.sl l2∧q=psO l s2 i1 i2 i3 i4 i5 w)∧
   vc63_R14 l s2 i1 i2 i3 i4 i5 w (PRW (itAV ⟨k,(bodyP L s k u).1.1,(bodyP L s k u).1.2.1,(bodyP L s k u).1.2.2,a⟩) (PO L s 0 (mustS L s scW (bodyP L s k u).2))) k l2 a:=fun g1 g2=>
  ⟨_,pnamed_calls (st:=u) h hu,fun r q ⟨e1,e2⟩=>⟨_,_,_,_,_,_,_,_,_,⟨e1,e2⟩,_,ptyp60_calls h _ ((namedP_adv h).2 hu),fun r q ⟨e1,e2⟩=>⟨_,_,_,_,_,_,_,_,_,_,_,_,⟨e1,e2⟩,fin (by rw[bodyP,if_neg g1,if_pos g2]) (RepW.refl _) (nd1W _) rfl⟩⟩⟩
 refine ITE.intro (fun c=>⟨_,pwords_calls (st:=u) h hu,fun r q ⟨e1,e2⟩=>⟨_,_,_,_,_,_,_,_,_,⟨e1,e2⟩,?_⟩⟩) fun c1=>ITE.intro (fun c2=>ITE.pos c2 (t23 (by simpa using c1) (.inl (by simpa using c2)))) fun c2=>ITE.intro (fun c3=>t23 (by simpa using c1) (.inr (by simpa using c3))) fun c3=>r4 ⟨by simpa using c1,?_⟩
 ·have c:k=1:=by simpa using c
  exact fin (by rw[bodyP,if_pos c]) (RepW.refl _) repW_nil rfl
 ·have c2:¬k=2:=by simpa using c2
  have c3:¬k=3:=by simpa using c3
  omega
theorem pitems_calls (h:PE L s) (hi:st.1≤L.length):HFn Tryz.prog 59 [.ptr 1 0] (PO L s 0 st) (fun r q=>r=.sl ((itsP L s (L.length+2) [] st).1.map itAV)∧q=PO L s 0 (itsP L s (L.length+2) [] st).2):=by
 have hlen:=h.len
 generalize hX:itsP L s (L.length+2) [] st=X
 refine vc59_ok ⟨rfl,?_⟩
 refine LoopP.intro (fun p:Nat×List It×St=>(((),(),()),((L.map tkEnc,s,(p.2.2.1:Int),()),((),0,p.2.2.2.1,p.2.2.2.2.1,p.2.2.2.2.2.1,p.2.2.2.2.2.2,()),p.2.1.map itAV,())))
  (fun p=>p.2.2.1≤L.length∧L.length+1+(if okS p.2.2=true then 1 else 0)≤p.1+p.2.2.1∧p.2.1.length≤1000∧itsP L s p.1 p.2.1 p.2.2=X) (fun p=>2*(L.length-p.2.2.1)+(if okS p.2.2=true then 1 else 0)) (L.length+2,[],st) rfl ⟨hi,by dsimp only;split<;>omega,Nat.zero_le _,hX⟩ ?_
 intro ⟨m,l,u⟩ ⟨hu,hm,hl,he⟩ again hag
 dsimp only at hu hm hl he ⊢
 obtain⟨m,rfl⟩:∃j,m=j+1:=⟨m-1,by split at hm<;>omega⟩
 have stop:(okS u&&(pk L s u.1).1 != 4)=false→(l.map itAV).length=(l.map itAV).length∧(AV.sl (l.map itAV)=.sl (X.1.map itAV)∧PO L s 0 u=PO L s 0 X.2):=fun h1=>by
  rw[itsP,if_neg (by rw[h1];decide)] at he
  rw[←he];exact⟨rfl,rfl,rfl⟩
 refine⟨_,pok_calls (st:=u),fun r q ⟨e1,e2⟩=>⟨_,_,_,_,_,_,_,_,_,⟨e1,e2⟩,ITE.intro (fun h1=>⟨_,peek_calls h hu,fun r q ⟨e1,e2⟩=>⟨_,_,_,_,_,_,⟨e1,e2⟩,ITE.intro (fun h2=>⟨rfl,?_⟩) fun h2=>stop (by rw[h1,h2];rfl)⟩⟩) fun h1=>stop (by rw[h1];rfl)⟩⟩
 rw[itsP,if_pos (by rw[h1,h2];rfl)] at he
 rw[if_pos h1] at hm
 rw[List.length_map]
 refine ITE.intro (fun h3=>⟨_,pfail_calls (st:=u) h hu,fun r q ⟨e1,e2⟩=>⟨_,_,_,_,_,_,_,_,⟨e1,e2⟩,?_⟩⟩) fun h3=>⟨_,pitem_calls (st:=u) h hu,fun r q ⟨e1,e2⟩=>⟨_,_,_,_,_,_,_,_,_,_,_,_,_,⟨e1,e2⟩,?_⟩⟩
 ·have h3:l.length=1000:=by have:=eq_of_beq h3;omega
  rw[if_pos h3] at he
  rw[←he];exact⟨rfl,rfl,rfl⟩
 ·have h3:¬l.length=1000:=fun e=>by rw[e] at h3;cases h3
  rw[if_neg h3] at he
  have ha:=itemP_adv (st:=u) h
  have hon:=itemP_on (st:=u) h h1
  have h4:=ha.1
  have h5:=ha.2 hu
  refine⟨rfl,appOk_one rfl (by simp;omega) (by decide),rfl,?_⟩
  have e:l.map itAV++[itAV (itemP L s u).1]=(l++[(itemP L s u).1]).map itAV:=by simp
  rw[e]
  refine hag (m,l++[(itemP L s u).1],(itemP L s u).2) ⟨h5,?_,by simp;omega,he⟩ ?_
  ·dsimp only
   rcases hon with h6|h6
   ·split<;>omega
   ·rw[if_neg (by rw[h6];decide)];omega
  ·dsimp only
   rw[if_pos h1]
   rcases hon with h6|h6
   ·split<;>omega
   ·rw[if_neg (by rw[h6];decide)];omega
theorem lexF_pe {s:ByteArray}:∀(f i:Nat) (acc:List Tk),i≤s.size→acc.length≤i→(∀t∈acc,(0≤t.2.2∧t.2.2≤(s.size:Int))∧t.1≠4)→
  (lexF s f i acc).1.length≤s.size∧∀t∈(lexF s f i acc).1,(0≤t.2.2∧t.2.2≤(s.size:Int))∧t.1≠4
 |0,i,acc,hi,ha,h=>⟨by rw[lexF];dsimp only;omega,h⟩
 |f+1,i,acc,hi,ha,h=>by
  have hl:=bytesI_len s
  have hle:=skipB_le false ((bytesI s).drop i)
  rw[List.length_drop,hl] at hle
  have hA:i≤lexA s i∧lexA s i≤s.size:=by rw[lexA];omega
  rw[lexF]
  generalize lexA s i=a at hA
  split
  ·exact⟨by dsimp only;omega,h⟩
  split
  ·exact⟨Nat.zero_le _,fun t ht=>by cases ht⟩
  split
  ·exact⟨Nat.zero_le _,fun t ht=>by cases ht⟩
  rename_i h0 _
  have htl:=tokN_le ((bytesI s).drop a)
  rw[List.length_drop,hl] at htl
  have hk:∀l:List Int,(tokN l).1≤3:=fun l=>by
   cases l with
   |nil=>decide
   |cons c l=>
    rw[tokN]
    split
    ·show 1≤3;decide
    ·split
     ·show 2≤3;decide
     ·show 3≤3;decide
  have hk:=hk ((bytesI s).drop a)
  change (lexT s a).2≤_ at htl
  change (lexT s a).1≤_ at hk
  refine lexF_pe f _ _ (by omega) (by simp;omega) fun t ht=>?_
  rcases List.mem_append.1 ht with ht|ht
  ·exact h t ht
  ·obtain rfl:=List.mem_singleton.1 ht
   exact⟨⟨by simp,by simp;omega⟩,by show ¬(((lexT s a).1:Nat):Int)=4;omega⟩
theorem split_pe {s:ByteArray}:PE (splitP s).1 s∨20000<s.size∧splitP s=([],(2,1,1,⟨#[]⟩)):=by
 by_cases h:s.size>20000
 ·exact .inr ⟨h,if_pos h⟩
 ·refine .inl ?_
  have hp:=lexF_pe (s:=s) (s.size+1) 0 [] (Nat.zero_le _) (Nat.le_refl _) fun t ht=>by cases ht
  rw[splitP,if_neg h,finS]
  split
  ·exact⟨by dsimp only;omega,by omega,fun t ht=>(hp.2 t ht).1,fun t ht=>(hp.2 t ht).2⟩
  ·exact⟨Nat.zero_le _,by omega,fun t ht=>(by cases ht),fun t ht=>by cases ht⟩
theorem clone_tk {l:List Tk} (hl:l.length≤1000000):PureIs Tryz.prog 137 [.sl (l.map tkEnc)] (.sl (l.map tkEnc)):=by
 refine vc137_ok fun b hb=>ITE.intro (fun h=>?_) fun h=>⟨fun _=>rfl,appOk_mk (fun x hx=>by cases hx) (fun x hx=>by obtain⟨t,_,rfl⟩:=List.mem_map.1 hx;rfl) (by simp;omega) (by decide),rfl,rfl⟩
 have:l.map tkEnc=[]:=Decidable.byContradiction fun c=>by
  have:=hb c;rw[h] at this;cases this
 rw[this]
theorem rnew_calls {l:List Tk} (hl:l.length≤1000000):HFn Tryz.prog 98 [.sl (l.map tkEnc),nS s] [] (fun r q=>r=.ptr 0 0∧q=RO l s 0):=vc98_ok ⟨_,clone_tk hl,rfl,rfl⟩
theorem parsed_calls {s:ByteArray} (hs:s.size≤1000000000):PureIs Tryz.prog 58 [nS s,.clo 59 []] (.tup [.sl ((parseP s).1.map itAV),.agg (faC (parseP s).2)]):=by
 refine vc58_ok ⟨_,_,_,_,_,lexSplit_calls hs,ITE.intro (fun h1=>?_) fun h1=>?_⟩
 ·have h1:¬(splitP s).2.1=0:=by simpa using h1
  rw[parseP,if_neg h1];rfl
 have h1:(splitP s).2.1=0:=by simpa using h1
 have hp:PE (splitP s).1 s:=by
  rcases split_pe (s:=s) with h|⟨_,h⟩
  ·exact h
  ·rw[h] at h1;cases h1
 rw[parseP,if_pos h1]
 generalize (splitP s).1=L at hp ⊢
 have hadv:∀(n:Nat) (l:List It) (u:St),Ahd L u (itsP L s n l u).2:=by
  intro n
  induction n with
  |zero=>intro l u;exact Ahd.refl
  |succ n ih=>
   intro l u
   rw[itsP]
   split
   ·split
    ·exact failS_adv
    ·exact(itemP_adv hp).trans (ih _ _)
   ·exact Ahd.refl
 have hi1:=(hadv (L.length+2) [] (0,noFa)).2 (Nat.zero_le _)
 generalize hX:itsP L s (L.length+2) [] (0,noFa)=X at hi1 ⊢
 obtain⟨l,st1⟩:=X
 have hits:=pitems_calls (st:=(0,noFa)) hp (Nat.zero_le _)
 rw[hX] at hits
 have fin:∀u:St,u=endP L s st1→ITE (!(okS u)) (AV.tup [.sl [],.agg (faC u.2)]=.tup [.sl ((if okS (endP L s st1)=true then(l,noFa) else([],(endP L s st1).2)).1.map itAV),.agg (faC (if okS (endP L s st1)=true then(l,noFa) else([],(endP L s st1).2)).2)])
   (AV.tup [.sl (l.map itAV),.agg [nI 0,nI 0,nI 0,nS ⟨#[]⟩]]=.tup [.sl ((if okS (endP L s st1)=true then(l,noFa) else([],(endP L s st1).2)).1.map itAV),.agg (faC (if okS (endP L s st1)=true then(l,noFa) else([],(endP L s st1).2)).2)]):=by
  intro u hu
  subst hu
  cases ho:okS (endP L s st1)
  ·exact ITE.pos rfl rfl
  ·exact ITE.neg rfl rfl
 refine⟨_,rnew_calls hp.len,fun r q ⟨e1,e2⟩=>⟨_,_,_,⟨e1,e2⟩,_,hits,fun r q ⟨e1,e2⟩=>⟨_,_,_,_,_,_,_,_,_,⟨e1,e2⟩,_,peek_calls hp hi1,fun r q ⟨e1,e2⟩=>⟨_,_,_,_,_,_,⟨e1,e2⟩,ITE.intro (fun h2=>?_) fun h2=>?_⟩⟩⟩⟩
 ·have h2:¬(pk L s st1.1).1=4:=by simpa using h2
  exact⟨_,pfail_calls (st:=st1) hp hi1,fun r q ⟨e1,e2⟩=>⟨_,_,_,_,_,_,_,_,⟨e1,e2⟩,_,pok_calls (st:=failS L s 3 st1),fun r q ⟨e1,e2⟩=>⟨_,_,_,_,_,_,_,_,_,⟨e1,e2⟩,fin _ (by rw[endP,if_neg h2])⟩⟩⟩
 ·have h2:(pk L s st1.1).1=4:=by simpa using h2
  exact⟨_,pok_calls (st:=st1),fun r q ⟨e1,e2⟩=>⟨_,_,_,_,_,_,_,_,_,⟨e1,e2⟩,fin _ (by rw[endP,if_pos h2])⟩⟩
theorem parseText_calls {s:ByteArray} (hs:s.size≤1000000000):PureIs Tryz.prog 27 [nS s] (.tup [.sl ((parseP s).1.map itAV),.agg (faC (parseP s).2)]):=
 vc27_ok ⟨_,_,_,_,_,parsed_calls hs,rfl⟩
mutual
def Nd.same:Nd→Nd→Bool
 | .mk k w _ l,.mk k' w' _ l'=>(k==k')&&(decide (w=w')&&Nd.sames l l')
def Nd.sames:List Nd→List Nd→Bool
 | [],[]=>true
 |t::l,t'::l'=>t.same t'&&Nd.sames l l'
 |_,_=>false
end
theorem Nd.same_eq (t u:Nd):t.same u=((t.kind==u.kind)&&(decide (t.word=u.word)&&Nd.sames t.kids u.kids)):=by cases t;cases u;rw[Nd.same];rfl
theorem Nd.sames_len:∀{l l':List Nd},Nd.sames l l'=true→l.length=l'.length
 | [],[],_=>rfl
 | [],_::_,h=>by rw[Nd.sames] at h;cases h;all_goals simp
 |_::_,[],h=>by rw[Nd.sames] at h;cases h;all_goals simp
 |t::l,t'::l',h=>by
  rw[Nd.sames,Bool.and_eq_true] at h
  rw[List.length_cons,List.length_cons,Nd.sames_len h.2]
def itSame (x y:It):Bool:=(x.kind==y.kind)&&((x.num==y.num)&&(decide (x.words=y.words)&&Nd.sames x.nodes y.nodes))
theorem eqW_calls {a b:List ByteArray} (ha:a.length≤1000000):PureIs Tryz.prog 64 [wsAV a,wsAV b] (nB (decide (a=b))):=by
 refine vc64_ok (ITE.intro (fun h=>?_) fun h=>?_)
 ·have h:¬a.length=b.length:=fun e=>by simp[e] at h
  rw[decide_eq_false fun e=>h (by rw[e])]
 ·have h:a.length=b.length:=by
   have:(((a.map nS).length:Nat):Int)=((b.map nS).length:Nat):=by simpa using h
   simp only[List.length_map] at this
   omega
  refine LoopP.intro (fun k:Nat=>((a.map nS,b.map nS,((a.length:Nat):Int),(k:Int),()),())) (fun k=>k≤a.length∧a.take k=b.take k) (fun k=>a.length-k) 0 (by rw[List.length_map];rfl) ⟨Nat.zero_le _,rfl⟩ ?_
  intro k ⟨hk,hd⟩ again hag
  dsimp only
  refine ITE.intro (fun h1=>?_) fun h1=>?_
  ·have hlt:k<a.length:=by have:=of_decide_eq_true h1;omega
   have hlt2:k<b.length:=by omega
   refine⟨by omega,by rw[List.length_map];omega,_,getD_map hlt,by omega,by rw[List.length_map];omega,_,getD_map hlt2,?_⟩
   rw[strEq_iff]
   refine ITE.intro (fun h2=>?_) fun h2=>?_
   ·have h2:¬a[k]=b[k]:=by simpa using h2
    rw[decide_eq_false fun e=>h2 (by subst e;rfl)]
   ·have h2:a[k]=b[k]:=by simpa using h2
    rw[wrap_n (by omega)]
    exact hag (k+1) ⟨by omega,by rw[List.take_succ_eq_append_getElem hlt,List.take_succ_eq_append_getElem hlt2,hd,h2]⟩ (by omega)
  ·have hge:a.length≤k:=by have:=of_decide_eq_false h1;omega
   rw[List.take_of_length_le hge,List.take_of_length_le (by omega)] at hd
   rw[decide_eq_true hd]
theorem sameNs_calls {n:Nat} (ih:∀t u:Nd,t.size≤n→PureIs Tryz.prog 66 [ndAV t,ndAV u] (nB (t.same u))) {a b:List Nd} (ha:Nd.sizes a≤n) (hn:n≤1000000):PureIs Tryz.prog 65 [.sl (a.map Nd.enc),.sl (b.map Nd.enc),.clo 66 []] (nB (Nd.sames a b)):=by
 have hla:=Nd.sizes_len a
 refine vc65_ok (ITE.intro (fun h=>?_) fun h=>?_)
 ·have h:¬a.length=b.length:=fun e=>by simp[e] at h
  cases hs:Nd.sames a b
  ·rfl
  ·exact(h (Nd.sames_len hs)).elim
 ·have h:a.length=b.length:=by
   have:(((a.map Nd.enc).length:Nat):Int)=((b.map Nd.enc).length:Nat):=by simpa using h
   simp only[List.length_map] at this
   omega
  refine LoopP.intro (fun k:Nat=>((b.map Nd.enc,(),a.map Nd.enc,((a.length:Nat):Int),(k:Int),()),())) (fun k=>k≤a.length∧Nd.sames a b=Nd.sames (a.drop k) (b.drop k)) (fun k=>a.length-k) 0 (by rw[List.length_map];rfl) ⟨Nat.zero_le _,rfl⟩ ?_
  intro k ⟨hk,hd⟩ again hag
  dsimp only
  refine ITE.intro (fun h1=>?_) fun h1=>?_
  ·have hlt:k<a.length:=by have:=of_decide_eq_true h1;omega
   have hlt2:k<b.length:=by omega
   rw[List.drop_eq_getElem_cons hlt,List.drop_eq_getElem_cons hlt2,Nd.sames] at hd
   have hm:=Nd.sizes_mem (List.getElem_mem hlt)
   refine⟨by omega,by rw[List.length_map];omega,_,_,_,_,Nd.enc_getD hlt,by omega,by rw[List.length_map];omega,_,_,_,_,Nd.enc_getD hlt2,_,ih a[k] b[k] (by omega),ITE.intro (fun h2=>?_) fun h2=>?_⟩
   ·have h2:a[k].same b[k]=false:=by simpa using h2
    rw[hd,h2];rfl
   ·have h2:a[k].same b[k]=true:=by simpa using h2
    rw[wrap_n (by omega)]
    exact hag (k+1) ⟨by omega,by rw[hd,h2];rfl⟩ (by omega)
  ·have hge:a.length≤k:=by have:=of_decide_eq_false h1;omega
   rw[hd,List.drop_eq_nil_of_le hge,List.drop_eq_nil_of_le (by omega)];rfl
theorem sameN_calls:∀(n:Nat),n≤1000000→∀t u:Nd,t.size≤n→PureIs Tryz.prog 66 [ndAV t,ndAV u] (nB (t.same u))
 |0,_,t,u,h=>by have:=t.size_pos;omega
 |n+1,hn,t,u,h=>by
  have hs:=t.size_eq
  rw[Nd.same_eq]
  refine vc66_ok (ITE.intro (fun h1=>ITE.intro (fun h2=>⟨_,sameNs_calls (n:=n) (sameN_calls n (by omega)) (by omega) (by omega),?_⟩) fun h2=>?_) fun h1=>?_)
  ·rw[strEq_iff] at h2
   rw[h1,h2];rfl
  ·rw[strEq_iff] at h2
   rw[h1,h2];rfl
  ·rw[h1];rfl
theorem sameIt_calls {x y:It} (hw:x.words.length≤1000000) (hn:Nd.sizes x.nodes≤1000000):PureIs Tryz.prog 28 [itAV x,itAV y] (nB (itSame x y)):=by
 unfold itSame
 refine vc28_ok (ITE.intro (fun h1=>ITE.intro (fun h2=>⟨_,eqW_calls hw,ITE.intro (fun h3=>⟨_,sameNs_calls (n:=1000000) (sameN_calls 1000000 (Nat.le_refl _)) hn (Nat.le_refl _),?_⟩) fun h3=>?_⟩) fun h2=>?_) fun h1=>?_)
 ·rw[h1,h2,h3];rfl
 ·rw[h1,h2,h3];rfl
 ·rw[h1,h2];rfl
 ·rw[h1];rfl
end Go.Proofs.YtghnkppcncbddaaGreatDoor

namespace Go.Proofs.YtghnkppcncbddaaGreatDoor
open Go
set_option linter.unusedSimpArgs false
set_option linter.unusedVariables false
def tailF (f:Fm) (w n:Nat) (num:Int):Bool:=
 !(decide ((w:Int)<f.least))&&(!(decide ((w:Int)>f.most))&&(!((n:Int) != f.trees)&&cntB f.count num))
def tailB (k:Int) (w n:Nat) (num:Int):Bool:=match formI k with|some f=>tailF f w n num|none=>false
def typesB (k:Int):Bool:=(k==2)||(k==3)
theorem formI_cases (k:Int):k=1∨k=2∨k=3∨k=4∨k=5∨k=6∨k=7∨k=8∨k=9∨k=10∨k=11∨k=12∨(formI k=none∧k≠1∧k≠2∧k≠3∧k≠4∧k≠5∧k≠6∧k≠7∧k≠8∧k≠9∧k≠10∧k≠11∧k≠12):=by
 by_cases h:1≤k∧k≤12
 ·omega
 ·have hk:k≠1∧k≠2∧k≠3∧k≠4∧k≠5∧k≠6∧k≠7∧k≠8∧k≠9∧k≠10∧k≠11∧k≠12:=by omega
  obtain⟨h1,h2,h3,h4,h5,h6,h7,h8,h9,h10,h11,h12⟩:=hk
  have:formI k=none:=by unfold formI;simp only[if_neg h1,if_neg h2,if_neg h3,if_neg h4,if_neg h5,if_neg h6,if_neg h7,if_neg h8,if_neg h9,if_neg h10,if_neg h11,if_neg h12]
  simp[this,h1,h2,h3,h4,h5,h6,h7,h8,h9,h10,h11,h12]
theorem formI_types {k:Int} {f:Fm} (h:formI k=some f):f.types=typesB k:=by
 rcases formI_cases k with rfl|rfl|rfl|rfl|rfl|rfl|rfl|rfl|rfl|rfl|rfl|rfl|⟨h0,_⟩
 iterate 12 (first|(cases h;rfl)|skip)
 all_goals first|(cases h;rfl)|(rw[h0] at h;cases h)
def nodesB (x:It):Bool:=x.nodes.any fun t=>!(if typesB x.kind=true then rightT t else rightM t)
theorem rightI_eq (x:It):rightI x=(!(x.words.any fun w=>!(isWord w))&&(!(nodesB x)&&tailB x.kind x.words.length x.nodes.length x.num)):=by
 unfold rightI tailB
 cases h:formI x.kind with
 |none=>simp
 |some f=>
  have ht:=formI_types h
  show rightF f x=_
  have hn:nodesB x=nodB f.types x.nodes:=by
   unfold nodesB
   rw[←ht]
   cases f.types<;>rfl
  rw[hn]
  show _=(!(x.words.any fun w=>!(isWord w))&&(!(nodB f.types x.nodes)&&tailF f x.words.length x.nodes.length x.num))
  unfold rightF tailF
  generalize decide (((x.words.length:Nat):Int)<f.least)=a
  generalize decide (((x.words.length:Nat):Int)>f.most)=b
  generalize (((x.nodes.length:Nat):Int) != f.trees)=c
  generalize (x.words.any fun w=>!(isWord w))=d
  generalize cntB f.count x.num=e
  generalize nodB f.types x.nodes=g
  revert a b c d e g
  decide
end Go.Proofs.YtghnkppcncbddaaGreatDoor

namespace Go.Proofs.YtghnkppcncbddaaGreatDoor
open Go Go.Shelf
set_option linter.unusedSimpArgs false
set_option linter.unusedVariables false
def joinW (xs:List ByteArray) (sep:ByteArray):ByteArray:=⟨(Lib.join (xs.map (·.data.toList)) sep.data.toList).toArray⟩
theorem Join_calls {xs:List ByteArray} {sep:ByteArray} (hl:xs.length≤1000000) (hlen:(Lib.join (xs.map (·.data.toList)) sep.data.toList).length≤140737488355328):
  PureIs Tryz.prog 95 [wsAV xs,nS sep] (nS (joinW xs sep)):=by
 refine⟨⟨_,Tryz.func95,by kernel_rfl,by kernel_rfl⟩,fun w F vals hF hg hv=>?_⟩
 match vals,hv with
 | [v0,v1],⟨r0,r1,_⟩=>
  cases r1
  have r0':Rep w F [] [] (.sl (xs.map nS)) v0:=r0
  clear r0
  generalize hxs:xs.map nS=ys at r0'
  cases r0' with
  |sl0 a=>
   have:xs=[]:=List.map_eq_nil_iff.1 hxs
   subst this
   refine callsIn_wide.2 ((Any.strings_Join_none lay156 layX a 0 sep w).mono ?_)
   rintro e w' ⟨rfl,rfl⟩
   exact⟨_,_,rfl,rfl,Same.refl _,.prim _⟩
  |sl size els b o c f hc hm hlz hcell hr=>
   subst hxs
   rw[List.length_map] at hc
   by_cases h0:xs=[]
   ·subst h0
    refine callsIn_wide.2 ((Any.strings_Join_none lay156 layX (some ⟨b,o,none⟩) c sep w).mono ?_)
    rintro e w' ⟨rfl,rfl⟩
    exact⟨_,_,rfl,rfl,Same.refl _,.prim _⟩
   ·have hp:0<xs.length:=List.length_pos_iff.2 h0
    have get:∀(j:Nat) (x:ByteArray),xs[j]?=some x→(xs.map nS)[j]?=some (nS x):=fun j x hx=>by rw[List.getElem?_map,hx];rfl
    have hsz:size=1:=(hlz 0 _ (get 0 _ (List.getElem?_eq_getElem hp))).symm
    subst hsz
    have cells:∀(j:Nat) x,xs[j]?=some x→w.cell? ⟨b,o+j,none⟩=some (.string x):=fun j x hx=>by
     have h1:=(hcell j _ 0 _ (get j x hx) rfl).1
     have h2:=(hr j _ 0 _ (get j x hx) rfl).prim_inv
     rw[h2] at h1
     simpa using h1
    have hb:b<w.heap.size:=hF _ _ (hcell 0 _ 0 _ (get 0 _ (List.getElem?_eq_getElem hp)) rfl).2.1
    rw[List.length_map]
    refine callsIn_wide.2 ((Any.strings_Join lay156 layX b o c xs sep w cells hb (by omega) hc hlen).mono ?_)
    rintro e w' ⟨rfl,h⟩
    exact⟨_,_,rfl,rfl,⟨h.os,h.tape,h.output,h.size,h.block⟩,.prim _⟩
end Go.Proofs.YtghnkppcncbddaaGreatDoor

namespace Go.Proofs.YtghnkppcncbddaaGreatDoor
open Go
set_option linter.unusedSimpArgs false
set_option linter.unusedVariables false
theorem dec_small {u:Nat} (h:u<10):Lib.decDigits u=[UInt8.ofNat (48+u)]:=by rw[Lib.decDigits,dif_pos h]
theorem dec_step {u:Nat} (h:¬u<10):Lib.decDigits u=Lib.decDigits (u / 10)++[UInt8.ofNat (48+u % 10)]:=by rw[Lib.decDigits,dif_neg h]
def decW (u:Nat):ByteArray:=⟨(Lib.decDigits u).toArray⟩
theorem numW_nat (u:Nat):numW (u:Int)=decW u:=by rw[numW,Lib.itoa_nonneg];rfl
end Go.Proofs.YtghnkppcncbddaaGreatDoor

namespace Go.Proofs.YtghnkppcncbddaaGreatDoor
open Go
set_option linter.unusedSimpArgs false
set_option linter.unusedVariables false
def beginW (k:Int):ByteArray:=((formI k).getD noF).word
theorem beginW_size (k:Int):(beginW k).size≤11:=by
 rcases formI_cases k with rfl|rfl|rfl|rfl|rfl|rfl|rfl|rfl|rfl|rfl|rfl|rfl|⟨h0,_⟩
 case inr.inr.inr.inr.inr.inr.inr.inr.inr.inr.inr.inr=>rw[beginW,h0];decide
 all_goals decide
theorem beginW_ne {k:Int} (h:(formI k).isSome=true):(beginW k).size≠0:=by
 rcases formI_cases k with rfl|rfl|rfl|rfl|rfl|rfl|rfl|rfl|rfl|rfl|rfl|rfl|⟨h0,_⟩
 case inr.inr.inr.inr.inr.inr.inr.inr.inr.inr.inr.inr=>rw[h0] at h;cases h
 all_goals decide
def cntK (k:Int):Bool:=decide (k≥8)&&decide (k≤11)
theorem formI_count {k:Int} {f:Fm} (h:formI k=some f):f.count=cntK k:=by
 rcases formI_cases k with rfl|rfl|rfl|rfl|rfl|rfl|rfl|rfl|rfl|rfl|rfl|rfl|⟨h0,_⟩
 iterate 12 (first|(cases h;rfl)|skip)
 all_goals first|(cases h;rfl)|(rw[h0] at h;cases h)
def wStep (k:Int) (s:ByteArray) (i:Nat) (w:ByteArray):ByteArray:=
 if 0<i∧k=6 then((s++(⟨#[32,62]⟩:ByteArray))++(⟨#[32]⟩:ByteArray))++w else(s++(⟨#[32]⟩:ByteArray))++w
def wordsS (k:Int):ByteArray→Nat→List ByteArray→ByteArray
 |s,_,[]=>s
 |s,i,w::l=>wordsS k (wStep k s i w) (i+1) l
def numS (k num:Int) (s:ByteArray):ByteArray:=if cntK k=true then(s++(⟨#[32]⟩:ByteArray))++numW num else s
def nSep (k:Int) (i:Nat):ByteArray:=if i=0 then⟨#[58,32]⟩ else if k=5 then⟨#[32,62,32]⟩ else⟨#[32,61,32]⟩
def nTxt (k:Int) (t:Nd):ByteArray:=if typesB k=true then txtT t else txtM t
def nodesS (k:Int):ByteArray→Nat→List Nd→ByteArray
 |s,_,[]=>s
 |s,i,t::l=>nodesS k ((s++nSep k i)++nTxt k t) (i+1) l
def itTxt (x:It):ByteArray:=nodesS x.kind (numS x.kind x.num (wordsS x.kind (beginW x.kind) 0 x.words)) 0 x.nodes++(⟨#[59,10]⟩:ByteArray)
def itW (x:It):Nat:=100+33*x.words.length+60*Nd.sizes x.nodes
structure ROk (x:It):Prop where
 words:∀w∈x.words,isWord w=true
 nodes:∀t∈x.nodes,(if typesB x.kind=true then rightT t else rightM t)=true
 form:(formI x.kind).isSome=true
 num:cntK x.kind=true→0≤x.num∧x.num≤999999999
theorem rightI_inv {x:It} (h:rightI x=true):ROk x:=by
 rw[rightI_eq] at h
 simp only[Bool.and_eq_true,Bool.not_eq_true',List.any_eq_false,Bool.not_eq_true,Bool.not_eq_false'] at h
 obtain⟨h1,h2,h3⟩:=h
 have h4:∃f,formI x.kind=some f:=by
  cases hf:formI x.kind with
  |some f=>exact⟨f,rfl⟩
  |none=>unfold tailB at h3;rw[hf] at h3;cases h3
 obtain⟨f,hf⟩:=h4
 refine⟨fun w hw=>by simpa using h1 w hw,fun t ht=>?_,by rw[hf];rfl,fun hc=>?_⟩
 ·unfold nodesB at h2
  have:=List.any_eq_false.1 h2 t ht
  simpa using this
 ·unfold tailB tailF at h3
  rw[hf] at h3
  simp only[Bool.and_eq_true] at h3
  have h5:=h3.2.2.2
  rw[formI_count hf,hc] at h5
  simp only[cntB,Bool.and_eq_true,Bool.not_eq_true',decide_eq_false_iff_not] at h5
  omega
theorem wStep_size {k:Int} {s:ByteArray} {i:Nat} {w:ByteArray} (h:isWord w=true):(wStep k s i w).size≤s.size+33:=by
 have:=isWord_size h
 have e2:(⟨#[32,62]⟩:ByteArray).size=2:=rfl
 unfold wStep
 split<;>simp only[bsz,sz1,e2]<;>omega
theorem wordsS_size {k:Int}:∀(l:List ByteArray) (s:ByteArray) (i:Nat),(∀w∈l,isWord w=true)→(wordsS k s i l).size≤s.size+33*l.length
 | [],s,i,_=>by rw[wordsS];simp
 |w::l,s,i,h=>by
  have h1:=wStep_size (k:=k) (s:=s) (i:=i) (h w List.mem_cons_self)
  have h2:=wordsS_size (k:=k) l (wStep k s i w) (i+1) fun v hv=>h v (List.mem_cons_of_mem _ hv)
  rw[wordsS,List.length_cons];omega
theorem nSep_size (k:Int) (i:Nat):(nSep k i).size≤3:=by
 unfold nSep
 split
 ·decide
 ·split<;>decide
theorem nTxt_size {k:Int} {t:Nd} (h:(if typesB k=true then rightT t else rightM t)=true):(nTxt k t).size≤50*t.size:=by
 unfold nTxt
 split
 ·rename_i hk;rw[if_pos hk] at h;exact txtT_size _ t (Nat.le_refl _) h
 ·rename_i hk;rw[if_neg hk] at h;exact txtM_size _ t (Nat.le_refl _) h
theorem numS_size {k num:Int} {s:ByteArray} (h:cntK k=true→0≤num∧num≤999999999):(numS k num s).size≤s.size+31:=by
 unfold numS
 split
 ·rename_i hk
  have:=numW_size (k:=num) ⟨by have:=h hk;omega,by have:=h hk;omega⟩
  simp only[bsz,sz1];omega
 ·omega
theorem Nd.sizes_drop {l:List Nd} {i:Nat} (h:i<l.length):Nd.sizes (l.drop i)=l[i].size+Nd.sizes (l.drop (i+1)):=by rw[List.drop_eq_getElem_cons h,Nd.sizes]
end Go.Proofs.YtghnkppcncbddaaGreatDoor

namespace Go.Proofs.YtghnkppcncbddaaGreatDoor
open Go
set_option linter.unusedSimpArgs false
set_option linter.unusedVariables false
abbrev Tx:=Int×List Int
inductive Lx:List Int→List Tx→Prop where
 |nil {l:List Int}:skipB false l=l.length→Lx l []
 |cons {l:List Int} {T:List Tx}:skipB false l≠l.length→(tokN (l.drop (skipB false l))).2≠0→
   ¬(((tokN (l.drop (skipB false l))).1=1∧30<(tokN (l.drop (skipB false l))).2)∨((tokN (l.drop (skipB false l))).1=2∧9<(tokN (l.drop (skipB false l))).2))→
   Lx (l.drop (skipB false l+(tokN (l.drop (skipB false l))).2)) T→Lx l ((((tokN (l.drop (skipB false l))).1:Nat),(l.drop (skipB false l)).take (tokN (l.drop (skipB false l))).2)::T)
def txOf (t:Tk):Tx:=(t.1,bytesI t.2.1)
theorem lexF_lx {s:ByteArray}:∀{l:List Int} {T:List Tx},Lx l T→∀(f i:Nat) (acc:List Tk),l=(bytesI s).drop i→i≤s.size→s.size+1≤f+i→∃ts:List Tk,lexF s f i acc=(acc++ts,0,0,⟨#[]⟩)∧ts.map txOf=T:=by
 intro l T h
 induction h with
 |nil h1=>
  intro f i acc hl hi hf
  have hlen:=bytesI_len s
  obtain⟨f,rfl⟩:∃g,f=g+1:=⟨f-1,by omega⟩
  subst hl
  rw[List.length_drop,hlen] at h1
  exact⟨[],by rw[lexF,if_pos (by rw[lexA,h1];omega),List.append_nil],rfl⟩
 |cons h1 h2 h3 _ ih=>
  intro f i acc hl hi hf
  have hlen:=bytesI_len s
  obtain⟨f,rfl⟩:∃g,f=g+1:=⟨f-1,by omega⟩
  subst hl
  have hle:=skipB_le false ((bytesI s).drop i)
  rw[List.length_drop,hlen] at h1 hle
  rw[List.drop_drop] at h2 h3 ih ⊢
  rw[List.drop_drop] at ih
  have htl:=tokN_le ((bytesI s).drop (i+skipB false ((bytesI s).drop i)))
  rw[List.length_drop,hlen] at htl
  have e1:lexA s i=i+skipB false ((bytesI s).drop i):=rfl
  have e2:lexT s (lexA s i)=tokN ((bytesI s).drop (i+skipB false ((bytesI s).drop i))):=rfl
  rw[lexF,if_neg (by rw[e1];omega),if_neg (by rw[e2];exact h2),if_neg (by rw[e2];exact h3),e2,e1]
  obtain⟨ts,g1,g2⟩:=ih f (i+skipB false ((bytesI s).drop i)+(tokN ((bytesI s).drop (i+skipB false ((bytesI s).drop i)))).2) (acc++[((((tokN ((bytesI s).drop (i+skipB false ((bytesI s).drop i)))).1:Nat):Int),s.extract (i+skipB false ((bytesI s).drop i)) (i+skipB false ((bytesI s).drop i)+(tokN ((bytesI s).drop (i+skipB false ((bytesI s).drop i)))).2),((i+skipB false ((bytesI s).drop i):Nat):Int))]) (by rw[Nat.add_assoc]) (by omega) (by omega)
  refine⟨_::ts,by rw[g1,List.append_assoc];rfl,?_⟩
  rw[List.map_cons,g2,txOf]
  dsimp only
  rw[bytesI_extract,Nat.add_sub_cancel_left]
theorem splitP_lx {s:ByteArray} {T:List Tx} (h:Lx (bytesI s) T) (hs:s.size≤20000):∃L:List Tk,splitP s=(L,noFa)∧L.map txOf=T:=by
 obtain⟨ts,g1,g2⟩:=lexF_lx h (s.size+1) 0 [] rfl (Nat.zero_le _) (by omega)
 exact⟨ts,by rw[splitP,if_neg (by omega),g1];rfl,g2⟩
variable {r:List Int} {T:List Tx}
theorem Lx.zero {l:List Int} {n:Nat} {k:Nat} (hs:skipB false l=0) (hk:tokN l=(k,n)) (hn:n≠0) (hb:¬((k=1∧30<n)∨(k=2∧9<n))) (h:Lx (l.drop n) T):Lx l (((k:Nat),l.take n)::T):=by
 have hl:l.length≠0:=fun e=>by
  have:=tokN_le l
  rw[hk] at this;dsimp only at this;omega
 have:=Lx.cons (l:=l) (T:=T) (by rw[hs];exact fun e=>hl e.symm) (by rw[hs,List.drop_zero,hk];exact hn) (by rw[hs,List.drop_zero,hk];exact hb) (by rw[hs,List.drop_zero,hk,Nat.zero_add];exact h)
 rw[hs,List.drop_zero,hk] at this
 exact this
theorem Lx.blank {c:Int} (hc:c=32∨c=10) (h:Lx r T):Lx (c::r) T:=by
 have e:skipB false (c::r)=skipB false r+1:=by
  rcases hc with rfl|rfl<;>(rw[skipB];simp[isBlank])
 cases h with
 |nil h1=>exact .nil (by rw[e,h1];rfl)
 |cons h1 h2 h3 h4=>
  have:=Lx.cons (l:=c::r) (by rw[e];simpa using h1) (by rw[e,List.drop_succ_cons];exact h2) (by rw[e,List.drop_succ_cons];exact h3) (T:=_) (by
   rw[e,List.drop_succ_cons,show skipB false r+1+(tokN (r.drop (skipB false r))).2=(skipB false r+(tokN (r.drop (skipB false r))).2)+1 by omega,List.drop_succ_cons];exact h4)
  rw[e,List.drop_succ_cons] at this
  exact this
def NI (r:List Int):Prop:=∀c,r.head?=some c→isInner c=false
theorem ni_cons {c:Int} (h:isInner c=false):NI (c::r):=fun d hd=>by obtain rfl:=Option.some.inj hd;exact h
theorem Lx.sign {c:Int} (hc:c∈[40,41,92,46,59,58,61,62]) (h:Lx r T):Lx (c::r) ((3,[c])::T):=by
 have hx:skipB false (c::r)=0∧tokN (c::r)=(3,1):=by
  simp only[List.mem_cons,List.not_mem_nil,or_false] at hc
  rcases hc with rfl|rfl|rfl|rfl|rfl|rfl|rfl|rfl<;>exact⟨by rw[skipB];rfl,by rw[tokN,if_neg (by decide),if_neg (by decide),signN,if_neg (by simp),if_pos (by decide)]⟩
 exact Lx.zero hx.1 hx.2 (by decide) (by decide) h
theorem Lx.arrow (h:Lx r T):Lx (45::62::r) ((3,[45,62])::T):=
 Lx.zero (k:=3) (n:=2) (by rw[skipB];rfl) (by rw[tokN,if_neg (by decide),if_neg (by decide),signN,if_pos ⟨rfl,rfl⟩]) (by decide) (by decide) h
theorem letter_noblank {c:Int} (h:isInner c=true):isBlank c=false:=by
 simp only[isInner,isLetter,isDigit,Bool.or_eq_true,decide_eq_true_eq,beq_iff_eq] at h
 unfold isBlank
 simp;omega
theorem takeWhile_app {p:Int→Bool} {w:List Int} (hw:w.all p=true) (hr:∀c,r.head?=some c→p c=false):(w++r).takeWhile p=w:=by
 induction w with
 |nil=>
  cases r with
  |nil=>rfl
  |cons c r=>rw[List.nil_append,List.takeWhile_cons,hr c rfl];rfl
 |cons d w ih=>
  rw[List.all_cons,Bool.and_eq_true] at hw
  rw[List.cons_append,List.takeWhile_cons,hw.1,ih hw.2];rfl
theorem Lx.word {w:ByteArray} (hw:isWord w=true) (hr:NI r) (h:Lx r T):Lx (bytesI w++r) ((1,bytesI w)::T):=by
 cases hb:bytesI w with
 |nil=>simp[isWord,hb] at hw
 |cons c l=>
  obtain⟨h1,h2,h3⟩:=(isWord_cons hb).1 hw
  have hall:(c::l).all isInner=true:=by rw[List.all_cons,letter_inner h2,h3];rfl
  have hrn:runN ((c::l)++r)=(c::l).length:=by unfold runN;rw[takeWhile_app hall hr]
  have e:tokN ((c::l)++r)=(1,(c::l).length):=by
   rw[←hrn,List.cons_append,tokN,if_pos h2]
  have:=Lx.zero (l:=(c::l)++r) (T:=T) (by rw[List.cons_append,skipB,letter_noblank (letter_inner h2)];rfl) e (by simp) (by rw[List.length_cons];omega) (by rw[List.drop_left];exact h)
  rw[List.take_left] at this
  exact this
theorem Lx.num {d:List Int} (hd:d.all isDigit=true) (h0:d≠[]) (h9:d.length≤9) (hr:NI r) (h:Lx r T):Lx (d++r) ((2,d)::T):=by
 cases d with
 |nil=>exact(h0 rfl).elim
 |cons c l=>
  have hc:isDigit c=true:=by rw[List.all_cons,Bool.and_eq_true] at hd;exact hd.1
  have hlet:isLetter c=false:=by
   simp only[isDigit,decide_eq_true_eq] at hc
   simp[isLetter];omega
  have hrn:runD ((c::l)++r)=(c::l).length:=by
   unfold runD
   rw[takeWhile_app hd fun c hc=>?_]
   have:=hr c hc
   simp only[isInner,Bool.or_eq_false_iff] at this
   exact this.2.1
  have e:tokN ((c::l)++r)=(2,(c::l).length):=by
   rw[←hrn,List.cons_append,tokN,if_neg (by rw[hlet];decide),if_pos hc]
  have:=Lx.zero (l:=(c::l)++r) (T:=T) (by rw[List.cons_append,skipB,letter_noblank (by simp[isInner,hc])];rfl) e (by simp) (by omega) (by rw[List.drop_left];exact h)
  rw[List.take_left] at this
  exact this
theorem bytesI_app (a b:ByteArray):bytesI (a++b)=bytesI a++bytesI b:=by simp[bytesI]
def inTok (b:Bool) (l:List Tx):List Tx:=match b with
 |true=>(3,[40])::(l++[(3,[41])])
 |false=>l
def tokT:Nd→List Tx
 | .mk _ w _ []=>[(1,bytesI w)]
 | .mk _ _ _ [x,y]=>inTok (x.kind==2) (tokT x)++(3,[45,62])::tokT y
 | .mk _ _ _ _=>[]
def tokM:Nd→List Tx
 | .mk _ w _ []=>[(1,bytesI w)]
 | .mk k w _ [x,y]=>if(k==3)=true then(3,[92])::(1,bytesI w)::(3,[58])::(tokT x++(3,[46])::tokM y) else inTok (x.kind==3) (tokM x)++inTok (y.kind != 1) (tokM y)
 | .mk _ _ _ _=>[]
theorem tokT_name {w:ByteArray} {k a:Int}:tokT (.mk k w a [])=[(1,bytesI w)]:=by rw[tokT]
theorem tokT_two {w:ByteArray} {k a:Int} {x y:Nd}:tokT (.mk k w a [x,y])=inTok (x.kind==2) (tokT x)++(3,[45,62])::tokT y:=by rw[tokT]
theorem tokM_name {w:ByteArray} {k a:Int}:tokM (.mk k w a [])=[(1,bytesI w)]:=by rw[tokM]
theorem tokM_two {w:ByteArray} {k a:Int} {x y:Nd}:tokM (.mk k w a [x,y])=if(k==3)=true then(3,[92])::(1,bytesI w)::(3,[58])::(tokT x++(3,[46])::tokM y) else inTok (x.kind==3) (tokM x)++inTok (y.kind != 1) (tokM y):=by rw[tokM]
theorem inT_lx {b:Bool} {u:ByteArray} {U:List Tx} (hu:∀r T,NI r→Lx r T→Lx (bytesI u++r) (U++T)) (hr:NI r) (h:Lx r T):Lx (bytesI (inT b u)++r) (inTok b U++T):=by
 cases b
 ·exact hu r T hr h
 ·have e:bytesI (inT true u)++r=40::(bytesI u++41::r):=by
   show bytesI (((⟨#[40]⟩:ByteArray)++u)++(⟨#[41]⟩:ByteArray))++r=_
   rw[bytesI_app,bytesI_app,List.append_assoc,List.append_assoc];rfl
  have e2:inTok true U++T=(3,[40])::(U++(3,[41])::T):=by simp[inTok]
  rw[e,e2]
  exact Lx.sign (by decide) (hu _ _ (ni_cons (by decide)) (Lx.sign (by decide) h))
theorem txtT_lx:∀(n:Nat) (t:Nd),t.size≤n→rightT t=true→∀r T,NI r→Lx r T→Lx (bytesI (txtT t)++r) (tokT t++T):=by
 intro n
 induction n with
 |zero=>intro t h;have:=t.size_pos;omega
 |succ n ih=>
  intro t hn ht r T hr h
  rcases rightT_inv ht with⟨w,a,rfl,h1⟩|⟨w,a,x,y,rfl,h1,h2,h3⟩
  ·rw[txtT_name,tokT_name];exact Lx.word h1 hr h
  ·have e:=size_two (k:=2) (a:=a) (w:=w) (x:=x) (y:=y)
   have p1:=x.size_pos
   have p2:=y.size_pos
   have e1:bytesI (txtT (.mk 2 w a [x,y]))++r=bytesI (inT (x.kind==2) (txtT x))++(32::45::62::32::(bytesI (txtT y)++r)):=by
    rw[txtT_two,bytesI_app,bytesI_app,List.append_assoc,List.append_assoc];rfl
   have e2:tokT (.mk 2 w a [x,y])++T=inTok (x.kind==2) (tokT x)++((3,[45,62])::(tokT y++T)):=by rw[tokT_two,List.append_assoc];rfl
   rw[e1,e2]
   exact inT_lx (ih x (by omega) h2) (ni_cons (by decide)) (Lx.blank (.inl rfl) (Lx.arrow (Lx.blank (.inl rfl) (ih y (by omega) h3 r T hr h))))
theorem txtM_lx:∀(n:Nat) (t:Nd),t.size≤n→rightM t=true→∀r T,NI r→Lx r T→Lx (bytesI (txtM t)++r) (tokM t++T):=by
 intro n
 induction n with
 |zero=>intro t h;have:=t.size_pos;omega
 |succ n ih=>
  intro t hn ht r T hr h
  rcases rightM_inv ht with⟨w,a,rfl,h1⟩|⟨w,a,x,y,rfl,h1,h2,h3⟩|⟨w,a,x,y,rfl,h1,h2,h3⟩
  ·rw[txtM_name,tokM_name];exact Lx.word h1 hr h
  ·have e:=size_two (k:=3) (a:=a) (w:=w) (x:=x) (y:=y)
   have p1:=x.size_pos
   have p2:=y.size_pos
   have e1:bytesI (txtM (.mk 3 w a [x,y]))++r=92::(bytesI w++58::(bytesI (txtT x)++46::32::(bytesI (txtM y)++r))):=by
    rw[txtM_two,if_pos (by decide)]
    simp only[bytesI_app,List.append_assoc];rfl
   have e2:tokM (.mk 3 w a [x,y])++T=(3,[92])::(1,bytesI w)::(3,[58])::(tokT x++(3,[46])::(tokM y++T)):=by rw[tokM_two,if_pos (by decide)];simp
   rw[e1,e2]
   exact Lx.sign (by decide) (Lx.word h1 (ni_cons (by decide)) (Lx.sign (by decide) (txtT_lx _ x (Nat.le_refl _) h2 _ _ (ni_cons (by decide)) (Lx.sign (by decide) (Lx.blank (.inl rfl) (ih y (by omega) h3 r T hr h))))))
  ·have e:=size_two (k:=4) (a:=a) (w:=w) (x:=x) (y:=y)
   have p1:=x.size_pos
   have p2:=y.size_pos
   have e1:bytesI (txtM (.mk 4 w a [x,y]))++r=bytesI (inT (x.kind==3) (txtM x))++(32::(bytesI (inT (y.kind != 1) (txtM y))++r)):=by
    rw[txtM_two,if_neg (by decide),bytesI_app,bytesI_app,List.append_assoc,List.append_assoc];rfl
   have e2:tokM (.mk 4 w a [x,y])++T=inTok (x.kind==3) (tokM x)++(inTok (y.kind != 1) (tokM y)++T):=by rw[tokM_two,if_neg (by decide),List.append_assoc]
   rw[e1,e2]
   exact inT_lx (ih x (by omega) h2) (ni_cons (by decide)) (Lx.blank (.inl rfl) (inT_lx (ih y (by omega) h3) hr h))
end Go.Proofs.YtghnkppcncbddaaGreatDoor

namespace Go.Proofs.YtghnkppcncbddaaGreatDoor
open Go Go.Shelf
set_option linter.unusedSimpArgs false
set_option linter.unusedVariables false
def sepK (k:Int):ByteArray:=if(k==6)=true then⟨#[32,62,32]⟩ else⟨#[32]⟩
theorem baList (a b:ByteArray):(a++b).data.toList=a.data.toList++b.data.toList:=by rw[ByteArray.data_append,Array.toList_append]
theorem baEq {a b:ByteArray} (h:a.data.toList=b.data.toList):a=b:=ByteArray.ext (Array.toList_inj.1 h)
theorem wordsS_tail (k:Int):∀(l:List ByteArray) (s:ByteArray) (i:Nat),0<i→(wordsS k s i l).data.toList=s.data.toList++Lib.joinTail (sepK k).data.toList (l.map (·.data.toList))
 | [],s,i,_=>by simp[wordsS,Lib.joinTail]
 |w::l,s,i,h=>by
  rw[wordsS,wordsS_tail k l _ (i+1) (by omega)]
  unfold wStep sepK
  by_cases hk:k=6
  ·rw[if_pos ⟨h,hk⟩,if_pos (by simpa using hk)]
   simp[baList,Lib.joinTail]
  ·rw[if_neg (fun c=>hk c.2),if_neg (by simpa using hk)]
   simp[baList,Lib.joinTail]
theorem wordsS_join {k:Int} {s:ByteArray} {l:List ByteArray} (h:l≠[]):wordsS k s 0 l=s++((⟨#[32]⟩:ByteArray)++joinW l (sepK k)):=by
 match l,h with
 |w::l,_=>
  apply baEq
  rw[wordsS,wordsS_tail k l _ 1 (by omega)]
  have:wStep k s 0 w=(s++(⟨#[32]⟩:ByteArray))++w:=if_neg fun c=>absurd c.1 (by omega)
  rw[this]
  simp[baList,joinW,Lib.join_cons]
theorem joinW_size {l:List ByteArray} {sep:ByteArray}:(joinW l sep).size=(Lib.join (l.map (·.data.toList)) sep.data.toList).length:=List.size_toArray
theorem join_bd {l:List ByteArray} {k:Int} (h:∀w∈l,isWord w=true):(joinW l (sepK k)).size≤33*l.length+1:=by
 have hw:=wordsS_size (k:=k) l ⟨#[]⟩ 0 h
 by_cases hl:l=[]
 ·subst hl;simp[joinW_size,Lib.join_nil]
 ·rw[wordsS_join hl,bsz,bsz,sz1] at hw
  have e0:(⟨#[]⟩:ByteArray).size=0:=rfl
  omega
theorem itemT_loop {x:It} {us:List AV} {s:ByteArray} (hty:typesB x.kind=true) (hr:∀t∈x.nodes,rightT t=true) (hs:us.length+s.size+60*Nd.sizes x.nodes≤30000000) {fw:ByteArray} {g1 g2 g3:Int} {b c:Bool}:
  vc_itemT_L14 (((),(),(((),()),()),x.nodes.map Nd.enc,(((x.nodes.map Nd.enc).length:Nat):Int),0,()),((),us++strAV s,((),()),(x.kind,x.words.map nS,x.nodes.map Nd.enc,x.num,x.at_,()),(fw,g1,g2,g3,b,c,()),()))
   (fun r hp'=>r=.tup []∧hp'=bl (us++strAV (nodesS x.kind s 0 x.nodes++(⟨#[59,10]⟩:ByteArray)))):=by
 have e2:(⟨#[59,10]⟩:ByteArray).size=2:=rfl
 refine LoopP.intro (fun p:Nat×ByteArray=>(((),(),(((),()),()),x.nodes.map Nd.enc,(((x.nodes.map Nd.enc).length:Nat):Int),(p.1:Int),()),((),us++strAV p.2,((),()),(x.kind,x.words.map nS,x.nodes.map Nd.enc,x.num,x.at_,()),(fw,g1,g2,g3,b,c,()),())))
  (fun p=>p.1≤x.nodes.length∧nodesS x.kind s 0 x.nodes=nodesS x.kind p.2 p.1 (x.nodes.drop p.1)∧us.length+p.2.size+60*Nd.sizes (x.nodes.drop p.1)≤30000000) (fun p=>x.nodes.length-p.1) (0,s) rfl ⟨Nat.zero_le _,by rw[List.drop_zero],by simpa using hs⟩ ?_
 intro ⟨i,u⟩ ⟨hi,hd,hu⟩ again hag
 dsimp only at hi hd hu ⊢
 rw[List.length_map]
 refine ITE.intro (fun h1=>?_) fun h1=>?_
 ·have hlt:i<x.nodes.length:=by simpa using h1
  have hrt:=hr _ (List.getElem_mem hlt)
  have hz:=txtT_size _ _ (Nat.le_refl _) hrt
  have hq:=x.nodes[i].size_pos
  have hl:=Nd.sizes_len x.nodes
  have hsp:=nSep_size x.kind i
  rw[Nd.sizes_drop hlt] at hu
  rw[List.drop_eq_getElem_cons hlt,nodesS,nTxt,if_pos hty] at hd
  have ht:=typ_calls _ x.nodes[i] (Nat.le_refl _) hrt
  unfold Tells at ht
  rw[Nd.enc_eq] at ht
  have fin:again (((),(),(((),()),()),x.nodes.map Nd.enc,((x.nodes.length:Nat):Int),IntKind.wrap .i64 ((i:Int)+1),()),((),((us++strAV u)++strAV (nSep x.kind i))++strAV (txtT x.nodes[i]),((),()),(x.kind,x.words.map nS,x.nodes.map Nd.enc,x.num,x.at_,()),(fw,g1,g2,g3,b,c,()),())):=by
   have:=hag (i+1,(u++nSep x.kind i)++txtT x.nodes[i]) ⟨by dsimp only;omega,hd,by simp only[bsz];omega⟩ (by dsimp only;omega)
   rw[wrap_n (by omega)]
   simp only[strAV_app,←List.append_assoc,List.length_map] at this ⊢
   exact this
  have sp1:(i:Int)=0→nSep x.kind i=⟨#[58,32]⟩:=fun h=>if_pos (by omega)
  have sp2:¬(i:Int)=0→x.kind=5→nSep x.kind i=⟨#[32,62,32]⟩:=fun h h'=>(if_neg (by omega)).trans (if_pos h')
  have sp3:¬(i:Int)=0→¬x.kind=5→nSep x.kind i=⟨#[32,61,32]⟩:=fun h h'=>(if_neg (by omega)).trans (if_neg h')
  refine⟨by omega,by omega,_,_,_,_,Nd.enc_getD hlt,ITE.intro (fun h2=>?_) fun h2=>ITE.intro (fun h3=>?_) fun h3=>?_⟩
  ·rw[sp1 (by simpa using h2)] at fin hsp
   exact⟨_,wr_calls (by decide) (by simp only[lenS];omega),fun r q ⟨e1,e2⟩=>⟨_,_,⟨e1,e2⟩,_,ht _ (by simp only[lenS];omega),fun r q ⟨e1,e2⟩=>⟨_,⟨e1,e2⟩,rfl,rfl,fin⟩⟩⟩
  ·rw[sp2 (by simpa using h2) (by simpa using h3)] at fin hsp
   exact⟨_,wr_calls (by decide) (by simp only[lenS];omega),fun r q ⟨e1,e2⟩=>⟨_,_,⟨e1,e2⟩,_,ht _ (by simp only[lenS];omega),fun r q ⟨e1,e2⟩=>⟨_,⟨e1,e2⟩,rfl,rfl,fin⟩⟩⟩
  ·rw[sp3 (by simpa using h2) (by simpa using h3)] at fin hsp
   exact⟨_,wr_calls (by decide) (by simp only[lenS];omega),fun r q ⟨e1,e2⟩=>⟨_,_,⟨e1,e2⟩,_,ht _ (by simp only[lenS];omega),fun r q ⟨e1,e2⟩=>⟨_,⟨e1,e2⟩,rfl,rfl,fin⟩⟩⟩
 ·have hge:x.nodes.length≤i:=by simpa using h1
  rw[List.drop_eq_nil_of_le hge,nodesS] at hd
  rw[hd]
  refine⟨_,wr_calls (by decide) (by rw[lenS,e2];omega),fun r q ⟨e1,e2⟩=>⟨_,_,⟨e1,e2⟩,rfl,?_⟩⟩
  simp only[strAV_app,List.append_assoc]
theorem itemT_calls {x:It} {us:List AV} (h:ROk x) (hty:typesB x.kind=true) (hb:us.length+itW x≤30000000):
  HFn Tryz.prog 56 [.agg [.ptr 0 0],itAV x] (bl us) (fun r hp'=>r=.tup []∧hp'=bl (us++strAV (itTxt x))):=by
 unfold itW at hb
 obtain⟨f,hf⟩:=Option.isSome_iff_exists.1 h.form
 have hf1:f.types=true:=(formI_types hf).trans hty
 have hf2:=formI_count hf
 have hfw:f.word=beginW x.kind:=by rw[beginW,hf];rfl
 have hfo:PureIs Tryz.prog 88 [nI x.kind] (.tup [fmAV f,nB true]):=by
  have:=formOf_calls (k:=x.kind)
  rw[hf] at this
  exact this
 have hne:f.word.size≠0:=by rw[hfw];exact beginW_ne h.form
 have hws:=wordsS_size (k:=x.kind) x.words (beginW x.kind) 0 h.words
 have hb0:=beginW_size x.kind
 have hw1:f.word.size≤11:=by rw[hfw];exact hb0
 have hrt:∀t∈x.nodes,rightT t=true:=fun t ht=>by
  have:=h.nodes t ht
  rwa [if_pos hty] at this
 have hjo:=Join_calls (xs:=x.words) (sep:=sepK x.kind) (by omega) (by rw[←joinW_size];have:=join_bd (k:=x.kind) h.words;omega)
 have hj2:=join_bd (k:=x.kind) h.words
 refine vc_itemT_ok ⟨_,_,_,_,_,_,_,hfo,_,wr_calls hne (by omega),fun r q ⟨e1,e2⟩=>⟨_,_,⟨e1,e2⟩,?_⟩⟩
 rw[List.length_map,itTxt]
 have key:=fun h0:x.words≠[]=>wordsS_join (k:=x.kind) (s:=beginW x.kind) h0
 have key0:x.words=[]→wordsS x.kind (beginW x.kind) 0 x.words=beginW x.kind:=fun h0=>by rw[h0,wordsS]
 have nonil:decide (((x.words.length:Nat):Int)>0)=true→x.words≠[]:=fun h e=>by rw[e] at h;cases h
 have isnil:decide (((x.words.length:Nat):Int)>0)=false→x.words=[]:=fun h=>List.eq_nil_of_length_eq_zero (by have:=of_decide_eq_false h;omega)
 have s6:(x.kind==6)=true→sepK x.kind=⟨#[32,62,32]⟩:=fun h=>if_pos h
 have s1:(x.kind==6)=false→sepK x.kind=⟨#[32]⟩:=fun h=>if_neg (by rw[h];decide)
 generalize hsp:sepK x.kind=sp at hjo hj2 key s6 s1
 generalize hww:wordsS x.kind (beginW x.kind) 0 x.words=ww at hws key key0
 refine ITE.intro (fun h6=>ITE.intro (fun hw=>?_) fun hw=>?_) fun h6=>ITE.intro (fun hw=>?_) fun hw=>?_
 case refine_1=>
  obtain rfl:=s6 h6
  refine⟨_,hjo,by rw[sz1];omega,_,wr_calls (by rw[bsz,sz1];omega) (by simp only[lenS,bsz,sz1];omega),fun r q ⟨e1,e2⟩=>⟨_,_,⟨e1,e2⟩,?_⟩⟩
  have e:=congrArg (fun s=>us++strAV s) (key (nonil hw))
  rw[strAV_app (beginW x.kind),←List.append_assoc] at e
  rw[hfw,←e]
  refine ITE.intro (fun hc=>?_) fun hc=>?_
  ·have hc':cntK x.kind=true:=by rw[←hf2];exact hc
   have hn:=h.num hc'
   have hz2:=numW_size (k:=x.num) ⟨by omega,by omega⟩
   refine⟨_,itoa_calls ⟨by omega,by omega⟩,by rw[sz1];omega,_,wr_calls (by rw[bsz,sz1];omega) (by simp only[lenS,bsz,sz1];omega),fun r q ⟨e1,e2⟩=>⟨_,_,⟨e1,e2⟩,ITE.pos hf1 ⟨rfl,rfl,?_⟩⟩⟩
   rw[numS,if_pos hc']
   have e3:(us++strAV ww)++strAV ((⟨#[32]⟩:ByteArray)++numW x.num)=us++strAV ((ww++(⟨#[32]⟩:ByteArray))++numW x.num):=by simp only[strAV_app,List.append_assoc]
   rw[e3]
   exact itemT_loop hty hrt (by simp only[bsz,sz1];omega)
  ·have hc':¬cntK x.kind=true:=by rw[←hf2,hc];decide
   rw[numS,if_neg hc']
   exact ITE.pos hf1 ⟨rfl,rfl,itemT_loop hty hrt (by omega)⟩
 case refine_3=>
  obtain rfl:=s1 h6
  refine⟨_,hjo,by rw[sz1];omega,_,wr_calls (by rw[bsz,sz1];omega) (by simp only[lenS,bsz,sz1];omega),fun r q ⟨e1,e2⟩=>⟨_,_,⟨e1,e2⟩,?_⟩⟩
  have e:=congrArg (fun s=>us++strAV s) (key (nonil hw))
  rw[strAV_app (beginW x.kind),←List.append_assoc] at e
  rw[hfw,←e]
  refine ITE.intro (fun hc=>?_) fun hc=>?_
  ·have hc':cntK x.kind=true:=by rw[←hf2];exact hc
   have hn:=h.num hc'
   have hz2:=numW_size (k:=x.num) ⟨by omega,by omega⟩
   refine⟨_,itoa_calls ⟨by omega,by omega⟩,by rw[sz1];omega,_,wr_calls (by rw[bsz,sz1];omega) (by simp only[lenS,bsz,sz1];omega),fun r q ⟨e1,e2⟩=>⟨_,_,⟨e1,e2⟩,ITE.pos hf1 ⟨rfl,rfl,?_⟩⟩⟩
   rw[numS,if_pos hc']
   have e3:(us++strAV ww)++strAV ((⟨#[32]⟩:ByteArray)++numW x.num)=us++strAV ((ww++(⟨#[32]⟩:ByteArray))++numW x.num):=by simp only[strAV_app,List.append_assoc]
   rw[e3]
   exact itemT_loop hty hrt (by simp only[bsz,sz1];omega)
  ·have hc':¬cntK x.kind=true:=by rw[←hf2,hc];decide
   rw[numS,if_neg hc']
   exact ITE.pos hf1 ⟨rfl,rfl,itemT_loop hty hrt (by omega)⟩
 all_goals
  have e:=key0 (isnil hw)
  rw[hfw,←e]
  refine ITE.intro (fun hc=>?_) fun hc=>?_
  ·have hc':cntK x.kind=true:=by rw[←hf2];exact hc
   have hn:=h.num hc'
   have hz2:=numW_size (k:=x.num) ⟨by omega,by omega⟩
   refine⟨_,itoa_calls ⟨by omega,by omega⟩,by rw[sz1];omega,_,wr_calls (by rw[bsz,sz1];omega) (by simp only[lenS,bsz,sz1];omega),fun r q ⟨e1,e2⟩=>⟨_,_,⟨e1,e2⟩,ITE.pos hf1 ⟨rfl,rfl,?_⟩⟩⟩
   rw[numS,if_pos hc']
   have e3:(us++strAV ww)++strAV ((⟨#[32]⟩:ByteArray)++numW x.num)=us++strAV ((ww++(⟨#[32]⟩:ByteArray))++numW x.num):=by simp only[strAV_app,List.append_assoc]
   rw[e3]
   exact itemT_loop hty hrt (by simp only[bsz,sz1];omega)
  ·have hc':¬cntK x.kind=true:=by rw[←hf2,hc];decide
   rw[numS,if_neg hc']
   exact ITE.pos hf1 ⟨rfl,rfl,itemT_loop hty hrt (by omega)⟩
theorem itemM_loop {x:It} {us:List AV} {s:ByteArray} (hty:typesB x.kind=false) (hr:∀t∈x.nodes,rightM t=true) (hs:us.length+s.size+60*Nd.sizes x.nodes≤30000000) {fw:ByteArray} {g1 g2 g3:Int} {b c:Bool}:
  vc_itemM_L14 (((),(),(((),()),()),x.nodes.map Nd.enc,(((x.nodes.map Nd.enc).length:Nat):Int),0,()),((),us++strAV s,((),()),(x.kind,x.words.map nS,x.nodes.map Nd.enc,x.num,x.at_,()),(fw,g1,g2,g3,b,c,()),()))
   (fun r hp'=>r=.tup []∧hp'=bl (us++strAV (nodesS x.kind s 0 x.nodes++(⟨#[59,10]⟩:ByteArray)))):=by
 have e2:(⟨#[59,10]⟩:ByteArray).size=2:=rfl
 refine LoopP.intro (fun p:Nat×ByteArray=>(((),(),(((),()),()),x.nodes.map Nd.enc,(((x.nodes.map Nd.enc).length:Nat):Int),(p.1:Int),()),((),us++strAV p.2,((),()),(x.kind,x.words.map nS,x.nodes.map Nd.enc,x.num,x.at_,()),(fw,g1,g2,g3,b,c,()),())))
  (fun p=>p.1≤x.nodes.length∧nodesS x.kind s 0 x.nodes=nodesS x.kind p.2 p.1 (x.nodes.drop p.1)∧us.length+p.2.size+60*Nd.sizes (x.nodes.drop p.1)≤30000000) (fun p=>x.nodes.length-p.1) (0,s) rfl ⟨Nat.zero_le _,by rw[List.drop_zero],by simpa using hs⟩ ?_
 intro ⟨i,u⟩ ⟨hi,hd,hu⟩ again hag
 dsimp only at hi hd hu ⊢
 rw[List.length_map]
 refine ITE.intro (fun h1=>?_) fun h1=>?_
 ·have hlt:i<x.nodes.length:=by simpa using h1
  have hrt:=hr _ (List.getElem_mem hlt)
  have hz:=txtM_size _ _ (Nat.le_refl _) hrt
  have hq:=x.nodes[i].size_pos
  have hl:=Nd.sizes_len x.nodes
  have hsp:=nSep_size x.kind i
  rw[Nd.sizes_drop hlt] at hu
  rw[List.drop_eq_getElem_cons hlt,nodesS,nTxt,if_neg (by rw[hty];decide)] at hd
  have ht:=term_calls _ x.nodes[i] (Nat.le_refl _) hrt
  unfold Tells at ht
  rw[Nd.enc_eq] at ht
  have fin:again (((),(),(((),()),()),x.nodes.map Nd.enc,((x.nodes.length:Nat):Int),IntKind.wrap .i64 ((i:Int)+1),()),((),((us++strAV u)++strAV (nSep x.kind i))++strAV (txtM x.nodes[i]),((),()),(x.kind,x.words.map nS,x.nodes.map Nd.enc,x.num,x.at_,()),(fw,g1,g2,g3,b,c,()),())):=by
   have:=hag (i+1,(u++nSep x.kind i)++txtM x.nodes[i]) ⟨by dsimp only;omega,hd,by simp only[bsz];omega⟩ (by dsimp only;omega)
   rw[wrap_n (by omega)]
   simp only[strAV_app,←List.append_assoc,List.length_map] at this ⊢
   exact this
  have sp1:(i:Int)=0→nSep x.kind i=⟨#[58,32]⟩:=fun h=>if_pos (by omega)
  have sp2:¬(i:Int)=0→x.kind=5→nSep x.kind i=⟨#[32,62,32]⟩:=fun h h'=>(if_neg (by omega)).trans (if_pos h')
  have sp3:¬(i:Int)=0→¬x.kind=5→nSep x.kind i=⟨#[32,61,32]⟩:=fun h h'=>(if_neg (by omega)).trans (if_neg h')
  refine⟨by omega,by omega,_,_,_,_,Nd.enc_getD hlt,ITE.intro (fun h2=>?_) fun h2=>ITE.intro (fun h3=>?_) fun h3=>?_⟩
  ·rw[sp1 (by simpa using h2)] at fin hsp
   exact⟨_,wr_calls (by decide) (by simp only[lenS];omega),fun r q ⟨e1,e2⟩=>⟨_,_,⟨e1,e2⟩,_,ht _ (by simp only[lenS];omega),fun r q ⟨e1,e2⟩=>⟨_,⟨e1,e2⟩,rfl,rfl,fin⟩⟩⟩
  ·rw[sp2 (by simpa using h2) (by simpa using h3)] at fin hsp
   exact⟨_,wr_calls (by decide) (by simp only[lenS];omega),fun r q ⟨e1,e2⟩=>⟨_,_,⟨e1,e2⟩,_,ht _ (by simp only[lenS];omega),fun r q ⟨e1,e2⟩=>⟨_,⟨e1,e2⟩,rfl,rfl,fin⟩⟩⟩
  ·rw[sp3 (by simpa using h2) (by simpa using h3)] at fin hsp
   exact⟨_,wr_calls (by decide) (by simp only[lenS];omega),fun r q ⟨e1,e2⟩=>⟨_,_,⟨e1,e2⟩,_,ht _ (by simp only[lenS];omega),fun r q ⟨e1,e2⟩=>⟨_,⟨e1,e2⟩,rfl,rfl,fin⟩⟩⟩
 ·have hge:x.nodes.length≤i:=by simpa using h1
  rw[List.drop_eq_nil_of_le hge,nodesS] at hd
  rw[hd]
  refine⟨_,wr_calls (by decide) (by rw[lenS,e2];omega),fun r q ⟨e1,e2⟩=>⟨_,_,⟨e1,e2⟩,rfl,?_⟩⟩
  simp only[strAV_app,List.append_assoc]
theorem itemM_calls {x:It} {us:List AV} (h:ROk x) (hty:typesB x.kind=false) (hb:us.length+itW x≤30000000):
  HFn Tryz.prog 56 [.agg [.ptr 0 0],itAV x] (bl us) (fun r hp'=>r=.tup []∧hp'=bl (us++strAV (itTxt x))):=by
 unfold itW at hb
 obtain⟨f,hf⟩:=Option.isSome_iff_exists.1 h.form
 have hf1:f.types=false:=(formI_types hf).trans hty
 have hf2:=formI_count hf
 have hfw:f.word=beginW x.kind:=by rw[beginW,hf];rfl
 have hfo:PureIs Tryz.prog 88 [nI x.kind] (.tup [fmAV f,nB true]):=by
  have:=formOf_calls (k:=x.kind)
  rw[hf] at this
  exact this
 have hne:f.word.size≠0:=by rw[hfw];exact beginW_ne h.form
 have hws:=wordsS_size (k:=x.kind) x.words (beginW x.kind) 0 h.words
 have hb0:=beginW_size x.kind
 have hw1:f.word.size≤11:=by rw[hfw];exact hb0
 have hrt:∀t∈x.nodes,rightM t=true:=fun t ht=>by
  have:=h.nodes t ht
  rwa [if_neg (by rw[hty];decide)] at this
 have hjo:=Join_calls (xs:=x.words) (sep:=sepK x.kind) (by omega) (by rw[←joinW_size];have:=join_bd (k:=x.kind) h.words;omega)
 have hj2:=join_bd (k:=x.kind) h.words
 refine vc_itemM_ok ⟨_,_,_,_,_,_,_,hfo,_,wr_calls hne (by omega),fun r q ⟨e1,e2⟩=>⟨_,_,⟨e1,e2⟩,?_⟩⟩
 rw[List.length_map,itTxt]
 have key:=fun h0:x.words≠[]=>wordsS_join (k:=x.kind) (s:=beginW x.kind) h0
 have key0:x.words=[]→wordsS x.kind (beginW x.kind) 0 x.words=beginW x.kind:=fun h0=>by rw[h0,wordsS]
 have nonil:decide (((x.words.length:Nat):Int)>0)=true→x.words≠[]:=fun h e=>by rw[e] at h;cases h
 have isnil:decide (((x.words.length:Nat):Int)>0)=false→x.words=[]:=fun h=>List.eq_nil_of_length_eq_zero (by have:=of_decide_eq_false h;omega)
 have s6:(x.kind==6)=true→sepK x.kind=⟨#[32,62,32]⟩:=fun h=>if_pos h
 have s1:(x.kind==6)=false→sepK x.kind=⟨#[32]⟩:=fun h=>if_neg (by rw[h];decide)
 generalize hsp:sepK x.kind=sp at hjo hj2 key s6 s1
 generalize hww:wordsS x.kind (beginW x.kind) 0 x.words=ww at hws key key0
 refine ITE.intro (fun h6=>ITE.intro (fun hw=>?_) fun hw=>?_) fun h6=>ITE.intro (fun hw=>?_) fun hw=>?_
 case refine_1=>
  obtain rfl:=s6 h6
  refine⟨_,hjo,by rw[sz1];omega,_,wr_calls (by rw[bsz,sz1];omega) (by simp only[lenS,bsz,sz1];omega),fun r q ⟨e1,e2⟩=>⟨_,_,⟨e1,e2⟩,?_⟩⟩
  have e:=congrArg (fun s=>us++strAV s) (key (nonil hw))
  rw[strAV_app (beginW x.kind),←List.append_assoc] at e
  rw[hfw,←e]
  refine ITE.intro (fun hc=>?_) fun hc=>?_
  ·have hc':cntK x.kind=true:=by rw[←hf2];exact hc
   have hn:=h.num hc'
   have hz2:=numW_size (k:=x.num) ⟨by omega,by omega⟩
   refine⟨_,itoa_calls ⟨by omega,by omega⟩,by rw[sz1];omega,_,wr_calls (by rw[bsz,sz1];omega) (by simp only[lenS,bsz,sz1];omega),fun r q ⟨e1,e2⟩=>⟨_,_,⟨e1,e2⟩,ITE.neg hf1 ⟨rfl,rfl,?_⟩⟩⟩
   rw[numS,if_pos hc']
   have e3:(us++strAV ww)++strAV ((⟨#[32]⟩:ByteArray)++numW x.num)=us++strAV ((ww++(⟨#[32]⟩:ByteArray))++numW x.num):=by simp only[strAV_app,List.append_assoc]
   rw[e3]
   exact itemM_loop hty hrt (by simp only[bsz,sz1];omega)
  ·have hc':¬cntK x.kind=true:=by rw[←hf2,hc];decide
   rw[numS,if_neg hc']
   exact ITE.neg hf1 ⟨rfl,rfl,itemM_loop hty hrt (by omega)⟩
 case refine_3=>
  obtain rfl:=s1 h6
  refine⟨_,hjo,by rw[sz1];omega,_,wr_calls (by rw[bsz,sz1];omega) (by simp only[lenS,bsz,sz1];omega),fun r q ⟨e1,e2⟩=>⟨_,_,⟨e1,e2⟩,?_⟩⟩
  have e:=congrArg (fun s=>us++strAV s) (key (nonil hw))
  rw[strAV_app (beginW x.kind),←List.append_assoc] at e
  rw[hfw,←e]
  refine ITE.intro (fun hc=>?_) fun hc=>?_
  ·have hc':cntK x.kind=true:=by rw[←hf2];exact hc
   have hn:=h.num hc'
   have hz2:=numW_size (k:=x.num) ⟨by omega,by omega⟩
   refine⟨_,itoa_calls ⟨by omega,by omega⟩,by rw[sz1];omega,_,wr_calls (by rw[bsz,sz1];omega) (by simp only[lenS,bsz,sz1];omega),fun r q ⟨e1,e2⟩=>⟨_,_,⟨e1,e2⟩,ITE.neg hf1 ⟨rfl,rfl,?_⟩⟩⟩
   rw[numS,if_pos hc']
   have e3:(us++strAV ww)++strAV ((⟨#[32]⟩:ByteArray)++numW x.num)=us++strAV ((ww++(⟨#[32]⟩:ByteArray))++numW x.num):=by simp only[strAV_app,List.append_assoc]
   rw[e3]
   exact itemM_loop hty hrt (by simp only[bsz,sz1];omega)
  ·have hc':¬cntK x.kind=true:=by rw[←hf2,hc];decide
   rw[numS,if_neg hc']
   exact ITE.neg hf1 ⟨rfl,rfl,itemM_loop hty hrt (by omega)⟩
 all_goals
  have e:=key0 (isnil hw)
  rw[hfw,←e]
  refine ITE.intro (fun hc=>?_) fun hc=>?_
  ·have hc':cntK x.kind=true:=by rw[←hf2];exact hc
   have hn:=h.num hc'
   have hz2:=numW_size (k:=x.num) ⟨by omega,by omega⟩
   refine⟨_,itoa_calls ⟨by omega,by omega⟩,by rw[sz1];omega,_,wr_calls (by rw[bsz,sz1];omega) (by simp only[lenS,bsz,sz1];omega),fun r q ⟨e1,e2⟩=>⟨_,_,⟨e1,e2⟩,ITE.neg hf1 ⟨rfl,rfl,?_⟩⟩⟩
   rw[numS,if_pos hc']
   have e3:(us++strAV ww)++strAV ((⟨#[32]⟩:ByteArray)++numW x.num)=us++strAV ((ww++(⟨#[32]⟩:ByteArray))++numW x.num):=by simp only[strAV_app,List.append_assoc]
   rw[e3]
   exact itemM_loop hty hrt (by simp only[bsz,sz1];omega)
  ·have hc':¬cntK x.kind=true:=by rw[←hf2,hc];decide
   rw[numS,if_neg hc']
   exact ITE.neg hf1 ⟨rfl,rfl,itemM_loop hty hrt (by omega)⟩
theorem item_calls {x:It} {us:List AV} (h:ROk x) (hb:us.length+itW x≤30000000):
  HFn Tryz.prog 56 [.agg [.ptr 0 0],itAV x] (bl us) (fun r hp'=>r=.tup []∧hp'=bl (us++strAV (itTxt x))):=by
 cases hty:typesB x.kind
 ·exact itemM_calls h hty hb
 ·exact itemT_calls h hty hb
end Go.Proofs.YtghnkppcncbddaaGreatDoor

namespace Go.Proofs.YtghnkppcncbddaaGreatDoor
open Go Go.Shelf
set_option linter.unusedSimpArgs false
set_option linter.unusedVariables false
def textsS:ByteArray→List It→ByteArray
 |s,[]=>s
 |s,x::l=>textsS (s++itTxt x) l
def itsW:List It→Nat
 | []=>0
 |x::l=>itW x+itsW l
theorem itTxt_size {x:It} (h:ROk x):(itTxt x).size≤itW x:=by
 have key:∀(l:List Nd) (s:ByteArray) (i:Nat),(∀t∈l,(if typesB x.kind=true then rightT t else rightM t)=true)→(nodesS x.kind s i l).size≤s.size+60*Nd.sizes l:=by
  intro l
  induction l with
  |nil=>intro s i _;rw[nodesS];omega
  |cons t l ih=>
   intro s i ht
   have h1:=ih ((s++nSep x.kind i)++nTxt x.kind t) (i+1) fun u hu=>ht u (List.mem_cons_of_mem _ hu)
   have h2:=nTxt_size (ht t List.mem_cons_self)
   have h3:=nSep_size x.kind i
   have h4:=t.size_pos
   rw[nodesS,Nd.sizes]
   simp only[bsz] at h1
   omega
 have h1:=key x.nodes (numS x.kind x.num (wordsS x.kind (beginW x.kind) 0 x.words)) 0 h.nodes
 have h2:=numS_size (s:=wordsS x.kind (beginW x.kind) 0 x.words) h.num
 have h3:=wordsS_size (k:=x.kind) x.words (beginW x.kind) 0 h.words
 have h4:=beginW_size x.kind
 have e2:(⟨#[59,10]⟩:ByteArray).size=2:=rfl
 rw[itTxt,bsz,e2,itW];omega
abbrev itsAV (l:List It):AV:=.sl (l.map itAV)
def ROks (l:List It):Prop:=∀x∈l,ROk x
theorem itsW_drop {l:List It} {i:Nat} (h:i<l.length):itsW (l.drop i)=itW l[i]+itsW (l.drop (i+1)):=by rw[List.drop_eq_getElem_cons h,itsW]
theorem itsW_len:∀l:List It,100*l.length≤itsW l
 | []=>by simp
 |x::l=>by have:=itsW_len l;rw[itsW,itW,List.length_cons];omega
theorem itsW_mem {l:List It} {x:It} (h:x∈l):itW x≤itsW l:=by
 induction l with
 |nil=>cases h
 |cons y l ih=>
  rw[itsW]
  rcases List.mem_cons.1 h with rfl|h
  ·omega
  ·have:=ih h;omega
theorem Text_calls {l:List It} (hb:itsW l≤30000000):PureIs Tryz.prog 26 [itsAV l] (shown (l.all rightI) (textsS ⟨#[]⟩ l)):=by
 have hl:=itsW_len l
 refine vc26_ok ⟨rfl,?_⟩
 rw[List.length_map]
 show vc26_L3 _ _
 refine LoopP.intro (fun p:Nat×ByteArray=>(((),l.map itAV,((l.length:Nat):Int),(p.1:Int),()),((),strAV p.2,((),()),())))
  (fun p=>p.1≤l.length∧textsS ⟨#[]⟩ l=textsS p.2 (l.drop p.1)∧l.all rightI=(l.drop p.1).all rightI∧p.2.size+itsW (l.drop p.1)≤30000000) (fun p=>l.length-p.1) (0,⟨#[]⟩) rfl ⟨Nat.zero_le _,rfl,rfl,by show 0+itsW l≤_;omega⟩ ?_
 intro ⟨i,s⟩ ⟨hi,hd,hr,hs⟩ again hag
 dsimp only at hi hd hr hs ⊢
 refine ITE.intro (fun h1=>?_) fun h1=>?_
 ·have hlt:i<l.length:=by simpa using h1
  rw[itsW_drop hlt] at hs
  have hw:itW l[i]=100+33*l[i].words.length+60*Nd.sizes l[i].nodes:=rfl
  have hn:=Nd.sizes_len l[i].nodes
  rw[List.drop_eq_getElem_cons hlt,textsS] at hd
  rw[List.drop_eq_getElem_cons hlt,List.all_cons] at hr
  refine⟨by omega,by rw[List.length_map];omega,_,_,_,_,_,getD_map hlt,_,RightItem_calls (by omega) (by omega),ITE.intro (fun h2=>?_) fun h2=>?_⟩
  ·have:rightI l[i]=false:=by simpa using h2
   rw[hr,this];rfl
  ·have hok:rightI l[i]=true:=by simpa using h2
   rw[hok,Bool.true_and] at hr
   have hz:=itTxt_size (rightI_inv hok)
   have hz2:=strAV_len s
   refine⟨_,item_calls (rightI_inv hok) (by omega),fun r q ⟨e1,e2⟩=>⟨_,⟨e1,e2⟩,rfl,?_⟩⟩
   rw[wrap_n (by omega),←strAV_app]
   exact hag (i+1,s++itTxt l[i]) ⟨by dsimp only;omega,hd,hr,by simp only[bsz];omega⟩ (by dsimp only;omega)
 ·have hge:l.length≤i:=by simpa using h1
  rw[List.drop_eq_nil_of_le hge] at hd hr
  rw[hd,hr,textsS]
  exact⟨_,String_calls,fun r q ⟨e1,e2⟩=>⟨_,⟨e1,e2⟩,rfl⟩⟩
end Go.Proofs.YtghnkppcncbddaaGreatDoor

namespace Go.Proofs.YtghnkppcncbddaaGreatDoor
open Go
set_option linter.unusedSimpArgs false
set_option linter.unusedVariables false
def LexB (s:ByteArray) (U:List Tx):Prop:=∀r T,Lx r T→Lx (bytesI s++r) (U++T)
def Lex (s:ByteArray) (U:List Tx):Prop:=∀r T,NI r→Lx r T→Lx (bytesI s++r) (U++T)
theorem Lex.sep {a b:ByteArray} {U V:List Tx} (ha:Lex a U) (hb:LexB b V) (hn:∀r,NI (bytesI b++r)):LexB (a++b) (U++V):=fun r T h=>by
 rw[bytesI_app,List.append_assoc,List.append_assoc]
 exact ha _ _ (hn r) (hb r T h)
theorem LexB.app {a b:ByteArray} {U V:List Tx} (ha:LexB a U) (hb:Lex b V):Lex (a++b) (U++V):=fun r T hr h=>by
 rw[bytesI_app,List.append_assoc,List.append_assoc]
 exact ha _ _ (hb r T hr h)
theorem LexB.appB {a b:ByteArray} {U V:List Tx} (ha:LexB a U) (hb:LexB b V):LexB (a++b) (U++V):=fun r T h=>by
 rw[bytesI_app,List.append_assoc,List.append_assoc]
 exact ha _ _ (hb r T h)
theorem lex_word {w:ByteArray} (h:isWord w=true):Lex w [(1,bytesI w)]:=fun r T hr hx=>Lx.word h hr hx
theorem lexB_sp:LexB (⟨#[32]⟩:ByteArray) []:=fun r T h=>Lx.blank (.inl rfl) h
theorem lexB_gt:LexB ((⟨#[32,62]⟩:ByteArray)++(⟨#[32]⟩:ByteArray)) [(3,[62])]:=fun r T h=>Lx.blank (.inl rfl) (Lx.sign (by decide) (Lx.blank (.inl rfl) h))
theorem lexB_nil:LexB (⟨#[]⟩:ByteArray) []:=fun r T h=>h
def sepTx (k:Int) (i:Nat):List Tx:=if i=0 then[(3,[58])] else if k=5 then[(3,[62])] else[(3,[61])]
theorem lexB_sep (k:Int) (i:Nat):LexB (nSep k i) (sepTx k i)∧∀r,NI (bytesI (nSep k i)++r):=by
 unfold nSep sepTx
 split
 ·exact⟨fun r T h=>Lx.sign (c:=58) (by decide) (Lx.blank (.inl rfl) h),fun r=>ni_cons (by decide)⟩
 ·split
  ·exact⟨fun r T h=>Lx.blank (.inl rfl) (Lx.sign (c:=62) (by decide) (Lx.blank (.inl rfl) h)),fun r=>ni_cons (by decide)⟩
  ·exact⟨fun r T h=>Lx.blank (.inl rfl) (Lx.sign (c:=61) (by decide) (Lx.blank (.inl rfl) h)),fun r=>ni_cons (by decide)⟩
theorem decDigits_all:∀(u:Nat),(Lib.decDigits u).all (fun b=>isDigit (b.toNat:Int))=true∧Lib.decDigits u≠[]∧valF 0 ((Lib.decDigits u).map fun b=>(b.toNat:Int))=u:=by
 have app:∀(a b:List Int) (n:Int),valF n (a++b)=valF (valF n a) b:=by
  intro a
  induction a with
  |nil=>intro b n;rfl
  |cons c a ih=>intro b n;exact ih b _
 have dig:∀d:Nat,d<10→isDigit (((UInt8.ofNat (48+d)).toNat:Nat):Int)=true∧(((UInt8.ofNat (48+d)).toNat:Nat):Int)-48=d:=fun d hd=>by
  have:(UInt8.ofNat (48+d)).toNat=48+d:=by
   have h:(UInt8.ofNat (48+d)).toNat=(48+d) % 256:=rfl
   rw[h];omega
  rw[this]
  exact⟨by simp[isDigit];omega,by omega⟩
 intro u
 induction u using Nat.strongRecOn with
 |_ u ih=>
  by_cases h:u<10
  ·rw[dec_small h]
   have:=dig u h
   exact⟨by rw[List.all_cons,this.1];rfl,by simp,by simp only[List.map_cons,List.map_nil,valF];omega⟩
  ·rw[dec_step h]
   have hlt:u / 10<u:=by omega
   obtain⟨h1,h2,h3⟩:=ih _ hlt
   have hd:=dig (u % 10) (Nat.mod_lt _ (by decide))
   refine⟨by rw[List.all_append,h1,List.all_cons,hd.1];rfl,by simp,?_⟩
   rw[List.map_append,app,h3]
   simp only[List.map_cons,List.map_nil,valF]
   rw[hd.2];omega
theorem decDigits_len:∀(k u:Nat),u<10 ^ (k+1)→(Lib.decDigits u).length≤k+1
 |0,u,h=>by rw[dec_small (by simpa using h)];exact Nat.le_refl _
 |k+1,u,h=>by
  by_cases h1:u<10
  ·rw[dec_small h1];simp
  ·rw[dec_step h1,List.length_append]
   have:=decDigits_len k (u / 10) (by rw[Nat.pow_succ] at h;omega)
   simp;omega
theorem numW_tok {n:Int} (h:0≤n∧n≤999999999):(bytesI (numW n)).all isDigit=true∧bytesI (numW n)≠[]∧(bytesI (numW n)).length≤9∧valF 0 (bytesI (numW n))=n:=by
 obtain⟨u,rfl⟩:∃u:Nat,n=(u:Int):=⟨n.toNat,by omega⟩
 have e:bytesI (numW (u:Int))=(Lib.decDigits u).map fun b=>(b.toNat:Int):=by rw[numW_nat];rfl
 obtain⟨h1,h2,h3⟩:=decDigits_all u
 have h4:=decDigits_len 8 u (by rw[show (10:Nat) ^ (8+1)=1000000000 by decide];omega)
 rw[e]
 exact⟨by rw[List.all_map];exact h1,by simpa using h2,by rw[List.length_map];exact h4,h3⟩
theorem lex_num {n:Int} (h:0≤n∧n≤999999999):Lex (numW n) [(2,bytesI (numW n))]:=fun r T hr hx=>by
 obtain⟨h1,h2,h3,_⟩:=numW_tok h
 exact Lx.num h1 h2 h3 hr hx
def tokWs (k:Int):Nat→List ByteArray→List Tx
 |_,[]=>[]
 |i,w::l=>(if 0<i∧k=6 then[(3,[62])] else[])++(1,bytesI w)::tokWs k (i+1) l
def tokNum (k n:Int):List Tx:=if cntK k=true then[(2,bytesI (numW n))] else[]
def nTok (k:Int) (t:Nd):List Tx:=if typesB k=true then tokT t else tokM t
def tokNs (k:Int):Nat→List Nd→List Tx
 |_,[]=>[]
 |i,t::l=>sepTx k i++(nTok k t++tokNs k (i+1) l)
def tokI (x:It):List Tx:=(1,bytesI (beginW x.kind))::(tokWs x.kind 0 x.words++(tokNum x.kind x.num++(tokNs x.kind 0 x.nodes++[(3,[59])])))
def tokIs:List It→List Tx
 | []=>[]
 |x::l=>tokI x++tokIs l
theorem wordsS_lex {k:Int}:∀(l:List ByteArray) (i:Nat) (s:ByteArray) (U:List Tx),(∀w∈l,isWord w=true)→Lex s U→Lex (wordsS k s i l) (U++tokWs k i l)
 | [],i,s,U,_,h=>by rw[wordsS,tokWs,List.append_nil];exact h
 |w::l,i,s,U,hw,h=>by
  have h1:=lex_word (hw w List.mem_cons_self)
  have hs:Lex (wStep k s i w) (U++((if 0<i∧k=6 then[(3,[62])] else[])++[(1,bytesI w)])):=by
   unfold wStep
   by_cases hc:0<i∧k=6
   ·have e:(s++(⟨#[32,62]⟩:ByteArray))++(⟨#[32]⟩:ByteArray)=s++((⟨#[32,62]⟩:ByteArray)++(⟨#[32]⟩:ByteArray)):=ByteArray.append_assoc
    rw[if_pos hc,if_pos hc,e]
    have:=(h.sep lexB_gt fun r=>ni_cons (by decide)).app h1
    rwa [List.append_assoc] at this
   ·rw[if_neg hc,if_neg hc]
    have:=(h.sep lexB_sp fun r=>ni_cons (by decide)).app h1
    rwa [List.append_assoc] at this
  have:=wordsS_lex (k:=k) l (i+1) _ _ (fun v hv=>hw v (List.mem_cons_of_mem _ hv)) hs
  rw[wordsS,tokWs]
  rw[List.append_assoc,List.append_assoc] at this
  exact this
theorem nodesS_lex {k:Int}:∀(l:List Nd) (i:Nat) (s:ByteArray) (U:List Tx),(∀t∈l,(if typesB k=true then rightT t else rightM t)=true)→Lex s U→Lex (nodesS k s i l) (U++tokNs k i l)
 | [],i,s,U,_,h=>by rw[nodesS,tokNs,List.append_nil];exact h
 |t::l,i,s,U,hw,h=>by
  have ht:=hw t List.mem_cons_self
  have h1:Lex (nTxt k t) (nTok k t):=by
   unfold nTxt nTok
   by_cases hk:typesB k=true
   ·rw[if_pos hk] at ht ⊢;rw[if_pos hk];exact txtT_lx _ t (Nat.le_refl _) ht
   ·rw[if_neg hk] at ht ⊢;rw[if_neg hk];exact txtM_lx _ t (Nat.le_refl _) ht
  have hs:=(h.sep (lexB_sep k i).1 (lexB_sep k i).2).app h1
  have:=nodesS_lex (k:=k) l (i+1) _ _ (fun v hv=>hw v (List.mem_cons_of_mem _ hv)) hs
  rw[nodesS,tokNs]
  rw[List.append_assoc,List.append_assoc] at this
  exact this
theorem beginW_word {k:Int} (h:(formI k).isSome=true):isWord (beginW k)=true:=by
 rcases formI_cases k with rfl|rfl|rfl|rfl|rfl|rfl|rfl|rfl|rfl|rfl|rfl|rfl|⟨h0,_⟩
 case inr.inr.inr.inr.inr.inr.inr.inr.inr.inr.inr.inr=>rw[h0] at h;cases h
 all_goals decide
theorem itTxt_lex {x:It} (h:ROk x):LexB (itTxt x) (tokI x):=by
 have h0:Lex (beginW x.kind) [(1,bytesI (beginW x.kind))]:=lex_word (beginW_word h.form)
 have h1:=wordsS_lex (k:=x.kind) x.words 0 _ _ h.words h0
 have h2:Lex (numS x.kind x.num (wordsS x.kind (beginW x.kind) 0 x.words)) (([(1,bytesI (beginW x.kind))]++tokWs x.kind 0 x.words)++tokNum x.kind x.num):=by
  unfold numS tokNum
  by_cases hc:cntK x.kind=true
  ·rw[if_pos hc,if_pos hc]
   have:=(h1.sep lexB_sp fun r=>ni_cons (by decide)).app (lex_num (h.num hc))
   rwa [List.append_nil] at this
  ·rw[if_neg hc,if_neg hc,List.append_nil];exact h1
 have h3:=nodesS_lex x.nodes 0 _ _ h.nodes h2
 have h4:LexB (⟨#[59,10]⟩:ByteArray) [(3,[59])]:=fun r T h=>Lx.sign (by decide) (Lx.blank (.inr rfl) h)
 have:=h3.sep h4 fun r=>ni_cons (by decide)
 rw[List.append_assoc,List.append_assoc,List.append_assoc] at this
 exact this
theorem textsS_lex:∀(l:List It) (s:ByteArray) (U:List Tx),ROks l→LexB s U→LexB (textsS s l) (U++tokIs l)
 | [],s,U,_,h=>by rw[textsS,tokIs,List.append_nil];exact h
 |x::l,s,U,hl,h=>by
  rw[textsS,tokIs,←List.append_assoc]
  exact textsS_lex l _ _ (fun y hy=>hl y (List.mem_cons_of_mem _ hy)) (h.appB (itTxt_lex (hl x List.mem_cons_self)))
theorem texts_split {l:List It} (h:ROks l) (hz:(textsS ⟨#[]⟩ l).size≤20000):∃L:List Tk,splitP (textsS ⟨#[]⟩ l)=(L,noFa)∧L.map txOf=tokIs l:=by
 refine splitP_lx ?_ hz
 have:=textsS_lex l _ _ h lexB_nil [] [] (Lx.nil rfl)
 rw[List.append_nil,List.append_nil] at this
 exact this
end Go.Proofs.YtghnkppcncbddaaGreatDoor

namespace Go.Proofs.YtghnkppcncbddaaGreatDoor
open Go
set_option linter.unusedSimpArgs false
set_option linter.unusedVariables false
variable {L:List Tk} {s w:ByteArray} {i n:Nat} {R:List Tx} {st:St}
def VL (L:List Tk) (i:Nat):List Tx:=(L.drop i).map txOf
theorem VL_cons {c:Tx} (h:VL L i=c::R):i<L.length∧(pk L s i).1=c.1∧bytesI (pk L s i).2.1=c.2∧VL L (i+1)=R:=by
 have hlt:i<L.length:=by
  rcases Nat.lt_or_ge i L.length with h1|h1
  ·exact h1
  ·rw[VL,List.drop_eq_nil_of_le h1] at h;cases h
 rw[VL,List.drop_eq_getElem_cons hlt,List.map_cons] at h
 obtain⟨h1,h2⟩:=List.cons.inj h
 rw[pk_lt hlt]
 exact⟨hlt,by rw[←h1];rfl,by rw[←h1];rfl,h2⟩
theorem VL_nil (h:VL L i=[]):pk L s i=endT s:=by
 refine pk_ge ?_
 rcases Nat.lt_or_ge i L.length with h1|h1
 ·rw[VL,List.drop_eq_getElem_cons h1] at h;cases h
 ·exact h1
theorem VL_drop {U:List Tx} (h:VL L i=U++R):VL L (i+U.length)=R:=by
 have:=congrArg (List.drop U.length) h
 rw[List.drop_left] at this
 rw[←this,VL,VL,←List.map_drop,List.drop_drop]
abbrev ok0 (i:Nat):St:=(i,noFa)
def nxN (w:ByteArray) (R:List Tx):Prop:=∀c,R.head?=some c→c.2≠bytesI w
theorem nxN_cons {c:Tx} (h:c.2≠bytesI w):nxN w (c::R):=fun d hd=>by obtain rfl:=Option.some.inj hd;exact h
theorem isT_no (h:nxN w (VL L i)):isT w (pk L s i)=false:=by
 cases hv:VL L i with
 |nil=>rw[VL_nil hv];simp[isT,endT]
 |cons c R=>
  obtain⟨_,h1,h2,_⟩:=VL_cons (s:=s) hv
  have h3:=h c (by rw[hv];rfl)
  have:¬(pk L s i).2.1=w:=fun e=>h3 (by rw[←h2,e])
  simp[isT,this]
theorem isT_yes (h:VL L i=(3,bytesI w)::R):isT w (pk L s i)=true:=by
 obtain⟨_,h1,h2,_⟩:=VL_cons (s:=s) h
 have:(pk L s i).2.1=w:=bytesI_inj h2
 simp[isT,this,h1]
theorem nextS_yes (h:VL L i=(3,bytesI w)::R):nextS L s w (ok0 i)=(true,ok0 (i+1)):=by
 rw[nextS,isT_yes h];rfl
theorem nextS_no (h:nxN w (VL L i)):nextS L s w (ok0 i)=(false,ok0 i):=by
 rw[nextS,isT_no h];rfl
theorem mustS_yes (h:VL L i=(3,bytesI w)::R):mustS L s w (ok0 i)=ok0 (i+1):=by
 rw[mustS,isT_yes h];rfl
theorem wordS_yes (h:VL L i=(1,bytesI w)::R):wordS L s (ok0 i)=(w,ok0 (i+1)):=by
 obtain⟨_,h1,h2,_⟩:=VL_cons (s:=s) h
 have e:tokS L s 1 (ok0 i)=(pk L s i,ok0 (i+1)):=by
  rw[tokS,if_pos (show okS (ok0 i)=true from rfl),if_pos h1]
 rw[wordS,e,bytesI_inj h2]
theorem isWord_nosign {w:ByteArray} {c:Int} {l:List Int} (h:isWord w=true) (hc:isLetter c=false):bytesI w≠c::l:=fun e=>by
 have:=((isWord_cons e).1 h).2.1
 rw[hc] at this;cases this
theorem nextS_bad (h:okS st=false):nextS L s w st=(false,st):=by rw[nextS,h];rfl
theorem mustS_bad (h:okS st=false):mustS L s w st=st:=by rw[mustS,if_neg (by rw[h];decide)]
theorem tokS_bad {k:Int} (h:okS st=false):(tokS L s k st).2=st:=by rw[tokS,if_neg (by rw[h];decide)]
theorem openP_bad {f:St→Nd×St} {b:Bool} (h:okS st=false):(openP L s b f st).2=st:=by rw[openP,if_neg (by rw[h];decide)]
theorem typP_bad (h:okS st=false):(typP L s n st).2=st:=by cases n<;>exact openP_bad h
theorem termP_bad (h:okS st=false):(termP L s n st).2=st:=by cases n<;>exact openP_bad h
theorem partS_bad (h:okS st=false):partS L s st=false:=by rw[partS,h];rfl
theorem appsP_bad {g:St→Nd×St} {a:Nd} (h:okS st=false):(appsP L s g n a st).2=st:=by
 cases n with
 |zero=>rfl
 |succ n=>rw[appsP,if_neg (by rw[partS_bad h];decide)]
theorem bad2 (h:st.2.1=2):okS st=false:=by rw[okS,h];rfl
def dT:Nd→Nat
 | .mk _ _ _ [x,y]=>1+max (if(x.kind==2)=true then dT x else 0) (dT y)
 | .mk _ _ _ _=>1
theorem dT_two {w:ByteArray} {k a:Int} {x y:Nd}:dT (.mk k w a [x,y])=1+max (if(x.kind==2)=true then dT x else 0) (dT y):=by rw[dT]
theorem dT_pos (t:Nd):1≤dT t:=by
 obtain⟨k,w,a,l⟩:=t
 rcases kids_cases l with rfl|⟨x,y,rfl⟩|⟨h1,h2⟩
 ·rw[dT];exact Nat.le_refl _;simp
 ·rw[dT_two];omega
 ·rw[dT]
  ·exact Nat.le_refl _
  ·intro x y e;subst e;exact h2 rfl
theorem same_name {w:ByteArray} {k a a':Int}:(Nd.mk k w a []).same (.mk k w a' [])=true:=by simp[Nd.same,Nd.sames]
theorem same_two {w:ByteArray} {k a a':Int} {x y x' y':Nd} (hx:x.same x'=true) (hy:y.same y'=true):(Nd.mk k w a [x,y]).same (.mk k w a' [x',y'])=true:=by simp[Nd.same,Nd.sames,hx,hy]
theorem inTok_len (b:Bool) (l:List Tx):(inTok b l).length=if b=true then l.length+2 else l.length:=by cases b<;>simp[inTok]
theorem nil_of_size {w:ByteArray} (h:w.size=0):w=(⟨#[]⟩:ByteArray):=by
 obtain⟨⟨l⟩⟩:=w
 have:l.length=0:=h
 rw[List.length_eq_zero_iff] at this
 rw[this]
theorem atom_name {f:St→Nd×St} (hw:isWord w=true) (h:VL L i=(1,bytesI w)::R):∃a,atomP L s f (ok0 i)=(.mk 1 w a [],ok0 (i+1)):=by
 obtain⟨_,h1,h2,_⟩:=VL_cons (s:=s) h
 have e:tokS L s 1 (ok0 i)=(pk L s i,ok0 (i+1)):=by
  rw[tokS,if_pos (show okS (ok0 i)=true from rfl),if_pos h1]
 unfold atomP
 rw[nextS_no (by rw[h];exact nxN_cons (isWord_nosign hw (by decide)))]
 dsimp only
 rw[e,bytesI_inj h2]
 exact⟨_,rfl⟩
theorem atom_paren {f:St→Nd×St} {U:List Tx} (h:VL L i=inTok true U++R):VL L (i+1)=U++(3,bytesI rpW)::R∧atomP L s f (ok0 i)=((f (ok0 (i+1))).1,mustS L s rpW (f (ok0 (i+1))).2):=by
 have h1:VL L i=(3,bytesI lpW)::(U++(3,bytesI rpW)::R):=by rw[h];show (3,[40])::((U++[(3,[41])])++R)=_;rw[List.append_assoc];rfl
 refine⟨(VL_cons (s:=s) h1).2.2.2,?_⟩
 unfold atomP
 rw[nextS_yes h1]
theorem typP_tok:∀(m:Nat) (t:Nd),t.size≤m→rightT t=true→∀(n i:Nat) (R:List Tx),VL L i=tokT t++R→nxN arW R→
  (dT t≤n→∃t',typP L s n (ok0 i)=(t',ok0 (i+(tokT t).length))∧t'.same t=true)∧(n<dT t→(typP L s n (ok0 i)).2.2.1=2):=by
 intro m
 induction m with
 |zero=>intro t h;have:=t.size_pos;omega
 |succ m ih=>
  intro t hm ht n i R hv hR
  cases n with
  |zero=>
   refine⟨fun h=>?_,fun _=>rfl⟩
   have:=dT_pos t
   omega
  |succ n=>
   have e:typP L s (n+1) (ok0 i)=typB L s (typP L s n) (ok0 i):=rfl
   rw[e]
   unfold typB
   rcases rightT_inv ht with⟨w,a,rfl,h1⟩|⟨w,a,x,y,rfl,h1,h2,h3⟩
   ·rw[tokT_name] at hv ⊢
    obtain⟨a',ha⟩:=atom_name (s:=s) (f:=typP L s n) h1 hv
    rw[ha,nextS_no (by rw[(VL_cons (s:=s) hv).2.2.2];exact hR)]
    exact⟨fun _=>⟨_,rfl,same_name⟩,fun h=>by rw[dT] at h;omega;simp⟩
   ·have ez:=size_two (k:=2) (a:=a) (w:=w) (x:=x) (y:=y)
    have p1:=x.size_pos
    have p2:=y.size_pos
    rw[tokT_two,List.append_assoc] at hv
    rw[tokT_two,dT_two]
    have hx:((if(x.kind==2)=true then dT x else 0)≤n→∃x',atomP L s (typP L s n) (ok0 i)=(x',ok0 (i+(inTok (x.kind==2) (tokT x)).length))∧x'.same x=true)∧(n<(if(x.kind==2)=true then dT x else 0)→(atomP L s (typP L s n) (ok0 i)).2.2.1=2):=by
     cases hk:x.kind==2
     ·rcases rightT_inv h2 with⟨v,b,rfl,g1⟩|⟨v,b,x1,y1,rfl,_⟩
      ·rw[hk,tokT_name] at hv
       obtain⟨a',ha⟩:=atom_name (s:=s) (f:=typP L s n) g1 hv
       exact⟨fun _=>⟨_,by rw[ha,tokT_name];rfl,same_name⟩,fun h=>by simp at h⟩
      ·cases hk
     ·rw[hk] at hv
      obtain⟨hv1,he⟩:=atom_paren (s:=s) (f:=typP L s n) hv
      obtain⟨g1,g2⟩:=ih x (by omega) h2 n (i+1) _ hv1 (nxN_cons (by decide))
      rw[he,if_pos rfl,inTok_len,if_pos rfl]
      refine⟨fun h=>?_,fun h=>?_⟩
      ·obtain⟨x',e1,e2⟩:=g1 h
       refine⟨x',?_,e2⟩
       rw[e1]
       dsimp only
       rw[mustS_yes (VL_drop hv1)]
       show (x',ok0 _)=(x',ok0 _)
       congr 2;omega
      ·have:=g2 h
       rw[mustS_bad (bad2 this)];exact this
    have hv2:=VL_drop hv
    have hv3:VL L (i+(inTok (x.kind==2) (tokT x)).length)=(3,bytesI arW)::(tokT y++R):=hv2
    generalize hj:(inTok (x.kind==2) (tokT x)).length=j at hx hv3 ⊢
    generalize (if(x.kind==2)=true then dT x else 0)=dx at hx ⊢
    have hbad:∀{b:St},b.2.1=2→(atomP L s (typP L s n) (ok0 i)).2=b→(match nextS L s arW (atomP L s (typP L s n) (ok0 i)).2 with
      |(true,st2)=>((Nd.mk 2 ⟨#[]⟩ (atomP L s (typP L s n) (ok0 i)).1.at_ [(atomP L s (typP L s n) (ok0 i)).1,(typP L s n st2).1],(typP L s n st2).2):Nd×St)
      |(false,st2)=>((atomP L s (typP L s n) (ok0 i)).1,st2)).2.2.1=2:=fun hb hb2=>by
     rw[hb2,nextS_bad (bad2 hb)];exact hb
    by_cases hd:dx≤n
    ·obtain⟨x',e1,e2⟩:=hx.1 hd
     rw[e1]
     dsimp only
     rw[nextS_yes hv3]
     dsimp only
     obtain⟨g1,g2⟩:=ih y (by omega) h3 n (i+j+1) R (VL_cons (s:=s) hv3).2.2.2 hR
     refine⟨fun h=>?_,fun h=>?_⟩
     ·obtain⟨y',e3,e4⟩:=g1 (by omega)
      refine⟨.mk 2 ⟨#[]⟩ x'.at_ [x',y'],?_,?_⟩
      ·rw[e3,List.length_append,List.length_cons,hj]
       show (_,ok0 _)=(_,ok0 _)
       congr 2;omega
      ·rw[show w=(⟨#[]⟩:ByteArray) from nil_of_size h1]
       exact same_two e2 e4
     ·exact g2 (by omega)
    ·exact⟨fun h=>by omega,fun _=>hbad (hx.2 (by omega)) rfl⟩
def dM:Nd→Nat
 | .mk k _ _ [x,y]=>if(k==3)=true then 1+max (dT x) (dM y) else max (if(x.kind==3)=true then 1+dM x else dM x) (if(y.kind != 1)=true then 1+dM y else 1)
 | .mk _ _ _ _=>1
theorem dM_two {w:ByteArray} {k a:Int} {x y:Nd}:dM (.mk k w a [x,y])=if(k==3)=true then 1+max (dT x) (dM y) else max (if(x.kind==3)=true then 1+dM x else dM x) (if(y.kind != 1)=true then 1+dM y else 1):=by rw[dM]
theorem dM_name {w:ByteArray} {k a:Int}:dM (.mk k w a [])=1:=by rw[dM];simp
theorem dM_pos {t:Nd} (h:rightM t=true):1≤dM t:=by
 rcases rightM_inv h with⟨w,a,rfl,h1⟩|⟨w,a,x,y,rfl,h1,h2,h3⟩|⟨w,a,x,y,rfl,h1,h2,h3⟩
 ·rw[dM_name];exact Nat.le_refl _
 ·rw[dM_two,if_pos (by decide)];omega
 ·rw[dM_two,if_neg (by decide)];split<;>split<;>omega
def hM (t:Nd):Nat:=if(t.kind==3)=true then 1+dM t else dM t
def aTok (t:Nd):List Tx:=inTok (t.kind==3) (tokM t)
def noP (R:List Tx):Prop:=∀c,R.head?=some c→c.1≠1∧c.2≠[40]
theorem noP_cons {c:Tx} (h1:c.1≠1) (h2:c.2≠[40]):noP (c::R):=fun d hd=>by obtain rfl:=Option.some.inj hd;exact⟨h1,h2⟩
theorem partS_no (h:noP (VL L i)):partS L s (ok0 i)=false:=by
 cases hv:VL L i with
 |nil=>rw[partS,show (ok0 i).1=i from rfl,VL_nil hv];simp[endT]
 |cons c R=>
  obtain⟨_,h1,h2,_⟩:=VL_cons (s:=s) hv
  obtain⟨h3,h4⟩:=h c (by rw[hv];rfl)
  have h5:¬(pk L s i).2.1=(⟨#[40]⟩:ByteArray):=fun e=>h4 (by rw[←h2,e];rfl)
  have h6:¬(pk L s i).1=1:=by rw[h1];exact h3
  simp[partS,h5,h6]
def isP (c:Tx):Prop:=(∃w,isWord w=true∧c=(1,bytesI w))∨c=(3,[40])
theorem isP.bs {c:Tx} (h:isP c):c.2≠bytesI bsW:=by
 rcases h with⟨w,hw,rfl⟩|rfl
 ·exact isWord_nosign hw (by decide)
 ·decide
theorem partS_yes {c:Tx} (hc:isP c) (h:VL L i=c::R):partS L s (ok0 i)=true:=by
 obtain⟨_,h1,h2,_⟩:=VL_cons (s:=s) h
 rcases hc with⟨w,hw,rfl⟩|rfl
 ·rw[partS,show (ok0 i).1=i from rfl,h1];rfl
 ·have:(pk L s i).2.1=(⟨#[40]⟩:ByteArray):=bytesI_inj h2
  rw[partS,show (ok0 i).1=i from rfl,h1,this];rfl
theorem aTok_first:∀(m:Nat) (t:Nd),t.size≤m→rightM t=true→∃c l,aTok t=c::l∧isP c:=by
 intro m
 induction m with
 |zero=>intro t h;have:=t.size_pos;omega
 |succ m ih=>
  intro t hm ht
  rcases rightM_inv ht with⟨w,a,rfl,h1⟩|⟨w,a,x,y,rfl,h1,h2,h3⟩|⟨w,a,x,y,rfl,h1,h2,h3⟩
  ·refine⟨(1,bytesI w),[],?_,.inl ⟨w,h1,rfl⟩⟩
   rw[aTok,tokM_name];rfl
  ·exact⟨_,_,rfl,.inr rfl⟩
  ·have e:=size_two (k:=4) (a:=a) (w:=w) (x:=x) (y:=y)
   obtain⟨c,l,h4,h5⟩:=ih x (by have:=y.size_pos;omega) h2
   refine⟨c,l++inTok (y.kind != 1) (tokM y),?_,h5⟩
   show tokM _=_
   rw[tokM_two,if_neg (by decide)]
   rw[aTok] at h4
   rw[h4];rfl
theorem oTok_first {y:Nd} (h:rightM y=true):∃c l,inTok (y.kind != 1) (tokM y)=c::l∧isP c:=by
 rcases rightM_inv h with⟨w,a,rfl,h1⟩|⟨w,a,x,y,rfl,h1,h2,h3⟩|⟨w,a,x,y,rfl,h1,h2,h3⟩
 ·refine⟨(1,bytesI w),[],?_,.inl ⟨w,h1,rfl⟩⟩
  rw[tokM_name];rfl
 ·exact⟨_,_,rfl,.inr rfl⟩
 ·exact⟨_,_,rfl,.inr rfl⟩
def TT (L:List Tk) (s:ByteArray) (t:Nd):Prop:=∀(n i:Nat) (R:List Tx),VL L i=tokM t++R→noP R→nxN arW R→
 (dM t≤n→∃t',termP L s n (ok0 i)=(t',ok0 (i+(tokM t).length))∧t'.same t=true)∧(n<dM t→(termP L s n (ok0 i)).2.2.1=2)
def SS (L:List Tk) (s:ByteArray) (t:Nd):Prop:=∀(n i F:Nat) (R:List Tx),VL L i=aTok t++R→L.length+1≤F+i→
 (hM t≤n+1→∃t' F',appsP L s (termP L s n) F (atomP L s (termP L s n) (ok0 i)).1 (atomP L s (termP L s n) (ok0 i)).2=appsP L s (termP L s n) F' t' (ok0 (i+(aTok t).length))∧L.length+1≤F'+(i+(aTok t).length)∧t'.same t=true)∧
 (n+1<hM t→(appsP L s (termP L s n) F (atomP L s (termP L s n) (ok0 i)).1 (atomP L s (termP L s n) (ok0 i)).2).2.2.1=2)
theorem atom_in {t:Nd} (hT:TT L s t) (n i:Nat) (R:List Tx) (hv:VL L i=inTok true (tokM t)++R):
  (dM t≤n→∃t',atomP L s (termP L s n) (ok0 i)=(t',ok0 (i+(inTok true (tokM t)).length))∧t'.same t=true)∧(n<dM t→(atomP L s (termP L s n) (ok0 i)).2.2.1=2):=by
 obtain⟨hv1,he⟩:=atom_paren (s:=s) (f:=termP L s n) hv
 obtain⟨g1,g2⟩:=hT n (i+1) _ hv1 (noP_cons (by decide) (by decide)) (nxN_cons (by decide))
 rw[he,inTok_len,if_pos rfl]
 refine⟨fun h=>?_,fun h=>?_⟩
 ·obtain⟨x',e1,e2⟩:=g1 h
  refine⟨x',?_,e2⟩
  rw[e1]
  dsimp only
  rw[mustS_yes (VL_drop hv1)]
  show (x',ok0 _)=(x',ok0 _)
  congr 2;omega
 ·have:=g2 h
  rw[mustS_bad (bad2 this)];exact this
theorem termB_lam {w:ByteArray} {a:Int} {x y:Nd} (hw:isWord w=true) (hx:rightT x=true) (hy:TT L s y):TT L s (.mk 3 w a [x,y]):=by
 intro n i R hv hR hR2
 rw[dM_two,if_pos (by decide)]
 cases n with
 |zero=>exact⟨fun h=>by omega,fun _=>rfl⟩
 |succ n=>
  have e:termP L s (n+1) (ok0 i)=termB L s (typP L s n) (termP L s n) (ok0 i):=rfl
  have hv1:VL L i=(3,bytesI bsW)::(1,bytesI w)::(3,bytesI coW)::(tokT x++(3,bytesI doW)::(tokM y++R)):=by
   rw[hv,tokM_two,if_pos (by decide)];simp only[List.cons_append,List.append_assoc];rfl
  have hv2:=(VL_cons (s:=s) hv1).2.2.2
  have hv3:=(VL_cons (s:=s) hv2).2.2.2
  have hv4:=(VL_cons (s:=s) hv3).2.2.2
  have hv5:=VL_drop hv4
  have hv6:=(VL_cons (s:=s) hv5).2.2.2
  obtain⟨g1,g2⟩:=typP_tok (s:=s) _ x (Nat.le_refl _) hx n (i+1+1+1) _ hv4 (nxN_cons (by decide))
  obtain⟨g3,g4⟩:=hy n _ R hv6 hR hR2
  rw[e]
  unfold termB
  rw[nextS_yes hv1]
  dsimp only
  unfold lamP
  rw[wordS_yes hv2]
  dsimp only
  rw[mustS_yes hv3]
  by_cases hd:dT x≤n
  ·obtain⟨x',e1,e2⟩:=g1 hd
   rw[e1]
   dsimp only
   rw[mustS_yes hv5]
   refine⟨fun h=>?_,fun h=>?_⟩
   ·obtain⟨y',e3,e4⟩:=g3 (by omega)
    rw[e3]
    refine⟨.mk 3 w (pk L s (ok0 i).1).2.2 [x',y'],?_,same_two e2 e4⟩
    rw[tokM_two,if_pos (by decide)]
    simp only[List.length_cons,List.length_append]
    show (_,ok0 _)=(_,ok0 _)
    congr 2;omega
   ·exact g4 (by omega)
  ·refine⟨fun h=>by omega,fun _=>?_⟩
   have:=g2 (by omega)
   rw[mustS_bad (bad2 this),termP_bad (bad2 this)]
   exact this
theorem term_tok:∀(m:Nat) (t:Nd),t.size≤m→rightM t=true→TT L s t∧SS L s t:=by
 intro m
 induction m with
 |zero=>intro t h;have:=t.size_pos;omega
 |succ m ih=>
  intro t hm ht
  have spine:(t.kind==3)=false→SS L s t→TT L s t:=by
   intro hk hS n i R hv hR _
   have ha:aTok t=tokM t:=by rw[aTok,hk];rfl
   have hh:hM t=dM t:=by rw[hM,hk];rfl
   cases n with
   |zero=>
    have:=dM_pos ht
    exact⟨fun h=>by omega,fun _=>rfl⟩
   |succ n=>
    have e:termP L s (n+1) (ok0 i)=termB L s (typP L s n) (termP L s n) (ok0 i):=rfl
    obtain⟨c,l,hc,hp⟩:=aTok_first _ t (Nat.le_refl _) ht
    have hb:nxN bsW (VL L i):=by
     rw[hv,←ha,hc];exact nxN_cons hp.bs
    have hlt:=(VL_cons (s:=s) (by rw[hv,←ha,hc];rfl:VL L i=c::(l++R))).1
    obtain⟨g1,g2⟩:=hS n i (L.length+1) R (by rw[ha];exact hv) (by omega)
    rw[e]
    unfold termB
    rw[nextS_no hb]
    dsimp only
    rw[hh] at g1 g2
    refine⟨fun h=>?_,g2⟩
    obtain⟨t',F',e1,e2,e3⟩:=g1 h
    refine⟨t',?_,e3⟩
    rw[e1,ha]
    have hv2:=VL_drop hv
    have hno:partS L s (ok0 (i+(tokM t).length))=false:=partS_no (by rw[hv2];exact hR)
    cases F' with
    |zero=>rfl
    |succ F'=>rw[appsP,if_neg (by rw[hno];decide)]
  rcases rightM_inv ht with⟨w,a,rfl,h1⟩|⟨w,a,x,y,rfl,h1,h2,h3⟩|⟨w,a,x,y,rfl,h1,h2,h3⟩
  ·have hS:SS L s (.mk 1 w a []):=by
    intro n i F R hv hF
    have ha:aTok (.mk 1 w a [])=[(1,bytesI w)]:=by rw[aTok,tokM_name];rfl
    have hh:hM (.mk 1 w a [])=1:=by rw[hM,dM_name];rfl
    rw[ha] at hv ⊢
    obtain⟨a',e⟩:=atom_name (s:=s) (f:=termP L s n) h1 hv
    rw[e,hh]
    exact⟨fun _=>⟨_,F,rfl,by simp only[List.length_singleton];omega,same_name⟩,fun h=>by omega⟩
   exact⟨spine rfl hS,hS⟩
  ·have ez:=size_two (k:=3) (a:=a) (w:=w) (x:=x) (y:=y)
   have hT:=termB_lam (a:=a) h1 h2 (ih y (by have:=x.size_pos;omega) h3).1
   refine⟨hT,?_⟩
   intro n i F R hv hF
   have ha:aTok (.mk 3 w a [x,y])=inTok true (tokM (.mk 3 w a [x,y])):=rfl
   have hh:hM (.mk 3 w a [x,y])=1+dM (.mk 3 w a [x,y]):=rfl
   obtain⟨g1,g2⟩:=atom_in hT n i R hv
   rw[hh,ha]
   refine⟨fun h=>?_,fun h=>?_⟩
   ·obtain⟨t',e1,e2⟩:=g1 (by omega)
    rw[e1]
    exact⟨t',F,rfl,by omega,e2⟩
   ·have:=g2 (by omega)
    rw[appsP_bad (bad2 this)];exact this
  ·have ez:=size_two (k:=4) (a:=a) (w:=w) (x:=x) (y:=y)
   have p1:=x.size_pos
   have p2:=y.size_pos
   have ix:=(ih x (by omega) h2).2
   have iy:=(ih y (by omega) h3).1
   have hS:SS L s (.mk 4 w a [x,y]):=by
    intro n i F R hv hF
    have ha:aTok (.mk 4 w a [x,y])=aTok x++inTok (y.kind != 1) (tokM y):=by
     show tokM _=_
     rw[tokM_two,if_neg (by decide)];rfl
    have hh:hM (.mk 4 w a [x,y])=max (hM x) (if(y.kind != 1)=true then 1+dM y else 1):=by
     show dM _=_
     rw[dM_two,if_neg (by decide)];rfl
    rw[ha,List.append_assoc] at hv
    rw[ha,hh,List.length_append]
    obtain⟨g1,g2⟩:=ix n i F _ hv hF
    have hv2:=VL_drop hv
    by_cases hd:hM x≤n+1
    ·obtain⟨x',F',e1,e2,e3⟩:=g1 hd
     rw[e1]
     obtain⟨c,l,hc,hp⟩:=oTok_first h3
     have hv3:VL L (i+(aTok x).length)=c::(l++R):=by rw[hv2,hc];rfl
     have hlt:=(VL_cons (s:=s) hv3).1
     obtain⟨F1,rfl⟩:∃F1,F'=F1+1:=⟨F' - 1,by omega⟩
     rw[appsP,if_pos (partS_yes hp hv3)]
     have hy:((if(y.kind != 1)=true then 1+dM y else 1)≤n+1→∃y',atomP L s (termP L s n) (ok0 (i+(aTok x).length))=(y',ok0 (i+(aTok x).length+(inTok (y.kind != 1) (tokM y)).length))∧y'.same y=true)∧(n+1<(if(y.kind != 1)=true then 1+dM y else 1)→(atomP L s (termP L s n) (ok0 (i+(aTok x).length))).2.2.1=2):=by
      cases hk:y.kind != 1
      ·rcases rightM_inv h3 with⟨v,b,rfl,k1⟩|⟨v,b,x1,y1,rfl,_⟩|⟨v,b,x1,y1,rfl,_⟩
       ·rw[hk,tokM_name] at hv2
        obtain⟨a',e⟩:=atom_name (s:=s) (f:=termP L s n) k1 hv2
        rw[if_neg (by decide),tokM_name]
        exact⟨fun _=>⟨_,e,same_name⟩,fun h=>by omega⟩
       ·cases hk
       ·cases hk
      ·rw[hk] at hv2
       obtain⟨k1,k2⟩:=atom_in iy n _ R hv2
       rw[if_pos rfl]
       exact⟨fun h=>k1 (by omega),fun h=>k2 (by omega)⟩
     have hl:1≤(inTok (y.kind != 1) (tokM y)).length:=by rw[hc];simp
     generalize (if(y.kind != 1)=true then 1+dM y else 1)=dy at hy ⊢
     refine⟨fun h=>?_,fun h=>?_⟩
     ·obtain⟨y',e4,e5⟩:=hy.1 (by omega)
      rw[e4]
      refine⟨.mk 4 ⟨#[]⟩ x'.at_ [x',y'],F1,?_,by omega,?_⟩
      ·rw[Nat.add_assoc]
      ·rw[show w=(⟨#[]⟩:ByteArray) from nil_of_size h1]
       exact same_two e3 e5
     ·have:=hy.2 (by omega)
      rw[appsP_bad (bad2 this)];exact this
    ·exact⟨fun h=>by omega,fun _=>g2 (by omega)⟩
   exact⟨spine rfl hS,hS⟩
end Go.Proofs.YtghnkppcncbddaaGreatDoor

namespace Go.Proofs.YtghnkppcncbddaaGreatDoor
open Go
set_option linter.unusedSimpArgs false
set_option linter.unusedVariables false
variable {L:List Tk} {s w:ByteArray} {i n:Nat} {R:List Tx} {st:St}
abbrev wTok (w:ByteArray):Tx:=(1,bytesI w)
theorem ws_tok:∀(ws:List ByteArray) (n:Nat) (l:List ByteArray) (i:Nat),VL L i=ws.map wTok++(3,[59])::R→L.length+1≤n+i→
  wsP L s n l (ok0 i)=(l++ws,ok0 (i+ws.length))
 | [],n,l,i,hv,hn=>by
  have hk:(pk L s i).1=3:=(VL_cons (s:=s) hv).2.1
  cases n with
  |zero=>simp[wsP]
  |succ n=>rw[wsP,if_neg (by rw[show (ok0 i).1=i from rfl,hk];simp)];simp
 |w::ws,n,l,i,hv,hn=>by
  have hv0:VL L i=(1,bytesI w)::(ws.map wTok++(3,[59])::R):=hv
  obtain⟨hlt,hk,_,hv1⟩:=VL_cons (s:=s) hv0
  obtain⟨n,rfl⟩:∃m,n=m+1:=⟨n-1,by omega⟩
  rw[wsP,if_pos (by rw[show (ok0 i).1=i from rfl,hk];rfl),wordS_yes hv0]
  rw[ws_tok ws n _ (i+1) hv1 (by omega),List.length_cons]
  simp;omega
def chTok:List ByteArray→List Tx
 | []=>[]
 |w::l=>(3,[62])::(1,bytesI w)::chTok l
theorem ch_tok:∀(ws:List ByteArray) (n:Nat) (l:List ByteArray) (i:Nat),VL L i=chTok ws++(3,[59])::R→L.length+1≤n+i→
  chP L s n l (ok0 i)=(l++ws,ok0 (i+(chTok ws).length))
 | [],n,l,i,hv,hn=>by
  cases n with
  |zero=>simp[chP,chTok]
  |succ n=>
   have hv':VL L i=(3,[59])::R:=hv
   rw[chP,nextS_no (by rw[hv'];exact nxN_cons (by decide)),if_neg (by simp)];simp[chTok]
 |w::ws,n,l,i,hv,hn=>by
  have hv0:VL L i=(3,bytesI gtW)::(1,bytesI w)::(chTok ws++(3,[59])::R):=hv
  obtain⟨hlt,_,_,hv1⟩:=VL_cons (s:=s) hv0
  obtain⟨hlt1,_,_,hv2⟩:=VL_cons (s:=s) hv1
  obtain⟨n,rfl⟩:∃m,n=m+1:=⟨n-1,by omega⟩
  rw[chP,nextS_yes hv0,if_pos rfl]
  dsimp only
  rw[wordS_yes hv1]
  dsimp only
  rw[ch_tok ws n _ (i+1+1) hv2 (by omega),chTok,List.length_cons,List.length_cons]
  simp;omega
theorem tokWs_map {k:Int} (hk:k≠6):∀(l:List ByteArray) (i:Nat),tokWs k i l=l.map wTok
 | [],_=>rfl
 |w::l,i=>by rw[tokWs,if_neg (by simp[hk]),tokWs_map hk l];rfl
theorem tokWs_ch:∀(l:List ByteArray) (i:Nat),tokWs 6 (i+1) l=chTok l
 | [],_=>rfl
 |w::l,i=>by rw[tokWs,if_pos (by simp),tokWs_ch l];rfl
theorem runD_of_all:∀{l:List Int},l.all isDigit=true→runD l=l.length
 | [],_=>rfl
 |c::l,h=>by
  rw[List.all_cons,Bool.and_eq_true] at h
  rw[runD_cons,if_pos h.1,runD_of_all h.2];rfl
theorem num_yes {n:Int} (hn:0≤n∧n≤999999999) (h:VL L i=(2,bytesI (numW n))::R):numP L s (ok0 i)=(n,ok0 (i+1)):=by
 obtain⟨_,h1,h2,_⟩:=VL_cons (s:=s) h
 have e:tokS L s 2 (ok0 i)=(pk L s i,ok0 (i+1)):=by
  rw[tokS,if_pos (show okS (ok0 i)=true from rfl),if_pos h1]
 obtain⟨k1,k2,k3,k4⟩:=numW_tok hn
 have hw:(pk L s i).2.1=numW n:=bytesI_inj h2
 have hlen:(bytesI (numW n)).length=(numW n).size:=bytesI_len _
 have hr:runD (bytesI (numW n))=(numW n).size:=by rw[←hlen];exact runD_of_all k1
 rw[numP,e]
 show (valP (pk L s i),_)=_
 rw[valP,hw,if_pos ⟨h1,by rw[←hlen];intro e;exact k2 (List.length_eq_zero_iff.1 e),by rw[←hlen];exact k3,hr⟩,k4]
theorem type_tok {t:Nd} (ht:rightT t=true) (hv:VL L i=tokT t++(3,[59])::R):(dT t≤60→∃t',oneT (typP L s 60) (ok0 i)=([t'],ok0 (i+(tokT t).length))∧Nd.sames [t'] [t]=true)∧(60<dT t→(oneT (typP L s 60) (ok0 i)).2.2.1=2):=by
 obtain⟨g1,g2⟩:=typP_tok (s:=s) _ t (Nat.le_refl _) ht 60 i _ hv (nxN_cons (by decide))
 unfold oneT
 refine⟨fun h=>?_,g2⟩
 obtain⟨t',e,h1⟩:=g1 h
 exact⟨t',by rw[e],by simp[Nd.sames,h1]⟩
theorem one_tok {t:Nd} (ht:rightM t=true) (hv:VL L i=tokM t++(3,[59])::R):(dM t≤60→∃t',oneT (termP L s 60) (ok0 i)=([t'],ok0 (i+(tokM t).length))∧Nd.sames [t'] [t]=true)∧(60<dM t→(oneT (termP L s 60) (ok0 i)).2.2.1=2):=by
 obtain⟨g1,g2⟩:=(term_tok (s:=s) _ t (Nat.le_refl _) ht).1 60 i _ hv (noP_cons (by decide) (by decide)) (nxN_cons (by decide))
 unfold oneT
 refine⟨fun h=>?_,g2⟩
 obtain⟨t',e,h1⟩:=g1 h
 exact⟨t',by rw[e],by simp[Nd.sames,h1]⟩
theorem terms_tok {x y:Nd} (hx:rightM x=true) (hy:rightM y=true) (hw1:bytesI w≠[40]) (hw2:bytesI w≠bytesI arW) (hv:VL L i=tokM x++(3,bytesI w)::(tokM y++(3,[59])::R)):
  (max (dM x) (dM y)≤60→∃x' y',termsP L s w (ok0 i)=([x',y'],ok0 (i+((tokM x).length+(1+(tokM y).length))))∧Nd.sames [x',y'] [x,y]=true)∧(60<max (dM x) (dM y)→(termsP L s w (ok0 i)).2.2.1=2):=by
 obtain⟨g1,g2⟩:=(term_tok (s:=s) _ x (Nat.le_refl _) hx).1 60 i _ hv (noP_cons (by simp) hw1) (nxN_cons hw2)
 have hv1:=VL_drop hv
 have hv2:=(VL_cons (s:=s) hv1).2.2.2
 obtain⟨g3,g4⟩:=(term_tok (s:=s) _ y (Nat.le_refl _) hy).1 60 _ _ hv2 (noP_cons (by decide) (by decide)) (nxN_cons (by decide))
 unfold termsP
 by_cases hd:dM x≤60
 ·obtain⟨x',e1,h1⟩:=g1 hd
  rw[e1]
  dsimp only
  rw[mustS_yes hv1]
  refine⟨fun h=>?_,fun h=>g4 (by omega)⟩
  obtain⟨y',e2,h2⟩:=g3 (by omega)
  refine⟨x',y',?_,by simp[Nd.sames,h1,h2]⟩
  rw[e2]
  show (_,ok0 _)=(_,ok0 _)
  congr 2;omega
 ·refine⟨fun h=>by omega,fun _=>?_⟩
  have:=g2 (by omega)
  dsimp only
  rw[mustS_bad (bad2 this),termP_bad (bad2 this)]
  exact this
def dIs (k:Int):List Nd→Nat
 | []=>0
 |t::l=>max (if typesB k=true then dT t else dM t) (dIs k l)
def dI (x:It):Nat:=dIs x.kind x.nodes
def bTok (x:It):List Tx:=tokWs x.kind 0 x.words++(tokNum x.kind x.num++tokNs x.kind 0 x.nodes)
theorem tokI_eq (x:It):tokI x=(1,bytesI (beginW x.kind))::(bTok x++[(3,[59])]):=by simp[tokI,bTok]
theorem dIs_one {k:Int} {t:Nd}:dIs k [t]=if typesB k=true then dT t else dM t:=by simp[dIs]
theorem dIs_two {k:Int} {x y:Nd} (h:typesB k=false):dIs k [x,y]=max (dM x) (dM y):=by simp[dIs,h]
theorem named_yes (hv:VL L i=(1,bytesI w)::(3,bytesI coW)::R):namedP L s (ok0 i)=([w],ok0 (i+2))∧VL L (i+2)=R:=by
 obtain⟨_,_,_,h1⟩:=VL_cons (s:=s) hv
 rw[namedP,wordS_yes hv]
 dsimp only
 rw[mustS_yes h1]
 exact⟨rfl,(VL_cons (s:=s) h1).2.2.2⟩
theorem counted_yes {n:Int} (hn:0≤n∧n≤999999999) (hv:VL L i=(2,bytesI (numW n))::(3,bytesI coW)::R):countedP L s (ok0 i)=(n,ok0 (i+2))∧VL L (i+2)=R:=by
 obtain⟨_,_,_,h1⟩:=VL_cons (s:=s) hv
 rw[countedP,num_yes hn hv]
 dsimp only
 rw[mustS_yes h1]
 exact⟨rfl,(VL_cons (s:=s) h1).2.2.2⟩
theorem len_one {α:Type} {l:List α} (h:l.length=1):∃a,l=[a]:=by
 match l,h with
 | [a],_=>exact⟨a,rfl⟩
theorem len_two {α:Type} {l:List α} (h:l.length=2):∃a b,l=[a,b]:=by
 match l,h with
 | [a,b],_=>exact⟨a,b,rfl⟩
theorem len_zero {α:Type} {l:List α} (h:l.length=0):l=[]:=List.length_eq_zero_iff.1 h
theorem cnt_no {n:Int} (h:cntB false n=true):n=0:=by simpa [cntB] using h
theorem cnt_yes {n:Int} (h:cntB true n=true):0≤n∧n≤999999999:=by simpa [cntB] using h
theorem tail_inv {lo hi tr:Int} {ty ct:Bool} {w:ByteArray} {a b:Nat} {n:Int} (h:tailF ⟨w,lo,hi,tr,ty,ct⟩ a b n=true):lo≤a∧(a:Int)≤hi∧(b:Int)=tr∧cntB ct n=true:=by
 simpa [tailF] using h
theorem right_tail {x:It} {f:Fm} (hf:formI x.kind=some f) (h:rightI x=true):tailF f x.words.length x.nodes.length x.num=true:=by
 rw[rightI_eq] at h
 simp only[Bool.and_eq_true] at h
 have:=h.2.2
 unfold tailB at this
 rw[hf] at this
 exact this
def BT (L:List Tk) (s:ByteArray) (x:It):Prop:=∀(i:Nat) (R:List Tx),VL L i=bTok x++(3,[59])::R→
 (dI x≤60→∃ns,bodyP L s x.kind (ok0 i)=((x.words,ns,x.num),ok0 (i+(bTok x).length))∧Nd.sames ns x.nodes=true)∧(60<dI x→(bodyP L s x.kind (ok0 i)).2.2.1=2)
theorem body_named {k a:Int} {w:ByteArray} {ns:List Nd} {f:St→List Nd×St} (hk:∀st,bodyP L s k st=(((namedP L s st).1,(f (namedP L s st).2).1,0),(f (namedP L s st).2).2))
  (hb:bTok ⟨k,[w],ns,0,a⟩=(1,bytesI w)::(3,bytesI coW)::R)
  (h:∀i R',VL L i=R++(3,[59])::R'→(dIs k ns≤60→∃ns',f (ok0 i)=(ns',ok0 (i+R.length))∧Nd.sames ns' ns=true)∧(60<dIs k ns→(f (ok0 i)).2.2.1=2)):BT L s ⟨k,[w],ns,0,a⟩:=by
 intro i R' hv
 rw[hb] at hv
 obtain⟨e,hv1⟩:=named_yes (s:=s) hv
 obtain⟨g1,g2⟩:=h (i+2) R' hv1
 show (dIs k ns≤60→∃ns',bodyP L s k _=(([w],ns',(0:Int)),_)∧Nd.sames ns' ns=true)∧(60<dIs k ns→(bodyP L s k _).2.2.1=2)
 rw[hk,e,hb]
 refine⟨fun hd=>?_,fun hd=>g2 hd⟩
 obtain⟨ns',e1,h1⟩:=g1 hd
 refine⟨ns',?_,h1⟩
 dsimp only
 rw[e1,List.length_cons,List.length_cons]
 show (_,ok0 _)=(_,ok0 _)
 congr 2;omega
theorem body_count {k a n:Int} {ns:List Nd} {f:St→List Nd×St} (hn:0≤n∧n≤999999999) (hk:∀st,bodyP L s k st=(([],(f (countedP L s st).2).1,(countedP L s st).1),(f (countedP L s st).2).2))
  (hb:bTok ⟨k,[],ns,n,a⟩=(2,bytesI (numW n))::(3,bytesI coW)::R)
  (h:∀i R',VL L i=R++(3,[59])::R'→(dIs k ns≤60→∃ns',f (ok0 i)=(ns',ok0 (i+R.length))∧Nd.sames ns' ns=true)∧(60<dIs k ns→(f (ok0 i)).2.2.1=2)):BT L s ⟨k,[],ns,n,a⟩:=by
 intro i R' hv
 rw[hb] at hv
 obtain⟨e,hv1⟩:=counted_yes (s:=s) hn hv
 obtain⟨g1,g2⟩:=h (i+2) R' hv1
 show (dIs k ns≤60→∃ns',bodyP L s k _=(([],ns',n),_)∧Nd.sames ns' ns=true)∧(60<dIs k ns→(bodyP L s k _).2.2.1=2)
 rw[hk,e,hb]
 refine⟨fun hd=>?_,fun hd=>g2 hd⟩
 obtain⟨ns',e1,h1⟩:=g1 hd
 refine⟨ns',?_,h1⟩
 dsimp only
 rw[e1,List.length_cons,List.length_cons]
 show (_,ok0 _)=(_,ok0 _)
 congr 2;omega
theorem body_flat {k a n:Int} {ws:List ByteArray} (h:∀i R,VL L i=bTok ⟨k,ws,[],n,a⟩++(3,[59])::R→bodyP L s k (ok0 i)=((ws,[],n),ok0 (i+(bTok ⟨k,ws,[],n,a⟩).length))):BT L s ⟨k,ws,[],n,a⟩:=
 fun i R hv=>⟨fun _=>⟨[],h i R hv,rfl⟩,fun hd=>absurd hd (by show ¬60<0;decide)⟩
theorem body_tok {x:It} (h:rightI x=true):BT L s x:=by
 have hr:=rightI_inv h
 have hf:=@right_tail x
 obtain⟨k,ws,ns,n,a⟩:=x
 have hnd:=hr.nodes
 have fm:=formI_cases k
 dsimp only at hf hnd
 rcases fm with rfl|rfl|rfl|rfl|rfl|rfl|rfl|rfl|rfl|rfl|rfl|rfl|⟨h0,_⟩
 case inr.inr.inr.inr.inr.inr.inr.inr.inr.inr.inr.inr=>
  have:=hr.form
  dsimp only at this
  rw[h0] at this;cases this
 all_goals
  obtain⟨f1,f2,f3,f4⟩:=tail_inv (hf rfl h)
 ·obtain rfl:=len_zero (l:=ns) (by omega)
  obtain rfl:=cnt_no f4
  cases ws with
  |nil=>simp at f1
  |cons w l=>
   refine body_flat fun i R hv=>?_
   have hb:bTok ⟨1,w::l,[],0,a⟩=(1,bytesI w)::l.map wTok:=by
    show tokWs 1 0 (w::l)++([]++[])=_
    rw[tokWs_map (by decide)];simp
   rw[hb] at hv ⊢
   have hv0:VL L i=(1,bytesI w)::(l.map wTok++(3,[59])::R):=hv
   show (((wordsP L s (ok0 i)).1,[],(0:Int)),(wordsP L s (ok0 i)).2)=_
   have hv1:=(VL_cons (s:=s) hv0).2.2.2
   rw[wordsP,wordS_yes hv0]
   dsimp only
   rw[ws_tok l _ _ _ hv1 (by omega)]
   show (_,ok0 _)=(_,ok0 _)
   congr 2;simp;omega
 ·obtain⟨t,rfl⟩:=len_one (l:=ns) (by omega)
  obtain⟨w,rfl⟩:=len_one (l:=ws) (by omega)
  obtain rfl:=cnt_no f4
  have ht:=hnd t List.mem_cons_self
  exact body_named (R:=tokT t) (fun st=>rfl) (by show [wTok w]++([]++((3,[58])::(tokT t++[])))=_;simp;rfl) fun i R hv=>by rw[dIs_one];exact⟨fun hd=>by obtain⟨t',e⟩:=(type_tok ht hv).1 hd;exact⟨_,e⟩,(type_tok ht hv).2⟩
 ·obtain⟨t,rfl⟩:=len_one (l:=ns) (by omega)
  obtain⟨w,rfl⟩:=len_one (l:=ws) (by omega)
  obtain rfl:=cnt_no f4
  have ht:=hnd t List.mem_cons_self
  exact body_named (R:=tokT t) (fun st=>rfl) (by show [wTok w]++([]++((3,[58])::(tokT t++[])))=_;simp;rfl) fun i R hv=>by rw[dIs_one];exact⟨fun hd=>by obtain⟨t',e⟩:=(type_tok ht hv).1 hd;exact⟨_,e⟩,(type_tok ht hv).2⟩
 ·obtain⟨x,y,rfl⟩:=len_two (l:=ns) (by omega)
  obtain⟨w,rfl⟩:=len_one (l:=ws) (by omega)
  obtain rfl:=cnt_no f4
  have hx:=hnd x (by simp)
  have hy:=hnd y (by simp)
  refine body_named (R:=tokM x++(3,bytesI eqW)::tokM y) (fun st=>rfl) (by show [wTok w]++([]++((3,[58])::(tokM x++(3,[61])::(tokM y++[]))))=_;rw[List.append_nil (tokM y)];rfl) fun i R hv=>?_
  rw[List.append_assoc] at hv
  obtain⟨g1,g2⟩:=terms_tok hx hy (w:=eqW) (by decide) (by decide) hv
  rw[dIs_two rfl]
  refine⟨fun hd=>?_,g2⟩
  obtain⟨x',y',e,h1⟩:=g1 hd
  refine⟨_,?_,h1⟩
  rw[e];simp;omega
 ·obtain⟨x,y,rfl⟩:=len_two (l:=ns) (by omega)
  obtain⟨w,rfl⟩:=len_one (l:=ws) (by omega)
  obtain rfl:=cnt_no f4
  have hx:=hnd x (by simp)
  have hy:=hnd y (by simp)
  refine body_named (R:=tokM x++(3,bytesI gtW)::tokM y) (fun st=>rfl) (by show [wTok w]++([]++((3,[58])::(tokM x++(3,[62])::(tokM y++[]))))=_;rw[List.append_nil (tokM y)];rfl) fun i R hv=>?_
  rw[List.append_assoc] at hv
  obtain⟨g1,g2⟩:=terms_tok hx hy (w:=gtW) (by decide) (by decide) hv
  rw[dIs_two rfl]
  refine⟨fun hd=>?_,g2⟩
  obtain⟨x',y',e,h1⟩:=g1 hd
  refine⟨_,?_,h1⟩
  rw[e];simp;omega
 ·obtain rfl:=len_zero (l:=ns) (by omega)
  obtain rfl:=cnt_no f4
  clear f2
  rcases ws with _|⟨w,_|⟨v,l⟩⟩
  ·exact absurd f1 (by simp)
  ·exact absurd f1 (by simp)
  ·skip
   refine body_flat fun i R hv=>?_
   have hb:bTok ⟨6,w::v::l,[],0,a⟩=(1,bytesI w)::(3,bytesI gtW)::(1,bytesI v)::chTok l:=by
    show tokWs 6 0 (w::v::l)++([]++[])=_
    rw[List.append_nil,List.append_nil,tokWs,if_neg (by simp),tokWs_ch (v::l) 0];rfl
   rw[hb] at hv ⊢
   have hv0:VL L i=(1,bytesI w)::(3,bytesI gtW)::(1,bytesI v)::(chTok l++(3,[59])::R):=hv
   have hv1:=(VL_cons (s:=s) hv0).2.2.2
   have hv2:=(VL_cons (s:=s) hv1).2.2.2
   have hv3:=(VL_cons (s:=s) hv2).2.2.2
   show (((chainP L s (ok0 i)).1,[],(0:Int)),(chainP L s (ok0 i)).2)=_
   rw[chainP,wordS_yes hv0]
   dsimp only
   rw[mustS_yes hv1]
   rw[wordS_yes hv2]
   dsimp only
   rw[ch_tok l _ _ _ hv3 (by omega)]
   show (_,ok0 _)=(_,ok0 _)
   congr 2;simp;omega
 ·obtain rfl:=len_zero (l:=ns) (by omega)
  obtain⟨w,v,rfl⟩:=len_two (l:=ws) (by omega)
  obtain rfl:=cnt_no f4
  refine body_flat fun i R hv=>?_
  have hv0:VL L i=(1,bytesI w)::(1,bytesI v)::(3,[59])::R:=hv
  have hv1:=(VL_cons (s:=s) hv0).2.2.2
  show (([(wordS L s (ok0 i)).1,(wordS L s (wordS L s (ok0 i)).2).1],[],(0:Int)),(wordS L s (wordS L s (ok0 i)).2).2)=_
  rw[wordS_yes hv0]
  dsimp only
  rw[wordS_yes hv1];rfl
 ·obtain rfl:=len_zero (l:=ns) (by omega)
  obtain rfl:=len_zero (l:=ws) (by omega)
  refine body_flat fun i R hv=>?_
  have hv0:VL L i=(2,bytesI (numW n))::(3,[59])::R:=hv
  show (([],[],(numP L s (ok0 i)).1),(numP L s (ok0 i)).2)=_
  rw[num_yes (cnt_yes f4) hv0];rfl
 ·obtain⟨t,rfl⟩:=len_one (l:=ns) (by omega)
  obtain rfl:=len_zero (l:=ws) (by omega)
  have ht:=hnd t List.mem_cons_self
  exact body_count (R:=tokM t) (cnt_yes f4) (fun st=>rfl) (by show []++([(2,bytesI (numW n))]++((3,[58])::(tokM t++[])))=_;simp;rfl) fun i R hv=>by rw[dIs_one];exact⟨fun hd=>by obtain⟨t',e⟩:=(one_tok ht hv).1 hd;exact⟨_,e⟩,(one_tok ht hv).2⟩
 ·obtain⟨x,y,rfl⟩:=len_two (l:=ns) (by omega)
  obtain rfl:=len_zero (l:=ws) (by omega)
  have hx:=hnd x (by simp)
  have hy:=hnd y (by simp)
  refine body_count (R:=tokM x++(3,bytesI eqW)::tokM y) (cnt_yes f4) (fun st=>rfl) (by show []++([(2,bytesI (numW n))]++((3,[58])::(tokM x++(3,[61])::(tokM y++[]))))=_;rw[List.append_nil (tokM y)];rfl) fun i R hv=>?_
  rw[List.append_assoc] at hv
  obtain⟨g1,g2⟩:=terms_tok hx hy (w:=eqW) (by decide) (by decide) hv
  rw[dIs_two rfl]
  refine⟨fun hd=>?_,g2⟩
  obtain⟨x',y',e,h1⟩:=g1 hd
  refine⟨_,?_,h1⟩
  rw[e];simp;omega
 ·obtain rfl:=len_zero (l:=ns) (by omega)
  obtain rfl:=len_zero (l:=ws) (by omega)
  refine body_flat fun i R hv=>?_
  have hv0:VL L i=(2,bytesI (numW n))::(3,[59])::R:=hv
  show (([],[],(numP L s (ok0 i)).1),(numP L s (ok0 i)).2)=_
  rw[num_yes (cnt_yes f4) hv0];rfl
 ·obtain rfl:=len_zero (l:=ns) (by omega)
  obtain⟨w,rfl⟩:=len_one (l:=ws) (by omega)
  obtain rfl:=cnt_no f4
  refine body_flat fun i R hv=>?_
  have hv0:VL L i=(1,bytesI w)::(3,[59])::R:=hv
  show (([(wordS L s (ok0 i)).1],[],(0:Int)),(wordS L s (ok0 i)).2)=_
  rw[wordS_yes hv0];rfl
theorem begN_word {k:Int} (h:(formI k).isSome=true):begN (beginW k)=k∧k≠0:=by
 rcases formI_cases k with rfl|rfl|rfl|rfl|rfl|rfl|rfl|rfl|rfl|rfl|rfl|rfl|⟨h0,_⟩
 case inr.inr.inr.inr.inr.inr.inr.inr.inr.inr.inr.inr=>rw[h0] at h;cases h
 all_goals decide
theorem item_tok {x:It} (h:rightI x=true) (hv:VL L i=tokI x++R):
  (dI x≤60→∃x',itemP L s (ok0 i)=(x',ok0 (i+(tokI x).length))∧itSame x' x=true)∧(60<dI x→(itemP L s (ok0 i)).2.2.1=2):=by
 have hv0:VL L i=(1,bytesI (beginW x.kind))::(bTok x++(3,bytesI scW)::R):=by rw[hv,tokI_eq];simp;rfl
 obtain⟨hlt,k1,k2,hv1⟩:=VL_cons (s:=s) hv0
 obtain⟨k3,k4⟩:=begN_word (rightI_inv h).form
 have hw:(pk L s i).2.1=beginW x.kind:=bytesI_inj k2
 obtain⟨g1,g2⟩:=body_tok (s:=s) h (i+1) _ hv1
 have e:itemP L s (ok0 i)=(⟨x.kind,(bodyP L s x.kind (ok0 (i+1))).1.1,(bodyP L s x.kind (ok0 (i+1))).1.2.1,(bodyP L s x.kind (ok0 (i+1))).1.2.2,(pk L s i).2.2⟩,mustS L s scW (bodyP L s x.kind (ok0 (i+1))).2):=by
  rw[itemP,show (ok0 i).1=i from rfl,hw,k3,if_pos ⟨k1,k4⟩]
 rw[e]
 refine⟨fun hd=>?_,fun hd=>?_⟩
 ·obtain⟨ns,e1,h1⟩:=g1 hd
  rw[e1]
  dsimp only
  rw[mustS_yes (VL_drop hv1)]
  refine⟨⟨x.kind,x.words,ns,x.num,(pk L s i).2.2⟩,?_,by simp[itSame,h1]⟩
  rw[tokI_eq]
  show (_,ok0 _)=(_,ok0 _)
  congr 2;simp;omega
 ·have:=g2 hd
  dsimp only
  rw[mustS_bad (bad2 this)];exact this
def itSames:List It→List It→Bool
 | [],[]=>true
 |x::l,y::m=>itSame x y&&itSames l m
 |_,_=>false
theorem itSames_app {x y:It}:∀{l m:List It},itSames l m=true→itSame x y=true→itSames (l++[x]) (m++[y])=true
 | [],[],_,h=>by show (itSame x y&&true)=true;rw[h];rfl
 |a::l,b::m,h,h1=>by
  have h:(itSame a b&&itSames l m)=true:=h
  rw[Bool.and_eq_true] at h
  show (itSame a b&&itSames (l++[x]) (m++[y]))=true
  rw[h.1,itSames_app h.2 h1];rfl
def dItems:List It→Nat
 | []=>0
 |x::l=>max (dI x) (dItems l)
theorem its_bad {n:Nat} {l:List It} (h:okS st=false):(itsP L s n l st).2=st:=by
 cases n with
 |zero=>rfl
 |succ n=>rw[itsP,if_neg (by rw[h];simp)]
theorem its_tok:∀(xs:List It) (n:Nat) (l m:List It) (i:Nat),(∀x∈xs,rightI x=true)→VL L i=tokIs xs→i≤L.length→L.length+1≤n+i→l.length+xs.length≤1000→itSames l m=true→
  (dItems xs≤60→∃l',itsP L s n l (ok0 i)=(l',ok0 L.length)∧itSames l' (m++xs)=true)∧(60<dItems xs→(itsP L s n l (ok0 i)).2.2.1=2)
 | [],n,l,m,i,_,hv,hi,hn,_,hs=>by
  refine⟨fun _=>⟨l,?_,by rw[List.append_nil];exact hs⟩,fun h=>absurd h (by show ¬60<0;decide)⟩
  have hi:i=L.length:=by
   rcases Nat.lt_or_ge i L.length with h1|h1
   ·rw[VL,List.drop_eq_getElem_cons h1] at hv;cases hv
   ·omega
  cases n with
  |zero=>rw[hi];rfl
  |succ n=>rw[itsP,show (ok0 i).1=i from rfl,VL_nil (s:=s) hv,if_neg (by simp[endT]),hi]
 |x::xs,n,l,m,i,hr,hv,hi,hn,hl,hs=>by
  have hv0:VL L i=tokI x++tokIs xs:=hv
  obtain⟨g1,g2⟩:=item_tok (s:=s) (hr x List.mem_cons_self) hv0
  have hv1:VL L i=(1,bytesI (beginW x.kind))::(bTok x++[(3,[59])]++tokIs xs):=by rw[hv0,tokI_eq];rfl
  obtain⟨hlt,k1,_,_⟩:=VL_cons (s:=s) hv1
  obtain⟨n,rfl⟩:∃m,n=m+1:=⟨n-1,by omega⟩
  have hlen:(tokI x).length≤L.length-i:=by
   have:=congrArg List.length hv0
   rw[VL,List.length_map,List.length_drop,List.length_append] at this
   omega
  have hl1:1≤(tokI x).length:=by rw[tokI_eq];simp
  have e:itsP L s (n+1) l (ok0 i)=itsP L s n (l++[(itemP L s (ok0 i)).1]) (itemP L s (ok0 i)).2:=by
   rw[List.length_cons] at hl
   rw[itsP,if_pos (by rw[show (ok0 i).1=i from rfl,k1];rfl),if_neg (by omega)]
  rw[e]
  by_cases hd:dI x≤60
  ·obtain⟨x',e1,h1⟩:=g1 hd
   rw[e1]
   have:=its_tok xs n (l++[x']) (m++[x]) (i+(tokI x).length) (fun y hy=>hr y (List.mem_cons_of_mem _ hy)) (VL_drop hv0) (by omega) (by omega) (by rw[List.length_append];simp at hl ⊢;omega) (itSames_app hs h1)
   rw[List.append_assoc] at this
   exact⟨fun h=>this.1 (by rw[dItems] at h;omega),fun h=>this.2 (by rw[dItems] at h;omega)⟩
  ·refine⟨fun h=>by rw[dItems] at h;omega,fun _=>?_⟩
   have:=g2 (by omega)
   rw[its_bad (bad2 this)];exact this
theorem parse_texts {l:List It} (h:∀x∈l,rightI x=true) (hl:l.length≤1000) (hz:(textsS ⟨#[]⟩ l).size≤20000):
  (dItems l≤60→(parseP (textsS ⟨#[]⟩ l)).2.1=0∧itSames (parseP (textsS ⟨#[]⟩ l)).1 l=true)∧(60<dItems l→(parseP (textsS ⟨#[]⟩ l)).2.1=2):=by
 obtain⟨L,e,hL⟩:=texts_split (fun x hx=>rightI_inv (h x hx)) hz
 generalize textsS ⟨#[]⟩ l=s at e ⊢
 obtain⟨g1,g2⟩:=its_tok (L:=L) (s:=s) l (L.length+2) [] [] 0 h (by rw[VL,List.drop_zero,hL]) (Nat.zero_le _) (by omega) (by simpa using hl) rfl
 unfold parseP
 rw[e]
 dsimp only
 rw[if_pos (show noFa.1=0 from rfl)]
 refine⟨fun hd=>?_,fun hd=>?_⟩
 ·obtain⟨l',e1,h1⟩:=g1 hd
  have e2:itsP L s (L.length+2) [] (0,noFa)=(l',ok0 L.length):=e1
  have e3:endP L s (ok0 L.length)=ok0 L.length:=by rw[endP,show (ok0 L.length).1=L.length from rfl,pk_ge (Nat.le_refl _),if_pos (show (endT s).1=4 from rfl)]
  rw[e2]
  dsimp only
  rw[e3,if_pos (show okS (ok0 L.length)=true from rfl)]
  exact⟨rfl,h1⟩
 ·have hb:(itsP L s (L.length+2) [] (0,noFa)).2.2.1=2:=g2 hd
  have e3:endP L s (itsP L s (L.length+2) [] (0,noFa)).2=(itsP L s (L.length+2) [] (0,noFa)).2:=by
   rw[endP];split
   ·rfl
   ·rw[failS,if_neg (by rw[bad2 hb];decide)]
  rw[e3,if_neg (by rw[bad2 hb];decide)]
  exact hb
end Go.Proofs.YtghnkppcncbddaaGreatDoor

namespace Go.Proofs.YtghnkppcncbddaaGreatDoor
open Go
set_option linter.unusedSimpArgs false
set_option linter.unusedVariables false
theorem size2 {w:ByteArray} {k a:Int} {x y:Nd}:(Nd.mk k w a [x,y]).size=1+(x.size+y.size):=size_two
theorem dItems_le {l:List It} {n:Nat} (h:∀x∈l,dI x≤n):dItems l≤n:=by
 induction l with
 |nil=>exact Nat.zero_le _
 |cons x l ih=>
  have h1:=ih fun u hu=>h u (List.mem_cons_of_mem _ hu)
  have h2:=h x List.mem_cons_self
  rw[dItems];omega
mutual
theorem Nd.same_size:∀{t u:Nd},t.same u=true→t.size=u.size
 | .mk _ _ _ l,.mk _ _ _ l',h=>by
  rw[Nd.same,Bool.and_eq_true,Bool.and_eq_true] at h
  rw[Nd.size_eq,Nd.size_eq]
  have:=Nd.sames_size (l:=l) (l':=l') h.2.2
  show 1+Nd.sizes l=1+Nd.sizes l'
  rw[this]
theorem Nd.sames_size:∀{l l':List Nd},Nd.sames l l'=true→Nd.sizes l=Nd.sizes l'
 | [],[],_=>rfl
 | [],_::_,h=>by rw[Nd.sames] at h;cases h;all_goals simp
 |_::_,[],h=>by rw[Nd.sames] at h;cases h;all_goals simp
 |t::l,t'::l',h=>by
  rw[Nd.sames,Bool.and_eq_true] at h
  rw[Nd.sizes,Nd.sizes,Nd.same_size h.1,Nd.sames_size h.2]
end
theorem itSames_len:∀{l m:List It},itSames l m=true→l.length=m.length
 | [],[],_=>rfl
 | [],_::_,h=>by cases h
 |_::_,[],h=>by cases h
 |x::l,y::m,h=>by
  have h:(itSame x y&&itSames l m)=true:=h
  rw[Bool.and_eq_true] at h
  rw[List.length_cons,List.length_cons,itSames_len h.2]
theorem itSames_at:∀{l m:List It} {k:Nat} (h:itSames l m=true) (h1:k<l.length) (h2:k<m.length),itSame l[k] m[k]=true
 |x::l,y::m,0,h,_,_=>by
  have h:(itSame x y&&itSames l m)=true:=h
  rw[Bool.and_eq_true] at h;exact h.1
 |x::l,y::m,k+1,h,h1,h2=>by
  have h:(itSame x y&&itSames l m)=true:=h
  rw[Bool.and_eq_true] at h;exact itSames_at h.2 (by simpa using h1) (by simpa using h2)
theorem itSame_bd {x y:It} (h:itSame x y=true):x.words.length=y.words.length∧Nd.sizes x.nodes=Nd.sizes y.nodes:=by
 simp only[itSame,Bool.and_eq_true,decide_eq_true_eq] at h
 exact⟨by rw[h.2.2.1],Nd.sames_size h.2.2.2⟩
theorem itsW_app (a b:List It):itsW (a++b)=itsW a+itsW b:=by
 induction a with
 |nil=>simp[itsW]
 |cons y a ih=>rw[List.cons_append,itsW,itsW,ih];omega
end Go.Proofs.YtghnkppcncbddaaGreatDoor

namespace Go.Proofs.YtghnkppcncbddaaGreatDoor
open Go
set_option linter.unusedSimpArgs false
set_option linter.unusedVariables false
variable {L:List Tk} {s w:ByteArray} {i n:Nat} {st:St}
def WL:List Tk→Nat
 | []=>0
 |t::l=>(t.2.1.size+5)+WL l
theorem WL_app:∀a b:List Tk,WL (a++b)=WL a+WL b
 | [],b=>by simp[WL]
 |t::a,b=>by rw[List.cons_append,WL,WL,WL_app a b];omega
def GdT (t:Tk):Prop:=(t.1=1→isWord t.2.1=true)∧(t.1=2→(bytesI t.2.1).all isDigit=true∧(bytesI t.2.1).length≠0∧(bytesI t.2.1).length≤9)
def Gd (L:List Tk):Prop:=∀t∈L,GdT t
theorem takeWhile_all {p:Int→Bool}:∀{l:List Int} {n:Nat},n=(l.takeWhile p).length→(l.take n).all p=true
 | [],n,_=>by simp
 |c::l,n,h=>by
  rw[List.takeWhile_cons] at h
  split at h
  ·rename_i hc
   rw[List.length_cons] at h
   subst h
   rw[List.take_succ_cons,List.all_cons,hc,takeWhile_all rfl];rfl
  ·subst h;rfl
theorem tokN_good {l:List Int} {k n:Nat} (h:tokN l=(k,n)) (hn:n≠0) (hb:¬((k=1∧30<n)∨(k=2∧9<n))):(k=1→∃c r,l.take n=c::r∧isLetter c=true∧r.all isInner=true∧r.length≤29)∧(k=2→(l.take n).all isDigit=true∧(l.take n).length≠0∧(l.take n).length≤9):=by
 have hle:=tokN_le l
 rw[h] at hle
 dsimp only at hle
 cases l with
 |nil=>simp at hle;exact(hn hle).elim
 |cons c l=>
  rw[tokN] at h
  split at h
  ·rename_i hc
   obtain⟨rfl,rfl⟩:=Prod.mk.inj h
   refine⟨fun _=>?_,fun e=>by omega⟩
   have hr:runN (c::l)=runN l+1:=by rw[runN_cons,if_pos (letter_inner hc)]
   rw[hr] at hb ⊢
   refine⟨c,l.take (runN l),List.take_succ_cons,hc,takeWhile_all rfl,?_⟩
   rw[List.length_take];omega
  ·split at h
   ·rename_i hc
    obtain⟨rfl,rfl⟩:=Prod.mk.inj h
    refine⟨fun e=>by omega,fun _=>⟨takeWhile_all rfl,?_,?_⟩⟩<;>(rw[List.length_take];omega)
   ·obtain⟨rfl,_⟩:=Prod.mk.inj h
    exact⟨fun e=>by omega,fun e=>by omega⟩
theorem lexF_good {s:ByteArray}:∀(f i:Nat) (acc:List Tk),i≤s.size→WL acc≤6*i→Gd acc→WL (lexF s f i acc).1≤6*s.size∧Gd (lexF s f i acc).1
 |0,i,acc,hi,ha,h=>⟨by rw[lexF];dsimp only;omega,h⟩
 |f+1,i,acc,hi,ha,h=>by
  have hl:=bytesI_len s
  have hle:=skipB_le false ((bytesI s).drop i)
  rw[List.length_drop,hl] at hle
  have hA:i≤lexA s i∧lexA s i≤s.size:=by rw[lexA];omega
  rw[lexF]
  generalize lexA s i=a at hA
  split
  ·exact⟨by dsimp only;omega,h⟩
  split
  ·exact⟨Nat.zero_le _,fun t ht=>by cases ht⟩
  split
  ·exact⟨Nat.zero_le _,fun t ht=>by cases ht⟩
  rename_i h0 hb
  have htl:=tokN_le ((bytesI s).drop a)
  rw[List.length_drop,hl] at htl
  change (lexT s a).2≤_ at htl
  have hsz:(s.extract a (a+(lexT s a).2)).size=(lexT s a).2:=by rw[ByteArray.size_extract];omega
  have hby:bytesI (s.extract a (a+(lexT s a).2))=((bytesI s).drop a).take (lexT s a).2:=by rw[bytesI_extract,Nat.add_sub_cancel_left]
  have hb1:a+(lexT s a).2≤s.size:=by omega
  have hb2:∀k p:Int,WL (acc++[(k,s.extract a (a+(lexT s a).2),p)])≤6*(a+(lexT s a).2):=fun k p=>by rw[WL_app];simp only[WL,hsz];omega
  have hg:=tokN_good (l:=(bytesI s).drop a) (k:=(lexT s a).1) (n:=(lexT s a).2) rfl h0 hb
  refine lexF_good f _ _ hb1 (hb2 _ _) fun t ht=>?_
  rcases List.mem_append.1 ht with ht|ht
  ·exact h t ht
  ·obtain rfl:=List.mem_singleton.1 ht
   refine⟨fun e=>?_,fun e=>?_⟩
   ·obtain⟨c,r,h1,h2,h3,h4⟩:=hg.1 (Int.ofNat.inj e)
    exact(isWord_cons (by dsimp only;rw[hby,h1])).2 ⟨h4,h2,h3⟩
   ·dsimp only
    rw[hby];exact hg.2 (Int.ofNat.inj e)
theorem split_good {s:ByteArray}:WL (splitP s).1≤6*s.size∧Gd (splitP s).1:=by
 rw[splitP]
 split
 ·exact⟨Nat.zero_le _,fun t ht=>by cases ht⟩
 ·have:=lexF_good (s:=s) (s.size+1) 0 [] (Nat.zero_le _) (by simp[WL]) fun t ht=>by cases ht
  rw[finS]
  split
  ·exact this
  ·exact⟨Nat.zero_le _,fun t ht=>by cases ht⟩
def Wi (L:List Tk) (i:Nat):Nat:=WL (L.take i)
theorem Wi_succ (h:i<L.length):Wi L (i+1)=Wi L i+((pk L s i).2.1.size+5):=by
 rw[Wi,Wi,List.take_succ_eq_append_getElem h,WL_app,pk_lt h]
 simp[WL]
theorem Wi_le (L:List Tk) (i:Nat):Wi L i≤WL L:=by
 have:=WL_app (L.take i) (L.drop i)
 rw[List.take_append_drop] at this
 rw[Wi];omega
theorem ok_back {α:Type} {f:St→α×St} (hb:∀{st},okS st=false→(f st).2=st) (h:okS (f st).2=true):okS st=true:=by
 cases hs:okS st with
 |true=>rfl
 |false=>rw[hb hs,hs] at h;cases h
theorem tokS_inv (hp:PE L s) {k:Int} (hk:k≠4) (h:okS (tokS L s k st).2=true):okS st=true∧tokS L s k st=(pk L s st.1,(st.1+1,st.2))∧(pk L s st.1).1=k∧st.1<L.length:=by
 have ho:okS st=true:=ok_back tokS_bad h
 rw[tokS,if_pos ho] at h ⊢
 split
 ·rename_i hk1
  exact⟨ho,rfl,hk1,pk_in hp (by rw[hk1];exact hk)⟩
 ·rename_i hk1
  rw[if_neg hk1] at h
  rw[failS_ok (by decide) ho] at h;cases h
theorem isT_inv {t:Tk} (h:isT w t=true):t.2.1=w∧t.1≠4:=by
 simp only[isT,Bool.and_eq_true,Bool.or_eq_true,decide_eq_true_eq,beq_iff_eq] at h
 exact⟨h.2,by rcases h.1 with e|e<;>rw[e]<;>decide⟩
theorem mustS_inv (hp:PE L s) (h:okS (mustS L s w st)=true):okS st=true∧mustS L s w st=(st.1+1,st.2)∧Wi L (st.1+1)=Wi L st.1+(w.size+5):=by
 have ho:okS st=true:=by
  cases hs:okS st with
  |true=>rfl
  |false=>rw[mustS_bad hs,hs] at h;cases h
 rw[mustS,if_pos ho] at h ⊢
 split
 ·rename_i hk1
  obtain⟨e1,e2⟩:=isT_inv hk1
  exact⟨ho,rfl,by rw[Wi_succ (s:=s) (pk_in hp e2),e1]⟩
 ·rename_i hk1
  rw[if_neg hk1] at h
  rw[failS_ok (by decide) ho] at h;cases h
theorem nextS_inv (hp:PE L s):((nextS L s w st).1=true∧nextS L s w st=(true,(st.1+1,st.2))∧Wi L (st.1+1)=Wi L st.1+(w.size+5))∨nextS L s w st=(false,st):=by
 rw[nextS]
 split
 ·rename_i h
  rw[Bool.and_eq_true] at h
  obtain⟨e1,e2⟩:=isT_inv h.2
  exact .inl ⟨rfl,rfl,by rw[Wi_succ (s:=s) (pk_in hp e2),e1]⟩
 ·exact .inr rfl
theorem Gd.at (hg:Gd L) (h:i<L.length):GdT (pk L s i):=by rw[pk_lt h];exact hg _ (List.getElem_mem h)
theorem wordS_inv (hp:PE L s) (hg:Gd L) (h:okS (wordS L s st).2=true):okS st=true∧isWord (wordS L s st).1=true∧(wordS L s st).2=(st.1+1,st.2)∧Wi L (st.1+1)=Wi L st.1+((wordS L s st).1.size+5):=by
 obtain⟨h1,h2,h3,h4⟩:=tokS_inv hp (by decide) h
 rw[wordS,h2]
 exact⟨h1,(hg.at h4).1 h3,rfl,Wi_succ h4⟩
theorem atom_inv (hp:PE L s) (hg:Gd L) {f:St→Nd×St} (h:okS (atomP L s f st).2=true):
  (∃w a,atomP L s f st=(.mk 1 w a [],(st.1+1,st.2))∧isWord w=true∧Wi L (st.1+1)=Wi L st.1+(w.size+5))∨
  (okS (f (st.1+1,st.2)).2=true∧(atomP L s f st).1=(f (st.1+1,st.2)).1∧Wi L (st.1+1)=Wi L st.1+6∧Wi L (atomP L s f st).2.1=Wi L (f (st.1+1,st.2)).2.1+6):=by
 unfold atomP at h ⊢
 rcases nextS_inv (w:=lpW) (st:=st) hp with⟨_,e,hw⟩|e
 ·rw[e] at h ⊢
  dsimp only at h ⊢
  obtain⟨h1,h2,h3⟩:=mustS_inv hp h
  exact .inr ⟨h1,rfl,hw,by rw[h2];exact h3⟩
 ·rw[e] at h ⊢
  dsimp only at h ⊢
  obtain⟨h1,h2,h3,h4⟩:=tokS_inv hp (by decide) h
  rw[h2]
  exact .inl ⟨_,_,rfl,(hg.at h4).1 h3,Wi_succ h4⟩
theorem inT_sz (b:Bool) (s:ByteArray):(inT b s).size=if b=true then s.size+2 else s.size:=by
 cases b
 ·rfl
 ·show (((⟨#[40]⟩:ByteArray)++s)++(⟨#[41]⟩:ByteArray)).size=_
  simp only[bsz];show 1+s.size+1=s.size+2;omega
def TyGd (L:List Tk) (n:Nat) (i j:Nat) (t:Nd):Prop:=rightT t=true∧dT t≤n∧Wi L i+(txtT t).size+1≤Wi L j∧Wi L i+t.size+1≤Wi L j
theorem name_size {w:ByteArray} {k a:Int}:(Nd.mk k w a []).size=1:=by rw[Nd.size_eq];rfl
theorem typ_inv (hp:PE L s) (hg:Gd L):∀(n:Nat) (st:St),okS (typP L s n st).2=true→TyGd L n st.1 (typP L s n st).2.1 (typP L s n st).1:=by
 intro n
 induction n with
 |zero=>
  intro st h
  have ho:okS st=true:=ok_back typP_bad h
  have e:typP L s 0 st=(noN,failS L s 2 st):=by rw[typP,openP,if_pos ho,if_pos rfl]
  rw[e] at h
  rw[failS_ok (by decide) ho] at h;cases h
 |succ n ih=>
  intro st h
  have ho:okS st=true:=ok_back typP_bad h
  have e:typP L s (n+1) st=typB L s (typP L s n) st:=by rw[typP,openP,if_pos ho,if_neg (by decide)]
  rw[e] at h ⊢
  unfold typB at h ⊢
  have at_:okS (atomP L s (typP L s n) st).2=true→rightT (atomP L s (typP L s n) st).1=true∧dT (atomP L s (typP L s n) st).1≤n+1∧((atomP L s (typP L s n) st).1.kind=2→dT (atomP L s (typP L s n) st).1≤n)∧
    Wi L st.1+(inT ((atomP L s (typP L s n) st).1.kind==2) (txtT (atomP L s (typP L s n) st).1)).size+1≤Wi L (atomP L s (typP L s n) st).2.1∧Wi L st.1+(txtT (atomP L s (typP L s n) st).1).size+1≤Wi L (atomP L s (typP L s n) st).2.1∧Wi L st.1+(atomP L s (typP L s n) st).1.size+1≤Wi L (atomP L s (typP L s n) st).2.1:=fun h=>by
   rcases atom_inv hp hg h with⟨w,a,e,h1,h2⟩|⟨h1,e,h2,h3⟩
   ·rw[e]
    dsimp only
    have d1:dT (.mk 1 w a [])=1:=by rw[dT];simp
    refine⟨by rw[rightT_name,h1];rfl,by rw[d1];omega,(fun e=>absurd e (by show ¬(1:Int)=2;decide)),?_,?_,?_⟩
    ·rw[txtT_name];show _+w.size+1≤_;omega
    ·rw[txtT_name];omega
    ·rw[name_size];omega
   ·obtain⟨g1,g2,g3,g4⟩:=ih _ h1
    dsimp only at g3 g4
    rw[e,inT_sz]
    refine⟨g1,by omega,fun _=>g2,?_,by omega,by omega⟩
    split<;>omega
  generalize atomP L s (typP L s n) st=x at h at_ ⊢
  obtain⟨x,st1⟩:=x
  dsimp only at h at_ ⊢
  rcases nextS_inv (w:=arW) (st:=st1) hp with⟨_,e1,hw⟩|e1
  ·rw[e1] at h ⊢
   dsimp only at h ⊢
   obtain⟨g1,g2,g3,g4⟩:=ih _ h
   dsimp only at g3 g4
   have ho1:okS (st1.1+1,st1.2)=true:=ok_back (f:=typP L s n) typP_bad h
   obtain⟨a1,a2,a3,a4,a5,a6⟩:=at_ ho1
   have ea:arW.size=2:=rfl
   refine⟨by rw[rightT_two,a1,g1];rfl,?_,?_,?_⟩
   ·rw[dT_two]
    have:(if(x.kind==2)=true then dT x else 0)≤n:=by
     split
     ·exact a3 (by simpa using ‹(x.kind==2)=true›)
     ·omega
    omega
   ·rw[txtT_two];simp only[bsz]
    have:(⟨#[32,45,62,32]⟩:ByteArray).size=4:=rfl
    omega
   ·rw[size2];omega
  ·rw[e1] at h ⊢
   dsimp only at h ⊢
   obtain⟨a1,a2,_,_,a5,a6⟩:=at_ h
   exact⟨a1,a2,a5,a6⟩
end Go.Proofs.YtghnkppcncbddaaGreatDoor

namespace Go.Proofs.YtghnkppcncbddaaGreatDoor
open Go
set_option linter.unusedSimpArgs false
set_option linter.unusedVariables false
variable {L:List Tk} {s w:ByteArray} {i n:Nat} {st:St}
def TmGd (L:List Tk) (n:Nat) (i j:Nat) (t:Nd):Prop:=rightM t=true∧dM t≤n∧Wi L i+(txtM t).size+1≤Wi L j∧Wi L i+t.size+1≤Wi L j
def AtGd (L:List Tk) (n:Nat) (i j:Nat) (x:Nd):Prop:=rightM x=true∧hM x≤n+1∧((x.kind != 1)=true→dM x≤n)∧Wi L i+(inT (x.kind==3) (txtM x)).size+1≤Wi L j∧Wi L i+(inT (x.kind != 1) (txtM x)).size+1≤Wi L j∧Wi L i+x.size+1≤Wi L j
def ApGd (L:List Tk) (n:Nat) (i j:Nat) (x:Nd):Prop:=rightM x=true∧hM x≤n+1∧Wi L i+(inT (x.kind==3) (txtM x)).size+1≤Wi L j∧Wi L i+x.size+1≤Wi L j
theorem atM_inv (hp:PE L s) (hg:Gd L) {f:St→Nd×St} (ih:∀st,okS (f st).2=true→TmGd L n st.1 (f st).2.1 (f st).1) (h:okS (atomP L s f st).2=true):AtGd L n st.1 (atomP L s f st).2.1 (atomP L s f st).1:=by
 rcases atom_inv hp hg h with⟨w,a,e,h1,h2⟩|⟨h1,e,h2,h3⟩
 ·rw[e]
  refine⟨by rw[rightM_name,h1];rfl,?_,(fun e=>by cases e),?_,?_,?_⟩
  ·show dM _≤_;rw[dM_name];omega
  ·rw[txtM_name];show _+w.size+1≤Wi L (st.1+1);omega
  ·rw[txtM_name];show _+w.size+1≤Wi L (st.1+1);omega
  ·rw[name_size];show _≤Wi L (st.1+1);omega
 ·obtain⟨g1,g2,g3,g4⟩:=ih _ h1
  dsimp only at g3 g4
  rw[e]
  refine⟨g1,?_,fun _=>g2,?_,?_,by omega⟩
  ·rw[hM];split<;>omega
  ·rw[inT_sz];split<;>omega
  ·rw[inT_sz];split<;>omega
theorem apps_inv (hp:PE L s) (hg:Gd L) {f:St→Nd×St} (ih:∀st,okS (f st).2=true→TmGd L n st.1 (f st).2.1 (f st).1):∀(F:Nat) (a:Nd) (st:St),okS (appsP L s f F a st).2=true→ApGd L n i st.1 a→ApGd L n i (appsP L s f F a st).2.1 (appsP L s f F a st).1
 |0,a,st,_,h=>h
 |F+1,a,st,ho,h=>by
  rw[appsP] at ho ⊢
  split
  ·rename_i hc
   rw[if_pos hc] at ho
   have h1:okS (atomP L s f st).2=true:=by
    cases hx:okS (atomP L s f st).2 with
    |true=>rfl
    |false=>rw[appsP_bad hx,hx] at ho;cases ho
   obtain⟨g1,g2,g3,g4,g5,g6⟩:=atM_inv hp hg ih h1
   obtain⟨k1,k2,k3,k4⟩:=h
   refine apps_inv hp hg ih F _ _ ho ?_
   generalize (atomP L s f st).1=x at g1 g2 g3 g4 g5 g6 ⊢
   refine⟨by rw[rightM_two,k1,g1];rfl,?_,?_,?_⟩
   ·show dM _≤_
    rw[dM_two,if_neg (by decide)]
    have:hM a=if(a.kind==3)=true then 1+dM a else dM a:=rfl
    rw[←this]
    have:(if(x.kind != 1)=true then 1+dM x else 1)≤n+1:=by
     split
     ·have:=g3 (by assumption);omega
     ·omega
    omega
   ·show _+(txtM _).size+1≤_
    rw[txtM_two,if_neg (by decide)]
    simp only[bsz]
    have:(⟨#[32]⟩:ByteArray).size=1:=rfl
    omega
   ·rw[size2];omega
  ·exact h
theorem term_inv (hp:PE L s) (hg:Gd L):∀(n:Nat) (st:St),okS (termP L s n st).2=true→TmGd L n st.1 (termP L s n st).2.1 (termP L s n st).1:=by
 intro n
 induction n with
 |zero=>
  intro st h
  have ho:okS st=true:=ok_back termP_bad h
  have e:termP L s 0 st=(noN,failS L s 2 st):=by rw[termP,openP,if_pos ho,if_pos rfl]
  rw[e] at h
  rw[failS_ok (by decide) ho] at h;cases h
 |succ n ih=>
  intro st h
  have ho:okS st=true:=ok_back termP_bad h
  have e:termP L s (n+1) st=termB L s (typP L s n) (termP L s n) st:=by rw[termP,openP,if_pos ho,if_neg (by decide)]
  rw[e] at h ⊢
  unfold termB at h ⊢
  rcases nextS_inv (w:=bsW) (st:=st) hp with⟨_,e1,hw⟩|e1
  ·rw[e1] at h ⊢
   dsimp only at h ⊢
   generalize (pk L s (st.1+1,st.2).1).2.2=a at h ⊢
   unfold lamP at h ⊢
   dsimp only at h ⊢
   obtain⟨m1,m2,m3,m4⟩:=ih _ h
   have o1:=ok_back (f:=termP L s n) termP_bad h
   obtain⟨o2,q1,q2⟩:=mustS_inv hp o1
   obtain⟨t1,t2,t3,t4⟩:=typ_inv hp hg n _ o2
   have o3:=ok_back (f:=typP L s n) typP_bad o2
   obtain⟨o4,q3,q4⟩:=mustS_inv hp o3
   obtain⟨o5,q5,q6,q7⟩:=wordS_inv hp hg o4
   rw[q1] at m3 m4
   rw[q3] at t3 t4
   rw[q6] at q4 t3 t4
   dsimp only at m3 m4 t3 t4 q7 q4
   have e1:bsW.size=1:=rfl
   have e2:coW.size=1:=rfl
   have e3:doW.size=1:=rfl
   rw[q1] at m1 m2 ⊢
   rw[q3,q6] at m1 m2 t1 t2 q2 m3 m4 ⊢
   dsimp only at m1 m2 t1 t2 q2 m3 m4 ⊢
   refine⟨by rw[rightM_two,q5,t1,m1];rfl,?_,?_,?_⟩
   ·rw[dM_two,if_pos (by decide)];omega
   ·rw[txtM_two,if_pos (by decide)]
    simp only[bsz]
    have z1:(⟨#[92]⟩:ByteArray).size=1:=rfl
    have z2:(⟨#[58]⟩:ByteArray).size=1:=rfl
    have z3:(⟨#[46,32]⟩:ByteArray).size=2:=rfl
    omega
   ·rw[size2];omega
  ·rw[e1] at h ⊢
   dsimp only at h ⊢
   have h1:okS (atomP L s (termP L s n) st).2=true:=by
    cases hx:okS (atomP L s (termP L s n) st).2 with
    |true=>rfl
    |false=>rw[appsP_bad hx,hx] at h;cases h
   obtain⟨g1,g2,g3,g4,g5,g6⟩:=atM_inv hp hg ih h1
   obtain⟨k1,k2,k3,k4⟩:=apps_inv (i:=st.1) hp hg ih _ _ _ h ⟨g1,g2,g4,g6⟩
   refine⟨k1,?_,?_,k4⟩
   ·have:∀x:Nd,dM x≤hM x:=fun x=>by rw[hM];split<;>omega
    exact Nat.le_trans (this _) k2
   ·rw[inT_sz] at k3
    split at k3<;>omega
end Go.Proofs.YtghnkppcncbddaaGreatDoor

namespace Go.Proofs.YtghnkppcncbddaaGreatDoor
open Go
set_option linter.unusedSimpArgs false
set_option linter.unusedVariables false
variable {L:List Tk} {s w:ByteArray} {i n:Nat} {st:St}
def wsz (k:Int):Nat→List ByteArray→Nat
 |_,[]=>0
 |i,w::l=>(if 0<i∧k=6 then 3 else 1)+w.size+wsz k (i+1) l
def nz (k n:Int):Nat:=if cntK k=true then 1+(numW n).size else 0
def ndz (k:Int):Nat→List Nd→Nat
 |_,[]=>0
 |i,t::l=>(nSep k i).size+(nTxt k t).size+ndz k (i+1) l
def sw:List ByteArray→Nat
 | []=>0
 |w::l=>(w.size+5)+sw l
theorem wsz_le (k:Int):∀(l:List ByteArray) (i:Nat),wsz k i l≤sw l∧l.length≤sw l
 | [],i=>⟨Nat.le_refl _,Nat.le_refl _⟩
 |w::l,i=>by
  have h:=wsz_le k l (i+1)
  rw[wsz,sw,List.length_cons]
  split<;>omega
theorem wordsS_sz {k:Int}:∀(l:List ByteArray) (i:Nat) (s:ByteArray),(wordsS k s i l).size=s.size+wsz k i l
 | [],i,s=>by rw[wordsS,wsz];rfl
 |w::l,i,s=>by
  have z1:(⟨#[32]⟩:ByteArray).size=1:=rfl
  have z2:(⟨#[32,62]⟩:ByteArray).size=2:=rfl
  rw[wordsS,wordsS_sz l,wsz,wStep]
  split<;>(simp only[bsz];omega)
theorem nodesS_sz {k:Int}:∀(l:List Nd) (i:Nat) (s:ByteArray),(nodesS k s i l).size=s.size+ndz k i l
 | [],i,s=>by rw[nodesS,ndz];rfl
 |t::l,i,s=>by rw[nodesS,nodesS_sz l,ndz];simp only[bsz];omega
theorem numS_sz {k n:Int} {s:ByteArray}:(numS k n s).size=s.size+nz k n:=by
 have z1:(⟨#[32]⟩:ByteArray).size=1:=rfl
 rw[numS,nz]
 split
 ·simp only[bsz];omega
 ·rfl
theorem itTxt_sz (x:It):(itTxt x).size=(beginW x.kind).size+(wsz x.kind 0 x.words+nz x.kind x.num+ndz x.kind 0 x.nodes)+2:=by
 have z1:(⟨#[59,10]⟩:ByteArray).size=2:=rfl
 rw[itTxt]
 simp only[bsz,nodesS_sz,numS_sz,wordsS_sz];omega
theorem right_mk {k n a:Int} {ws:List ByteArray} {ns:List Nd} (h1:∀w∈ws,isWord w=true) (h2:∀t∈ns,(if typesB k=true then rightT t else rightM t)=true) (h3:tailB k ws.length ns.length n=true):rightI ⟨k,ws,ns,n,a⟩=true:=by
 rw[rightI_eq]
 simp only[Bool.and_eq_true,Bool.not_eq_true',List.any_eq_false,nodesB]
 exact⟨fun w hw=>by simp[h1 w hw],fun t ht=>by simp[h2 t ht],h3⟩
theorem valF_lt:∀(l:List Int) (n:Int) (m:Nat),l.all isDigit=true→0≤n→n<(m:Int)→0≤valF n l∧valF n l<((m*10 ^ l.length:Nat):Int)
 | [],n,m,_,h0,h1=>by rw[valF];simpa using ⟨h0,h1⟩
 |c::l,n,m,h,h0,h1=>by
  rw[List.all_cons,Bool.and_eq_true] at h
  have hc:48≤c∧c≤57:=by simpa [isDigit] using h.1
  have:=valF_lt l (10*n+(c-48)) (m*10) h.2 (by omega) (by omega)
  rw[valF,List.length_cons,Nat.pow_succ]
  rw[show m*(10 ^ l.length*10)=m*10*10 ^ l.length by rw[Nat.mul_assoc,Nat.mul_comm 10 (10 ^ l.length)]]
  exact this
theorem numS_inv (hp:PE L s) (hg:Gd L) (h:okS (numP L s st).2=true):okS st=true∧(0≤(numP L s st).1∧(numP L s st).1≤999999999)∧(numP L s st).2=(st.1+1,st.2)∧Wi L st.1+((numW (numP L s st).1).size+5)≤Wi L (st.1+1):=by
 obtain⟨h1,h2,h3,h4⟩:=tokS_inv hp (by decide) h
 obtain⟨g1,g2,g3⟩:=(hg.at (s:=s) h4).2 h3
 have hw:=Wi_succ (s:=s) h4
 have hl:=bytesI_len (pk L s st.1).2.1
 have hv:valP (pk L s st.1)=valF 0 (bytesI (pk L s st.1).2.1):=by
  rw[valP,if_pos ⟨h3,by omega,by omega,by rw[runD_of_all g1];exact hl⟩]
 obtain⟨v1,v2⟩:=valF_lt (bytesI (pk L s st.1).2.1) 0 1 g1 (Int.le_refl _) (by decide)
 rw[numP,h2]
 dsimp only
 rw[hv]
 rw[Nat.one_mul] at v2
 have hpow:10 ^ (bytesI (pk L s st.1).2.1).length≤10 ^ 9:=Nat.pow_le_pow_right (by decide) g3
 have e9:(10:Nat) ^ 9=1000000000:=by decide
 generalize valF 0 (bytesI (pk L s st.1).2.1)=v at v1 v2 ⊢
 obtain⟨u,rfl⟩:∃u:Nat,v=(u:Int):=⟨v.toNat,by omega⟩
 refine⟨h1,⟨by omega,by omega⟩,rfl,?_⟩
 have hd:(Lib.decDigits u).length≤(bytesI (pk L s st.1).2.1).length:=by
  obtain⟨m,hm⟩:∃m,(bytesI (pk L s st.1).2.1).length=m+1:=⟨(bytesI (pk L s st.1).2.1).length-1,by omega⟩
  rw[hm] at v2 ⊢
  exact decDigits_len m u (by omega)
 have hz:(numW (u:Int)).size=(Lib.decDigits u).length:=by
  rw[←bytesI_len]
  have e:bytesI (numW (u:Int))=(Lib.decDigits u).map fun b=>(b.toNat:Int):=by rw[numW_nat];rfl
  rw[e,List.length_map]
 omega
theorem ws_bad {l:List ByteArray} (h:okS st=false):(wsP L s n l st).2=st:=by
 cases n with
 |zero=>rfl
 |succ n=>rw[wsP,if_neg (by rw[h];simp)]
theorem ws_inv (hp:PE L s) (hg:Gd L):∀(n:Nat) (l:List ByteArray) (st:St),okS (wsP L s n l st).2=true→∃m,(wsP L s n l st).1=l++m∧(∀w∈m,isWord w=true)∧Wi L st.1+sw m≤Wi L (wsP L s n l st).2.1
 |0,l,st,_=>⟨[],by rw[wsP,List.append_nil],(fun w hw=>by cases hw),Nat.le_refl _⟩
 |n+1,l,st,h=>by
  rw[wsP] at h ⊢
  split
  ·rename_i hc
   rw[if_pos hc] at h
   have h1:okS (wordS L s st).2=true:=by
    cases hx:okS (wordS L s st).2 with
    |true=>rfl
    |false=>rw[ws_bad hx,hx] at h;cases h
   obtain⟨_,w1,w2,w3⟩:=wordS_inv hp hg h1
   obtain⟨m,e,h2,h3⟩:=ws_inv hp hg n _ _ h
   rw[w2] at h3 e
   dsimp only at h3
   refine⟨(wordS L s st).1::m,by rw[w2,e,List.append_assoc];rfl,fun w hw=>?_,?_⟩
   ·rcases List.mem_cons.1 hw with rfl|hw
    ·exact w1
    ·exact h2 w hw
   ·rw[sw,w2];omega
  ·exact⟨[],by rw[List.append_nil],(fun w hw=>by cases hw),Nat.le_refl _⟩
theorem ch_bad {l:List ByteArray} (h:okS st=false):(chP L s n l st).2=st:=by
 cases n with
 |zero=>rfl
 |succ n=>rw[chP,nextS_bad h,if_neg (by simp)]
theorem ch_inv (hp:PE L s) (hg:Gd L):∀(n:Nat) (l:List ByteArray) (st:St),okS (chP L s n l st).2=true→∃m,(chP L s n l st).1=l++m∧(∀w∈m,isWord w=true)∧Wi L st.1+sw m≤Wi L (chP L s n l st).2.1
 |0,l,st,_=>⟨[],by rw[chP,List.append_nil],(fun w hw=>by cases hw),Nat.le_refl _⟩
 |n+1,l,st,h=>by
  rw[chP] at h ⊢
  rcases nextS_inv (w:=gtW) (st:=st) hp with⟨_,e1,hw⟩|e1
  ·rw[e1,if_pos rfl] at h ⊢
   dsimp only at h ⊢
   have h1:okS (wordS L s (st.1+1,st.2)).2=true:=by
    cases hx:okS (wordS L s (st.1+1,st.2)).2 with
    |true=>rfl
    |false=>rw[ch_bad hx,hx] at h;cases h
   obtain⟨_,w1,w2,w3⟩:=wordS_inv hp hg h1
   obtain⟨m,e,h2,h3⟩:=ch_inv hp hg n _ _ h
   dsimp only at w2
   rw[w2] at h3 e
   dsimp only at h3 w3
   refine⟨(wordS L s (st.1+1,st.2)).1::m,by rw[w2,e,List.append_assoc];rfl,fun w hw=>?_,?_⟩
   ·rcases List.mem_cons.1 hw with rfl|hw
    ·exact w1
    ·exact h2 w hw
   ·rw[sw,w2];omega
  ·rw[e1,if_neg (by simp)]
   exact⟨[],by rw[List.append_nil],(fun w hw=>by cases hw),Nat.le_refl _⟩
def BGd (L:List Tk) (k:Int) (i j:Nat) (b:List ByteArray×List Nd×Int):Prop:=
 (∀a,rightI ⟨k,b.1,b.2.1,b.2.2,a⟩=true)∧dIs k b.2.1≤60∧Wi L i+(sw b.1+nz k b.2.2+ndz k 0 b.2.1)≤Wi L j∧Wi L i+(b.1.length+Nd.sizes b.2.1)≤Wi L j
theorem sep0 {k:Int}:(nSep k 0).size=2:=rfl
theorem sep1 {k:Int}:(nSep k 1).size=3:=by rw[nSep,if_neg (by decide)];split<;>rfl
theorem named_inv (hp:PE L s) (hg:Gd L) (h:okS (namedP L s st).2=true):∃w,namedP L s st=([w],(st.1+2,st.2))∧isWord w=true∧Wi L (st.1+2)=Wi L st.1+(w.size+11):=by
 rw[namedP] at h ⊢
 dsimp only at h ⊢
 obtain⟨o1,q1,q2⟩:=mustS_inv hp h
 obtain⟨_,w1,w2,w3⟩:=wordS_inv hp hg o1
 rw[w2] at q2
 have e1:coW.size=1:=rfl
 rw[q1,w2]
 exact⟨_,rfl,w1,by dsimp only at q2;rw[q2];omega⟩
theorem counted_inv (hp:PE L s) (hg:Gd L) (h:okS (countedP L s st).2=true):∃n,countedP L s st=(n,(st.1+2,st.2))∧(0≤n∧n≤999999999)∧Wi L st.1+((numW n).size+11)≤Wi L (st.1+2):=by
 rw[countedP] at h ⊢
 dsimp only at h ⊢
 obtain⟨o1,q1,q2⟩:=mustS_inv hp h
 obtain⟨_,w1,w2,w3⟩:=numS_inv hp hg o1
 rw[w2] at q2
 have e1:coW.size=1:=rfl
 rw[q1,w2]
 exact⟨_,rfl,w1,by dsimp only at q2;rw[q2];omega⟩
theorem terms_inv (hp:PE L s) (hg:Gd L) (h:okS (termsP L s w st).2=true):∃x y,(termsP L s w st).1=[x,y]∧rightM x=true∧rightM y=true∧dM x≤60∧dM y≤60∧Wi L st.1+((txtM x).size+(txtM y).size+w.size+7)≤Wi L (termsP L s w st).2.1∧Wi L st.1+(x.size+y.size)≤Wi L (termsP L s w st).2.1∧okS st=true:=by
 rw[termsP] at h ⊢
 dsimp only at h ⊢
 obtain⟨m1,m2,m3,m4⟩:=term_inv hp hg 60 _ h
 have o1:=ok_back (f:=termP L s 60) termP_bad h
 obtain⟨o2,q1,q2⟩:=mustS_inv hp o1
 obtain⟨t1,t2,t3,t4⟩:=term_inv hp hg 60 _ o2
 rw[q1] at m1 m2 m3 m4 ⊢
 dsimp only at m3 m4 q2
 exact⟨_,_,rfl,t1,m1,t2,m2,by omega,by omega,ok_back (f:=termP L s 60) termP_bad o2⟩
theorem tail_mk {k:Int} {f:Fm} {a b:Nat} {n:Int} (hf:formI k=some f) (h:f.least≤a∧(a:Int)≤f.most∧(b:Int)=f.trees∧cntB f.count n=true):tailB k a b n=true:=by
 unfold tailB
 rw[hf]
 simp only[tailF,Bool.and_eq_true,Bool.not_eq_true',decide_eq_false_iff_not,bne_eq_false_iff_eq]
 exact⟨by omega,by omega,h.2.2.1,h.2.2.2⟩
theorem cntB_mk {n:Int} (h:0≤n∧n≤999999999):cntB true n=true:=by simpa [cntB] using h
theorem body_inv (hp:PE L s) (hg:Gd L) (hW:WL L≤1000000) {k:Int} (hk:(formI k).isSome=true) (h:okS (bodyP L s k st).2=true):BGd L k st.1 (bodyP L s k st).2.1 (bodyP L s k st).1:=by
 have ndT:∀t,Nd.sizes [t]=t.size:=fun t=>by simp[Nd.sizes]
 have nd2:∀t u,Nd.sizes [t,u]=t.size+u.size:=fun t u=>by simp[Nd.sizes]
 have one:∀{w:ByteArray},isWord w=true→∀v∈[w],isWord v=true:=fun hw v hv=>by rw[List.mem_singleton.1 hv];exact hw
 have named2:∀{k:Int} {v:ByteArray} {f:Fm},formI k=some f→f.least=1→f.most=1→f.trees=2→f.count=false→typesB k=false→cntK k=false→v.size=1→okS (termsP L s v (namedP L s st).2).2=true→
   BGd L k st.1 (termsP L s v (namedP L s st).2).2.1 ((namedP L s st).1,(termsP L s v (namedP L s st).2).1,0):=fun {k v f} hf f1 f2 f3 f4 f5 f6 hv h=>by
  obtain⟨x,y,e,r1,r2,d1,d2,z1,z2,o1⟩:=terms_inv hp hg h
  obtain⟨w,e2,w1,w2⟩:=named_inv hp hg o1
  rw[e2] at e z1 z2 ⊢
  dsimp only at e z1 z2 ⊢
  rw[e]
  refine⟨fun a=>right_mk (one w1) (fun t ht=>?_) (tail_mk hf ⟨by rw[f1];exact Int.le_refl 1,by rw[f2];exact Int.le_refl 1,by rw[f3];rfl,by rw[f4];rfl⟩),?_,?_,?_⟩
  ·rw[f5]
   rcases List.mem_cons.1 ht with rfl|ht
   ·exact r1
   ·rw[List.mem_singleton.1 ht];exact r2
  ·show dIs k [x,y]≤60
   rw[dIs_two f5];omega
  ·show _+(sw [w]+nz k 0+ndz k 0 [x,y])≤_
   simp only[sw,nz,f6,ndz,nTxt,f5,sep0,sep1,Nat.zero_add]
   simp only[Bool.false_eq_true,if_false];omega
  ·show _+(1+Nd.sizes [x,y])≤_
   rw[nd2];omega
 have count:okS (numP L s st).2=true→∀k f,formI k=some f→f.least=0→f.most=0→f.trees=0→f.count=true→cntK k=true→BGd L k st.1 (numP L s st).2.1 ([],[],(numP L s st).1):=fun h k f hf f1 f2 f3 f4 f6=>by
  obtain⟨_,w1,w2,w3⟩:=numS_inv hp hg h
  rw[w2]
  refine⟨fun a=>right_mk (fun w hw=>by cases hw) (fun t ht=>by cases ht) (tail_mk hf ⟨by rw[f1];exact Int.le_refl 0,by rw[f2];exact Int.le_refl 0,by rw[f3];rfl,by rw[f4];exact cntB_mk w1⟩),Nat.zero_le _,?_,?_⟩
  ·show _+(0+nz k (numP L s st).1+0)≤Wi L (st.1+1)
   rw[nz,if_pos f6];omega
  ·show Wi L st.1+(0+0)≤Wi L (st.1+1);omega
 have typed:∀{k:Int} {f:Fm},formI k=some f→f.least=1→f.most=1→f.trees=1→f.count=false→typesB k=true→cntK k=false→okS (oneT (typP L s 60) (namedP L s st).2).2=true→
   BGd L k st.1 (oneT (typP L s 60) (namedP L s st).2).2.1 ((namedP L s st).1,(oneT (typP L s 60) (namedP L s st).2).1,0):=fun {k f} hf f1 f2 f3 f4 f5 f6 h=>by
  obtain⟨t1,t2,t3,t4⟩:=typ_inv hp hg 60 _ h
  obtain⟨w,e2,w1,w2⟩:=named_inv hp hg (ok_back (f:=typP L s 60) typP_bad h)
  rw[e2] at t1 t2 t3 t4 ⊢
  unfold oneT
  dsimp only at t1 t2 t3 t4 ⊢
  generalize (typP L s 60 (st.1+2,st.2)).1=t at t1 t2 t3 t4 ⊢
  refine⟨fun a=>right_mk (one w1) (fun u ht=>?_) (tail_mk hf ⟨by rw[f1];exact Int.le_refl 1,by rw[f2];exact Int.le_refl 1,by rw[f3];rfl,by rw[f4];rfl⟩),?_,?_,?_⟩
  ·rw[f5,List.mem_singleton.1 ht];exact t1
  ·show dIs k [t]≤60
   rw[dIs_one,f5];exact t2
  ·show _+(sw [w]+nz k 0+ndz k 0 [t])≤_
   simp only[sw,nz,f6,ndz,nTxt,f5,sep0,sep1,Nat.zero_add]
   simp only[Bool.false_eq_true,if_false,if_true];omega
  ·show _+(1+Nd.sizes [t])≤_
   rw[ndT];omega
 rcases formI_cases k with rfl|rfl|rfl|rfl|rfl|rfl|rfl|rfl|rfl|rfl|rfl|rfl|⟨h0,_⟩
 case inr.inr.inr.inr.inr.inr.inr.inr.inr.inr.inr.inr=>rw[h0] at hk;cases hk
 ·show BGd L 1 st.1 (wordsP L s st).2.1 ((wordsP L s st).1,[],0)
  have h:okS (wordsP L s st).2=true:=h
  rw[wordsP] at h ⊢
  obtain⟨m,e,h2,h3⟩:=ws_inv hp hg _ _ _ h
  have h1:okS (wordS L s st).2=true:=by
   cases hx:okS (wordS L s st).2 with
   |true=>rfl
   |false=>rw[ws_bad hx,hx] at h;cases h
  obtain⟨_,w1,w2,w3⟩:=wordS_inv hp hg h1
  rw[w2] at h3 e ⊢
  dsimp only at h3
  rw[e]
  have hle:=Wi_le L (wsP L s (L.length+1) [(wordS L s st).1] (st.1+1,st.2)).2.1
  have hm:=(wsz_le 1 m 0).2
  refine⟨fun a=>right_mk (fun w hw=>?_) (fun t ht=>by cases ht) (tail_mk rfl ⟨?_,?_,rfl,rfl⟩),Nat.zero_le _,?_,?_⟩
  ·rcases List.mem_cons.1 hw with rfl|hw
   ·exact w1
   ·exact h2 w hw
  ·show (1:Int)≤((m.length+1:Nat):Int);omega
  ·show ((m.length+1:Nat):Int)≤1073741824;omega
  ·show _+(sw ((wordS L s st).1::m)+0+0)≤_
   rw[sw];omega
  ·show _+(m.length+1+0)≤_
   omega
 ·exact typed rfl rfl rfl rfl rfl rfl rfl h
 ·exact typed rfl rfl rfl rfl rfl rfl rfl h
 ·exact named2 rfl rfl rfl rfl rfl rfl rfl rfl h
 ·exact named2 rfl rfl rfl rfl rfl rfl rfl rfl h
 ·show BGd L 6 st.1 (chainP L s st).2.1 ((chainP L s st).1,[],0)
  have h:okS (chainP L s st).2=true:=h
  rw[chainP] at h ⊢
  obtain⟨m,e,h2,h3⟩:=ch_inv hp hg _ _ _ h
  have h1:okS (wordS L s (mustS L s gtW (wordS L s st).2)).2=true:=by
   cases hx:okS (wordS L s (mustS L s gtW (wordS L s st).2)).2 with
   |true=>rfl
   |false=>rw[ch_bad hx,hx] at h;cases h
  obtain⟨o1,v1,v2,v3⟩:=wordS_inv hp hg h1
  obtain⟨o2,q1,q2⟩:=mustS_inv hp o1
  obtain⟨_,w1,w2,w3⟩:=wordS_inv hp hg o2
  rw[v2] at h3 e ⊢
  dsimp only at h3
  rw[e]
  have hle:=Wi_le L (chP L s (L.length+1) [(wordS L s st).1,(wordS L s (mustS L s gtW (wordS L s st).2)).1] ((mustS L s gtW (wordS L s st).2).1+1,(mustS L s gtW (wordS L s st).2).2)).2.1
  have hm:=(wsz_le 6 m 0).2
  have z:Wi L st.1+((wordS L s st).1.size+5)≤Wi L (mustS L s gtW (wordS L s st).2).1:=by
   rw[q1,q2,w2]
   show _≤Wi L (st.1+1)+_
   omega
  refine⟨fun a=>right_mk (fun w hw=>?_) (fun t ht=>by cases ht) (tail_mk rfl ⟨?_,?_,rfl,rfl⟩),Nat.zero_le _,?_,?_⟩
  ·rcases List.mem_cons.1 hw with rfl|hw
   ·exact w1
   ·rcases List.mem_cons.1 hw with rfl|hw
    ·exact v1
    ·exact h2 w hw
  ·show (2:Int)≤((m.length+1+1:Nat):Int);omega
  ·show ((m.length+1+1:Nat):Int)≤1073741824;omega
  ·show _+(sw ((wordS L s st).1::(wordS L s (mustS L s gtW (wordS L s st).2)).1::m)+0+0)≤_
   rw[sw,sw];omega
  ·show _+(m.length+1+1+0)≤_
   omega
 ·have h:okS (wordS L s (wordS L s st).2).2=true:=h
  obtain⟨o1,v1,v2,v3⟩:=wordS_inv hp hg h
  obtain⟨_,w1,w2,w3⟩:=wordS_inv hp hg o1
  show BGd L 7 st.1 (wordS L s (wordS L s st).2).2.1 ([(wordS L s st).1,(wordS L s (wordS L s st).2).1],[],0)
  have z:Wi L (wordS L s (wordS L s st).2).2.1=Wi L st.1+((wordS L s st).1.size+5)+((wordS L s (wordS L s st).2).1.size+5):=by
   rw[v2];show Wi L ((wordS L s st).2.1+1)=_
   rw[v3,show (wordS L s st).2.1=st.1+1 by rw[w2],w3]
  refine⟨fun a=>right_mk (fun w hw=>?_) (fun t ht=>by cases ht) (tail_mk rfl ⟨Int.le_refl 2,Int.le_refl 2,rfl,rfl⟩),Nat.zero_le _,?_,?_⟩
  ·rcases List.mem_cons.1 hw with rfl|hw
   ·exact w1
   ·rw[List.mem_singleton.1 hw];exact v1
  ·show _+(sw [_,_]+0+0)≤_
   simp only[sw];omega
  ·show _+(2+0)≤_
   omega
 ·exact count h _ _ rfl rfl rfl rfl rfl rfl
 ·have h:okS (oneT (termP L s 60) (countedP L s st).2).2=true:=h
  show BGd L 9 st.1 (oneT (termP L s 60) (countedP L s st).2).2.1 ([],(oneT (termP L s 60) (countedP L s st).2).1,(countedP L s st).1)
  obtain⟨t1,t2,t3,t4⟩:=term_inv hp hg 60 _ h
  obtain⟨n,e2,w1,w2⟩:=counted_inv hp hg (ok_back (f:=termP L s 60) termP_bad h)
  rw[e2] at t1 t2 t3 t4 ⊢
  unfold oneT
  dsimp only at t1 t2 t3 t4 ⊢
  generalize (termP L s 60 (st.1+2,st.2)).1=t at t1 t2 t3 t4 ⊢
  refine⟨fun a=>right_mk (fun w hw=>by cases hw) (fun u ht=>?_) (tail_mk rfl ⟨Int.le_refl 0,Int.le_refl 0,rfl,cntB_mk w1⟩),?_,?_,?_⟩
  ·rw[List.mem_singleton.1 ht];exact t1
  ·show dIs 9 [t]≤60
   rw[dIs_one];exact t2
  ·show _+(0+(1+(numW n).size)+((2+(txtM t).size)+0))≤_
   omega
  ·show _+(0+Nd.sizes [t])≤_
   rw[ndT];omega
 ·have h:okS (termsP L s eqW (countedP L s st).2).2=true:=h
  show BGd L 10 st.1 (termsP L s eqW (countedP L s st).2).2.1 ([],(termsP L s eqW (countedP L s st).2).1,(countedP L s st).1)
  obtain⟨x,y,e,r1,r2,d1,d2,z1,z2,o1⟩:=terms_inv hp hg h
  obtain⟨n,e2,w1,w2⟩:=counted_inv hp hg o1
  rw[e2] at e z1 z2 ⊢
  dsimp only at e z1 z2 ⊢
  rw[e]
  have e1:eqW.size=1:=rfl
  refine⟨fun a=>right_mk (fun w hw=>by cases hw) (fun u ht=>?_) (tail_mk rfl ⟨Int.le_refl 0,Int.le_refl 0,rfl,cntB_mk w1⟩),?_,?_,?_⟩
  ·rcases List.mem_cons.1 ht with rfl|ht
   ·exact r1
   ·rw[List.mem_singleton.1 ht];exact r2
  ·show dIs 10 [x,y]≤60
   rw[dIs_two rfl];omega
  ·show _+(0+(1+(numW n).size)+((2+(txtM x).size)+((3+(txtM y).size)+0)))≤_
   omega
  ·show _+(0+Nd.sizes [x,y])≤_
   rw[nd2];omega
 ·exact count h _ _ rfl rfl rfl rfl rfl rfl
 ·have h:okS (wordS L s st).2=true:=h
  obtain⟨_,w1,w2,w3⟩:=wordS_inv hp hg h
  show BGd L 12 st.1 (wordS L s st).2.1 ([(wordS L s st).1],[],0)
  have z:Wi L (wordS L s st).2.1=Wi L st.1+((wordS L s st).1.size+5):=by rw[w2];exact w3
  refine⟨fun a=>right_mk (one w1) (fun t ht=>by cases ht) (tail_mk rfl ⟨Int.le_refl 1,Int.le_refl 1,rfl,rfl⟩),Nat.zero_le _,?_,?_⟩
  ·show _+(sw [_]+0+0)≤_
   simp only[sw];omega
  ·show _+(1+0)≤_
   omega
theorem posW_inv {w:ByteArray}:∀(l:List ByteArray) (k:Nat),posW w l k ≠ -1→∃j:Nat,posW w l k=((k+j:Nat):Int)∧l[j]?=some w
 | [],k,h=>(h rfl).elim
 |x::l,k,h=>by
  rw[posW] at h ⊢
  split
  ·rename_i e;subst e;exact⟨0,rfl,rfl⟩
  ·rename_i e
   rw[if_neg e] at h
   obtain⟨j,h1,h2⟩:=posW_inv l (k+1) h
   exact⟨j+1,by rw[h1];omega,h2⟩
theorem begN_inv (h:begN w≠0):(formI (begN w)).isSome=true∧beginW (begN w)=w:=by
 unfold begN at h ⊢
 obtain⟨j,h1,h2⟩:=posW_inv (w:=w) kindW 0 (by omega)
 rw[h1]
 have hj:j<12:=by
  have:=(List.getElem?_eq_some_iff.1 h2).1
  exact this
 have hs:j=0∨j=1∨j=2∨j=3∨j=4∨j=5∨j=6∨j=7∨j=8∨j=9∨j=10∨j=11:=by omega
 clear h h1 hj
 rcases hs with rfl|rfl|rfl|rfl|rfl|rfl|rfl|rfl|rfl|rfl|rfl|rfl<;>(obtain rfl:=Option.some.inj h2;exact⟨by decide,by decide⟩)
def ItsGd (L:List Tk) (j:Nat) (l:List It):Prop:=(∀x∈l,rightI x=true∧dI x≤60)∧(∀s,(textsS s l).size≤s.size+Wi L j)∧itsW l≤60*Wi L j∧l.length≤1000
theorem item_inv (hp:PE L s) (hg:Gd L) (hW:WL L≤1000000) (ho:okS st=true) (h:okS (itemP L s st).2=true):rightI (itemP L s st).1=true∧dI (itemP L s st).1≤60∧Wi L st.1+(itTxt (itemP L s st).1).size≤Wi L (itemP L s st).2.1∧60*Wi L st.1+itW (itemP L s st).1≤60*Wi L (itemP L s st).2.1:=by
 unfold itemP at h ⊢
 split
 ·rename_i hc
  rw[if_pos hc] at h
  obtain⟨c1,c2⟩:=hc
  obtain⟨f1,f2⟩:=begN_inv c2
  generalize hk:begN (pk L s st.1).2.1=k at h f1 f2 ⊢
  dsimp only at h ⊢
  obtain⟨o1,q1,q2⟩:=mustS_inv hp h
  obtain⟨b1,b2,b3,b4⟩:=body_inv hp hg hW f1 o1
  rw[q1]
  dsimp only at b1 b2 b3 b4 ⊢
  have hlt:=pk_in (L:=L) (s:=s) (i:=st.1) hp (by rw[c1];decide)
  have hw:=Wi_succ (s:=s) hlt
  generalize (bodyP L s k (st.1+1,st.2)).2=st2 at b3 b4 q2 ⊢
  generalize (bodyP L s k (st.1+1,st.2)).1=b at b1 b2 b3 b4 ⊢
  have e1:scW.size=1:=rfl
  have hz:=(wsz_le k b.1 0).1
  refine⟨b1 _,b2,?_,?_⟩
  ·rw[itTxt_sz]
   dsimp only
   rw[f2];omega
  ·rw[itW]
   dsimp only
   have:(wsz_le k b.1 0).2=(wsz_le k b.1 0).2:=rfl
   have hb:(pk L s st.1).2.1.size≠0:=by rw[←f2];exact beginW_ne f1
   omega
 ·rename_i hc
  rw[if_neg hc,failS_ok (by decide) ho] at h;cases h
theorem its_inv (hp:PE L s) (hg:Gd L) (hW:WL L≤1000000):∀(n:Nat) (l:List It) (st:St),ItsGd L st.1 l→okS (itsP L s n l st).2=true→ItsGd L (itsP L s n l st).2.1 (itsP L s n l st).1
 |0,l,st,h,_=>h
 |n+1,l,st,h,ho=>by
  rw[itsP] at ho ⊢
  split
  ·rename_i hc
   rw[if_pos hc] at ho
   rw[Bool.and_eq_true] at hc
   split
   ·rename_i hl
    rw[if_pos hl,failS_ok (by decide) hc.1] at ho;cases ho
   ·rename_i hl
    rw[if_neg hl] at ho
    have h1:okS (itemP L s st).2=true:=by
     cases hx:okS (itemP L s st).2 with
     |true=>rfl
     |false=>rw[its_bad hx,hx] at ho;cases ho
    obtain⟨g1,g2,g3,g4⟩:=item_inv hp hg hW hc.1 h1
    obtain⟨k1,k2,k3,k4⟩:=h
    refine its_inv hp hg hW n _ _ ⟨fun x hx=>?_,fun s=>?_,?_,?_⟩ ho
    ·rcases List.mem_append.1 hx with hx|hx
     ·exact k1 x hx
     ·rw[List.mem_singleton.1 hx];exact⟨g1,g2⟩
    ·have e:∀(l:List It) (s:ByteArray) (x:It),textsS s (l++[x])=textsS s l++itTxt x:=by
      intro l
      induction l with
      |nil=>intro s x;rfl
      |cons y l ih=>intro s x;rw[List.cons_append,textsS,ih,textsS]
     rw[e]
     simp only[bsz]
     have:=k2 s
     omega
    ·rw[itsW_app]
     simp only[itsW];omega
    ·rw[List.length_append]
     show l.length+1≤1000
     omega
  ·exact h
theorem parse_inv {s:ByteArray} (hs:s.size≤2000) (h:(parseP s).2.1=0):(∀x∈(parseP s).1,rightI x=true∧dI x≤60)∧(textsS ⟨#[]⟩ (parseP s).1).size≤12000∧itsW (parseP s).1≤720000∧(parseP s).1.length≤1000:=by
 rcases split_pe (s:=s) with hp|⟨h1,_⟩
 case inr=>omega
 obtain⟨hW,hg⟩:=split_good (s:=s)
 have nil:(∀x∈([]:List It),rightI x=true∧dI x≤60)∧(textsS ⟨#[]⟩ []).size≤12000∧itsW []≤720000∧([]:List It).length≤1000:=⟨(fun x hx=>by cases hx),by rw[textsS];decide,by simp[itsW],by simp⟩
 unfold parseP at h ⊢
 split
 ·rename_i h0
  rw[if_pos h0] at h
  split
  ·rename_i h1
   have ho:okS (itsP (splitP s).1 s ((splitP s).1.length+2) [] (0,noFa)).2=true:=by
    cases hx:okS (itsP (splitP s).1 s ((splitP s).1.length+2) [] (0,noFa)).2 with
    |true=>rfl
    |false=>
     rw[endP] at h1
     split at h1
     ·rw[hx] at h1;cases h1
     ·rw[failS,if_neg (by rw[hx];decide),hx] at h1;cases h1
   obtain⟨k1,k2,k3,k4⟩:=its_inv hp hg (by omega) _ _ _ ⟨(fun x hx=>by cases hx),(fun s=>by rw[textsS];exact Nat.le_add_right _ _),by simp[itsW],by simp⟩ ho
   have hle:=Wi_le (splitP s).1 (itsP (splitP s).1 s ((splitP s).1.length+2) [] (0,noFa)).2.1
   have:=k2 ⟨#[]⟩
   have e0:(⟨#[]⟩:ByteArray).size=0:=rfl
   exact⟨k1,by dsimp only;omega,by dsimp only;omega,k4⟩
  ·exact nil
 ·exact nil
end Go.Proofs.YtghnkppcncbddaaGreatDoor

namespace Go.Proofs.YtghnkppcncbddaaGreatDoor
open Go
set_option linter.unusedSimpArgs false
set_option linter.unusedVariables false
mutual
theorem Nd.same_symm:∀{t u:Nd},t.same u=true→u.same t=true
 | .mk k w a l,.mk k' w' a' l',h=>by
  rw[Nd.same,Bool.and_eq_true,Bool.and_eq_true] at h
  have:=Nd.sames_symm (l:=l) (l':=l') h.2.2
  have e1:k=k':=by simpa using h.1
  have e2:w=w':=of_decide_eq_true h.2.1
  subst e1;subst e2
  rw[Nd.same,this];simp
theorem Nd.sames_symm:∀{l l':List Nd},Nd.sames l l'=true→Nd.sames l' l=true
 | [],[],_=>rfl
 | [],_::_,h=>by rw[Nd.sames] at h;cases h;all_goals simp
 |_::_,[],h=>by rw[Nd.sames] at h;cases h;all_goals simp
 |t::l,t'::l',h=>by
  rw[Nd.sames,Bool.and_eq_true] at h
  rw[Nd.sames,Nd.same_symm h.1,Nd.sames_symm h.2];rfl
end
theorem itSame_symm {x y:It} (h:itSame x y=true):itSame y x=true:=by
 simp only[itSame,Bool.and_eq_true,decide_eq_true_eq,beq_iff_eq] at h ⊢
 exact⟨h.1.symm,h.2.1.symm,h.2.2.1.symm,Nd.sames_symm h.2.2.2⟩
theorem sames_nil {l:List Nd} (h:Nd.sames l []=true):l=[]:=by
 have:=Nd.sames_len h
 exact List.length_eq_zero_iff.1 this
theorem sames_two {l:List Nd} {x y:Nd} (h:Nd.sames l [x,y]=true):∃x' y',l=[x',y']∧x'.same x=true∧y'.same y=true:=by
 obtain⟨a,b,rfl⟩:=len_two (l:=l) (Nd.sames_len h)
 simp only[Nd.sames,Bool.and_eq_true] at h
 exact⟨a,b,rfl,h.1,h.2.1⟩
theorem same_inv {w w':ByteArray} {k k' a a':Int} {l l':List Nd} (h:(Nd.mk k w a l).same (.mk k' w' a' l')=true):k=k'∧w=w'∧Nd.sames l l'=true:=by
 rw[Nd.same,Bool.and_eq_true,Bool.and_eq_true] at h
 exact⟨by simpa using h.1,of_decide_eq_true h.2.1,h.2.2⟩
theorem same_kind {t u:Nd} (h:t.same u=true):t.kind=u.kind:=by
 cases t;cases u;exact(same_inv h).1
theorem same_T:∀(n:Nat) (t u:Nd),u.size≤n→rightT u=true→t.same u=true→rightT t=true∧txtT t=txtT u:=by
 intro n
 induction n with
 |zero=>intro t u h;have:=u.size_pos;omega
 |succ n ih=>
  intro t u hn hr h
  obtain⟨k,v,b,l⟩:=t
  rcases rightT_inv hr with⟨w,a,rfl,h1⟩|⟨w,a,x,y,rfl,h1,h2,h3⟩
  ·obtain⟨rfl,rfl,h4⟩:=same_inv h
   obtain rfl:=sames_nil h4
   exact⟨by rw[rightT_name,h1];rfl,by rw[txtT_name,txtT_name]⟩
  ·obtain⟨rfl,rfl,h4⟩:=same_inv h
   obtain⟨x',y',rfl,h5,h6⟩:=sames_two h4
   have e:=size2 (k:=2) (a:=a) (w:=v) (x:=x) (y:=y)
   have p1:=x.size_pos
   have p2:=y.size_pos
   obtain⟨i1,i2⟩:=ih x' x (by omega) h2 h5
   obtain⟨i3,i4⟩:=ih y' y (by omega) h3 h6
   exact⟨by rw[rightT_two,i1,i3,h1];rfl,by rw[txtT_two,txtT_two,i2,i4,same_kind h5]⟩
theorem same_M:∀(n:Nat) (t u:Nd),u.size≤n→rightM u=true→t.same u=true→rightM t=true∧txtM t=txtM u:=by
 intro n
 induction n with
 |zero=>intro t u h;have:=u.size_pos;omega
 |succ n ih=>
  intro t u hn hr h
  obtain⟨k,v,b,l⟩:=t
  rcases rightM_inv hr with⟨w,a,rfl,h1⟩|⟨w,a,x,y,rfl,h1,h2,h3⟩|⟨w,a,x,y,rfl,h1,h2,h3⟩
  ·obtain⟨rfl,rfl,h4⟩:=same_inv h
   obtain rfl:=sames_nil h4
   exact⟨by rw[rightM_name,h1];rfl,by rw[txtM_name,txtM_name]⟩
  ·obtain⟨rfl,rfl,h4⟩:=same_inv h
   obtain⟨x',y',rfl,h5,h6⟩:=sames_two h4
   have e:=size2 (k:=3) (a:=a) (w:=v) (x:=x) (y:=y)
   have p1:=x.size_pos
   have p2:=y.size_pos
   obtain⟨i1,i2⟩:=same_T _ x' x (Nat.le_refl _) h2 h5
   obtain⟨i3,i4⟩:=ih y' y (by omega) h3 h6
   exact⟨by rw[rightM_two,i1,i3,h1];rfl,by rw[txtM_two,txtM_two,i2,i4,if_pos (by decide),if_pos (by decide)]⟩
  ·obtain⟨rfl,rfl,h4⟩:=same_inv h
   obtain⟨x',y',rfl,h5,h6⟩:=sames_two h4
   have e:=size2 (k:=4) (a:=a) (w:=v) (x:=x) (y:=y)
   have p1:=x.size_pos
   have p2:=y.size_pos
   obtain⟨i1,i2⟩:=ih x' x (by omega) h2 h5
   obtain⟨i3,i4⟩:=ih y' y (by omega) h3 h6
   exact⟨by rw[rightM_two,i1,i3,h1];rfl,by rw[txtM_two,txtM_two,if_neg (by decide),if_neg (by decide),i2,i4,same_kind h5,same_kind h6]⟩
theorem sames_nodes {k:Int}:∀{l' l:List Nd} (s:ByteArray) (i:Nat),Nd.sames l' l=true→(∀t∈l,(if typesB k=true then rightT t else rightM t)=true)→
  (∀t∈l',(if typesB k=true then rightT t else rightM t)=true)∧nodesS k s i l'=nodesS k s i l
 | [],[],s,i,_,_=>⟨(fun t ht=>by cases ht),rfl⟩
 | [],_::_,s,i,h,_=>by rw[Nd.sames] at h;cases h;all_goals simp
 |_::_,[],s,i,h,_=>by rw[Nd.sames] at h;cases h;all_goals simp
 |t'::l',t::l,s,i,h,hr=>by
  rw[Nd.sames,Bool.and_eq_true] at h
  have h1:(if typesB k=true then rightT t' else rightM t')=true∧nTxt k t'=nTxt k t:=by
   have:=hr t List.mem_cons_self
   unfold nTxt
   split
   ·rename_i hk;rw[if_pos hk] at this;exact same_T _ t' t (Nat.le_refl _) this h.1
   ·rename_i hk;rw[if_neg hk] at this;exact same_M _ t' t (Nat.le_refl _) this h.1
  have h2:=sames_nodes (k:=k) ((s++nSep k i)++nTxt k t) (i+1) h.2 fun u hu=>hr u (List.mem_cons_of_mem _ hu)
  refine⟨fun u hu=>?_,by rw[nodesS,nodesS,h1.2,h2.2]⟩
  rcases List.mem_cons.1 hu with rfl|hu
  ·exact h1.1
  ·exact h2.1 u hu
theorem same_item {x y:It} (h:itSame x y=true) (hr:rightI y=true):rightI x=true∧itTxt x=itTxt y∧itW x=itW y:=by
 have hbd:=itSame_bd h
 simp only[itSame,Bool.and_eq_true,decide_eq_true_eq,beq_iff_eq] at h
 obtain⟨k,ws,ns,n,a⟩:=x
 obtain⟨k',ws',ns',n',a'⟩:=y
 obtain⟨h1,h2,h3,h4⟩:=h
 dsimp only at h1 h2 h3 h4 hbd
 subst h1;subst h2;subst h3
 have ho:=rightI_inv hr
 obtain⟨g1,g2⟩:=sames_nodes (k:=k) (numS k n (wordsS k (beginW k) 0 ws)) 0 h4 ho.nodes
 rw[rightI_eq] at hr
 simp only[Bool.and_eq_true] at hr
 refine⟨right_mk ho.words g1 (by rw[Nd.sames_len h4];exact hr.2.2),?_,?_⟩
 ·rw[itTxt,itTxt]
  dsimp only
  rw[g2]
 ·rw[itW,itW]
  dsimp only
  rw[hbd.2]
theorem same_items:∀{m l:List It} (s:ByteArray),itSames m l=true→(∀x∈l,rightI x=true)→(∀x∈m,rightI x=true)∧textsS s m=textsS s l∧itsW m=itsW l
 | [],[],s,_,_=>⟨(fun t ht=>by cases ht),rfl,rfl⟩
 | [],_::_,s,h,_=>by cases h
 |_::_,[],s,h,_=>by cases h
 |x::m,y::l,s,h,hr=>by
  have h:(itSame x y&&itSames m l)=true:=h
  rw[Bool.and_eq_true] at h
  obtain⟨h1,h2,h3⟩:=same_item h.1 (hr y List.mem_cons_self)
  obtain⟨h4,h5,h6⟩:=same_items (s++itTxt y) h.2 fun u hu=>hr u (List.mem_cons_of_mem _ hu)
  refine⟨fun u hu=>?_,by rw[textsS,textsS,h2,h5],by rw[itsW,itsW,h3,h6]⟩
  rcases List.mem_cons.1 hu with rfl|hu
  ·exact h1
  ·exact h4 u hu
theorem ShowAgain_calls {s0:ByteArray}:PureIs Tryz.prog 5 [nS s0] (nB true):=by
 have hk:=knownS_calls
 refine vc5_ok ⟨⟨by decide,by split<;>omega,by split<;>omega⟩,?_⟩
 have hc:(s0.extract (Int.toNat 0) (Int.toNat (if(2000:Int)<((s0.size:Nat):Int) then 2000 else((s0.size:Nat):Int)))).size≤2000:=by
  rw[ByteArray.size_extract]
  split
  ·have:Int.toNat 2000=2000:=rfl
   omega
  ·rw[Int.toNat_natCast];omega
 generalize s0.extract (Int.toNat 0) (Int.toNat (if(2000:Int)<((s0.size:Nat):Int) then 2000 else((s0.size:Nat):Int)))=s at hc
 refine⟨_,_,_,_,_,parseText_calls (s:=s) (by omega),ITE.intro (fun _=>⟨_,hk,rfl⟩) fun h1=>?_⟩
 have h1:(parseP s).2.1=0:=by simpa using h1
 obtain⟨k1,k2,k3,k4⟩:=parse_inv hc h1
 generalize (parseP s).1=l at k1 k2 k3 k4 ⊢
 generalize (parseP s).2=f1
 have hr:∀x∈l,rightI x=true:=fun x hx=>(k1 x hx).1
 have hall:l.all rightI=true:=List.all_eq_true.2 hr
 obtain⟨p1,p2⟩:=(parse_texts hr k4 (by omega)).1 (dItems_le fun x hx=>(k1 x hx).2)
 have t1:=Text_calls (l:=l) (by omega)
 rw[hall] at t1
 have pt:=parseText_calls (s:=textsS ⟨#[]⟩ l) (by omega)
 generalize (parseP (textsS ⟨#[]⟩ l)).1=m at p2 pt
 generalize (parseP (textsS ⟨#[]⟩ l)).2=f2 at p1 pt
 obtain⟨m1,m2,m3⟩:=same_items ⟨#[]⟩ p2 hr
 have t2:=Text_calls (l:=m) (by omega)
 rw[List.all_eq_true.2 m1,m2] at t2
 have hlen:=itSames_len p2
 refine⟨_,_,t1,_,_,_,_,_,pt,_,_,t2,_,hk,ITE.neg rfl (ITE.neg rfl (ITE.neg (by rw[p1];rfl) (ITE.neg rfl (ITE.neg (by rw[strEq_self];rfl) (ITE.neg (by rw[List.length_map,List.length_map,hlen];simp) ?_)))))⟩
 refine LoopP.intro (fun j:Nat=>((l.map itAV,m.map itAV,(j:Int),()),((f1.1,f1.2.1,f1.2.2.1,f1.2.2.2,()),(f2.1,f2.2.1,f2.2.2.1,f2.2.2.2,()),()))) (fun j=>j≤l.length) (fun j=>l.length-j) 0 rfl (Nat.zero_le _) ?_
 intro j hj again hag
 dsimp only
 unfold vc5_R11
 rw[List.length_map]
 refine ITE.intro (fun h4=>?_) fun h4=>rfl
 have hltl:j<l.length:=by simpa using h4
 have hltm:j<m.length:=by omega
 have hs:=itSame_symm (itSames_at p2 hltm hltl)
 have hwm:=itsW_mem (List.getElem_mem hltl)
 rw[itW] at hwm
 refine⟨by omega,by omega,_,_,_,_,_,getD_map hltl,by omega,by rw[List.length_map];omega,_,_,_,_,_,getD_map hltm,_,sameIt_calls (x:=l[j]) (y:=m[j]) (by omega) (by omega),ITE.neg (by rw[hs];rfl) ?_⟩
 rw[wrap_n (by omega)]
 exact hag (j+1) (by omega) (by omega)
end Go.Proofs.YtghnkppcncbddaaGreatDoor
