/- Texts of ours laid together for a claim: P1A P1B P1C P1D P1E P1F P90 P91 P92 P93 P94 P96 P80 P97 P98 P1G P1H P1I P1J P1K P1L P1M P1O P1N P1P P1Q P1R. -/
import Derived.Shelf.Small.Strs
import Derived.Lib.ItoaMem
import Derived.KernelRfl
import Derived.Test.YtjhanogfpkbamaaDoorQ46
namespace Go.Proofs.YtjhanogfpkbamaaDoor
open Go
set_option linter.unusedSimpArgs false
set_option linter.unusedVariables false
theorem WriteByte_calls {us:List AV} {c:Int} (h:us.length+1≤1000000000):HFn Tryd.prog 11 [.ptr 0 0,.prim (.int .u8 c)] (bl us)
  (fun r hp'=>r=.top∧hp'=bl (us++[.prim (.int .u8 c)])):=
 HFn.res (R:=fun r hp'=>r=.prim (.nilIface)∧hp'=bl (us++[.prim (.int .u8 c)])) (vc11_ok ⟨_,copyCheck_calls,fun r q ⟨h1,h2⟩=>⟨us,⟨h1,h2⟩,rfl,appOk_one rfl (by rw[List.length_append];simp;omega) (by decide),by rw[List.length_append];simp,rfl,rfl⟩⟩)
  fun r h' ⟨h1,h2⟩=>⟨_,fun w F η hp v _=>.top v,rfl,h2⟩
abbrev PrO (t:ByteArray) (e:Int):List AObj:=prO (strAV t).length (strAV t) e
def endsNL (t:ByteArray):Bool:=decide (t.extract (t.size-1) t.size=(⟨#[10]⟩:ByteArray))
def put1 (t w:ByteArray):ByteArray:=(if(!decide (t=(⟨#[]⟩:ByteArray))&&!endsNL t)=true then t++(⟨#[32]⟩:ByteArray) else t)++w
def puts (t:ByteArray) (l:List ByteArray):ByteArray:=l.foldl put1 t
def wtB:List ByteArray→Nat
 | []=>0
 |w::l=>w.size+1+wtB l
theorem put1_size {t w:ByteArray}:(put1 t w).size≤t.size+(w.size+1):=by
 unfold put1
 split<;>simp only[bsz,sz1]<;>omega
theorem puts_size:∀{l:List ByteArray} {t:ByteArray},(puts t l).size≤t.size+wtB l
 | [],t=>Nat.le_refl _
 |w::l,t=>by
  have h1:=puts_size (l:=l) (t:=put1 t w)
  have h2:=put1_size (t:=t) (w:=w)
  show (puts (put1 t w) l).size≤_
  rw[wtB];omega
theorem puts_app {t:ByteArray} {a b:List ByteArray}:puts t (a++b)=puts (puts t a) b:=List.foldl_append
theorem wtB_app:∀{a b:List ByteArray},wtB (a++b)=wtB a+wtB b
 | [],b=>by simp[wtB]
 |w::a,b=>by rw[List.cons_append,wtB,wtB,wtB_app];omega
theorem puts_take {t:ByteArray} {l:List ByteArray} {k:Nat} (h:k<l.length):puts t (l.take (k+1))=put1 (puts t (l.take k)) l[k]:=by
 rw[←take_snoc' h,puts_app];rfl
theorem wtB_mem {l:List ByteArray} {k:Nat} (h:k<l.length):wtB (l.take k)+(l[k].size+1)≤wtB l:=by
 have e:l.take k++(l[k]::l.drop (k+1))=l:=by rw[←List.drop_eq_getElem_cons h,List.take_append_drop]
 have:=congrArg wtB e
 rw[wtB_app,wtB] at this
 omega
theorem hasSuffix_calls {s:ByteArray} (hs:s.size≤1000000000):PureIs Tryd.prog 19 [nS s,nS (⟨#[10]⟩:ByteArray)] (nB (endsNL s)):=by
 refine vc19_ok ⟨_,vc41_ok (R:=fun r=>r=nB (endsNL s)) (ITE.intro (fun h=>?_) fun h=>?_),rfl⟩
 ·have h:1≤s.size:=by have:=of_decide_eq_true h;rw[sz1] at this;omega
  have w:IntKind.wrap .i64 (((s.size:Nat):Int)-(((⟨#[10]⟩:ByteArray).size:Nat):Int))=((s.size-1:Nat):Int):=by rw[sz1,wrap_i (by omega) (by omega)];omega
  rw[w]
  refine⟨⟨by omega,by omega,by omega⟩,?_⟩
  rw[strEq_iff];rfl
 ·have h:s.size=0:=by have:=of_decide_eq_false h;rw[sz1] at this;omega
  have:endsNL s=false:=by
   unfold endsNL
   refine decide_eq_false fun e=>?_
   have:=congrArg ByteArray.size e
   rw[ByteArray.size_extract,sz1] at this;omega
  rw[this]
theorem put_calls {t:ByteArray} {e:Int} {ws:List ByteArray} (h:∀w∈ws,w.size≠0) (hb:t.size+wtB ws≤100000000):
  HFn Tryd.prog 7 [.ptr 2 0,.sl (ws.map nS)] (PrO t e) (fun r q=>r=.tup []∧q=PrO (puts t ws) e):=by
 have hl:ws.length≤wtB ws:=by
  clear h hb
  induction ws with
  |nil=>simp
  |cons w l ih=>rw[wtB,List.length_cons];omega
 refine vc7_ok ⟨rfl,?_⟩
 rw[List.length_map]
 refine LoopP.intro (fun k:Nat=>(((),ws.map nS,((ws.length:Nat):Int),(k:Int),()),((),strAV (puts t (ws.take k)),((),e,()),()))) (fun k=>k≤ws.length) (fun k=>ws.length-k) 0 rfl (Nat.zero_le _) ?_
 intro k hk again hag
 dsimp only
 refine ITE.intro (fun h1=>?_) fun h1=>?_
 ·have hlt:k<ws.length:=by have:=of_decide_eq_true h1;omega
  have hne:=h _ (List.getElem_mem hlt)
  have hz:=puts_size (l:=ws.take k) (t:=t)
  have hm:=wtB_mem hlt
  have fin:∀{l:List AV},l=strAV (puts t (ws.take (k+1)))→again (((),ws.map nS,((ws.length:Nat):Int),IntKind.wrap .i64 ((k:Int)+1),()),((),l,((),e,()),())):=fun hl=>by
   subst hl
   rw[wrap_n (by omega)]
   exact hag (k+1) hlt (by omega)
  rw[puts_take hlt] at fin
  generalize hT:puts t (ws.take k)=T at hz fin ⊢
  refine⟨by omega,by rw[List.length_map];omega,_,getD_map hlt,_,String_live,fun r q ⟨e1,e2⟩=>⟨_,_,⟨e1,e2⟩,?_⟩⟩
  have plain:(!decide (T=(⟨#[]⟩:ByteArray))&&!endsNL T)=false→callX 20 [.ptr 0 0,nS ws[k]] (bl (strAV T)) fun r66 q67=>∃l68 i69,(r66=.tup [nI i69,.top]∧q67=[.bld 1 (List.length l68),.row 5 1 l68])∧(List.length l68)=List.length l68∧
    again (((),ws.map nS,((ws.length:Nat):Int),IntKind.wrap .i64 ((k:Int)+1),()),((),l68,((),e,()),())):=fun hp=>
   ⟨_,wr_calls hne (by rw[strAV_len];omega),fun r q ⟨e1,e2⟩=>⟨_,_,⟨e1,e2⟩,rfl,fin (by rw[put1,if_neg (by rw[hp];decide),strAV_app])⟩⟩
  refine ITE.intro (fun h2=>?_) fun h2=>?_
  ·rw[strEq_iff] at h2
   refine⟨_,hasSuffix_calls (by omega),ITE.intro (fun h3=>?_) fun h3=>plain (by rw[h2,h3];rfl)⟩
   refine⟨_,WriteByte_calls (by rw[strAV_len];omega),fun r q ⟨e1,e2⟩=>⟨_,⟨e1,e2⟩,_,wr_calls hne (by rw[List.length_append,strAV_len];simp;omega),fun r q ⟨e1,e2⟩=>⟨_,_,⟨e1,e2⟩,rfl,fin ?_⟩⟩⟩
   rw[put1,if_pos (by rw[h2,h3];rfl),strAV_app,strAV_app];rfl
  ·rw[strEq_iff] at h2
   exact plain (by rw[h2];rfl)
 ·have:ws.length≤k:=by have:=of_decide_eq_false h1;omega
  rw[List.take_of_length_le this]
  exact⟨rfl,rfl⟩
theorem putC_calls {t:ByteArray} {e:Int} {ws:List ByteArray} (h:∀w∈ws,w.size≠0) (hb:t.size+wtB ws≤100000000):
  HFn Tryd.prog 7 [.ptr 2 0,.clip (ws.map nS)] (PrO t e) (fun r q=>r=.tup []∧q=PrO (puts t ws) e):=
 HFn.argsW (ys:=[.ptr 2 0,.sl (ws.map nS)]) ⟨RepW.refl _,repW_clip _,True.intro⟩ (put_calls h hb)
def numOk (n:Int):Bool:=decide (0≤n∧n≤999999999)
def errIf (ok:Bool) (e:Int):Int:=if ok=true then e else 1
theorem number_calls {t:ByteArray} {e n:Int} (hn:I64 n):HFn Tryd.prog 21 [.ptr 2 0,nI n] (PrO t e) (fun r q=>r=nS (numW n)∧q=PrO t (errIf (numOk n) e)):=by
 refine vc21_ok (ITE.intro (fun h=>?_) fun h=>ITE.intro (fun h2=>?_) fun h2=>?_)
 ·have h:n<0:=of_decide_eq_true h
  refine⟨_,itoa_calls hn,rfl,?_⟩
  rw[errIf,if_neg];simp[numOk];omega
 ·have h2:n>999999999:=of_decide_eq_true h2
  refine⟨_,itoa_calls hn,rfl,?_⟩
  rw[errIf,if_neg];simp[numOk];omega
 ·have h:=of_decide_eq_false h
  have h2:=of_decide_eq_false h2
  refine⟨_,itoa_calls hn,rfl,?_⟩
  rw[errIf,if_pos];simp[numOk];omega
end Go.Proofs.YtjhanogfpkbamaaDoor

namespace Go.Proofs.YtjhanogfpkbamaaDoor
open Go
set_option linter.unusedSimpArgs false
set_option linter.unusedVariables false
mutual
def Ty.Ok:Ty→Prop
 | .mk l b=>I64 b∧Ty.Oks l
def Ty.Oks:List Ty→Prop
 | []=>True
 |t::l=>Ty.Ok t∧Ty.Oks l
end
mutual
def Tm.Full:Tm→Prop
 | .mk b k i a=>Ty.Oks b∧I64 k∧I64 i∧Tm.Fulls a
def Tm.Fulls:List Tm→Prop
 | []=>True
 |t::l=>Tm.Full t∧Tm.Fulls l
end
theorem Ty.oks_mem:∀{l:List Ty},Ty.Oks l→∀t∈l,t.Ok
 | [],_,t,h=>by cases h
 |u::l,h,t,ht=>by
  rcases List.mem_cons.1 ht with rfl|ht
  ·exact h.1
  ·exact Ty.oks_mem h.2 t ht
theorem Tm.fulls_mem:∀{l:List Tm},Tm.Fulls l→∀t∈l,t.Full
 | [],_,t,h=>by cases h
 |u::l,h,t,ht=>by
  rcases List.mem_cons.1 ht with rfl|ht
  ·exact h.1
  ·exact Tm.fulls_mem h.2 t ht
theorem Ty.ok_eq {t:Ty} (h:t.Ok):I64 t.base∧Ty.Oks t.args:=by cases t;exact h
theorem Tm.full_eq {t:Tm} (h:t.Full):Ty.Oks t.binds∧I64 t.kind∧I64 t.index∧Tm.Fulls t.args:=by cases t;exact h
abbrev lbW:ByteArray:=⟨#[91]⟩
abbrev rbW:ByteArray:=⟨#[93]⟩
abbrev opW:ByteArray:=⟨#[40]⟩
abbrev clW:ByteArray:=⟨#[41]⟩
abbrev laW:ByteArray:=⟨#[92]⟩
abbrev dtW:ByteArray:=⟨#[46]⟩
def pinW {α:Type} (a b:ByteArray) (l:List α) (f:List ByteArray):List ByteArray:=if l.isEmpty=true then[] else a::(f++[b])
def tokTy:Nat→Ty→List ByteArray
 |0,_=>[]
 |d+1,t=>numW t.base::pinW lbW rbW t.args (t.args.flatMap (tokTy d))
def okTy:Nat→Ty→Bool
 |0,_=>false
 |d+1,t=>numOk t.base&&t.args.all (okTy d)
def letW (k:Int):ByteArray:=(⟨#[98,99,109]⟩:ByteArray).extract k.toNat (k.toNat+1)
def kOk (k:Int):Bool:=decide (0≤k∧k<3)
def tokTm:Nat→Tm→List ByteArray
 |0,_=>[]
 |d+1,t=>if kOk t.kind=true then pinW laW dtW t.binds (t.binds.flatMap (tokTy d))++(letW t.kind++numW t.index)::pinW opW clW t.args (t.args.flatMap (tokTm d)) else[]
def okTm:Nat→Tm→Bool
 |0,_=>false
 |d+1,t=>kOk t.kind&&(t.binds.all (okTy d)&&(numOk t.index&&t.args.all (okTm d)))
theorem errIf_and {a b:Bool} {e:Int}:errIf a (errIf b e)=errIf (b&&a) e:=by cases a<;>cases b<;>rfl
theorem flatM_take {α β:Type} {l:List α} {k:Nat} (f:α→List β) (h:k<l.length):(l.take (k+1)).flatMap f=(l.take k).flatMap f++f l[k]:=by rw[←take_snoc' h,List.flatMap_append];simp
theorem all_take {α:Type} {l:List α} {k:Nat} (f:α→Bool) (h:k<l.length):(l.take (k+1)).all f=((l.take k).all f&&f l[k]):=by rw[←take_snoc' h,List.all_append];simp
theorem flat_wt {α:Type} {f:α→List ByteArray} {g:α→Nat}:∀{l:List α},(∀x∈l,wtB (f x)≤g x)→wtB (l.flatMap f)≤(l.map g).sum
 | [],_=>Nat.le_refl _
 |x::l,h=>by
  rw[List.flatMap_cons,wtB_app,List.map_cons,List.sum_cons]
  have h1:=h x List.mem_cons_self
  have h2:=flat_wt (l:=l) fun y hy=>h y (List.mem_cons_of_mem _ hy)
  omega
theorem flat_take_wt {α:Type} {f:α→List ByteArray} {l:List α} {k:Nat} (h:k≤l.length):wtB ((l.take k).flatMap f)≤wtB (l.flatMap f):=by
 have:(l.take k).flatMap f++(l.drop k).flatMap f=l.flatMap f:=by rw[←List.flatMap_append,List.take_append_drop]
 rw[←this,wtB_app];omega
theorem pinW_wt {α:Type} {a b:ByteArray} {l:List α} {f:List ByteArray} (ha:a.size=1) (hb:b.size=1):wtB (pinW a b l f)≤4+wtB f:=by
 unfold pinW
 split
 ·simp[wtB]
 ·rw[wtB,wtB_app,wtB,wtB,ha,hb];omega
theorem Ty.sizes_sum (c:Nat) (l:List Ty):(l.map fun t=>c*t.size).sum=c*Ty.sizes l:=by
 induction l with
 |nil=>rfl
 |cons t l ih=>rw[List.map_cons,List.sum_cons,ih,Ty.sizes,Nat.mul_add]
theorem Tm.sizes_sum (c:Nat) (l:List Tm):(l.map fun t=>c*t.size).sum=c*Tm.sizes l:=by
 induction l with
 |nil=>rfl
 |cons t l ih=>rw[List.map_cons,List.sum_cons,ih,Tm.sizes,Nat.mul_add]
theorem tokTy_wt:∀(d:Nat) (t:Ty),t.Ok→wtB (tokTy d t)≤50*t.size
 |0,t,_=>Nat.zero_le _
 |d+1,t,h=>by
  have hb:=numW_size (Ty.ok_eq h).1
  have h1:=flat_wt (l:=t.args) fun x hx=>tokTy_wt d x (Ty.oks_mem (Ty.ok_eq h).2 x hx)
  rw[Ty.sizes_sum] at h1
  have h2:=pinW_wt (a:=lbW) (b:=rbW) (l:=t.args) (f:=t.args.flatMap (tokTy d)) rfl rfl
  rw[tokTy,wtB,t.size_eq]
  omega
theorem letW_size {k:Int}:(letW k).size≤1:=by
 unfold letW
 rw[ByteArray.size_extract];omega
theorem tokTm_wt:∀(d:Nat) (t:Tm),t.Full→wtB (tokTm d t)≤50*t.size
 |0,t,_=>Nat.zero_le _
 |d+1,t,h=>by
  obtain⟨q1,q2,q3,q4⟩:=Tm.full_eq h
  have hb:=numW_size q3
  have h1:=flat_wt (l:=t.args) fun x hx=>tokTm_wt d x (Tm.fulls_mem q4 x hx)
  rw[Tm.sizes_sum] at h1
  have h2:=pinW_wt (a:=opW) (b:=clW) (l:=t.args) (f:=t.args.flatMap (tokTm d)) rfl rfl
  have h3:=flat_wt (l:=t.binds) fun x hx=>tokTy_wt d x (Ty.oks_mem q1 x hx)
  rw[Ty.sizes_sum] at h3
  have h4:=pinW_wt (a:=laW) (b:=dtW) (l:=t.binds) (f:=t.binds.flatMap (tokTy d)) rfl rfl
  have h5:=letW_size (k:=t.kind)
  rw[tokTm,t.size_eq]
  split
  ·rw[wtB_app,wtB,bsz];omega
  ·exact Nat.zero_le _
theorem dec_ne (u:Nat):Lib.decDigits u≠[]:=by
 rw[Lib.decDigits]
 split<;>simp
theorem numW_ne {k:Int}:(numW k).size≠0:=by
 have h:Lib.itoa k≠[]:=by
  unfold Lib.itoa
  split
  ·simp
  ·exact dec_ne _
 intro e
 exact h (List.eq_nil_of_length_eq_zero (by simpa using (show (Lib.itoa k).toArray.size=0 from e)))
end Go.Proofs.YtjhanogfpkbamaaDoor

namespace Go.Proofs.YtjhanogfpkbamaaDoor
open Go
set_option linter.unusedSimpArgs false
set_option linter.unusedVariables false
def Prints (f:Nat) (args:List AV) (l:List ByteArray) (ok:Bool) (c:Nat):Prop:=
 ∀(t:ByteArray) (e:Int),t.size+c≤100000000→HFn Tryd.prog f args (PrO t e) (fun r q=>r=.tup []∧q=PrO (puts t l) (errIf ok e))
theorem put1_calls {t w:ByteArray} {e:Int} (h:w.size≠0) (hb:t.size+(w.size+1)≤100000000):
  HFn Tryd.prog 7 [.ptr 2 0,.clip [nS w]] (PrO t e) (fun r q=>r=.tup []∧q=PrO (puts t [w]) e):=
 putC_calls (ws:=[w]) (fun x hx=>by rw[List.mem_singleton.1 hx];exact h) (by rw[wtB,wtB];omega)
theorem prTy_calls:∀(d:Nat) (t:Ty),d≤60→t.Ok→t.size≤1000000→Prints 8 [.ptr 2 0,t.enc,nI ((60-d:Nat):Int)] (tokTy d t) (okTy d t) (50*t.size)
 |0,t,_,h,_=>fun b e hb=>by
  rw[Ty.enc_eq]
  exact vc8_ok (ITE.pos rfl ⟨rfl,rfl⟩)
 |d+1,t,hd,h,hz=>fun b e hb=>by
  obtain⟨hi,hl⟩:=Ty.ok_eq h
  have hw:=tokTy_wt (d+1) t h
  have hn:=numW_size hi
  have hsz:=t.size_eq
  have hll:=Ty.sizes_len t.args
  have hfw:=flat_wt (f:=tokTy d) (g:=fun u=>50*u.size) (l:=t.args) fun x hx=>tokTy_wt d x (Ty.oks_mem hl x hx)
  rw[Ty.sizes_sum] at hfw
  rw[Ty.enc_eq]
  refine vc8_ok (ITE.neg ?_ ⟨_,number_calls hi,fun r q ⟨e1,e2⟩=>⟨_,_,_,⟨e1,e2⟩,_,put1_calls numW_ne (by omega),fun r q ⟨e1,e2⟩=>⟨_,_,⟨e1,e2⟩,?_⟩⟩⟩)
  ·rw[beq_eq_false_iff_ne];omega
  rw[List.length_map]
  have hp1:=puts_size (t:=b) (l:=[numW t.base])
  rw[wtB,wtB] at hp1
  refine ITE.intro (fun h1=>?_) fun h1=>?_
  ·have h1:0<t.args.length:=by have:=of_decide_eq_true h1;omega
   have hne:t.args.isEmpty=false:=by cases ha:t.args with|nil=>rw[ha] at h1;simp at h1|cons _ _=>rfl
   refine⟨_,put1_calls (w:=lbW) (by decide) (by rw[sz1];omega),fun r q ⟨e1,e2⟩=>⟨_,_,⟨e1,e2⟩,rfl,?_⟩⟩
   have hp2:=puts_size (t:=puts b [numW t.base]) (l:=[lbW])
   rw[wtB,wtB,sz1] at hp2
   have e0:puts (puts b [numW t.base]) [lbW]=puts b [numW t.base,lbW]:=rfl
   refine LoopP.intro (fun k:Nat=>(((),((60-(d+1):Nat):Int),t.args.map Ty.enc,((t.args.length:Nat):Int),(k:Int),()),((),strAV (puts (puts b [numW t.base,lbW]) ((t.args.take k).flatMap (tokTy d))),((),errIf (numOk t.base&&(t.args.take k).all (okTy d)) e,()),(t.args.map Ty.enc,t.base,()),())))
    (fun k=>k≤t.args.length) (fun k=>t.args.length-k) 0 (by rw[List.take_zero,List.flatMap_nil,List.all_nil,Bool.and_true];rfl) (Nat.zero_le _) ?_
   intro k hk again hag
   dsimp only
   have hfk:=flat_take_wt (f:=tokTy d) hk
   have hp3:=puts_size (t:=puts b [numW t.base,lbW]) (l:=(t.args.take k).flatMap (tokTy d))
   rw[e0] at hp2
   refine ITE.intro (fun h2=>?_) fun h2=>?_
   ·have hlt:k<t.args.length:=by have:=of_decide_eq_true h2;omega
    have hmem:=List.getElem_mem hlt
    have hms:=Ty.sizes_mem hmem
    have hrec:=prTy_calls d t.args[k] (by omega) (Ty.oks_mem hl _ hmem) (by omega) (puts (puts b [numW t.base,lbW]) ((t.args.take k).flatMap (tokTy d))) (errIf (numOk t.base&&(t.args.take k).all (okTy d)) e) (by
     have hfs:=flat_wt (f:=tokTy d) (g:=fun u=>50*u.size) (l:=t.args.take k) fun x hx=>tokTy_wt d x (Ty.oks_mem hl x (List.mem_of_mem_take hx))
     rw[Ty.sizes_sum] at hfs
     have hsum:Ty.sizes (t.args.take k)+t.args[k].size≤Ty.sizes t.args:=by
      have e1:t.args.take k++(t.args[k]::t.args.drop (k+1))=t.args:=by rw[←List.drop_eq_getElem_cons hlt,List.take_append_drop]
      have:=congrArg Ty.sizes e1
      rw[Ty.sizes_append,Ty.sizes] at this;omega
     omega)
    have ew:IntKind.wrap .i64 (((60-(d+1):Nat):Int)+1)=((60-d:Nat):Int):=by rw[wrap_i (by omega) (by omega)];omega
    rw[Ty.enc_eq] at hrec
    rw[ew]
    refine⟨by omega,by rw[List.length_map];omega,_,_,Ty.enc_getD hlt,_,hrec,fun r q ⟨e1,e2⟩=>⟨_,_,⟨e1,e2⟩,rfl,?_⟩⟩
    rw[wrap_n (by omega),←puts_app,errIf_and,Bool.and_assoc,←all_take _ hlt,←flatM_take _ hlt]
    exact hag (k+1) hlt (by omega)
   ·have hge:t.args.length≤k:=by have:=of_decide_eq_false h2;omega
    obtain rfl:k=t.args.length:=by omega
    refine⟨_,put1_calls (w:=rbW) (by decide) (by rw[sz1];omega),fun r q ⟨e1,e2⟩=>⟨_,_,⟨e1,e2⟩,rfl,?_⟩⟩
    rw[List.take_length,tokTy,okTy,pinW,hne,←puts_app,←puts_app]
    rfl
  ·have h1:t.args.length=0:=by have:=of_decide_eq_false h1;omega
   have ha:=List.eq_nil_of_length_eq_zero h1
   rw[tokTy,okTy,ha,List.all_nil,Bool.and_true]
   exact⟨rfl,rfl⟩
end Go.Proofs.YtjhanogfpkbamaaDoor

namespace Go.Proofs.YtjhanogfpkbamaaDoor
open Go
set_option linter.unusedSimpArgs false
set_option linter.unusedVariables false
theorem Tm.sizes_take {l:List Tm} {k:Nat} (h:k<l.length):Tm.sizes (l.take k)+l[k].size≤Tm.sizes l:=by
 have e1:l.take k++(l[k]::l.drop (k+1))=l:=by rw[←List.drop_eq_getElem_cons h,List.take_append_drop]
 have:=congrArg Tm.sizes e1
 rw[Tm.sizes_append,Tm.sizes] at this;omega
theorem Ty.sizes_take {l:List Ty} {k:Nat} (h:k<l.length):Ty.sizes (l.take k)+l[k].size≤Ty.sizes l:=by
 have e1:l.take k++(l[k]::l.drop (k+1))=l:=by rw[←List.drop_eq_getElem_cons h,List.take_append_drop]
 have:=congrArg Ty.sizes e1
 rw[Ty.sizes_append,Ty.sizes] at this;omega
theorem tys_wt {d:Nat} {l:List Ty} (h:Ty.Oks l):wtB (l.flatMap (tokTy d))≤50*Ty.sizes l:=by
 have:=flat_wt (f:=tokTy d) (g:=fun u=>50*u.size) (l:=l) fun x hx=>tokTy_wt d x (Ty.oks_mem h x hx)
 rwa [Ty.sizes_sum] at this
theorem tms_wt {d:Nat} {l:List Tm} (h:Tm.Fulls l):wtB (l.flatMap (tokTm d))≤50*Tm.sizes l:=by
 have:=flat_wt (f:=tokTm d) (g:=fun u=>50*u.size) (l:=l) fun x hx=>tokTm_wt d x (Tm.fulls_mem h x hx)
 rwa [Tm.sizes_sum] at this
theorem Ty.oks_take {l:List Ty} {k:Nat} (h:Ty.Oks l):Ty.Oks (l.take k):=by
 induction l generalizing k with
 |nil=>simp[Ty.Oks]
 |cons t l ih=>cases k with
  |zero=>exact True.intro
  |succ k=>exact⟨h.1,ih h.2⟩
theorem Tm.fulls_take {l:List Tm} {k:Nat} (h:Tm.Fulls l):Tm.Fulls (l.take k):=by
 induction l generalizing k with
 |nil=>simp[Tm.Fulls]
 |cons t l ih=>cases k with
  |zero=>exact True.intro
  |succ k=>exact⟨h.1,ih h.2⟩
theorem isEmpty_pos {α:Type} {l:List α} (h:0<l.length):l.isEmpty=false:=by
 cases l with
 |nil=>simp at h
 |cons _ _=>rfl
abbrev PrR (b:ByteArray) (l:List ByteArray) (ok:Bool) (e:Int):AV→List AObj→Prop:=fun r q=>r=.tup []∧q=PrO (puts b l) (errIf ok e)
theorem prTm_calls:∀(d:Nat) (t:Tm),d≤60→t.Full→t.size≤1000000→Prints 9 [.ptr 2 0,t.enc,nI ((60-d:Nat):Int)] (tokTm d t) (okTm d t) (50*t.size)
 |0,t,_,h,_=>fun b e hb=>by
  rw[Tm.enc_eq]
  exact vc9_ok (ITE.pos rfl ⟨rfl,rfl⟩)
 |d+1,t,hd,h,hz=>fun b e hb=>by
  obtain⟨hbs,hk,hi,hl⟩:=Tm.full_eq h
  have hn:=numW_size hi
  have hsz:=t.size_eq
  have hll:=Tm.sizes_len t.args
  have hlb:=Ty.sizes_len t.binds
  have hfw:=tms_wt (d:=d) hl
  have hfb:=tys_wt (d:=d) hbs
  have hlw:=letW_size (k:=t.kind)
  rw[Tm.enc_eq]
  refine vc9_ok (ITE.neg ?_ (ITE.intro (fun h1=>?_) fun h1=>ITE.intro (fun h2=>?_) fun h2=>?_))
  ·rw[beq_eq_false_iff_ne];omega
  ·have:kOk t.kind=false:=by have:=of_decide_eq_true h1;exact decide_eq_false (by omega)
   rw[tokTm,okTm,this];exact⟨rfl,rfl⟩
  ·have:kOk t.kind=false:=by have:=of_decide_eq_true h2;exact decide_eq_false (by omega)
   rw[tokTm,okTm,this];exact⟨rfl,rfl⟩
  have h1:=of_decide_eq_false h1
  have h2:=of_decide_eq_false h2
  have hkk:kOk t.kind=true:=decide_eq_true (by omega)
  have ewk:IntKind.wrap .i64 (t.kind+1)=t.kind+1:=wrap_i (by omega) (by omega)
  have elet:ByteArray.extract (⟨#[98,99,109]⟩:ByteArray) (Int.toNat t.kind) (Int.toNat (IntKind.wrap .i64 (t.kind+1)))=letW t.kind:=by
   rw[ewk,letW,show Int.toNat (t.kind+1)=t.kind.toNat+1 by omega]
  have bounds:0≤t.kind∧t.kind≤(IntKind.wrap .i64 (t.kind+1))∧(IntKind.wrap .i64 (t.kind+1))≤((⟨#[98,99,109]⟩:ByteArray).size:Int):=by
   rw[ewk,show (⟨#[98,99,109]⟩:ByteArray).size=3 from rfl];omega
  have rest:∀(T:ByteArray) (E:Int),T.size+(40+50*Tm.sizes t.args)≤100000000→
    ByteArray.size (ByteArray.extract (⟨#[98,99,109]⟩:ByteArray) (Int.toNat t.kind) (Int.toNat (IntKind.wrap .i64 (t.kind+1))))+ByteArray.size (numW t.index)≤9223372036854775807∧
    callX 7 [.ptr 2 0,.clip [nS ((ByteArray.extract (⟨#[98,99,109]⟩:ByteArray) (Int.toNat t.kind) (Int.toNat (IntKind.wrap .i64 (t.kind+1))))++numW t.index)]] (PrO T (errIf (numOk t.index) E)) fun r60 q61=>
    ∃l62 i63,(r60=.tup []∧q61=(prO (List.length l62) l62 i63))∧
    ITE (decide (((List.length (t.args.map Tm.enc):Nat):Int)>0))
    (callX 7 [.ptr 2 0,.clip [nS (⟨#[40]⟩:ByteArray)]] (prO (List.length l62) l62 i63) fun r65 q66=>
    ∃l67 i68,(r65=.tup []∧q66=(prO (List.length l67) l67 i68))∧(List.length l67)=List.length l67∧
    vc9_L15 (((),((60-(d+1):Nat):Int),t.args.map Tm.enc,((List.length (t.args.map Tm.enc):Nat):Int),0,()),((),l67,((),i68,()),(t.binds.map Ty.enc,t.kind,t.index,t.args.map Tm.enc,()),()))
     (PrR T ((letW t.kind++numW t.index)::pinW opW clW t.args (t.args.flatMap (tokTm d))) (numOk t.index&&t.args.all (okTm d)) E))
    ((PrR T ((letW t.kind++numW t.index)::pinW opW clW t.args (t.args.flatMap (tokTm d))) (numOk t.index&&t.args.all (okTm d)) E) (.tup []) (prO (List.length l62) l62 i63)):=by
   intro T E hT
   rw[elet]
   have hws:(letW t.kind++numW t.index).size≤31:=by rw[bsz];omega
   refine⟨by omega,_,put1_calls (by rw[bsz];have:=numW_ne (k:=t.index);omega) (by omega),fun r q ⟨e1,e2⟩=>⟨_,_,⟨e1,e2⟩,?_⟩⟩
   rw[List.length_map]
   have hp1:=puts_size (t:=T) (l:=[letW t.kind++numW t.index])
   rw[wtB,wtB] at hp1
   refine ITE.intro (fun h3=>?_) fun h3=>?_
   ·have h3:0<t.args.length:=by have:=of_decide_eq_true h3;omega
    refine⟨_,put1_calls (w:=opW) (by decide) (by rw[sz1];omega),fun r q ⟨e1,e2⟩=>⟨_,_,⟨e1,e2⟩,rfl,?_⟩⟩
    have hp2:=puts_size (t:=puts T [letW t.kind++numW t.index]) (l:=[opW])
    rw[wtB,wtB,sz1] at hp2
    rw[←puts_app] at hp2 ⊢
    rw[List.cons_append,List.nil_append] at hp2 ⊢
    generalize hA:puts T [letW t.kind++numW t.index,opW]=A at hp2 ⊢
    refine LoopP.intro (fun k:Nat=>(((),((60-(d+1):Nat):Int),t.args.map Tm.enc,((t.args.length:Nat):Int),(k:Int),()),((),strAV (puts A ((t.args.take k).flatMap (tokTm d))),((),errIf (numOk t.index&&(t.args.take k).all (okTm d)) E,()),(t.binds.map Ty.enc,t.kind,t.index,t.args.map Tm.enc,()),())))
     (fun k=>k≤t.args.length) (fun k=>t.args.length-k) 0 (by rw[List.take_zero,List.flatMap_nil,List.all_nil,Bool.and_true];rfl) (Nat.zero_le _) ?_
    intro k hk again hag
    dsimp only
    have hfk:=flat_take_wt (f:=tokTm d) hk
    have hp3:=puts_size (t:=A) (l:=(t.args.take k).flatMap (tokTm d))
    refine ITE.intro (fun h4=>?_) fun h4=>?_
    ·have hlt:k<t.args.length:=by have:=of_decide_eq_true h4;omega
     have hmem:=List.getElem_mem hlt
     have hms:=Tm.sizes_mem hmem
     have hrec:=prTm_calls d t.args[k] (by omega) (Tm.fulls_mem hl _ hmem) (by omega) (puts A ((t.args.take k).flatMap (tokTm d))) (errIf (numOk t.index&&(t.args.take k).all (okTm d)) E) (by
      have h5:=tms_wt (d:=d) (Tm.fulls_take (k:=k) hl)
      have h6:=Tm.sizes_take hlt
      omega)
     have ew:IntKind.wrap .i64 (((60-(d+1):Nat):Int)+1)=((60-d:Nat):Int):=by rw[wrap_i (by omega) (by omega)];omega
     rw[Tm.enc_eq] at hrec
     unfold vc9_R16
     rw[ew]
     refine⟨by omega,by rw[List.length_map];omega,_,_,_,_,Tm.enc_getD hlt,_,hrec,fun r q ⟨e1,e2⟩=>⟨_,_,⟨e1,e2⟩,rfl,?_⟩⟩
     rw[wrap_n (by omega),←puts_app,errIf_and,Bool.and_assoc,←all_take _ hlt,←flatM_take _ hlt]
     exact hag (k+1) hlt (by omega)
    ·have hge:t.args.length≤k:=by have:=of_decide_eq_false h4;omega
     obtain rfl:k=t.args.length:=by omega
     refine⟨_,put1_calls (w:=clW) (by decide) (by rw[sz1];omega),fun r q ⟨e1,e2⟩=>⟨_,_,⟨e1,e2⟩,rfl,?_⟩⟩
     rw[List.take_length,pinW,isEmpty_pos h3,←hA,←puts_app,←puts_app]
     rfl
   ·have h3:t.args.length=0:=by have:=of_decide_eq_false h3;omega
    have ha:=List.eq_nil_of_length_eq_zero h3
    rw[ha,List.all_nil,Bool.and_true]
    exact⟨rfl,rfl⟩
  have L1:∀(T:ByteArray) (E:Int),T.size+(40+50*Tm.sizes t.args)≤100000000→vc9_L11 t.kind t.index (strAV T).length (strAV T) E (t.args.map Tm.enc) ((60-(d+1):Nat):Int) (t.binds.map Ty.enc) (PrR T ((letW t.kind++numW t.index)::pinW opW clW t.args (t.args.flatMap (tokTm d))) (numOk t.index&&t.args.all (okTm d)) E):=
   fun T E hT=>⟨bounds,_,number_calls hi,fun r q ⟨e1,e2⟩=>⟨_,_,_,⟨e1,e2⟩,rest T E hT⟩⟩
  have L2:∀(T:ByteArray) (E:Int),T.size+(40+50*Tm.sizes t.args)≤100000000→vc9_L11' t.index (strAV T).length (strAV T) E t.kind (t.args.map Tm.enc) ((60-(d+1):Nat):Int) (t.binds.map Ty.enc) (PrR T ((letW t.kind++numW t.index)::pinW opW clW t.args (t.args.flatMap (tokTm d))) (numOk t.index&&t.args.all (okTm d)) E):=
   fun T E hT=>⟨_,number_calls hi,fun r q ⟨e1,e2⟩=>⟨_,_,_,⟨e1,e2⟩,bounds,rest T E hT⟩⟩
  rw[tokTm,okTm,hkk,if_pos rfl,Bool.true_and]
  refine ITE.intro (fun h3=>?_) fun h3=>?_
  ·rw[List.length_map] at h3
   have h3:0<t.binds.length:=by have:=of_decide_eq_true h3;omega
   refine⟨_,put1_calls (w:=laW) (by decide) (by rw[sz1];omega),fun r q ⟨e1,e2⟩=>⟨_,_,⟨e1,e2⟩,rfl,?_⟩⟩
   rw[List.length_map]
   have hp2:=puts_size (t:=b) (l:=[laW])
   rw[wtB,wtB,sz1] at hp2
   generalize hA:puts b [laW]=A at hp2 ⊢
   refine LoopP.intro (fun k:Nat=>(((),((60-(d+1):Nat):Int),(),t.binds.map Ty.enc,((t.binds.length:Nat):Int),(k:Int),()),((),strAV (puts A ((t.binds.take k).flatMap (tokTy d))),((),errIf ((t.binds.take k).all (okTy d)) e,()),(t.binds.map Ty.enc,t.kind,t.index,t.args.map Tm.enc,()),())))
    (fun k=>k≤t.binds.length) (fun k=>t.binds.length-k) 0 (by rw[List.take_zero,List.flatMap_nil,List.all_nil];rfl) (Nat.zero_le _) ?_
   intro k hkl again hag
   dsimp only
   have hfk:=flat_take_wt (f:=tokTy d) hkl
   have hp3:=puts_size (t:=A) (l:=(t.binds.take k).flatMap (tokTy d))
   refine ITE.intro (fun h4=>?_) fun h4=>?_
   ·have hlt:k<t.binds.length:=by have:=of_decide_eq_true h4;omega
    have hmem:=List.getElem_mem hlt
    have hms:=Ty.sizes_mem hmem
    have hrec:=prTy_calls d t.binds[k] (by omega) (Ty.oks_mem hbs _ hmem) (by omega) (puts A ((t.binds.take k).flatMap (tokTy d))) (errIf ((t.binds.take k).all (okTy d)) e) (by
     have h5:=tys_wt (d:=d) (Ty.oks_take (k:=k) hbs)
     have h6:=Ty.sizes_take hlt
     omega)
    have ew:IntKind.wrap .i64 (((60-(d+1):Nat):Int)+1)=((60-d:Nat):Int):=by rw[wrap_i (by omega) (by omega)];omega
    rw[Ty.enc_eq] at hrec
    rw[ew]
    refine⟨by omega,by rw[List.length_map];omega,_,_,Ty.enc_getD hlt,_,hrec,fun r q ⟨e1,e2⟩=>⟨_,_,⟨e1,e2⟩,rfl,?_⟩⟩
    rw[wrap_n (by omega),←puts_app,errIf_and,←all_take _ hlt,←flatM_take _ hlt]
    exact hag (k+1) hlt (by omega)
   ·have hge:t.binds.length≤k:=by have:=of_decide_eq_false h4;omega
    obtain rfl:k=t.binds.length:=by omega
    rw[List.take_length] at hp3 ⊢
    refine⟨_,put1_calls (w:=dtW) (by decide) (by rw[sz1];omega),fun r q ⟨e1,e2⟩=>⟨_,_,⟨e1,e2⟩,?_⟩⟩
    have hp4:=puts_size (t:=puts A (t.binds.flatMap (tokTy d))) (l:=[dtW])
    rw[wtB,wtB,sz1] at hp4
    have eR:PrR (puts (puts A (t.binds.flatMap (tokTy d))) [dtW]) ((letW t.kind++numW t.index)::pinW opW clW t.args (t.args.flatMap (tokTm d))) (numOk t.index&&t.args.all (okTm d)) (errIf (t.binds.all (okTy d)) e)=
      PrR b (pinW laW dtW t.binds (t.binds.flatMap (tokTy d))++(letW t.kind++numW t.index)::pinW opW clW t.args (t.args.flatMap (tokTm d))) (t.binds.all (okTy d)&&(numOk t.index&&t.args.all (okTm d))) e:=by
     funext r q
     rw[PrR,PrR,errIf_and,←hA,←puts_app,←puts_app,←puts_app,pinW,pinW,isEmpty_pos h3]
     simp
    have k1:=L1 (puts (puts A (t.binds.flatMap (tokTy d))) [dtW]) (errIf (t.binds.all (okTy d)) e) (by omega)
    have k2:=L2 (puts (puts A (t.binds.flatMap (tokTy d))) [dtW]) (errIf (t.binds.all (okTy d)) e) (by omega)
    rw[eR] at k1 k2
    exact⟨⟨⟨k1,k2⟩,k2⟩,⟨⟨k1,k2⟩,k2⟩,k2⟩
  ·rw[List.length_map] at h3
   have h3:t.binds.length=0:=by have:=of_decide_eq_false h3;omega
   have ha:=List.eq_nil_of_length_eq_zero h3
   have k1:=L1 b e (by omega)
   have k2:=L2 b e (by omega)
   have e1:pinW laW dtW t.binds (t.binds.flatMap (tokTy d))=[]:=by rw[ha];rfl
   have e2:t.binds.all (okTy d)=true:=by rw[ha];rfl
   rw[e1,e2,List.nil_append,Bool.true_and]
   exact⟨⟨⟨k1,k2⟩,k2⟩,⟨⟨k1,k2⟩,k2⟩,k2⟩
end Go.Proofs.YtjhanogfpkbamaaDoor

namespace Go.Proofs.YtjhanogfpkbamaaDoor
open Go
set_option linter.unusedSimpArgs false
set_option linter.unusedVariables false
structure Stp where
 eq:Int
 back:Bool
 path:List Int
 sub:List (Int×Tm)
structure Lem where
 left:Tm
 right:Tm
 metas:List Ty
 steps:List Stp
abbrev tmC (t:Tm):List AV:=[.sl (t.binds.map Ty.enc),nI t.kind,nI t.index,.sl (t.args.map Tm.enc)]
def spEnc (p:Int×Tm):AV:=.agg (nI p.1::tmC p.2)
def Stp.enc (s:Stp):AV:=.agg [nI s.eq,nB s.back,.sl (encInts s.path),.sl (s.sub.map spEnc)]
def Lem.enc (l:Lem):AV:=.agg [.sl (l.left.binds.map Ty.enc),nI l.left.kind,nI l.left.index,.sl (l.left.args.map Tm.enc),.sl (l.right.binds.map Ty.enc),nI l.right.kind,nI l.right.index,.sl (l.right.args.map Tm.enc),.sl (l.metas.map Ty.enc),.sl (l.steps.map Stp.enc)]
def sumB {α:Type} (f:α→Nat):List α→Nat
 | []=>0
 |x::l=>f x+sumB f l
theorem sumB_app {α:Type} {f:α→Nat}:∀{a b:List α},sumB f (a++b)=sumB f a+sumB f b
 | [],b=>by simp[sumB]
 |x::a,b=>by rw[List.cons_append,sumB,sumB,sumB_app];omega
theorem sumB_take {α:Type} {f:α→Nat} {l:List α} {k:Nat} (h:k<l.length):sumB f (l.take k)+f l[k]≤sumB f l:=by
 have e1:l.take k++(l[k]::l.drop (k+1))=l:=by rw[←List.drop_eq_getElem_cons h,List.take_append_drop]
 have:=congrArg (sumB f) e1
 rw[sumB_app,sumB] at this;omega
theorem sumB_le {α:Type} {f:α→Nat} {g:α→List ByteArray}:∀{l:List α},(∀x∈l,wtB (g x)≤f x)→wtB (l.flatMap g)≤sumB f l
 | [],_=>Nat.le_refl _
 |x::l,h=>by
  rw[List.flatMap_cons,wtB_app,sumB]
  have h1:=h x List.mem_cons_self
  have h2:=sumB_le (l:=l) fun y hy=>h y (List.mem_cons_of_mem _ hy)
  omega
structure SpOk (p:Int×Tm):Prop where
 meta_:I64 p.1
 term:p.2.Full
 size:p.2.size≤1000000
structure Stp.Ok (s:Stp):Prop where
 eq:I64 s.eq
 path:∀i∈s.path,I64 i
 sub:∀p∈s.sub,SpOk p
structure Lem.Ok (l:Lem):Prop where
 left:l.left.Full
 right:l.right.Full
 lsize:l.left.size≤1000000
 rsize:l.right.size≤1000000
 metas:∀t∈l.metas,t.Ok∧t.size≤1000000
 steps:∀s∈l.steps,s.Ok
abbrev onW:ByteArray:=⟨#[111,110]⟩
abbrev bkW:ByteArray:=⟨#[98,97,99,107]⟩
abbrev clnW:ByteArray:=⟨#[58]⟩
abbrev cmW:ByteArray:=⟨#[44]⟩
abbrev lcW:ByteArray:=⟨#[123]⟩
abbrev rcW:ByteArray:=⟨#[125]⟩
abbrev smW:ByteArray:=⟨#[59]⟩
def spTok (p:Int×Tm):List ByteArray:=numW p.1::clnW::(tokTm 60 p.2++[cmW])
def spOk (p:Int×Tm):Bool:=numOk p.1&&okTm 60 p.2
def stTok (s:Stp):List ByteArray:=[if s.back=true then bkW else onW,numW s.eq,lbW]++(s.path.map numW++([rbW,lcW]++(s.sub.flatMap spTok++[rcW,smW])))
def stOk (s:Stp):Bool:=numOk s.eq&&(s.path.all numOk&&s.sub.all spOk)
def spW (p:Int×Tm):Nat:=40+50*p.2.size
def stW (s:Stp):Nat:=60+(40*s.path.length+sumB spW s.sub)
theorem spTok_wt {p:Int×Tm} (h:SpOk p):wtB (spTok p)≤spW p:=by
 have h1:=numW_size h.meta_
 have h2:=tokTm_wt 60 p.2 h.term
 unfold spTok spW
 rw[wtB,wtB,wtB_app,wtB,wtB,sz1,sz1];omega
theorem nums_wt:∀{l:List Int},(∀i∈l,I64 i)→wtB (l.map numW)≤40*l.length
 | [],_=>Nat.le_refl _
 |i::l,h=>by
  have h1:=numW_size (h i List.mem_cons_self)
  have h2:=nums_wt (l:=l) fun j hj=>h j (List.mem_cons_of_mem _ hj)
  rw[List.map_cons,wtB,List.length_cons];omega
theorem stTok_wt {s:Stp} (h:s.Ok):wtB (stTok s)≤stW s:=by
 have h1:=numW_size h.eq
 have h2:=nums_wt h.path
 have h3:=sumB_le (f:=spW) (g:=spTok) (l:=s.sub) fun p hp=>spTok_wt (h.sub p hp)
 have h4:(if s.back=true then bkW else onW).size≤4:=by split<;>decide
 unfold stTok stW
 rw[wtB_app,wtB_app,wtB_app,wtB_app]
 simp only[wtB,sz1]
 omega
theorem ne_consW {w:ByteArray} {l:List ByteArray} (hw:w.size≠0) (hl:∀x∈l,x.size≠0):∀x∈w::l,x.size≠0:=fun x hx=>by
 rcases List.mem_cons.1 hx with rfl|hx
 ·exact hw
 ·exact hl x hx
theorem ne_nilW:∀x∈([]:List ByteArray),x.size≠0:=fun x hx=>by cases hx
theorem pstep_calls {s:Stp} (h:s.Ok):Prints 10 [.ptr 2 0,s.enc] (stTok s) (stOk s) (stW s):=fun b e hb=>by
 have hn:=numW_size h.eq
 have hpw:=nums_wt h.path
 have hsw:=sumB_le (f:=spW) (g:=spTok) (l:=s.sub) fun p hp=>spTok_wt (h.sub p hp)
 have hsl:s.sub.length≤sumB spW s.sub:=by
  generalize s.sub=l
  induction l with
  |nil=>exact Nat.zero_le _
  |cons p l ih=>rw[sumB,List.length_cons,spW];omega
 rw[stW] at hb
 unfold Stp.enc
 have rest:∀(w:ByteArray),w.size≤4→w.size≠0→vc10_L6 (((),(),encInts s.path,((List.length (encInts s.path):Nat):Int),0,()),((),strAV (puts b [w,numW s.eq,lbW]),((),errIf (numOk s.eq) e,()),(s.eq,s.back,encInts s.path,s.sub.map spEnc,()),()))
   (PrR b ([w,numW s.eq,lbW]++(s.path.map numW++([rbW,lcW]++(s.sub.flatMap spTok++[rcW,smW])))) (stOk s) e):=by
  intro w hw hw0
  have hp1:=puts_size (t:=b) (l:=[w,numW s.eq,lbW])
  simp only[wtB,sz1] at hp1
  unfold PrR
  rw[puts_app]
  generalize puts b [w,numW s.eq,lbW]=A at hp1 ⊢
  rw[encInts_len]
  refine LoopP.intro (fun k:Nat=>(((),(),encInts s.path,((s.path.length:Nat):Int),(k:Int),()),((),strAV (puts A ((s.path.take k).map numW)),((),errIf (numOk s.eq&&(s.path.take k).all numOk) e,()),(s.eq,s.back,encInts s.path,s.sub.map spEnc,()),())))
   (fun k=>k≤s.path.length) (fun k=>s.path.length-k) 0 (by rw[List.take_zero,List.map_nil,List.all_nil,Bool.and_true];rfl) (Nat.zero_le _) ?_
  intro k hk again hag
  dsimp only
  have hfk:=nums_wt (l:=s.path.take k) fun i hi=>h.path i (List.mem_of_mem_take hi)
  rw[List.length_take,Nat.min_eq_left hk] at hfk
  have hp3:=puts_size (t:=A) (l:=(s.path.take k).map numW)
  refine ITE.intro (fun h1=>?_) fun h1=>?_
  ·have hlt:k<s.path.length:=by have:=of_decide_eq_true h1;omega
   have hi:=h.path _ (List.getElem_mem hlt)
   have hni:=numW_size hi
   unfold vc10_R7
   refine⟨by omega,by rw[encInts_len];omega,_,encInts_getD hlt,_,number_calls hi,fun r q ⟨e1,e2⟩=>⟨_,_,_,⟨e1,e2⟩,_,put1_calls numW_ne (by omega),fun r q ⟨e1,e2⟩=>⟨_,_,⟨e1,e2⟩,rfl,?_⟩⟩⟩
   rw[wrap_n (by omega),←puts_app,errIf_and,Bool.and_assoc,←all_take _ hlt]
   have:(s.path.take k).map numW++[numW s.path[k]]=(s.path.take (k+1)).map numW:=by rw[←take_snoc' hlt,List.map_append];rfl
   rw[this]
   exact hag (k+1) hlt (by omega)
  ·have hge:s.path.length≤k:=by have:=of_decide_eq_false h1;omega
   obtain rfl:k=s.path.length:=by omega
   rw[List.take_length] at hp3 ⊢
   refine⟨_,putC_calls (ws:=[rbW,lcW]) (ne_consW (by decide) (ne_consW (by decide) ne_nilW)) (by simp only[wtB,sz1];omega),fun r q ⟨e1,e2⟩=>⟨_,_,⟨e1,e2⟩,rfl,?_⟩⟩
   have hp4:=puts_size (t:=puts A (s.path.map numW)) (l:=[rbW,lcW])
   simp only[wtB,sz1] at hp4
   rw[puts_app,puts_app]
   generalize puts (puts A (s.path.map numW)) [rbW,lcW]=B at hp4 ⊢
   rw[List.length_map]
   refine LoopP.intro (fun k:Nat=>(((),s.sub.map spEnc,((s.sub.length:Nat):Int),(k:Int),()),((),strAV (puts B ((s.sub.take k).flatMap spTok)),((),errIf ((numOk s.eq&&s.path.all numOk)&&(s.sub.take k).all spOk) e,()),(s.eq,s.back,encInts s.path,s.sub.map spEnc,()),())))
    (fun k=>k≤s.sub.length) (fun k=>s.sub.length-k) 0 (by rw[List.take_zero,List.flatMap_nil,List.all_nil,Bool.and_true];rfl) (Nat.zero_le _) ?_
   intro k hk again hag
   dsimp only
   have hfk:=sumB_le (f:=spW) (g:=spTok) (l:=s.sub.take k) fun p hp=>spTok_wt (h.sub p (List.mem_of_mem_take hp))
   have hp5:=puts_size (t:=B) (l:=(s.sub.take k).flatMap spTok)
   refine ITE.intro (fun h2=>?_) fun h2=>?_
   ·have hlt:k<s.sub.length:=by have:=of_decide_eq_true h2;omega
    have hi:=h.sub _ (List.getElem_mem hlt)
    have hni:=numW_size hi.meta_
    have hst:=sumB_take (f:=spW) hlt
    have hw1:spW s.sub[k]=40+50*s.sub[k].2.size:=rfl
    unfold vc10_R13 vc10_R15
    generalize hC:puts B ((s.sub.take k).flatMap spTok)=C at hp5 ⊢
    have hp6:=puts_size (t:=C) (l:=[numW s.sub[k].1,clnW])
    simp only[wtB,sz1] at hp6
    have ht:=prTm_calls 60 s.sub[k].2 (Nat.le_refl _) hi.term hi.size (puts C [numW s.sub[k].1,clnW]) (errIf (numOk s.sub[k].1) (errIf ((numOk s.eq&&s.path.all numOk)&&(s.sub.take k).all spOk) e)) (by omega)
    have hp7:=puts_size (t:=puts C [numW s.sub[k].1,clnW]) (l:=tokTm 60 s.sub[k].2)
    have hwt:=tokTm_wt 60 _ hi.term
    rw[Tm.enc_eq] at ht
    refine⟨by omega,by rw[List.length_map];omega,_,_,_,_,_,getD_map hlt,_,number_calls hi.meta_,fun r q ⟨e1,e2⟩=>⟨_,_,_,⟨e1,e2⟩,_,putC_calls (ws:=[numW s.sub[k].1,clnW]) (ne_consW numW_ne (ne_consW (by decide) ne_nilW)) (by simp only[wtB,sz1];omega),fun r q ⟨e1,e2⟩=>⟨_,_,⟨e1,e2⟩,?_⟩⟩⟩
    refine⟨_,ht,fun r q ⟨e1,e2⟩=>⟨_,_,⟨e1,e2⟩,_,put1_calls (w:=cmW) (by decide) (by rw[sz1];omega),fun r q ⟨e1,e2⟩=>⟨_,_,⟨e1,e2⟩,rfl,?_⟩⟩⟩
    have e3:puts (puts (puts C [numW s.sub[k].1,clnW]) (tokTm 60 s.sub[k].2)) [cmW]=puts B ((s.sub.take (k+1)).flatMap spTok):=by
     rw[←puts_app,←puts_app,←hC,←puts_app,flatM_take _ hlt];rfl
    have e4:errIf (okTm 60 s.sub[k].2) (errIf (numOk s.sub[k].1) (errIf ((numOk s.eq&&s.path.all numOk)&&(s.sub.take k).all spOk) e))=errIf ((numOk s.eq&&s.path.all numOk)&&(s.sub.take (k+1)).all spOk) e:=by
     rw[errIf_and,errIf_and,all_take _ hlt]
     congr 1
     simp[spOk,Bool.and_assoc]
    rw[wrap_n (by omega),e3,e4]
    exact hag (k+1) hlt (by omega)
   ·have hge:s.sub.length≤k:=by have:=of_decide_eq_false h2;omega
    obtain rfl:k=s.sub.length:=by omega
    rw[List.take_length] at hp5 ⊢
    refine⟨_,putC_calls (ws:=[rcW,smW]) (ne_consW (by decide) (ne_consW (by decide) ne_nilW)) (by simp only[wtB,sz1];omega),fun r q ⟨e1,e2⟩=>⟨_,_,⟨e1,e2⟩,rfl,?_⟩⟩
    rw[puts_app,stOk,Bool.and_assoc]
 refine vc10_ok (ITE.intro (fun h1=>?_) fun h1=>?_)
 ·refine⟨_,number_calls h.eq,fun r q ⟨e1,e2⟩=>⟨_,_,_,⟨e1,e2⟩,_,putC_calls (ws:=[bkW,numW s.eq,lbW]) (ne_consW (by decide) (ne_consW numW_ne (ne_consW (by decide) ne_nilW))) (by simp only[wtB,sz1,show bkW.size=4 from rfl];omega),fun r q ⟨e1,e2⟩=>⟨_,_,⟨e1,e2⟩,rfl,?_⟩⟩⟩
  rw[stTok,if_pos h1]
  exact rest bkW (by decide) (by decide)
 ·refine⟨_,number_calls h.eq,fun r q ⟨e1,e2⟩=>⟨_,_,_,⟨e1,e2⟩,_,putC_calls (ws:=[onW,numW s.eq,lbW]) (ne_consW (by decide) (ne_consW numW_ne (ne_consW (by decide) ne_nilW))) (by simp only[wtB,sz1,show onW.size=2 from rfl];omega),fun r q ⟨e1,e2⟩=>⟨_,_,⟨e1,e2⟩,rfl,?_⟩⟩⟩
  rw[stTok,if_neg (by rw[h1];decide)]
  exact rest onW (by decide) (by decide)
end Go.Proofs.YtjhanogfpkbamaaDoor

namespace Go.Proofs.YtjhanogfpkbamaaDoor
open Go
set_option linter.unusedSimpArgs false
set_option linter.unusedVariables false
abbrev lemW:ByteArray:=⟨#[108,101,109,109,97]⟩
abbrev eqlW:ByteArray:=⟨#[61]⟩
abbrev nlW:ByteArray:=⟨#[10]⟩
def leTok (l:Lem):List ByteArray:=[lemW,lbW]++(l.metas.flatMap (tokTy 60)++([rbW]++(tokTm 60 l.left++([eqlW]++(tokTm 60 l.right++([lcW]++(l.steps.flatMap stTok++[rcW,smW])))))))
def leOk (l:Lem):Bool:=l.metas.all (okTy 60)&&(okTm 60 l.left&&(okTm 60 l.right&&l.steps.all stOk))
def tyW (t:Ty):Nat:=50*t.size
def leW (l:Lem):Nat:=100+(sumB tyW l.metas+(50*l.left.size+(50*l.right.size+sumB stW l.steps)))
def encT (t:ByteArray) (l:Lem):ByteArray:=puts t (leTok l)++nlW
def encTs (t:ByteArray) (l:List Lem):ByteArray:=l.foldl encT t
theorem tys_wt' {d:Nat} {l:List Ty} (h:∀t∈l,t.Ok):wtB (l.flatMap (tokTy d))≤sumB tyW l:=sumB_le fun t ht=>tokTy_wt d t (h t ht)
theorem sts_wt {l:List Stp} (h:∀s∈l,s.Ok):wtB (l.flatMap stTok)≤sumB stW l:=sumB_le fun s hs=>stTok_wt (h s hs)
theorem leTok_wt {l:Lem} (h:l.Ok):wtB (leTok l)+1≤leW l:=by
 have h1:=tys_wt' (d:=60) fun t ht=>(h.metas t ht).1
 have h2:=sts_wt h.steps
 have h3:=tokTm_wt 60 l.left h.left
 have h4:=tokTm_wt 60 l.right h.right
 unfold leTok leW
 simp only[wtB_app,wtB,sz1,show lemW.size=5 from rfl]
 omega
theorem encT_size {t:ByteArray} {l:Lem} (h:l.Ok):(encT t l).size≤t.size+leW l:=by
 have h1:=leTok_wt h
 have h2:=puts_size (t:=t) (l:=leTok l)
 rw[encT,bsz,sz1];omega
theorem encTs_size:∀{l:List Lem} {t:ByteArray},(∀x∈l,x.Ok)→(encTs t l).size≤t.size+sumB leW l
 | [],t,_=>Nat.le_refl _
 |x::l,t,h=>by
  have h1:=encT_size (t:=t) (h x List.mem_cons_self)
  have h2:=encTs_size (l:=l) (t:=encT t x) fun y hy=>h y (List.mem_cons_of_mem _ hy)
  show (encTs (encT t x) l).size≤_
  rw[sumB];omega
theorem len_sumB {α:Type} {f:α→Nat} (hf:∀x,1≤f x):∀{l:List α},l.length≤sumB f l
 | []=>Nat.zero_le _
 |x::l=>by have:=hf x;have:=len_sumB (f:=f) hf (l:=l);rw[sumB,List.length_cons];omega
theorem tyW_pos (t:Ty):1≤tyW t:=by have:=t.size_pos;unfold tyW;omega
theorem stW_pos (s:Stp):1≤stW s:=by unfold stW;omega
theorem leW_pos (s:Lem):1≤leW s:=by unfold leW;omega
theorem Encode_calls {ls:List Lem} (h:∀l∈ls,l.Ok) (hb:sumB leW ls≤100000000):PureIs Tryd.prog 4 [.agg [.sl (ls.map Lem.enc)]] (shown (ls.all leOk) (encTs ⟨#[]⟩ ls)):=by
 have hll:=len_sumB leW_pos (l:=ls)
 refine vc4_ok ⟨rfl,?_⟩
 rw[List.length_map]
 refine LoopP.intro (fun k:Nat=>(((),ls.map Lem.enc,((ls.length:Nat):Int),(k:Int),()),((ls.map Lem.enc,()),(),strAV (encTs ⟨#[]⟩ (ls.take k)),((),errIf ((ls.take k).all leOk) 0,()),())))
  (fun k=>k≤ls.length) (fun k=>ls.length-k) 0 (by rw[List.take_zero,List.all_nil];rfl) (Nat.zero_le _) ?_
 intro k hk again hag
 dsimp only
 have hts:=encTs_size (l:=ls.take k) (t:=⟨#[]⟩) fun x hx=>h x (List.mem_of_mem_take hx)
 rw[show (⟨#[]⟩:ByteArray).size=0 from rfl] at hts
 refine ITE.intro (fun h1=>?_) fun h1=>?_
 ·have hlt:k<ls.length:=by have:=of_decide_eq_true h1;omega
  have hl:=h _ (List.getElem_mem hlt)
  have hst:=sumB_take (f:=leW) hlt
  have hnext:encTs ⟨#[]⟩ (ls.take (k+1))=encT (encTs ⟨#[]⟩ (ls.take k)) ls[k]:=by rw[←take_snoc' hlt,encTs,List.foldl_append];rfl
  have hokn:(ls.take (k+1)).all leOk=((ls.take k).all leOk&&leOk ls[k]):=all_take _ hlt
  generalize hT:encTs ⟨#[]⟩ (ls.take k)=T at hts hnext ⊢
  generalize hE:errIf ((ls.take k).all leOk) 0=E
  have hEn:errIf ((ls.take (k+1)).all leOk) 0=errIf (leOk ls[k]) E:=by rw[hokn,←hE,errIf_and]
  have hend:∀{u:List AV} {e:Int},u=strAV (encT T ls[k])→e=errIf (leOk ls[k]) E→again (((),ls.map Lem.enc,((ls.length:Nat):Int),IntKind.wrap .i64 ((k:Int)+1),()),((ls.map Lem.enc,()),(),u,((),e,()),())):=fun hu he=>by
   rw[hu,he,←hnext,←hEn,wrap_n (by omega)]
   exact hag (k+1) hlt (by omega)
  have hlw:leW ls[k]=100+(sumB tyW ls[k].metas+(50*ls[k].left.size+(50*ls[k].right.size+sumB stW ls[k].steps))):=rfl
  clear hag hT hE hnext hokn hEn
  have hgl:List.getD (ls.map Lem.enc) (Int.toNat (k:Int)) .top=ls[k].enc:=getD_map hlt
  refine⟨by omega,by rw[List.length_map];omega,_,_,_,_,_,_,_,_,_,_,hgl,?_⟩
  generalize ls[k]=l at hl hend hlw hst ⊢
  have hnl:=tys_wt' (d:=60) fun t ht=>(hl.metas t ht).1
  have hml:=len_sumB tyW_pos (l:=l.metas)
  have hsl:=len_sumB stW_pos (l:=l.steps)
  refine⟨_,putC_calls (ws:=[lemW,lbW]) (ne_consW (by decide) (ne_consW (by decide) ne_nilW)) (by simp only[wtB,sz1,show lemW.size=5 from rfl];omega),fun r q ⟨e1,e2⟩=>⟨_,_,⟨e1,e2⟩,rfl,?_⟩⟩
  have hp1:=puts_size (t:=T) (l:=[lemW,lbW])
  simp only[wtB,sz1,show lemW.size=5 from rfl] at hp1
  generalize hA:puts T [lemW,lbW]=A at hp1 ⊢
  rw[List.length_map]
  refine LoopP.intro (fun j:Nat=>(((),(),ls.map Lem.enc,((ls.length:Nat):Int),(k:Int),l.metas.map Ty.enc,((l.metas.length:Nat):Int),(j:Int),()),((ls.map Lem.enc,()),(),strAV (puts A ((l.metas.take j).flatMap (tokTy 60))),((),errIf ((l.metas.take j).all (okTy 60)) E,()),
    (l.left.binds.map Ty.enc,l.left.kind,l.left.index,l.left.args.map Tm.enc,l.right.binds.map Ty.enc,l.right.kind,l.right.index,l.right.args.map Tm.enc,l.metas.map Ty.enc,l.steps.map Stp.enc,()),())))
   (fun j=>j≤l.metas.length) (fun j=>l.metas.length-j) 0 (by rw[List.take_zero,List.flatMap_nil,List.all_nil];rfl) (Nat.zero_le _) ?_
  intro j hj again2 hag2
  dsimp only
  have hfj:=tys_wt' (d:=60) (l:=l.metas.take j) fun t ht=>(hl.metas t (List.mem_of_mem_take ht)).1
  have hp2:=puts_size (t:=A) (l:=(l.metas.take j).flatMap (tokTy 60))
  refine ITE.intro (fun h2=>?_) fun h2=>?_
  ·have hlt2:j<l.metas.length:=by have:=of_decide_eq_true h2;omega
   obtain⟨q1,q2⟩:=hl.metas _ (List.getElem_mem hlt2)
   have hst2:=sumB_take (f:=tyW) hlt2
   have hw2:tyW l.metas[j]=50*l.metas[j].size:=rfl
   have ht:=prTy_calls 60 l.metas[j] (Nat.le_refl _) q1 q2 (puts A ((l.metas.take j).flatMap (tokTy 60))) (errIf ((l.metas.take j).all (okTy 60)) E) (by omega)
   rw[Ty.enc_eq] at ht
   refine⟨by omega,by rw[List.length_map];omega,_,_,Ty.enc_getD hlt2,_,ht,fun r q ⟨e1,e2⟩=>⟨_,_,⟨e1,e2⟩,rfl,?_⟩⟩
   rw[wrap_n (by omega),←puts_app,errIf_and,←all_take _ hlt2,←flatM_take _ hlt2]
   exact hag2 (j+1) hlt2 (by omega)
  ·have hge:l.metas.length≤j:=by have:=of_decide_eq_false h2;omega
   obtain rfl:j=l.metas.length:=by omega
   rw[List.take_length] at hp2 hfj ⊢
   clear hag2
   generalize hB:puts A (l.metas.flatMap (tokTy 60))=B at hp2 ⊢
   have hp3:=puts_size (t:=B) (l:=[rbW])
   simp only[wtB,sz1] at hp3
   have hwl:=tokTm_wt 60 l.left hl.left
   have hwr:=tokTm_wt 60 l.right hl.right
   have hp4:=puts_size (t:=puts B [rbW]) (l:=tokTm 60 l.left)
   have hp5:=puts_size (t:=puts (puts B [rbW]) (tokTm 60 l.left)) (l:=[eqlW])
   simp only[wtB,sz1] at hp5
   have hp6:=puts_size (t:=puts (puts (puts B [rbW]) (tokTm 60 l.left)) [eqlW]) (l:=tokTm 60 l.right)
   have hp7:=puts_size (t:=puts (puts (puts (puts B [rbW]) (tokTm 60 l.left)) [eqlW]) (tokTm 60 l.right)) (l:=[lcW])
   simp only[wtB,sz1] at hp7
   have hL:=prTm_calls 60 l.left (Nat.le_refl _) hl.left hl.lsize (puts B [rbW]) (errIf (l.metas.all (okTy 60)) E) (by omega)
   have hR:=prTm_calls 60 l.right (Nat.le_refl _) hl.right hl.rsize (puts (puts (puts B [rbW]) (tokTm 60 l.left)) [eqlW]) (errIf (okTm 60 l.left) (errIf (l.metas.all (okTy 60)) E)) (by omega)
   rw[Tm.enc_eq] at hL hR
   refine⟨_,put1_calls (w:=rbW) (by decide) (by rw[sz1];omega),fun r q ⟨e1,e2⟩=>⟨_,_,⟨e1,e2⟩,_,hL,fun r q ⟨e1,e2⟩=>⟨_,_,⟨e1,e2⟩,_,put1_calls (w:=eqlW) (by decide) (by rw[sz1];omega),fun r q ⟨e1,e2⟩=>⟨_,_,⟨e1,e2⟩,_,hR,fun r q ⟨e1,e2⟩=>⟨_,_,⟨e1,e2⟩,
    _,put1_calls (w:=lcW) (by decide) (by rw[sz1];omega),fun r q ⟨e1,e2⟩=>⟨_,_,⟨e1,e2⟩,rfl,?_⟩⟩⟩⟩⟩⟩
   rw[errIf_and] at hR
   rw[errIf_and,errIf_and]
   have hAll:∀u,puts (puts (puts (puts (puts (puts B [rbW]) (tokTm 60 l.left)) [eqlW]) (tokTm 60 l.right)) [lcW]) u=puts T ([lemW,lbW]++(l.metas.flatMap (tokTy 60)++([rbW]++(tokTm 60 l.left++([eqlW]++(tokTm 60 l.right++([lcW]++u))))))):=fun u=>by
    rw[←hB,←hA];simp only[puts_app]
   generalize hC:puts (puts (puts (puts (puts B [rbW]) (tokTm 60 l.left)) [eqlW]) (tokTm 60 l.right)) [lcW]=C at hp7 hAll ⊢
   clear hL hR
   rw[List.length_map]
   refine LoopP.intro (fun j:Nat=>(((),ls.map Lem.enc,((ls.length:Nat):Int),(k:Int),l.steps.map Stp.enc,((l.steps.length:Nat):Int),(j:Int),()),((ls.map Lem.enc,()),(),strAV (puts C ((l.steps.take j).flatMap stTok)),((),errIf ((l.metas.all (okTy 60)&&okTm 60 l.left&&okTm 60 l.right)&&(l.steps.take j).all stOk) E,()),
     (l.left.binds.map Ty.enc,l.left.kind,l.left.index,l.left.args.map Tm.enc,l.right.binds.map Ty.enc,l.right.kind,l.right.index,l.right.args.map Tm.enc,l.metas.map Ty.enc,l.steps.map Stp.enc,()),())))
    (fun j=>j≤l.steps.length) (fun j=>l.steps.length-j) 0 (by rw[List.take_zero,List.flatMap_nil,List.all_nil,Bool.and_true,Bool.and_assoc];rfl) (Nat.zero_le _) ?_
   intro j hj again3 hag3
   dsimp only
   have hfs:=sts_wt (l:=l.steps.take j) fun s hs=>hl.steps s (List.mem_of_mem_take hs)
   have hp8:=puts_size (t:=C) (l:=(l.steps.take j).flatMap stTok)
   refine ITE.intro (fun h3=>?_) fun h3=>?_
   ·have hlt3:j<l.steps.length:=by have:=of_decide_eq_true h3;omega
    have hs:=hl.steps _ (List.getElem_mem hlt3)
    have hst3:=sumB_take (f:=stW) hlt3
    have ht:=pstep_calls hs (puts C ((l.steps.take j).flatMap stTok)) (errIf ((l.metas.all (okTy 60)&&okTm 60 l.left&&okTm 60 l.right)&&(l.steps.take j).all stOk) E) (by omega)
    refine⟨by omega,by rw[List.length_map];omega,_,_,_,_,getD_map hlt3,_,ht,fun r q ⟨e1,e2⟩=>⟨_,_,⟨e1,e2⟩,rfl,?_⟩⟩
    rw[wrap_n (by omega),←puts_app,errIf_and,Bool.and_assoc,←all_take _ hlt3,←flatM_take _ hlt3]
    exact hag3 (j+1) hlt3 (by omega)
   ·have hge:l.steps.length≤j:=by have:=of_decide_eq_false h3;omega
    obtain rfl:j=l.steps.length:=by omega
    rw[List.take_length] at hp8 hfs ⊢
    have hp9:=puts_size (t:=puts C (l.steps.flatMap stTok)) (l:=[rcW,smW])
    simp only[wtB,sz1] at hp9
    refine⟨_,putC_calls (ws:=[rcW,smW]) (ne_consW (by decide) (ne_consW (by decide) ne_nilW)) (by simp only[wtB,sz1];omega),fun r q ⟨e1,e2⟩=>⟨_,_,⟨e1,e2⟩,_,WriteByte_calls (by rw[strAV_len];omega),fun r q ⟨e1,e2⟩=>⟨_,⟨e1,e2⟩,rfl,hend ?_ ?_⟩⟩⟩
    ·rw[encT,strAV_app,←puts_app,hAll];rfl
    ·rw[leOk];congr 1;simp[Bool.and_assoc]
 ·have hge:ls.length≤k:=by have:=of_decide_eq_false h1;omega
  obtain rfl:k=ls.length:=by omega
  rw[List.take_length]
  cases hall:ls.all leOk
  ·exact ITE.pos rfl rfl
  ·exact ITE.neg rfl ⟨_,String_live,fun r q ⟨e1,e2⟩=>⟨_,_,⟨e1,e2⟩,rfl⟩⟩
end Go.Proofs.YtjhanogfpkbamaaDoor

namespace Go.Proofs.YtjhanogfpkbamaaDoor
open Go Go.Shelf
set_option linter.unusedSimpArgs false
set_option linter.unusedVariables false
def runC (c:Int) (l:List Int):Nat:=(l.takeWhile (· != c)).length
def idxI (c:Int) (l:List Int):Int:=if runC c l=l.length then -1 else(runC c l:Int)
theorem runC_cons (c b:Int) (l:List Int):runC c (b::l)=if b=c then 0 else runC c l+1:=by
 unfold runC
 rw[List.takeWhile_cons]
 by_cases h:b=c
 ·simp[h]
 ·rw[if_neg h,if_pos (by simpa using h)];rfl
theorem runC_le (c:Int) (l:List Int):runC c l≤l.length:=by
 induction l with
 |nil=>simp[runC]
 |cons b l ih=>rw[runC_cons,List.length_cons];split<;>omega
theorem runC_no {c:Int} {l:List Int} {n:Nat} (h:n≤runC c l):∀b∈l.take n,b≠c:=by
 induction l generalizing n with
 |nil=>simp
 |cons b l ih=>
  rw[runC_cons] at h
  cases n with
  |zero=>simp
  |succ n=>
   split at h
   ·omega
   ·rename_i hb
    intro x hx
    rw[List.take_succ_cons] at hx
    rcases List.mem_cons.1 hx with rfl|hx
    ·exact hb
    ·exact ih (by omega) x hx
theorem runC_at {c:Int} {l:List Int} (h:runC c l<l.length):l[runC c l]=c:=by
 induction l with
 |nil=>simp at h
 |cons b l ih=>
  simp only[runC_cons,List.length_cons] at h ⊢
  by_cases hb:b=c
  ·simp only[if_pos hb];simpa using hb
  ·simp only[if_neg hb] at h ⊢
   simp only[List.getElem_cons_succ]
   exact ih (by omega)
theorem idx_eq (l:List UInt8) (c:UInt8):Lib.indexByte l c=idxI (c.toNat:Int) (l.map fun b=>(b.toNat:Int)):=by
 induction l with
 |nil=>rfl
 |cons b l ih=>
  unfold Lib.indexByte idxI
  rw[ih,List.map_cons,runC_cons,List.length_cons]
  have hle:=runC_le (c.toNat:Int) (l.map fun b=>(b.toNat:Int))
  by_cases h:b=c
  ·subst h;simp
  ·have h2:¬(b.toNat:Int)=(c.toNat:Int):=fun e=>h (UInt8.toNat_inj.1 (by omega))
   rw[if_neg (by simpa using h),if_neg h2]
   unfold idxI
   by_cases hr:runC (c.toNat:Int) (l.map fun b=>(b.toNat:Int))=(l.map fun b=>(b.toNat:Int)).length
   ·rw[if_pos hr,hr,if_pos rfl];rfl
   ·have hne:((((runC (c.toNat:Int) (l.map fun b=>(b.toNat:Int)):Nat):Int)) == -1)=false:=beq_eq_false_iff_ne.2 (by omega)
    rw[if_neg hr,if_neg (by rw[hne];decide),if_neg (fun e=>hr (by omega))];omega
theorem indexByte_calls {s:ByteArray} {c:Int} (h0:0≤c) (h1:c≤255):PureIs Tryd.prog 45 [nS s,.prim (.int .u8 c)] (nI (idxI c (bytesI s))):=by
 refine⟨⟨_,Tryd.func45,by kernel_rfl,by kernel_rfl⟩,fun w F vals hF hg hv=>?_⟩
 match vals,hv with
 | [v0,v1],⟨r0,r1,_⟩=>
  cases r0;cases r1
  refine callsIn_wide.2 ((Any.strings_IndexByte lay137 s c w).mono ?_)
  rintro e w' ⟨rfl,rfl⟩
  refine⟨_,_,rfl,rfl,Same.refl _,?_⟩
  have:(c.toNat.toUInt8.toNat:Int)=c:=by
   have:c.toNat.toUInt8.toNat=c.toNat % 256:=rfl
   rw[this];omega
  rw[idx_eq,this]
  exact .prim _
def linesF (s:ByteArray):Nat→Nat→List (Nat×ByteArray)
 |0,_=>[]
 |f+1,a=>(a,s.extract a (a+runC 10 ((bytesI s).drop a)))::(if a+runC 10 ((bytesI s).drop a)=s.size then[] else linesF s f (a+runC 10 ((bytesI s).drop a)+1))
def encL (p:Nat×ByteArray):Int×ByteArray×Unit:=((p.1:Int),p.2,())
def encLV (p:Nat×ByteArray):List AV:=[nI (p.1:Int),nS p.2]
theorem bytes_to_end {s:ByteArray} {a:Nat}:bytesI (s.extract a s.size)=(bytesI s).drop a:=by
 rw[bytesI_extract,List.take_of_length_le]
 rw[List.length_drop,bytesI_len];exact Nat.le_refl _
theorem lines1_calls {s:ByteArray} (hs:s.size≤1000000000):YFn Tryd.prog 65 (fun v=>[v,.eptr (nS s) 0]) ((linesF s (s.size+1) 0).map encLV) false:=by
 have hl:=bytesI_len s
 refine vc65_ok fun yv more=>⟨rfl,?_⟩
 refine LoopP.intro (fun p:Nat×Nat=>(((yv,(),(p.2:Int),()),()),some ((linesF s p.1 p.2).map encLV++more))) (fun p=>p.2≤s.size∧s.size+1≤p.1+p.2) (fun p=>s.size+1-p.2) (s.size+1,0) rfl ⟨Nat.zero_le _,by dsimp only;omega⟩ ?_
 intro ⟨f,a⟩ ⟨ha,hf⟩ again hag
 dsimp only at ha hf ⊢
 obtain⟨f,rfl⟩:∃g,f=g+1:=⟨f-1,by omega⟩
 have hr:=runC_le 10 ((bytesI s).drop a)
 rw[List.length_drop,hl] at hr
 have hix:=indexByte_calls (s:=s.extract a s.size) (c:=10) (by decide) (by decide)
 rw[bytes_to_end,idxI,List.length_drop,hl] at hix
 refine⟨⟨by omega,by omega,by omega⟩,_,hix,?_⟩
 by_cases he:runC 10 ((bytesI s).drop a)=s.size-a
 ·rw[if_pos he]
  refine ITE.pos (by decide) ⟨⟨by omega,by omega,by omega⟩,rfl,more,?_,fun b=>⟨b,rfl⟩⟩
  rw[linesF,he,if_pos (by omega)]
  have:a+(s.size-a)=s.size:=by omega
  rw[this];rfl
 ·rw[if_neg he]
  have w1:IntKind.wrap .i64 ((a:Int)+((runC 10 ((bytesI s).drop a):Nat):Int))=((a+runC 10 ((bytesI s).drop a):Nat):Int):=by rw[wrap_i (by omega) (by omega)];omega
  have w2:IntKind.wrap .i64 ((a:Int)+IntKind.wrap .i64 (((runC 10 ((bytesI s).drop a):Nat):Int)+1))=((a+runC 10 ((bytesI s).drop a)+1:Nat):Int):=by rw[wrap_n (by omega),wrap_i (by omega) (by omega)];omega
  rw[w1,w2]
  refine ITE.neg (decide_eq_false (by omega)) ⟨⟨by omega,by omega,by omega⟩,rfl,(linesF s f (a+runC 10 ((bytesI s).drop a)+1)).map encLV++more,?_,fun b=>ITE.intro (fun h=>?_) fun h=>?_⟩
  ·rw[linesF,if_neg (by omega)];rfl
  ·have:b=false:=by simpa using h
   subst this
   exact⟨false,rfl⟩
  ·have:b=true:=by simpa using h
   subst this
   exact⟨rfl,hag (f,_) ⟨by dsimp only;omega,by dsimp only;omega⟩ (by dsimp only;omega)⟩
theorem lines_seq {s:ByteArray} (hs:s.size≤1000000000):SeqIs Tryd.prog 65 [.eptr (nS s) 0] [.v (.c (.i .i64)),.v (.c (.s))] ((linesF s (s.size+1) 0).map encL):=
 seqIs_of (prm:=[.v (.c (.i .i64)),.v (.c (.s))]) encL (lines1_calls hs)
theorem markR_app (m:Int×Int) (a b:List Int):markR m (a++b)=markR (markR m a) b:=by
 induction a generalizing m with
 |nil=>rfl
 |cons c a ih=>exact ih _
theorem markR_no {l:List Int} (m:Int×Int) (h:∀b∈l,b≠10):markR m l=(m.1,m.2+l.length):=by
 induction l generalizing m with
 |nil=>simp[markR]
 |cons c l ih=>
  have hc:(c==10)=false:=by simpa using h c List.mem_cons_self
  rw[markR,hc,ih _ fun b hb=>h b (List.mem_cons_of_mem _ hb)]
  simp;omega
def markA (s:ByteArray) (i:Nat):AV:=.agg [nI (markR (1,1) ((bytesI s).take i)).1,nI (markR (1,1) ((bytesI s).take i)).2]
theorem placeOf_calls {s:ByteArray} {i:Nat} (hi:i≤s.size) (hs:s.size≤1000000000):PureIs Tryd.prog 24 [nS s,nI (i:Int)] (.tup [markA s i,nI 0]):=by
 have hl:=bytesI_len s
 refine vc24_ok (ITE.neg (decide_eq_false (by omega)) (ITE.neg (decide_eq_false (by omega)) ⟨vc44_ok rfl,?_⟩))
 refine RangeP.intro2 (fun n:Nat=>(((i:Int),()),(0,0,()),(0,()),((n:Int),()),())) encL (linesF s (s.size+1) 0) (lines_seq hs)
  (fun rest n=>∃f a,rest=linesF s f a∧a≤i∧s.size+1≤f+a∧n≤a∧markR (1,1) ((bytesI s).take a)=(((n+1:Nat):Int),1)) 0 rfl ⟨_,_,rfl,Nat.zero_le _,Nat.le_refl _,Nat.le_refl _,rfl⟩ (fun p rest n hI again hag=>?_) fun n hI=>?_
 ·obtain⟨f,a,he,ha,hf,hna,hm⟩:=hI
  obtain⟨f,rfl⟩:∃g,f=g+1:=⟨f-1,by omega⟩
  rw[linesF] at he
  obtain⟨rfl,rfl⟩:=List.cons.inj he
  have hr:=runC_le 10 ((bytesI s).drop a)
  rw[List.length_drop,hl] at hr
  have hz:(s.extract a (a+runC 10 ((bytesI s).drop a))).size=runC 10 ((bytesI s).drop a):=by rw[←bytesI_len,bytesI_extract,List.length_take,List.length_drop,hl];omega
  dsimp only[encL]
  rw[wrap_n (by omega)]
  have hw:IntKind.wrap .i64 ((a:Int)+(((s.extract a (a+runC 10 ((bytesI s).drop a))).size:Nat):Int))=(a:Int)+(runC 10 ((bytesI s).drop a):Nat):=by rw[hz,wrap_i (by omega) (by omega)]
  refine ITE.intro (fun h=>?_) fun h=>?_
  ·have h:i≤a+runC 10 ((bytesI s).drop a):=by
    have:=of_decide_eq_true h
    rw[hw] at this;omega
   rw[wrap_i (n:=(i:Int)-a) (by omega) (by omega),wrap_i (by omega) (by omega)]
   have e:(bytesI s).take i=(bytesI s).take a++((bytesI s).drop a).take (i-a):=by rw[←List.take_add,show a+(i-a)=i by omega]
   have hm2:markR (1,1) ((bytesI s).take i)=(((n+1:Nat):Int),1+((i-a:Nat):Int)):=by
    rw[e,markR_app,hm,markR_no _ (runC_no (by omega)),List.length_take,List.length_drop,hl,Nat.min_eq_left (by omega)]
   show _=AV.tup [markA s i,nI 0]
   rw[markA,hm2]
   have:(1:Int)+((i-a:Nat):Int)=(i:Int)-a+1:=by omega
   rw[this]
  ·have h:a+runC 10 ((bytesI s).drop a)<i:=by
    have:=of_decide_eq_false h
    rw[hw] at this;omega
   refine hag (n+1) ⟨f,a+runC 10 ((bytesI s).drop a)+1,if_neg (by omega),by omega,by omega,by omega,?_⟩
   have hlt:a+runC 10 ((bytesI s).drop a)<(bytesI s).length:=by omega
   rw[List.take_succ_eq_append_getElem hlt,List.take_add,List.append_assoc,markR_app,hm,markR_app,markR_no _ (runC_no (Nat.le_refl _))]
   have hc:(bytesI s)[a+runC 10 ((bytesI s).drop a)]=10:=by
    have:=runC_at (c:=10) (l:=(bytesI s).drop a) (by rw[List.length_drop];omega)
    rw[List.getElem_drop] at this
    exact this
   rw[hc]
   simp[markR]
 ·obtain⟨f,a,he,ha,hf,hna,hm⟩:=hI
  obtain⟨f,rfl⟩:∃g,f=g+1:=⟨f-1,by omega⟩
  rw[linesF] at he
  cases he
end Go.Proofs.YtjhanogfpkbamaaDoor

namespace Go.Proofs.YtjhanogfpkbamaaDoor
open Go
set_option linter.unusedSimpArgs false
set_option linter.unusedVariables false
def skipB:Bool→List Int→Nat
 |_,[]=>0
 |r,c::l=>if r||isBlank c then skipB (c != 10&&(r||c==35)) l+1 else 0
theorem skipB_le:∀(r:Bool) (l:List Int),skipB r l≤l.length
 |_,[]=>Nat.le_refl _
 |r,c::l=>by
  rw[skipB,List.length_cons]
  split
  ·have:=skipB_le (c != 10&&(r||c==35)) l;omega
  ·omega
theorem skipB_true:∀(l:List Int),skipB true l=if runC 10 l=l.length then l.length else runC 10 l+skipB false (l.drop (runC 10 l))
 | []=>rfl
 |c::l=>by
  rw[skipB,runC_cons,List.length_cons]
  by_cases h:c=10
  ·subst h
   rw[if_pos rfl,if_neg (Nat.ne_of_lt (Nat.succ_pos _)),List.drop_zero,skipB];simp[isBlank]
  ·have e:(c != 10&&(true||c==35))=true:=by simpa using h
   rw[Bool.true_or,if_pos rfl,e,skipB_true l,if_neg h]
   by_cases h2:runC 10 l=l.length
   ·rw[if_pos h2,if_pos (by omega)]
   ·rw[if_neg h2,if_neg (by omega),List.drop_succ_cons];omega
theorem skipB_hash (l:List Int):skipB false (35::l)=skipB true (35::l):=rfl
theorem strAt_drop {s:ByteArray} {k:Nat} {c:Int} {l:List Int} (h:(bytesI s).drop k=c::l):strAt s (k:Int)=c∧k<s.size∧(bytesI s).drop (k+1)=l:=by
 have hlt:k<(bytesI s).length:=by
  rcases Nat.lt_or_ge k (bytesI s).length with h1|h1
  ·exact h1
  ·rw[List.drop_eq_nil_of_le h1] at h;cases h
 rw[List.drop_eq_getElem_cons hlt] at h
 obtain⟨h1,h2⟩:=List.cons.inj h
 exact⟨by rw[strAt_eq hlt,h1],by rw[←bytesI_len];exact hlt,h2⟩
theorem skip_calls {s:ByteArray} (hs:s.size≤1000000000):PureIs Tryd.prog 26 [nS s] (nI (skipB false (bytesI s):Nat)):=by
 have hl:=bytesI_len s
 refine vc26_ok ?_
 refine LoopP.intro (fun k:Nat=>((s,(k:Int),()),())) (fun k=>k≤s.size∧skipB false (bytesI s)=k+skipB false ((bytesI s).drop k)) (fun k=>(s.size-k)*2+(if(bytesI s).drop k=[] then 0 else if((bytesI s).drop k).head?=some 10 then 0 else 1)) 0 rfl ⟨Nat.zero_le _,by simp⟩ ?_
 intro k ⟨hk,hd⟩ again hag
 dsimp only
 refine ITE.intro (fun h=>?_) fun h=>?_
 ·have hlt:k<s.size:=by have:=of_decide_eq_true h;omega
  obtain⟨c,l,hcl⟩:∃c l,(bytesI s).drop k=c::l:=⟨_,_,List.drop_eq_getElem_cons (by omega)⟩
  obtain⟨hat,_,hl2⟩:=strAt_drop hcl
  refine⟨⟨by omega,by omega⟩,?_⟩
  rw[hat]
  have blank:(isBlank c=true∧c≠35)→again ((s,IntKind.wrap .i64 ((k:Int)+1),()),()):=fun⟨hb,hc⟩=>by
   rw[wrap_n (by omega)]
   refine hag (k+1) ⟨by omega,?_⟩ (by split<;>split<;>(try split)<;>omega)
   have e:(c != 10&&(false||c==35))=false:=by simp[hc]
   rw[hd,hcl,skipB,Bool.false_or,if_pos hb,e,←hl2];omega
  have stop:isBlank c=false→nI (k:Int)=nI ((skipB false (bytesI s):Nat):Int):=fun hb=>by
   rw[hd,hcl,skipB,hb];simp
  have hash:c=35→0≤(k:Int)∧(k:Int)≤((s.size:Nat):Int)∧((s.size:Nat):Int)≤s.size:=fun _=>⟨by omega,by omega,by omega⟩
  have hix:=indexByte_calls (s:=s.extract k s.size) (c:=10) (by decide) (by decide)
  rw[bytes_to_end,idxI,List.length_drop,hl] at hix
  have hr:=runC_le 10 ((bytesI s).drop k)
  rw[List.length_drop,hl] at hr
  have rem:(c==35)=true→∃i53,pI 45 [nS (ByteArray.extract s (Int.toNat k) (Int.toNat ((ByteArray.size s:Nat):Int))),.prim (.int .u8 10)] (nI i53)∧
    ITE (decide (i53<0)) ((fun r=>r=nI ((skipB false (bytesI s):Nat):Int)) (nI ((ByteArray.size s:Nat):Int))) (again ((s,IntKind.wrap .i64 ((k:Int)+i53),()),())):=fun hc=>by
   have hc:c=35:=by simpa using hc
   subst hc
   refine⟨_,hix,?_⟩
   have e:=skipB_true ((bytesI s).drop k)
   rw[List.length_drop,hl] at e
   rw[hcl,skipB_hash,←hcl,e] at hd
   by_cases h1:runC 10 ((bytesI s).drop k)=s.size-k
   ·rw[if_pos h1] at hd
    rw[if_pos h1]
    refine ITE.pos rfl ?_
    show nI _=nI _
    rw[hd];congr 1;congr 1;congr 1;omega
   ·rw[if_neg h1] at hd
    rw[if_neg h1]
    refine ITE.neg (decide_eq_false (by omega)) ?_
    rw[wrap_i (n:=(k:Int)+_) (by omega) (by omega),show (k:Int)+(runC 10 ((bytesI s).drop k):Nat)=((k+runC 10 ((bytesI s).drop k):Nat):Int) by omega]
    have h0:0<runC 10 ((bytesI s).drop k):=by rw[hcl,runC_cons];simp
    refine hag _ ⟨by omega,?_⟩ (by split<;>split<;>(try split)<;>omega)
    rw[hd,List.drop_drop];omega
  refine ITE.intro (fun h1=>?_) fun h1=>ITE.intro (fun h2=>?_) fun h2=>ITE.intro (fun h3=>?_) fun h3=>ITE.intro (fun h4=>?_) fun h4=>ITE.intro (fun h5=>?_) fun h5=>?_
  ·exact ITE.pos h1 (blank ⟨by unfold isBlank;rw[h1];rfl,fun e=>by rw[e] at h1;cases h1⟩)
  ·exact ITE.pos h2 (blank ⟨by unfold isBlank;rw[h1,h2];rfl,fun e=>by rw[e] at h2;cases h2⟩)
  ·exact ITE.pos h3 (blank ⟨by unfold isBlank;rw[h1,h2,h3];rfl,fun e=>by rw[e] at h3;cases h3⟩)
  ·exact blank ⟨by unfold isBlank;rw[h1,h2,h3,h4];rfl,fun e=>by rw[e] at h4;cases h4⟩
  ·exact⟨hash (by simpa using h5),rem h5⟩
  ·exact stop (by unfold isBlank;rw[h1,h2,h3,h4,h5];rfl)
 ·have:s.size≤k:=by have:=of_decide_eq_false h;omega
  rw[List.drop_eq_nil_of_le (by omega)] at hd
  rw[hd];rfl
def runD (l:List Int):Nat:=(l.takeWhile isDigit).length
theorem runD_cons (c:Int) (l:List Int):runD (c::l)=if isDigit c=true then runD l+1 else 0:=by
 unfold runD;rw[List.takeWhile_cons];split<;>simp
theorem runD_le (l:List Int):runD l≤l.length:=by
 induction l with
 |nil=>simp[runD]
 |cons c l ih=>rw[runD_cons,List.length_cons];split<;>omega
theorem runD_calls {s:ByteArray} (hs:s.size≤1000000000):PureIs Tryd.prog 47 [nS s,.clo 49 []] (nI (runD (bytesI s):Nat)):=by
 refine vc_runD_ok ?_
 have hl:=bytesI_len s
 refine LoopP.intro (fun k:Nat=>((s,(),(k:Int),()),())) (fun k=>k≤s.size∧runD (bytesI s)=k+runD ((bytesI s).drop k)) (fun k=>s.size-k) 0 rfl ⟨Nat.zero_le _,by simp⟩ ?_
 intro k ⟨hk,hm⟩ again hag
 dsimp only
 refine ITE.intro (fun h=>?_) fun h=>?_
 ·have hlt:k<s.size:=by simpa using h
  have hlt':k<(bytesI s).length:=by omega
  rw[List.drop_eq_getElem_cons hlt'] at hm
  refine⟨⟨by omega,by omega⟩,_,digit_calls,?_⟩
  rw[strAt_eq hlt']
  refine ITE.intro (fun h=>?_) fun h=>?_
  ·rw[wrap_n (by omega)]
   refine hag (k+1) ⟨by omega,?_⟩ (by omega)
   rw[hm,runD_cons,if_pos h];omega
  ·rw[hm,runD_cons,if_neg (by rw[h];simp)];rfl
 ·have:s.size≤k:=by simpa using h
  rw[List.drop_eq_nil_of_le (by omega)] at hm
  rw[hm];simp[runD]
def signs:List Int:=[40,41,92,46,44,59,58,61,62,60,91,93,123,125,33,63,64]
def signN:List Int→Nat
 | []=>0
 |c::l=>if c=45∧l.head?=some 62 then 2 else if c∈signs then 1 else 0
def tokN:List Int→Nat×Nat
 | []=>(3,0)
 |c::l=>if isLetter c=true then(1,runN (c::l)) else if isDigit c=true then(2,runD (c::l)) else(3,signN (c::l))
theorem hasPrefix_calls {s p:ByteArray}:PureIs Tryd.prog 67 [nS s,nS p] (nB (decide ((bytesI s).take p.size=bytesI p))):=by
 have hl:=bytesI_len s
 have hp:=bytesI_len p
 refine vc67_ok ⟨_,vc73_ok (R:=fun r=>r=nB (decide ((bytesI s).take p.size=bytesI p))) (ITE.intro (fun h=>?_) fun h=>?_),rfl⟩
 ·have h:p.size≤s.size:=by have:=of_decide_eq_true h;omega
  refine⟨⟨by decide,by omega,by omega⟩,?_⟩
  show nB _=nB _
  rw[strEq_iff]
  refine nB_congr ?_
  rw[decide_eq_true_iff,decide_eq_true_iff]
  have e:bytesI (s.extract (Int.toNat 0) (Int.toNat ((p.size:Nat):Int)))=(bytesI s).take p.size:=by rw[bytesI_extract];rfl
  rw[←e]
  exact⟨fun h=>by rw[h],bytesI_inj⟩
 ·have h:s.size<p.size:=by have:=of_decide_eq_false h;omega
  refine(nB_congr ?_).symm
  rw[decide_eq_true_iff]
  refine⟨fun e=>?_,fun e=>by cases e⟩
  have:=congrArg List.length e
  rw[List.length_take] at this;omega
theorem sign_calls {s:ByteArray} (hs:s.size≤1000000000):PureIs Tryd.prog 50 [nS s] (nI (signN (bytesI s):Nat)):=by
 refine vc50_ok ⟨_,hasPrefix_calls,?_⟩
 have e1:bytesI (⟨#[45,62]⟩:ByteArray)=[45,62]:=rfl
 have e2:(⟨#[45,62]⟩:ByteArray).size=2:=rfl
 rw[e1,e2]
 cases hb:bytesI s with
 |nil=>
  obtain rfl:s=⟨#[]⟩:=bytesI_inj hb
  exact ITE.neg rfl (ITE.neg (by rw[strEq_iff];rfl) rfl)
 |cons c l=>
  have hat:strAt s ((0:Nat):Int)=c∧0<s.size∧_:=strAt_drop (by rw[List.drop_zero];exact hb)
  have hix:=indexByte_calls (s:=(⟨#[40,41,92,46,44,59,58,61,62,60,91,93,123,125,33,63,64]⟩:ByteArray)) (c:=c)
   (by have:=bytesI_range s c (by rw[hb];exact List.mem_cons_self);omega) (by have:=bytesI_range s c (by rw[hb];exact List.mem_cons_self);omega)
  rw[←show strAt s (0:Int)=c from hat.1] at hix
  have e3:bytesI (⟨#[40,41,92,46,44,59,58,61,62,60,91,93,123,125,33,63,64]⟩:ByteArray)=signs:=rfl
  rw[e3] at hix
  have hix2:=hix
  have hc0:strAt s (0:Int)=c:=hat.1
  have hsg:decide (idxI c signs≥0)=decide (c∈signs):=by
   have key:∀L:List Int,(runC c L=L.length↔c∉L):=by
    intro L
    induction L with
    |nil=>simp[runC]
    |cons b L ih=>
     rw[runC_cons,List.length_cons,List.mem_cons]
     by_cases h:b=c
     ·subst h;simp
     ·rw[if_neg h]
      have h':¬c=b:=fun e=>h e.symm
      simp only[Nat.add_right_cancel_iff,ih,h',false_or]
   unfold idxI
   by_cases h:c∈signs
   ·rw[if_neg (fun e=>(key _).1 e h),decide_eq_true h];exact decide_eq_true (by omega)
   ·rw[if_pos ((key _).2 h),decide_eq_false h];rfl
  have h2:decide ((c::l).take 2=[45,62])=decide (c=45∧l.head?=some 62):=by
   cases l with
   |nil=>simp
   |cons d l=>simp
  rw[h2]
  refine ITE.intro (fun h=>?_) fun h=>ITE.pos (by rw[strEq_iff,decide_eq_false];rfl;intro e;rw[e] at hb;cases hb) ⟨⟨by decide,by have:=hat.2.1;omega⟩,_,hix2,?_⟩
  ·rw[signN,if_pos (of_decide_eq_true h)];rfl
  ·rw[hc0,hsg]
   refine ITE.intro (fun h3=>?_) fun h3=>?_
   ·rw[signN,if_neg (of_decide_eq_false h),if_pos (of_decide_eq_true h3)];rfl
   ·rw[signN,if_neg (of_decide_eq_false h),if_neg (of_decide_eq_false h3)];rfl
end Go.Proofs.YtjhanogfpkbamaaDoor

namespace Go.Proofs.YtjhanogfpkbamaaDoor
open Go
set_option linter.unusedSimpArgs false
set_option linter.unusedVariables false
theorem first_calls {s:ByteArray} (hs:s.size≤1000000000) (hne:bytesI s≠[]):PureIs Tryd.prog 27 [nS s] (.tup [nI ((tokN (bytesI s)).1:Nat),nI ((tokN (bytesI s)).2:Nat)]):=by
 cases hb:bytesI s with
 |nil=>exact(hne hb).elim
 |cons c l=>
  have hat:strAt s ((0:Nat):Int)=c∧0<s.size∧_:=strAt_drop (by rw[List.drop_zero];exact hb)
  have hc0:strAt s (0:Int)=c:=hat.1
  have hz:=hat.2.1
  refine vc27_ok ⟨⟨by decide,by omega⟩,_,letter_calls,?_⟩
  rw[hc0]
  refine ITE.intro (fun h=>⟨_,run_calls hs,?_⟩) fun h=>⟨⟨by decide,by omega⟩,_,digit_calls,ITE.intro (fun h2=>⟨_,runD_calls hs,?_⟩) fun h2=>⟨_,sign_calls hs,?_⟩⟩
  ·rw[tokN,if_pos h,hb];rfl
  ·rw[tokN,if_neg (by rw[h];decide),if_pos h2,hb];rfl
  ·rw[tokN,if_neg (by rw[h];decide),if_neg (by rw[h2];decide),hb];rfl
def visW (c:Int):ByteArray:=if c<33∨c>126 then⟨#[]⟩ else strOfNums [c]
theorem visible_calls {c:Int}:PureIs Tryd.prog 28 [.prim (.int .u8 c)] (nS (visW c)):=by
 refine vc28_ok (ITE.intro (fun h=>?_) fun h=>ITE.intro (fun h2=>?_) fun h2=>?_)
 ·rw[visW,if_pos (.inl (of_decide_eq_true h))]
 ·rw[visW,if_pos (.inr (of_decide_eq_true h2))]
 ·rw[visW,if_neg (by have:=of_decide_eq_false h;have:=of_decide_eq_false h2;omega)]
def headW (s:ByteArray):ByteArray:=s.extract 0 (if 10<s.size then 10 else s.size)
theorem lhead_calls {s:ByteArray}:PureIs Tryd.prog 29 [nS s] (nS (headW s)):=by
 refine vc29_ok ⟨⟨by decide,by split<;>omega,by split<;>omega⟩,?_⟩
 rw[headW]
 by_cases h:10<s.size
 ·rw[if_pos h,if_pos (by omega)];rfl
 ·rw[if_neg h,if_neg (by omega)];rfl
abbrev Fa:=Int×Int×Int×ByteArray
abbrev faC (f:Fa):List AV:=[nI f.1,nI f.2.1,nI f.2.2.1,nS f.2.2.2]
def noFa:Fa:=(0,0,0,⟨#[]⟩)
def atFa (s:ByteArray) (code:Int) (i:Nat) (w:ByteArray):Fa:=(code,(markR (1,1) ((bytesI s).take i)).1,(markR (1,1) ((bytesI s).take i)).2,w)
def lexA (s:ByteArray) (i:Nat):Nat:=i+skipB false ((bytesI s).drop i)
def lexT (s:ByteArray) (i:Nat):Nat×Nat:=tokN ((bytesI s).drop i)
def lexF (s:ByteArray):Nat→Nat→List Tk→List Tk×Int×Nat×ByteArray
 |0,_,acc=>(acc,0,0,⟨#[]⟩)
 |f+1,i,acc=>if lexA s i=s.size then(acc,0,0,⟨#[]⟩)
  else if(lexT s (lexA s i)).2=0 then([],3,lexA s i,visW (strAt s (lexA s i)))
  else if((lexT s (lexA s i)).1=1∧30<(lexT s (lexA s i)).2)∨((lexT s (lexA s i)).1=2∧9<(lexT s (lexA s i)).2) then([],2,lexA s i,headW (s.extract (lexA s i) (lexA s i+(lexT s (lexA s i)).2)))
  else lexF s f (lexA s i+(lexT s (lexA s i)).2) (acc++[((((lexT s (lexA s i)).1:Nat):Int),s.extract (lexA s i) (lexA s i+(lexT s (lexA s i)).2),((lexA s i:Nat):Int))])
def finS (s:ByteArray) (r:List Tk×Int×Nat×ByteArray):List Tk×Fa:=if r.2.1=0 then(r.1,noFa) else([],atFa s r.2.1 r.2.2.1 r.2.2.2)
def splitP (s:ByteArray):List Tk×Fa:=if s.size>20000 then([],(2,1,1,⟨#[]⟩)) else finS s (lexF s (s.size+1) 0 [])
theorem tokN_le:∀l:List Int,(tokN l).2≤l.length
 | []=>Nat.le_refl _
 |c::l=>by
  have h1:=runN_le (c::l)
  have h2:=runD_le (c::l)
  rw[tokN]
  split
  ·exact h1
  ·split
   ·exact h2
   ·rw[signN]
    split
    ·rename_i h
     obtain⟨d,hd⟩:∃d,l.head?=some d:=⟨_,h.2⟩
     cases l with
     |nil=>cases hd
     |cons d l=>simp
    ·split<;>simp
theorem splitFail_calls {s w:ByteArray} {f:Fa} {us:List AV} {i:Nat} {c:Int} (hi:i≤s.size) (hs:s.size≤1000000000):HFn Tryd.prog 23 [nI c,nS w,.ptr 0 0,.ptr 3 0] (spO s f.1 f.2.1 f.2.2.1 f.2.2.2 us.length (i:Int) us)
  (fun r hp'=>r=.tup [.prim (.slice none 0 0),.agg (faC (atFa s c i w))]∧hp'=spO s f.1 f.2.1 f.2.2.1 f.2.2.2 us.length (i:Int) us):=
 vc23_ok ⟨_,_,_,placeOf_calls hi hs,rfl,rfl⟩
theorem splitCut_calls {s:ByteArray} {f:Fa} {us:List Tk} {i n:Nat} {k:Int} (hi:i+n≤s.size) (hs:s.size≤1000000000) (hu:us.length≤1000000000):HFn Tryd.prog 25 [nI k,nI (n:Int),.ptr 2 0,.ptr 0 0,.ptr 3 0] (spO s f.1 f.2.1 f.2.2.1 f.2.2.2 (us.map tkEnc).length (i:Int) (us.map tkEnc))
  (fun r hp'=>r=.tup []∧hp'=spO s f.1 f.2.1 f.2.2.1 f.2.2.2 ((us++[(k,s.extract i (i+n),(i:Int))]).map tkEnc).length ((i+n:Nat):Int) ((us++[(k,s.extract i (i+n),(i:Int))]).map tkEnc)):=by
 refine vc25_ok ?_
 have w:IntKind.wrap .i64 ((i:Int)+(n:Int))=((i+n:Nat):Int):=by rw[wrap_i (by omega) (by omega)];omega
 unfold vc25
 rw[w]
 have e:=tk_snoc us (k,s.extract i (i+n),(i:Int))
 refine⟨⟨by omega,by omega,by omega⟩,rfl,appOk_one rfl (by simp;omega) (by decide),rfl,?_⟩
 rw[←e];rfl
theorem lexSplit_calls {s:ByteArray} (hs:s.size≤1000000000):PureIs Tryd.prog 13 [nS s] (.tup [.sl ((splitP s).1.map tkEnc),.agg (faC (splitP s).2)]):=by
 have hl:=bytesI_len s
 refine vc13_ok ?_
 refine ITE.intro (fun h=>?_) fun h=>?_
 ·have h:s.size>20000:=by have:=of_decide_eq_true h;omega
  rw[splitP,if_pos h];rfl
 refine⟨rfl,?_⟩
 have hsz:¬s.size>20000:=by have:=of_decide_eq_false h;omega
 have hsp:splitP s=finS s (lexF s (s.size+1) 0 []):=if_neg hsz
 refine LoopP.intro (fun p:Nat×Nat×List Tk=>(((),(),(),(),((),(),()),((),(),(),()),()),((s,()),(0,0,0,⟨#[]⟩,()),((),()),((p.2.1:Int),()),p.2.2.map tkEnc,()))) (fun p=>p.2.1≤s.size∧s.size+1≤p.1+p.2.1∧p.2.2.length≤p.2.1∧splitP s=finS s (lexF s p.1 p.2.1 p.2.2)) (fun p=>s.size-p.2.1)
  (s.size+1,0,[]) rfl ⟨Nat.zero_le _,by dsimp only;omega,Nat.le_refl _,hsp⟩ ?_
 intro ⟨f,i,acc⟩ ⟨hi,hf,hac,hd⟩ again hag
 dsimp only at hi hf hac hd ⊢
 obtain⟨f,rfl⟩:∃g,f=g+1:=⟨f-1,by omega⟩
 have hsk:=skip_calls (s:=s.extract i s.size) (by rw[ByteArray.size_extract];omega)
 rw[bytes_to_end] at hsk
 have hle:=skipB_le false ((bytesI s).drop i)
 rw[List.length_drop,hl] at hle
 have w1:IntKind.wrap .i64 ((i:Int)+((skipB false ((bytesI s).drop i):Nat):Int))=((lexA s i:Nat):Int):=by rw[wrap_i (by omega) (by omega),lexA];omega
 have ha:lexA s i≤s.size:=by rw[lexA];omega
 have hai:i≤lexA s i:=by rw[lexA];omega
 refine⟨⟨by omega,by omega,by omega⟩,_,hsk,?_⟩
 rw[w1]
 rw[lexF] at hd
 clear w1 hsk hle
 generalize hA:lexA s i=a at ha hai hd ⊢
 refine ITE.intro (fun h1=>⟨rfl,?_⟩) fun h1=>?_
 ·have h1:a=s.size:=by have:=eq_of_beq h1;omega
  rw[if_pos h1] at hd
  rw[hd];rfl
 have h1:¬a=s.size:=fun e=>by rw[e] at h1;simp at h1
 rw[if_neg h1] at hd
 have hfi:=first_calls (s:=s.extract a s.size) (by rw[ByteArray.size_extract];omega) (by rw[bytes_to_end];intro e;have:=congrArg List.length e;rw[List.length_drop,hl] at this;simp at this;omega)
 rw[bytes_to_end] at hfi
 have htl:=tokN_le ((bytesI s).drop a)
 rw[List.length_drop,hl] at htl
 change PureIs _ _ _ (.tup [nI ((lexT s a).1:Nat),nI ((lexT s a).2:Nat)]) at hfi
 change (lexT s a).2≤_ at htl
 refine⟨⟨by omega,by omega,by omega⟩,_,_,hfi,?_⟩
 generalize hT:lexT s a=t at htl hd ⊢
 obtain⟨k,n⟩:=t
 dsimp only at htl hd ⊢
 have toobig:(k=1∧30<n∨k=2∧9<n)→¬n=0→nI (0:Int)=nI 0→AV.tup [.sl [],.agg (faC (atFa s 2 a (headW (s.extract a (a+n)))))]=AV.tup [.sl ((splitP s).1.map tkEnc),.agg (faC (splitP s).2)]:=fun h h0 _=>by
  rw[if_neg h0,if_pos h] at hd
  rw[hd];rfl
 have w2:IntKind.wrap .i64 ((a:Int)+(n:Int))=((a+n:Nat):Int):=by rw[wrap_i (by omega) (by omega)];omega
 have cut:¬(k=1∧30<n∨k=2∧9<n)→¬n=0→callX 25 [nI (k:Int),nI (n:Int),.ptr 2 0,.ptr 0 0,.ptr 3 0] (spO s 0 0 0 ⟨#[]⟩ (acc.map tkEnc).length (a:Int) (acc.map tkEnc)) fun r q=>∃l s2 i1 i2 i3 w i,(r=.tup []∧q=spO s2 i1 i2 i3 w (List.length l) i l)∧List.length l=List.length l∧
   again (((),(),(),(),((),(),()),((),(),(),()),()),((s2,()),(i1,i2,i3,w,()),((),()),(i,()),l,())):=fun h h0=>by
  rw[if_neg h0,if_neg h] at hd
  exact⟨_,splitCut_calls (f:=noFa) (by omega) hs (by omega),fun r q ⟨e1,e2⟩=>⟨_,_,_,_,_,_,_,⟨e1,e2⟩,rfl,hag (f,a+n,acc++[((k:Int),s.extract a (a+n),(a:Int))]) ⟨by dsimp only;omega,by dsimp only;omega,by simp;omega,hd⟩ (by dsimp only;omega)⟩⟩
 have rest:∀b:Bool,(b=true→(k=1∧30<n∨k=2∧9<n))→(b=false→¬(k=1∧30<n∨k=2∧9<n))→¬n=0→
   vc13_R15 b (a:Int) (n:Int) s 0 0 0 ⟨#[]⟩ (acc.map tkEnc).length (acc.map tkEnc) (fun r=>r=.tup [.sl ((splitP s).1.map tkEnc),.agg (faC (splitP s).2)]) (k:Int) again:=fun b hb1 hb2 h0=>by
  refine ITE.intro (fun h=>?_) fun h=>cut (hb2 h) h0
  rw[w2]
  exact⟨⟨by omega,by omega,by omega⟩,_,lhead_calls,_,splitFail_calls (f:=noFa) (by omega) hs,fun r q ⟨e1,e2⟩=>⟨_,_,_,_,_,_,_,_,_,_,_,⟨e1,e2⟩,toobig (hb1 h) h0 rfl⟩⟩
 refine ITE.intro (fun h2=>?_) fun h2=>?_
 ·have h2:n=0:=by have:=eq_of_beq h2;omega
  rw[if_pos h2] at hd
  refine⟨⟨by omega,by omega⟩,_,visible_calls,_,splitFail_calls (f:=noFa) (by omega) hs,fun r q ⟨e1,e2⟩=>⟨_,_,_,_,_,_,_,_,_,_,_,⟨e1,e2⟩,?_⟩⟩
  rw[hd];rfl
 have h0:¬n=0:=fun e=>by subst e;cases h2
 refine ITE.intro (fun h3=>ITE.intro (fun h4=>?_) fun h4=>ITE.intro (fun h5=>?_) fun h5=>?_) fun h3=>ITE.intro (fun h5=>?_) fun h5=>?_
 ·have h3:k=1:=by have:=eq_of_beq h3;omega
  have h4':30<n:=by have:=of_decide_eq_true h4;omega
  rw[h4]
  exact rest _ (fun _=>.inl ⟨h3,h4'⟩) (fun h=>by cases h) h0
 ·have h3:k=1:=by have:=eq_of_beq h3;omega
  have h5:k=2:=by have:=eq_of_beq h5;omega
  omega
 ·have h3:k=1:=by have:=eq_of_beq h3;omega
  have h4:¬30<n:=by have:=of_decide_eq_false h4;omega
  exact cut (by omega) h0
 ·have h5:k=2:=by have:=eq_of_beq h5;omega
  exact rest _ (fun h=>.inr ⟨h5,by have:=of_decide_eq_true h;omega⟩) (fun h=>by have:=of_decide_eq_false h;omega) h0
 ·have h3:¬k=1:=fun e=>by subst e;cases h3
  have h5:¬k=2:=fun e=>by subst e;cases h5
  exact cut (by omega) h0
end Go.Proofs.YtjhanogfpkbamaaDoor

namespace Go.Proofs.YtjhanogfpkbamaaDoor
open Go
set_option linter.unusedSimpArgs false
set_option linter.unusedVariables false
abbrev St:=Nat×Fa
structure PE (L:List Tk) (s:ByteArray):Prop where
 len:L.length≤1000000
 size:s.size≤1000000000
 at_:∀t∈L,0≤t.2.2∧t.2.2≤(s.size:Int)
 kind:∀t∈L,t.1≠4
abbrev RO (L:List Tk) (s:ByteArray) (i:Nat):List AObj:=rdO (L.map tkEnc) s (i:Int)
def endT (s:ByteArray):Tk:=(4,⟨#[]⟩,(s.size:Int))
def pk (L:List Tk) (s:ByteArray) (i:Nat):Tk:=L.getD i (endT s)
def isT (w:ByteArray) (t:Tk):Bool:=(t.1==1||t.1==3)&&decide (t.2.1=w)
variable {L:List Tk} {s w:ByteArray} {o:Int} {st:St} {i n:Nat}
theorem pk_lt (h:i<L.length):pk L s i=L[i]:=by simp[pk,List.getD,h]
theorem pk_ge (h:L.length≤i):pk L s i=endT s:=by simp[pk,List.getD,h]
theorem pk_at (h:PE L s):0≤(pk L s i).2.2∧(pk L s i).2.2≤(s.size:Int):=by
 rcases Nat.lt_or_ge i L.length with h1|h1
 ·rw[pk_lt h1];exact h.at_ _ (List.getElem_mem h1)
 ·rw[pk_ge h1];exact⟨by simp[endT],Int.le_refl _⟩
theorem peek_calls (h:PE L s) (hi:i≤L.length):HFn Tryd.prog 16 [.ptr 0 0,nI 0] (RO L s i) (fun r q=>r=tkEnc (pk L s i)∧q=RO L s i):=by
 have:=h.len
 have hw:IntKind.wrap .i64 (((L.length:Nat):Int)-(i:Int))=(L.length:Int)-i:=wrap_i (by omega) (by omega)
 have hw2:IntKind.wrap .i64 ((i:Int)+0)=(i:Int):=by rw[Int.add_zero,wrap_i (by omega) (by omega)]
 refine vc16_ok (ITE.neg rfl ?_)
 rw[List.length_map]
 refine ITE.intro (fun h1=>?_) fun h1=>?_
 ·have h1:=of_decide_eq_true h1
  rw[hw] at h1
  rw[pk_ge (by omega)]
  exact⟨rfl,rfl⟩
 ·have h1:=of_decide_eq_false h1
  rw[hw] at h1
  have hlt:i<L.length:=by omega
  rw[hw2]
  exact⟨by omega,by omega,_,_,_,getD_map hlt,by rw[pk_lt hlt];rfl,rfl⟩
theorem rnext_calls (h:PE L s) (hi:i≤L.length):HFn Tryd.prog 70 [.ptr 0 0] (RO L s i) (fun r q=>r=tkEnc (pk L s i)∧q=RO L s (if i<L.length then i+1 else i)):=by
 have:=h.len
 refine vc70_ok ⟨_,peek_calls h hi,fun r q ⟨e1,e2⟩=>⟨_,_,_,_,_,_,⟨e1,e2⟩,?_⟩⟩
 rw[List.length_map]
 refine ITE.intro (fun h1=>⟨rfl,?_⟩) fun h1=>⟨rfl,?_⟩
 ·rw[if_pos (by have:=of_decide_eq_true h1;omega),wrap_n (by omega)]
 ·rw[if_neg (by have:=of_decide_eq_false h1;omega)]
theorem take_calls (h:PE L s) (hi:i≤L.length):HFn Tryd.prog 51 [.ptr 0 0,.clip [nS w]] (RO L s i) (fun r q=>r=nB (isT w (pk L s i))∧q=RO L s (if isT w (pk L s i)=true then i+1 else i)):=by
 have:=h.len
 refine HFn.argsW (ys:=[.ptr 0 0,.sl [nS w]]) ⟨RepW.refl _,repW_clip _,True.intro⟩ ?_
 refine vc51_ok ?_
 refine LoopP.intro (fun k:Nat=>(((),[nS w],[nS w],1,(k:Int),()),((L.map tkEnc,s,(i:Int),()),()))) (fun k=>k=0∨k=1∧isT w (pk L s i)=true) (fun k=>1-k) 0 rfl (.inl rfl) ?_
 intro k hk again hag
 dsimp only
 rcases hk with rfl|⟨rfl,hk⟩
 ·refine ITE.pos rfl ⟨by decide,by show (0:Int)<1;decide,_,rfl,_,peek_calls h hi,fun r q ⟨e1,e2⟩=>⟨_,_,_,_,_,_,⟨e1,e2⟩,?_⟩⟩
  rw[strEq_iff]
  have fin:(pk L s i).1=1∨(pk L s i).1=3→ITE (!(decide ((pk L s i).2.1=w))) (nB false=nB (isT w (pk L s i))∧RO L s i=RO L s (if isT w (pk L s i)=true then i+1 else i)) (again (((),[nS w],[nS w],1,IntKind.wrap .i64 (((0:Nat):Int)+1),()),((L.map tkEnc,s,(i:Int),()),()))):=fun hk=>by
   have hk:((pk L s i).1==1||(pk L s i).1==3)=true:=by simpa using hk
   refine ITE.intro (fun h1=>?_) fun h1=>?_
   ·have:isT w (pk L s i)=false:=by rw[isT,hk];simpa using h1
    rw[this];exact⟨rfl,rfl⟩
   ·refine hag 1 (.inr ⟨rfl,?_⟩) (by decide)
    rw[isT,hk];simpa using h1
  refine ITE.intro (fun h1=>ITE.intro (fun h2=>?_) fun h2=>fin (.inr (by simpa using h2))) fun h1=>fin (.inl (by simpa using h1))
  have:isT w (pk L s i)=false:=by
   have h1:¬(pk L s i).1=1:=by simpa using h1
   have h2:¬(pk L s i).1=3:=by simpa using h2
   simp[isT,h1,h2]
  rw[this];exact⟨rfl,rfl⟩
 ·refine ITE.neg rfl ⟨by rw[hk],?_⟩
  have e:IntKind.wrap .i64 ((i:Int)+1)=((i+1:Nat):Int):=wrap_n (by omega)
  show rdO _ _ (IntKind.wrap .i64 ((i:Int)+1))=_
  rw[if_pos hk,e]
theorem rplace_calls (h:PE L s) (hi:i≤L.length):HFn Tryd.prog 74 [.ptr 0 0] (RO L s i) (fun r q=>r=markA s (pk L s i).2.2.toNat∧q=RO L s i):=by
 have ha:=pk_at (i:=i) h
 have hp:PureIs Tryd.prog 24 [nS s,nI (pk L s i).2.2] (.tup [markA s (pk L s i).2.2.toNat,nI 0]):=by
  have:=placeOf_calls (s:=s) (i:=(pk L s i).2.2.toNat) (by omega) h.size
  rwa [show (((pk L s i).2.2.toNat:Nat):Int)=(pk L s i).2.2 by omega] at this
 have key:vc74_L2 (L.map tkEnc) s (i:Int) (fun r q=>r=markA s (pk L s i).2.2.toNat∧q=RO L s i):=
  ⟨_,peek_calls h hi,fun r q ⟨e1,e2⟩=>⟨_,_,_,_,_,_,⟨e1,e2⟩,_,_,_,hp,ITE.pos rfl ⟨rfl,rfl⟩⟩⟩
 have key2:vc74_L2'' (L.map tkEnc) s (i:Int) (fun r q=>r=markA s (pk L s i).2.2.toNat∧q=RO L s i):=
  ⟨_,peek_calls h hi,fun r q ⟨e1,e2⟩=>⟨_,_,_,_,_,_,⟨e1,e2⟩,_,_,_,hp,ITE.pos rfl ⟨rfl,rfl⟩⟩⟩
 exact vc74_ok ⟨⟨key,key⟩,key2,key,key2⟩
theorem rfail_calls (h:PE L s) (hi:i≤L.length) {c:Int}:HFn Tryd.prog 68 [.ptr 0 0,nI c] (RO L s i) (fun r q=>r=.agg (faC (atFa s c (pk L s i).2.2.toNat (headW (pk L s i).2.1)))∧q=RO L s i):=
 vc68_ok ⟨_,rplace_calls h hi,fun r q ⟨e1,e2⟩=>⟨_,_,_,_,_,⟨e1,e2⟩,_,peek_calls h hi,fun r q ⟨e1,e2⟩=>⟨_,_,_,_,_,_,⟨e1,e2⟩,_,lhead_calls,rfl,rfl⟩⟩⟩
def valF:Int→List Int→Int
 |n,[]=>n
 |n,c::l=>valF (10*n+(c-48)) l
theorem strAV_eq (s:ByteArray):strAV s=(bytesI s).map fun c=>.prim (.int .u8 c):=by simp[strAV,bytesI]
end Go.Proofs.YtjhanogfpkbamaaDoor

namespace Go.Proofs.YtjhanogfpkbamaaDoor
open Go
set_option linter.unusedSimpArgs false
set_option linter.unusedVariables false
section
variable (L:List Tk) (s:ByteArray)
end
variable {L:List Tk} {s w:ByteArray} {o:Int} {st:St} {i n:Nat}
def PRW (x:AV) (H:List AObj):AV→List AObj→Prop:=fun r q=>RepW r x∧q=H
theorem HFn.prw {P:Program} {f:FuncId} {args:List AV} {hp H:List AObj} {x:AV} (h:HFn P f args hp (PRW x H)):HFn P f args hp (fun r q=>r=x∧q=H):=h.res fun r q ⟨h1,h2⟩=>⟨_,h1,rfl,h2⟩
end Go.Proofs.YtjhanogfpkbamaaDoor

namespace Go.Proofs.YtjhanogfpkbamaaDoor
open Go
set_option linter.unusedSimpArgs false
set_option linter.unusedVariables false
variable {L:List Tk} {s w:ByteArray} {o:Int} {st:St} {i n:Nat}
theorem lexF_pe {s:ByteArray}:∀(f i:Nat) (acc:List Tk),i≤s.size→acc.length≤i→(∀t∈acc,(0≤t.2.2∧t.2.2≤(s.size:Int))∧t.1≠4)→
  (lexF s f i acc).1.length≤s.size∧∀t∈(lexF s f i acc).1,(0≤t.2.2∧t.2.2≤(s.size:Int))∧t.1≠4
 |0,i,acc,hi,ha,h=>⟨by rw[lexF];dsimp only;omega,h⟩
 |f+1,i,acc,hi,ha,h=>by
  have hl:=bytesI_len s
  have hle:=skipB_le false ((bytesI s).drop i)
  rw[List.length_drop,hl] at hle
  have hA:i≤lexA s i∧lexA s i≤s.size:=by rw[lexA];omega
  rw[lexF]
  generalize lexA s i=a at hA
  split
  ·exact⟨by dsimp only;omega,h⟩
  split
  ·exact⟨Nat.zero_le _,fun t ht=>by cases ht⟩
  split
  ·exact⟨Nat.zero_le _,fun t ht=>by cases ht⟩
  rename_i h0 _
  have htl:=tokN_le ((bytesI s).drop a)
  rw[List.length_drop,hl] at htl
  have hk:∀l:List Int,(tokN l).1≤3:=fun l=>by
   cases l with
   |nil=>decide
   |cons c l=>
    rw[tokN]
    split
    ·show 1≤3;decide
    ·split
     ·show 2≤3;decide
     ·show 3≤3;decide
  have hk:=hk ((bytesI s).drop a)
  change (lexT s a).2≤_ at htl
  change (lexT s a).1≤_ at hk
  refine lexF_pe f _ _ (by omega) (by simp;omega) fun t ht=>?_
  rcases List.mem_append.1 ht with ht|ht
  ·exact h t ht
  ·obtain rfl:=List.mem_singleton.1 ht
   exact⟨⟨by simp,by simp;omega⟩,by show ¬(((lexT s a).1:Nat):Int)=4;omega⟩
theorem split_pe {s:ByteArray}:PE (splitP s).1 s∨20000<s.size∧splitP s=([],(2,1,1,⟨#[]⟩)):=by
 by_cases h:s.size>20000
 ·exact .inr ⟨h,if_pos h⟩
 ·refine .inl ?_
  have hp:=lexF_pe (s:=s) (s.size+1) 0 [] (Nat.zero_le _) (Nat.le_refl _) fun t ht=>by cases ht
  rw[splitP,if_neg h,finS]
  split
  ·exact⟨by dsimp only;omega,by omega,fun t ht=>(hp.2 t ht).1,fun t ht=>(hp.2 t ht).2⟩
  ·exact⟨Nat.zero_le _,by omega,fun t ht=>(by cases ht),fun t ht=>by cases ht⟩
theorem clone_tk {l:List Tk} (hl:l.length≤1000000):PureIs Tryd.prog 30 [.sl (l.map tkEnc)] (.sl (l.map tkEnc)):=by
 refine vc30_ok fun b hb=>ITE.intro (fun h=>?_) fun h=>⟨fun _=>rfl,appOk_mk (fun x hx=>by cases hx) (fun x hx=>by obtain⟨t,_,rfl⟩:=List.mem_map.1 hx;rfl) (by simp;omega) (by decide),rfl,rfl⟩
 have:l.map tkEnc=[]:=Decidable.byContradiction fun c=>by
  have:=hb c;rw[h] at this;cases this
 rw[this]
theorem rnew_calls {l:List Tk} (hl:l.length≤1000000):HFn Tryd.prog 14 [.sl (l.map tkEnc),nS s] [] (fun r q=>r=.ptr 0 0∧q=RO l s 0):=vc14_ok ⟨_,clone_tk hl,rfl,rfl⟩
end Go.Proofs.YtjhanogfpkbamaaDoor

namespace Go.Proofs.YtjhanogfpkbamaaDoor
open Go
set_option linter.unusedSimpArgs false
set_option linter.unusedVariables false
theorem dec_small {u:Nat} (h:u<10):Lib.decDigits u=[UInt8.ofNat (48+u)]:=by rw[Lib.decDigits,dif_pos h]
theorem dec_step {u:Nat} (h:¬u<10):Lib.decDigits u=Lib.decDigits (u / 10)++[UInt8.ofNat (48+u % 10)]:=by rw[Lib.decDigits,dif_neg h]
end Go.Proofs.YtjhanogfpkbamaaDoor

namespace Go.Proofs.YtjhanogfpkbamaaDoor
open Go
set_option linter.unusedSimpArgs false
set_option linter.unusedVariables false
abbrev Tx:=Int×List Int
inductive Lx:List Int→List Tx→Prop where
 |nil {l:List Int}:skipB false l=l.length→Lx l []
 |cons {l:List Int} {T:List Tx}:skipB false l≠l.length→(tokN (l.drop (skipB false l))).2≠0→
   ¬(((tokN (l.drop (skipB false l))).1=1∧30<(tokN (l.drop (skipB false l))).2)∨((tokN (l.drop (skipB false l))).1=2∧9<(tokN (l.drop (skipB false l))).2))→
   Lx (l.drop (skipB false l+(tokN (l.drop (skipB false l))).2)) T→Lx l ((((tokN (l.drop (skipB false l))).1:Nat),(l.drop (skipB false l)).take (tokN (l.drop (skipB false l))).2)::T)
def txOf (t:Tk):Tx:=(t.1,bytesI t.2.1)
theorem lexF_lx {s:ByteArray}:∀{l:List Int} {T:List Tx},Lx l T→∀(f i:Nat) (acc:List Tk),l=(bytesI s).drop i→i≤s.size→s.size+1≤f+i→∃ts:List Tk,lexF s f i acc=(acc++ts,0,0,⟨#[]⟩)∧ts.map txOf=T:=by
 intro l T h
 induction h with
 |nil h1=>
  intro f i acc hl hi hf
  have hlen:=bytesI_len s
  obtain⟨f,rfl⟩:∃g,f=g+1:=⟨f-1,by omega⟩
  subst hl
  rw[List.length_drop,hlen] at h1
  exact⟨[],by rw[lexF,if_pos (by rw[lexA,h1];omega),List.append_nil],rfl⟩
 |cons h1 h2 h3 _ ih=>
  intro f i acc hl hi hf
  have hlen:=bytesI_len s
  obtain⟨f,rfl⟩:∃g,f=g+1:=⟨f-1,by omega⟩
  subst hl
  have hle:=skipB_le false ((bytesI s).drop i)
  rw[List.length_drop,hlen] at h1 hle
  rw[List.drop_drop] at h2 h3 ih ⊢
  rw[List.drop_drop] at ih
  have htl:=tokN_le ((bytesI s).drop (i+skipB false ((bytesI s).drop i)))
  rw[List.length_drop,hlen] at htl
  have e1:lexA s i=i+skipB false ((bytesI s).drop i):=rfl
  have e2:lexT s (lexA s i)=tokN ((bytesI s).drop (i+skipB false ((bytesI s).drop i))):=rfl
  rw[lexF,if_neg (by rw[e1];omega),if_neg (by rw[e2];exact h2),if_neg (by rw[e2];exact h3),e2,e1]
  obtain⟨ts,g1,g2⟩:=ih f (i+skipB false ((bytesI s).drop i)+(tokN ((bytesI s).drop (i+skipB false ((bytesI s).drop i)))).2) (acc++[((((tokN ((bytesI s).drop (i+skipB false ((bytesI s).drop i)))).1:Nat):Int),s.extract (i+skipB false ((bytesI s).drop i)) (i+skipB false ((bytesI s).drop i)+(tokN ((bytesI s).drop (i+skipB false ((bytesI s).drop i)))).2),((i+skipB false ((bytesI s).drop i):Nat):Int))]) (by rw[Nat.add_assoc]) (by omega) (by omega)
  refine⟨_::ts,by rw[g1,List.append_assoc];rfl,?_⟩
  rw[List.map_cons,g2,txOf]
  dsimp only
  rw[bytesI_extract,Nat.add_sub_cancel_left]
theorem splitP_lx {s:ByteArray} {T:List Tx} (h:Lx (bytesI s) T) (hs:s.size≤20000):∃L:List Tk,splitP s=(L,noFa)∧L.map txOf=T:=by
 obtain⟨ts,g1,g2⟩:=lexF_lx h (s.size+1) 0 [] rfl (Nat.zero_le _) (by omega)
 exact⟨ts,by rw[splitP,if_neg (by omega),g1];rfl,g2⟩
variable {r:List Int} {T:List Tx}
theorem Lx.zero {l:List Int} {n:Nat} {k:Nat} (hs:skipB false l=0) (hk:tokN l=(k,n)) (hn:n≠0) (hb:¬((k=1∧30<n)∨(k=2∧9<n))) (h:Lx (l.drop n) T):Lx l (((k:Nat),l.take n)::T):=by
 have hl:l.length≠0:=fun e=>by
  have:=tokN_le l
  rw[hk] at this;dsimp only at this;omega
 have:=Lx.cons (l:=l) (T:=T) (by rw[hs];exact fun e=>hl e.symm) (by rw[hs,List.drop_zero,hk];exact hn) (by rw[hs,List.drop_zero,hk];exact hb) (by rw[hs,List.drop_zero,hk,Nat.zero_add];exact h)
 rw[hs,List.drop_zero,hk] at this
 exact this
theorem Lx.blank {c:Int} (hc:c=32∨c=10) (h:Lx r T):Lx (c::r) T:=by
 have e:skipB false (c::r)=skipB false r+1:=by
  rcases hc with rfl|rfl<;>(rw[skipB];simp[isBlank])
 cases h with
 |nil h1=>exact .nil (by rw[e,h1];rfl)
 |cons h1 h2 h3 h4=>
  have:=Lx.cons (l:=c::r) (by rw[e];simpa using h1) (by rw[e,List.drop_succ_cons];exact h2) (by rw[e,List.drop_succ_cons];exact h3) (T:=_) (by
   rw[e,List.drop_succ_cons,show skipB false r+1+(tokN (r.drop (skipB false r))).2=(skipB false r+(tokN (r.drop (skipB false r))).2)+1 by omega,List.drop_succ_cons];exact h4)
  rw[e,List.drop_succ_cons] at this
  exact this
def NI (r:List Int):Prop:=∀c,r.head?=some c→isInner c=false
theorem ni_cons {c:Int} (h:isInner c=false):NI (c::r):=fun d hd=>by obtain rfl:=Option.some.inj hd;exact h
theorem ni_nil:NI []:=fun d hd=>by cases hd
theorem Lx.sign {c:Int} (hc:c∈[40,41,92,46,59,58,61,62,44,91,93,123,125]) (h:Lx r T):Lx (c::r) ((3,[c])::T):=by
 have hx:skipB false (c::r)=0∧tokN (c::r)=(3,1):=by
  simp only[List.mem_cons,List.not_mem_nil,or_false] at hc
  rcases hc with rfl|rfl|rfl|rfl|rfl|rfl|rfl|rfl|rfl|rfl|rfl|rfl|rfl<;>exact⟨by rw[skipB];rfl,by rw[tokN,if_neg (by decide),if_neg (by decide),signN,if_neg (by simp),if_pos (by decide)]⟩
 exact Lx.zero hx.1 hx.2 (by decide) (by decide) h
theorem letter_noblank {c:Int} (h:isInner c=true):isBlank c=false:=by
 simp only[isInner,isLetter,isDigit,Bool.or_eq_true,decide_eq_true_eq,beq_iff_eq] at h
 unfold isBlank
 simp;omega
theorem takeWhile_app {p:Int→Bool} {w:List Int} (hw:w.all p=true) (hr:∀c,r.head?=some c→p c=false):(w++r).takeWhile p=w:=by
 induction w with
 |nil=>
  cases r with
  |nil=>rfl
  |cons c r=>rw[List.nil_append,List.takeWhile_cons,hr c rfl];rfl
 |cons d w ih=>
  rw[List.all_cons,Bool.and_eq_true] at hw
  rw[List.cons_append,List.takeWhile_cons,hw.1,ih hw.2];rfl
theorem Lx.word {w:ByteArray} (hw:isWord w=true) (hr:NI r) (h:Lx r T):Lx (bytesI w++r) ((1,bytesI w)::T):=by
 cases hb:bytesI w with
 |nil=>simp[isWord,hb] at hw
 |cons c l=>
  obtain⟨h1,h2,h3⟩:=(isWord_cons hb).1 hw
  have hall:(c::l).all isInner=true:=by rw[List.all_cons,letter_inner h2,h3];rfl
  have hrn:runN ((c::l)++r)=(c::l).length:=by unfold runN;rw[takeWhile_app hall hr]
  have e:tokN ((c::l)++r)=(1,(c::l).length):=by
   rw[←hrn,List.cons_append,tokN,if_pos h2]
  have:=Lx.zero (l:=(c::l)++r) (T:=T) (by rw[List.cons_append,skipB,letter_noblank (letter_inner h2)];rfl) e (by simp) (by rw[List.length_cons];omega) (by rw[List.drop_left];exact h)
  rw[List.take_left] at this
  exact this
theorem Lx.num {d:List Int} (hd:d.all isDigit=true) (h0:d≠[]) (h9:d.length≤9) (hr:NI r) (h:Lx r T):Lx (d++r) ((2,d)::T):=by
 cases d with
 |nil=>exact(h0 rfl).elim
 |cons c l=>
  have hc:isDigit c=true:=by rw[List.all_cons,Bool.and_eq_true] at hd;exact hd.1
  have hlet:isLetter c=false:=by
   simp only[isDigit,decide_eq_true_eq] at hc
   simp[isLetter];omega
  have hrn:runD ((c::l)++r)=(c::l).length:=by
   unfold runD
   rw[takeWhile_app hd fun c hc=>?_]
   have:=hr c hc
   simp only[isInner,Bool.or_eq_false_iff] at this
   exact this.2.1
  have e:tokN ((c::l)++r)=(2,(c::l).length):=by
   rw[←hrn,List.cons_append,tokN,if_neg (by rw[hlet];decide),if_pos hc]
  have:=Lx.zero (l:=(c::l)++r) (T:=T) (by rw[List.cons_append,skipB,letter_noblank (by simp[isInner,hc])];rfl) e (by simp) (by omega) (by rw[List.drop_left];exact h)
  rw[List.take_left] at this
  exact this
theorem bytesI_app (a b:ByteArray):bytesI (a++b)=bytesI a++bytesI b:=by simp[bytesI]
end Go.Proofs.YtjhanogfpkbamaaDoor

namespace Go.Proofs.YtjhanogfpkbamaaDoor
open Go
set_option linter.unusedSimpArgs false
set_option linter.unusedVariables false
def LexB (s:ByteArray) (U:List Tx):Prop:=∀r T,Lx r T→Lx (bytesI s++r) (U++T)
def Lex (s:ByteArray) (U:List Tx):Prop:=∀r T,NI r→Lx r T→Lx (bytesI s++r) (U++T)
theorem LexB.lex {s:ByteArray} {U:List Tx} (h:LexB s U):Lex s U:=fun r T _ hx=>h r T hx
theorem LexB.app {a b:ByteArray} {U V:List Tx} (ha:LexB a U) (hb:Lex b V):Lex (a++b) (U++V):=fun r T hr h=>by
 rw[bytesI_app,List.append_assoc,List.append_assoc]
 exact ha _ _ (hb r T hr h)
theorem lexB_nil:LexB (⟨#[]⟩:ByteArray) []:=fun r T h=>h
theorem decDigits_all:∀(u:Nat),(Lib.decDigits u).all (fun b=>isDigit (b.toNat:Int))=true∧Lib.decDigits u≠[]∧valF 0 ((Lib.decDigits u).map fun b=>(b.toNat:Int))=u:=by
 have app:∀(a b:List Int) (n:Int),valF n (a++b)=valF (valF n a) b:=by
  intro a
  induction a with
  |nil=>intro b n;rfl
  |cons c a ih=>intro b n;exact ih b _
 have dig:∀d:Nat,d<10→isDigit (((UInt8.ofNat (48+d)).toNat:Nat):Int)=true∧(((UInt8.ofNat (48+d)).toNat:Nat):Int)-48=d:=fun d hd=>by
  have:(UInt8.ofNat (48+d)).toNat=48+d:=by
   have h:(UInt8.ofNat (48+d)).toNat=(48+d) % 256:=rfl
   rw[h];omega
  rw[this]
  exact⟨by simp[isDigit];omega,by omega⟩
 intro u
 induction u using Nat.strongRecOn with
 |_ u ih=>
  by_cases h:u<10
  ·rw[dec_small h]
   have:=dig u h
   exact⟨by rw[List.all_cons,this.1];rfl,by simp,by simp only[List.map_cons,List.map_nil,valF];omega⟩
  ·rw[dec_step h]
   have hlt:u / 10<u:=by omega
   obtain⟨h1,h2,h3⟩:=ih _ hlt
   have hd:=dig (u % 10) (Nat.mod_lt _ (by decide))
   refine⟨by rw[List.all_append,h1,List.all_cons,hd.1];rfl,by simp,?_⟩
   rw[List.map_append,app,h3]
   simp only[List.map_cons,List.map_nil,valF]
   rw[hd.2];omega
end Go.Proofs.YtjhanogfpkbamaaDoor

namespace Go.Proofs.YtjhanogfpkbamaaDoor
open Go
set_option linter.unusedSimpArgs false
set_option linter.unusedVariables false
def kindB (w:ByteArray):Int:=match (bytesI w).head? with
 |some c=>if isLetter c=true then 1 else if isDigit c=true then 2 else 3
 |none=>3
def txB (w:ByteArray):Tx:=(kindB w,bytesI w)
def At (L:List Tk) (i:Nat) (u:List ByteArray) (T:List Tx):Prop:=(L.drop i).map txOf=u.map txB++T
variable {L:List Tk} {s w:ByteArray} {i:Nat} {u v:List ByteArray} {T:List Tx}
theorem At.app (h:At L i (u++v) T):At L i u (v.map txB++T):=by
 unfold At at h ⊢
 rw[h,List.map_append,List.append_assoc]
theorem At.next (h:At L i (u++v) T):At L (i+u.length) v T:=by
 unfold At at h ⊢
 rw[←List.drop_drop,List.map_drop,h,List.map_append,List.append_assoc]
 have:(u.map txB).length=u.length:=List.length_map _
 rw[←this,List.drop_left]
theorem At.tail (h:At L i (w::u) T):At L (i+1) u T:=At.next (u:=[w]) (v:=u) h
theorem At.le (hi:i≤L.length) (h:At L i u T):i+u.length≤L.length:=by
 have:=congrArg List.length h
 simp only[List.length_map,List.length_drop,List.length_append] at this
 omega
theorem At.lt (h:At L i (w::u) T):i<L.length:=by
 rcases Nat.lt_or_ge i L.length with h1|h1
 ·exact h1
 ·unfold At at h
  rw[List.drop_eq_nil_of_le h1] at h
  cases h
theorem At.tok (h:At L i (w::u) T):(pk L s i).1=kindB w∧(pk L s i).2.1=w:=by
 have hlt:=h.lt
 rw[pk_lt hlt]
 unfold At at h
 rw[List.drop_eq_getElem_cons hlt,List.map_cons,List.map_cons,List.cons_append] at h
 have h1:=(List.cons.inj h).1
 unfold txOf txB at h1
 exact⟨congrArg Prod.fst h1,bytesI_inj (congrArg Prod.snd h1)⟩
theorem At.isT (h:At L i (w::u) T) {x:ByteArray} (hk:kindB w≠2):isT x (pk L s i)=decide (w=x):=by
 obtain⟨h1,h2⟩:=h.tok (s:=s)
 unfold Go.Proofs.YtjhanogfpkbamaaDoor.isT
 rw[h1,h2]
 have:kindB w=1∨kindB w=3:=by
  unfold kindB at hk ⊢
  split<;>(try split)<;>(try split)<;>simp_all
 rcases this with h|h<;>simp[h]
theorem At.isT_num (h:At L i (w::u) T) {x:ByteArray} (hk:kindB w=2):Go.Proofs.YtjhanogfpkbamaaDoor.isT x (pk L s i)=false:=by
 obtain⟨h1,h2⟩:=h.tok (s:=s)
 unfold Go.Proofs.YtjhanogfpkbamaaDoor.isT
 rw[h1,hk];rfl
theorem At.not (h:At L i (w::u) T) {x:ByteArray} (hx:w≠x):Go.Proofs.YtjhanogfpkbamaaDoor.isT x (pk L s i)=false:=by
 by_cases hk:kindB w=2
 ·exact h.isT_num hk
 ·rw[h.isT hk];exact decide_eq_false hx
theorem numW_bytes {n:Int} (h:numOk n=true):bytesI (numW n)=(Lib.decDigits n.toNat).map fun b=>((b.toNat:Nat):Int):=by
 have h:=of_decide_eq_true h
 obtain⟨u,rfl⟩:∃u:Nat,n=(u:Int):=⟨n.toNat,by omega⟩
 unfold numW
 rw[Lib.itoa_nonneg,Int.toNat_natCast]
 simp[bytesI]
theorem numW_digits {n:Int} (h:numOk n=true):(bytesI (numW n)).all isDigit=true∧bytesI (numW n)≠[]∧valF 0 (bytesI (numW n))=n:=by
 rw[numW_bytes h]
 have h:=of_decide_eq_true h
 obtain⟨h1,h2,h3⟩:=decDigits_all n.toNat
 refine⟨by rw[List.all_map];exact h1,by simp[h2],by rw[h3];omega⟩
theorem dec_len:∀(d u:Nat),u<10 ^ (d+1)→(Lib.decDigits u).length≤d+1
 |0,u,h=>by rw[dec_small (by omega)];exact Nat.le_refl _
 |d+1,u,h=>by
  by_cases h1:u<10
  ·rw[dec_small h1];simp
  ·rw[dec_step h1,List.length_append]
   have:=dec_len d (u / 10) (by rw[Nat.pow_succ] at h;omega)
   simp;omega
theorem numW_len {n:Int} (h:numOk n=true):(numW n).size≤9:=by
 rw[←bytesI_len,numW_bytes h,List.length_map]
 have h:=of_decide_eq_true h
 exact dec_len 8 _ (by omega)
theorem numW_kind {n:Int} (h:numOk n=true):kindB (numW n)=2:=by
 obtain⟨h1,h2,_⟩:=numW_digits h
 unfold kindB
 cases hb:bytesI (numW n) with
 |nil=>exact(h2 hb).elim
 |cons c l=>
  rw[hb,List.all_cons,Bool.and_eq_true] at h1
  have hc:=h1.1
  have hl:isLetter c=false:=by
   simp only[isDigit,decide_eq_true_eq] at hc
   simp[isLetter];omega
  simp[hl,hc]
theorem dec_head:∀(u:Nat),(Lib.decDigits u).head?=some 48→u=0:=by
 intro u
 induction u using Nat.strongRecOn with
 |_ u ih=>
  intro h
  by_cases h1:u<10
  ·rw[dec_small h1] at h
   simp only[List.head?_cons,Option.some.injEq] at h
   have:(UInt8.ofNat (48+u)).toNat=48:=by rw[h];rfl
   have h2:(UInt8.ofNat (48+u)).toNat=(48+u) % 256:=rfl
   omega
  ·rw[dec_step h1,List.head?_append] at h
   have hne:=dec_ne (u / 10)
   cases hd:(Lib.decDigits (u / 10)).head? with
   |none=>rw[List.head?_eq_none_iff] at hd;exact(hne hd).elim
   |some c=>
    rw[hd] at h
    simp only[Option.some_or,Option.some.injEq] at h
    have:=ih (u / 10) (by omega) (by rw[hd,h])
    omega
theorem atoi0_calls {s:ByteArray} (h0:bytesI s≠[]) (h9:s.size≤9) (hd:(bytesI s).all isDigit=true):PureIs Tryd.prog 80 [nS s] (.tup [nI (valF 0 (bytesI s)),.prim .nilIface]):=by
 have hl:=bytesI_len s
 have hall:∀c∈bytesI s,48≤c∧c≤57:=fun c hc=>by
  have:=(List.all_eq_true.1 hd) c hc
  simpa [isDigit] using this
 have hpos:0<s.size:=by
  rw[←hl];exact List.length_pos_iff.2 h0
 have hat0:strAt s (0:Int)=(bytesI s)[0]:=by
  have:strAt s ((0:Nat):Int)=(bytesI s)[0]:=strAt_eq (by omega)
  exact this
 have hc0:=hall _ (List.getElem_mem (show 0<(bytesI s).length by omega))
 have n45:(strAt s (0:Int)==45)=false:=by rw[hat0,beq_eq_false_iff_ne];omega
 have n43:(strAt s (0:Int)==43)=false:=by rw[hat0,beq_eq_false_iff_ne];omega
 have bnd:0≤(0:Int)∧(0:Int)<((s.size:Nat):Int):=⟨by decide,by omega⟩
 refine vc80_ok (ITE.pos (decide_eq_true (by omega)) (ITE.pos (decide_eq_true (by omega)) ⟨bnd,ITE.neg n45 ⟨bnd,ITE.neg n43 ⟨by omega,?_⟩⟩⟩))
 rw[strAV_eq,List.length_map,hl]
 refine LoopP.intro (fun p:Nat×Int=>((s,p.2,(bytesI s).map (fun c=>.prim (.int .u8 c)),((s.size:Nat):Int),(p.1:Int),()),())) (fun p=>p.1≤s.size∧valF 0 (bytesI s)=valF p.2 ((bytesI s).drop p.1)∧0≤p.2∧p.2<(10 ^ p.1:Nat)) (fun p=>s.size-p.1) (0,0) rfl ⟨Nat.zero_le _,rfl,Int.le_refl _,by decide⟩ ?_
 intro ⟨k,n⟩ ⟨hk,hv,hn0,hn1⟩ again hag
 dsimp only at hk hv hn0 hn1 ⊢
 refine ITE.intro (fun h=>?_) fun h=>?_
 ·have hlt:k<s.size:=by have:=of_decide_eq_true h;omega
  have hlt':k<(bytesI s).length:=by omega
  have hc:=hall _ (List.getElem_mem hlt')
  rw[List.drop_eq_getElem_cons hlt',valF] at hv
  have hp:(10 ^ k:Nat)≤10 ^ 8:=Nat.pow_le_pow_right (by decide) (by omega)
  have hp9:(10 ^ 8:Nat)=100000000:=by decide
  have hw:IntKind.wrap .u8 ((bytesI s)[k]-48)=(bytesI s)[k]-48:=by
   have key:∀d:Fin 10,IntKind.wrap .u8 ((d.val:Nat):Int)=((d.val:Nat):Int):=by decide
   have:=key ⟨((bytesI s)[k]-48).toNat,by omega⟩
   rwa [show ((((bytesI s)[k]-48).toNat:Nat):Int)=(bytesI s)[k]-48 by omega] at this
  refine⟨by omega,by rw[List.length_map];omega,_,getD_map hlt',?_⟩
  rw[hw]
  refine ITE.neg (decide_eq_false (by omega)) ?_
  rw[wrap_i (n:=n*10) (by omega) (by omega),wrap_i (n:=(bytesI s)[k]-48) (by omega) (by omega),wrap_i (by omega) (by omega),wrap_n (by omega)]
  refine hag (k+1,_) ⟨by dsimp only;omega,by dsimp only;rw[Int.mul_comm n 10];exact hv,by dsimp only;omega,?_⟩ (by dsimp only;omega)
  dsimp only
  have:(10 ^ (k+1):Nat)=10*10 ^ k:=by rw[Nat.pow_succ];omega
  rw[this];omega
 ·have hge:s.size≤k:=by have:=of_decide_eq_false h;omega
  rw[List.drop_eq_nil_of_le (by omega),valF] at hv
  refine⟨bnd,ITE.neg n45 ?_⟩
  rw[hv]
theorem plain_calls {n:Int} (h:numOk n=true):PureIs Tryd.prog 69 [nS (numW n)] (.tup [nI n,nB true]):=by
 obtain⟨h1,h2,h3⟩:=numW_digits h
 have h9:=numW_len h
 have hl:=bytesI_len (numW n)
 have hpos:0<(numW n).size:=by rw[←hl];exact List.length_pos_iff.2 h2
 have bnd:0≤(0:Int)∧(0:Int)<(((numW n).size:Nat):Int):=⟨by decide,by omega⟩
 have hat0:strAt (numW n) (0:Int)=(bytesI (numW n))[0]:=by
  have:strAt (numW n) ((0:Nat):Int)=(bytesI (numW n))[0]:=strAt_eq (by omega)
  exact this
 have hc0:48≤(bytesI (numW n))[0]∧(bytesI (numW n))[0]≤57:=by
  have:=(List.all_eq_true.1 h1) _ (List.getElem_mem (show 0<(bytesI (numW n)).length by omega))
  simpa [isDigit] using this
 have ha:=atoi0_calls (s:=numW n) h2 h9 h1
 rw[h3] at ha
 have ha2:PureIs Tryd.prog 75 [nS (numW n)] (.tup [nI n,.prim .nilIface]):=vc75_ok ⟨_,ha,rfl⟩
 have n43:(strAt (numW n) (0:Int) != 43)=true:=by rw[hat0,bne_iff_ne];omega
 have n45:(strAt (numW n) (0:Int) != 45)=true:=by rw[hat0,bne_iff_ne];omega
 refine vc69_ok (ITE.neg (by rw[word_empty];exact decide_eq_false (by omega)) (ITE.neg (decide_eq_false (by omega)) ⟨bnd,ITE.intro (fun h4=>ITE.neg (decide_eq_false ?_) ⟨_,ha2,bnd,ITE.pos n43 ⟨bnd,by rw[n45]⟩⟩) fun h4=>⟨_,ha2,bnd,ITE.pos n43 ⟨bnd,by rw[n45]⟩⟩⟩))
 have h4:(bytesI (numW n))[0]=48:=by rw[←hat0];simpa using h4
 have hn:=of_decide_eq_true h
 have hb:=numW_bytes h
 have:(Lib.decDigits n.toNat).head?=some 48:=by
  cases hd:Lib.decDigits n.toNat with
  |nil=>rw[hd] at hb;exact(h2 hb).elim
  |cons c l=>
   rw[hd] at hb
   simp only[hb,List.map_cons,List.getElem_cons_zero] at h4
   rw[List.head?_cons,Option.some.injEq]
   exact UInt8.toNat_inj.1 (by show c.toNat=48;omega)
 have h0:=dec_head _ this
 rw[←hl,hb,h0]
 simp[dec_small]
end Go.Proofs.YtjhanogfpkbamaaDoor

namespace Go.Proofs.YtjhanogfpkbamaaDoor
open Go
set_option linter.unusedSimpArgs false
set_option linter.unusedVariables false
abbrev D2 (L:List Tk) (s:ByteArray) (i:Nat) (f:Fa):List AObj:=dcO (L.map tkEnc) s (i:Int) f.1 f.2.1 f.2.2.1 f.2.2.2
abbrev D3 (L:List Tk) (s:ByteArray) (i:Nat) (f:Fa):List AObj:=dc3 (L.map tkEnc) s (i:Int) f.1 f.2.1 f.2.2.1 f.2.2.2
abbrev D4 (L:List Tk) (s:ByteArray) (i:Nat) (f:Fa) (op:Int):List AObj:=dc4 (L.map tkEnc) s (i:Int) f.1 f.2.1 f.2.2.1 f.2.2.2 op
variable {L:List Tk} {s w:ByteArray} {i:Nat} {u v:List ByteArray} {T:List Tx} {f:Fa}
theorem dok_calls:HFn Tryd.prog 15 [.ptr 1 0] (D2 L s i f) (fun r q=>r=nB (f.1==0)∧q=D2 L s i f):=vc15_ok ⟨rfl,rfl⟩
def fAt (L:List Tk) (s:ByteArray) (c:Int) (i:Nat):Fa:=atFa s c (pk L s i).2.2.toNat (headW (pk L s i).2.1)
theorem dfail_calls (h:PE L s) (hi:i≤L.length) {c:Int}:HFn Tryd.prog 52 [.ptr 1 0,nI c] (D2 L s i noFa) (fun r q=>r=.tup []∧q=D2 L s i (fAt L s c i)):=
 vc52_ok ⟨_,dok_calls (f:=noFa),fun r q ⟨e1,e2⟩=>⟨_,_,_,_,_,_,_,_,⟨e1,e2⟩,ITE.pos rfl ⟨_,rfail_calls h hi,fun r q ⟨e1,e2⟩=>⟨_,_,_,_,_,_,_,⟨e1,e2⟩,rfl,rfl⟩⟩⟩⟩
theorem dfail_bad (hf:(f.1==0)=false) {c:Int}:HFn Tryd.prog 52 [.ptr 1 0,nI c] (D2 L s i f) (fun r q=>r=.tup []∧q=D2 L s i f):=
 vc52_ok ⟨_,dok_calls (f:=f),fun r q ⟨e1,e2⟩=>⟨_,_,_,_,_,_,_,_,⟨e1,e2⟩,ITE.neg hf ⟨rfl,rfl⟩⟩⟩
theorem dis_calls (h:PE L s) (hi:i≤L.length):HFn Tryd.prog 53 [.ptr 1 0,nS w] (D2 L s i noFa) (fun r q=>r=nB (isT w (pk L s i))∧q=D2 L s (if isT w (pk L s i)=true then i+1 else i) noFa):=
 vc53_ok ⟨_,dok_calls (f:=noFa),fun r q ⟨e1,e2⟩=>⟨_,_,_,_,_,_,_,_,⟨e1,e2⟩,ITE.pos rfl ⟨_,take_calls h hi,fun r q ⟨e1,e2⟩=>⟨_,_,_,_,⟨e1,e2⟩,rfl,rfl⟩⟩⟩⟩
theorem dis_yes (h:PE L s) (hat:At L i (w::u) T) (hk:kindB w≠2):HFn Tryd.prog 53 [.ptr 1 0,nS w] (D2 L s i noFa) (fun r q=>r=nB true∧q=D2 L s (i+1) noFa):=by
 have:=dis_calls (w:=w) h (Nat.le_of_lt hat.lt)
 rw[hat.isT hk,decide_eq_true rfl,if_pos rfl] at this
 exact this
theorem dis_no (h:PE L s) (hi:i≤L.length) (hn:isT w (pk L s i)=false):HFn Tryd.prog 53 [.ptr 1 0,nS w] (D2 L s i noFa) (fun r q=>r=nB false∧q=D2 L s i noFa):=by
 have:=dis_calls (w:=w) h hi
 rw[hn,if_neg (by decide)] at this
 exact this
theorem dmust_calls (h:PE L s):∀{ws:List ByteArray},ws.length≤100→(∀w∈ws,kindB w≠2)→At L i (ws++u) T→i≤L.length→
  HFn Tryd.prog 31 [.ptr 1 0,.clip (ws.map nS)] (D2 L s i noFa) (fun r q=>r=.tup []∧q=D2 L s (i+ws.length) noFa):=by
 intro ws hl hk hat hi
 refine HFn.argsW (ys:=[.ptr 1 0,.sl (ws.map nS)]) ⟨RepW.refl _,repW_clip _,True.intro⟩ ?_
 refine vc31_ok ?_
 unfold vc31
 rw[List.length_map]
 refine LoopP.intro (fun k:Nat=>(((),ws.map nS,((ws.length:Nat):Int),(k:Int),()),((L.map tkEnc,s,((i+k:Nat):Int),()),((),0,0,0,⟨#[]⟩,()),()))) (fun k=>k≤ws.length) (fun k=>ws.length-k) 0 rfl (Nat.zero_le _) ?_
 intro k hkl again hag
 dsimp only
 refine ITE.intro (fun h1=>?_) fun h1=>?_
 ·have hlt:k<ws.length:=by have:=of_decide_eq_true h1;omega
  have hatk:At L (i+k) (ws[k]::(ws.drop (k+1)++u)) T:=by
   have e:ws++u=ws.take k++(ws[k]::(ws.drop (k+1)++u)):=by
    rw[←List.cons_append,←List.drop_eq_getElem_cons hlt,←List.append_assoc,List.take_append_drop]
   rw[e] at hat
   have:=hat.next
   rwa [List.length_take,Nat.min_eq_left hkl] at this
  have ht:=take_calls (w:=ws[k]) h (Nat.le_of_lt hatk.lt)
  rw[hatk.isT (hk _ (List.getElem_mem hlt)),decide_eq_true rfl,if_pos rfl] at ht
  refine⟨by omega,by rw[List.length_map];omega,_,getD_map hlt,_,dok_calls (f:=noFa),fun r q ⟨e1,e2⟩=>⟨_,_,_,_,_,_,_,_,⟨e1,e2⟩,ITE.pos rfl ⟨_,ht,fun r q ⟨e1,e2⟩=>⟨_,_,_,_,⟨e1,e2⟩,ITE.neg rfl ?_⟩⟩⟩⟩
  rw[wrap_n (by omega)]
  exact hag (k+1) hlt (by omega)
 ·have hge:ws.length≤k:=by have:=of_decide_eq_false h1;omega
  obtain rfl:k=ws.length:=by omega
  exact⟨rfl,rfl⟩
theorem dmust_bad (hf:(f.1==0)=false) {ws:List ByteArray} (hl:ws.length≤100):HFn Tryd.prog 31 [.ptr 1 0,.clip (ws.map nS)] (D2 L s i f) (fun r q=>r=.tup []∧q=D2 L s i f):=by
 refine HFn.argsW (ys:=[.ptr 1 0,.sl (ws.map nS)]) ⟨RepW.refl _,repW_clip _,True.intro⟩ ?_
 refine vc31_ok ?_
 unfold vc31
 rw[List.length_map]
 refine LoopP.intro (fun k:Nat=>(((),ws.map nS,((ws.length:Nat):Int),(k:Int),()),((L.map tkEnc,s,(i:Int),()),((),f.1,f.2.1,f.2.2.1,f.2.2.2,()),()))) (fun k=>k≤ws.length) (fun k=>ws.length-k) 0 rfl (Nat.zero_le _) ?_
 intro k hkl again hag
 dsimp only
 refine ITE.intro (fun h1=>?_) fun h1=>⟨rfl,rfl⟩
 have hlt:k<ws.length:=by have:=of_decide_eq_true h1;omega
 refine⟨by omega,by rw[List.length_map];omega,_,getD_map hlt,_,dok_calls (f:=f),fun r q ⟨e1,e2⟩=>⟨_,_,_,_,_,_,_,_,⟨e1,e2⟩,ITE.neg hf ?_⟩⟩
 rw[wrap_n (by omega)]
 exact hag (k+1) hlt (by omega)
theorem dnum_calls (h:PE L s) {n:Int} (hn:numOk n=true) (hat:At L i (numW n::u) T):HFn Tryd.prog 55 [.ptr 1 0] (D2 L s i noFa) (fun r q=>r=nI n∧q=D2 L s (i+1) noFa):=by
 have hlt:=hat.lt
 obtain⟨h1,h2⟩:=hat.tok (s:=s)
 rw[numW_kind hn] at h1
 have hp:=plain_calls hn
 rw[←h2] at hp
 have hnx:=rnext_calls h (Nat.le_of_lt hlt)
 rw[if_pos hlt] at hnx
 refine vc55_ok ⟨_,peek_calls h (Nat.le_of_lt hlt),fun r q ⟨e1,e2⟩=>⟨_,_,_,_,_,_,⟨e1,e2⟩,_,_,hp,ITE.neg rfl ⟨_,peek_calls h (Nat.le_of_lt hlt),fun r q ⟨e1,e2⟩=>⟨_,_,_,_,_,_,⟨e1,e2⟩,?_⟩⟩⟩⟩
 refine ITE.neg (by rw[h1];rfl) ⟨_,dok_calls (f:=noFa),fun r q ⟨e1,e2⟩=>⟨_,_,_,_,_,_,_,_,⟨e1,e2⟩,ITE.neg rfl ⟨_,hnx,fun r q ⟨e1,e2⟩=>⟨_,_,_,_,_,_,⟨e1,e2⟩,rfl,rfl⟩⟩⟩⟩
theorem letW_bytes {k:Int} (h:kOk k=true):∃c:Int,bytesI (letW k)=[c]∧isLetter c=true∧0≤c∧c<256∧idxI c [98,99,109]=k:=by
 have h:=of_decide_eq_true h
 have:k=0∨k=1∨k=2:=by omega
 rcases this with rfl|rfl|rfl
 ·exact⟨98,rfl,by decide,by decide,by decide,by decide⟩
 ·exact⟨99,rfl,by decide,by decide,by decide,by decide⟩
 ·exact⟨109,rfl,by decide,by decide,by decide,by decide⟩
theorem headW_kind {k n:Int} (h:kOk k=true):kindB (letW k++numW n)=1:=by
 obtain⟨c,h1,h2,_⟩:=letW_bytes h
 unfold kindB
 rw[bytesI_app,h1]
 simp[h2]
theorem dhead_calls (h:PE L s) {k n:Int} (hk:kOk k=true) (hn:numOk n=true) (hat:At L i ((letW k++numW n)::u) T):HFn Tryd.prog 58 [.ptr 1 0] (D2 L s i noFa) (fun r q=>r=.agg [nI k,nI n]∧q=D2 L s (i+1) noFa):=by
 have hlt:=hat.lt
 obtain⟨h1,h2⟩:=hat.tok (s:=s)
 rw[headW_kind hk] at h1
 obtain⟨c,c1,c2,c3,c4,c5⟩:=letW_bytes hk
 have hb:bytesI (letW k++numW n)=c::bytesI (numW n):=by rw[bytesI_app,c1];rfl
 have hat0:=strAt_drop (s:=letW k++numW n) (k:=0) (by rw[List.drop_zero];exact hb)
 have hz:=hat0.2.1
 have hst:strAt (letW k++numW n) (0:Int)=c:=hat0.1
 have hix:=indexByte_calls (s:=(⟨#[98,99,109]⟩:ByteArray)) (c:=c) (by omega) (by omega)
 have eb:bytesI (⟨#[98,99,109]⟩:ByteArray)=[98,99,109]:=rfl
 rw[eb,c5] at hix
 have hp:=plain_calls hn
 have ee:ByteArray.extract (letW k++numW n) (Int.toNat 1) (Int.toNat (((letW k++numW n).size:Nat):Int))=numW n:=by
  apply bytesI_inj
  rw[Int.toNat_natCast,show Int.toNat 1=1 from rfl,bytes_to_end,hb]
  rfl
 have hnx:=rnext_calls h (Nat.le_of_lt hlt)
 rw[if_pos hlt] at hnx
 have hko:=of_decide_eq_true hk
 refine vc58_ok ⟨_,peek_calls h (Nat.le_of_lt hlt),fun r q ⟨e1,e2⟩=>⟨_,_,_,_,_,_,⟨e1,e2⟩,_,peek_calls h (Nat.le_of_lt hlt),fun r q ⟨e1,e2⟩=>⟨_,_,_,_,_,_,⟨e1,e2⟩,?_⟩⟩⟩
 refine ITE.pos (by rw[h1];rfl) ?_
 rw[h2]
 refine⟨⟨by decide,by omega⟩,_,by rw[hst];exact hix,⟨by decide,by omega,by omega⟩,_,_,by rw[ee];exact hp,ITE.pos rfl (ITE.pos (decide_eq_true (by omega)) ⟨_,dok_calls (f:=noFa),fun r q ⟨e1,e2⟩=>⟨_,_,_,_,_,_,_,_,⟨e1,e2⟩,ITE.pos rfl ⟨_,hnx,fun r q ⟨e1,e2⟩=>⟨_,_,_,_,_,_,⟨e1,e2⟩,rfl,rfl⟩⟩⟩⟩)⟩
theorem dopen_calls {d:Nat} (hd:d+1≤60):HFn Tryd.prog 54 [.ptr 1 0,nI ((60-(d+1):Nat):Int)] (D2 L s i noFa) (fun r q=>r=nB true∧q=D2 L s i noFa):=
 vc54_ok (ITE.neg (by rw[beq_eq_false_iff_ne];omega) ⟨_,dok_calls (f:=noFa),fun r q ⟨e1,e2⟩=>⟨_,_,_,_,_,_,_,_,⟨e1,e2⟩,rfl,rfl⟩⟩)
theorem dopen_full (h:PE L s) (hi:i≤L.length) (hz:(fAt L s 2 i).1=2):HFn Tryd.prog 54 [.ptr 1 0,nI 60] (D2 L s i noFa) (fun r q=>r=nB false∧q=D2 L s i (fAt L s 2 i)):=
 vc54_ok (ITE.pos rfl ⟨_,dfail_calls h hi,fun r q ⟨e1,e2⟩=>⟨_,_,_,_,_,_,_,⟨e1,e2⟩,_,dok_calls (f:=fAt L s 2 i),fun r q ⟨e1,e2⟩=>⟨_,_,_,_,_,_,_,_,⟨e1,e2⟩,by rw[hz];rfl,rfl⟩⟩⟩)
theorem dopen_bad (hf:(f.1==0)=false) {o:Int}:HFn Tryd.prog 54 [.ptr 1 0,nI o] (D2 L s i f) (fun r q=>r=nB false∧q=D2 L s i f):=
 vc54_ok (ITE.intro (fun h1=>⟨_,dfail_bad hf,fun r q ⟨e1,e2⟩=>⟨_,_,_,_,_,_,_,⟨e1,e2⟩,_,dok_calls (f:=f),fun r q ⟨e1,e2⟩=>⟨_,_,_,_,_,_,_,_,⟨e1,e2⟩,by rw[hf],rfl⟩⟩⟩) fun h1=>⟨_,dok_calls (f:=f),fun r q ⟨e1,e2⟩=>⟨_,_,_,_,_,_,_,_,⟨e1,e2⟩,by rw[hf],rfl⟩⟩)
end Go.Proofs.YtjhanogfpkbamaaDoor

namespace Go.Proofs.YtjhanogfpkbamaaDoor
open Go
set_option linter.unusedSimpArgs false
set_option linter.unusedVariables false
variable {L:List Tk} {s:ByteArray}
theorem untilT_calls (h:PE L s) {op:Int} {l:List (Ty)} {tok:Ty→List ByteArray} {G:List Tx→Prop} {ew:ByteArray} {b:Bool} (hl:l.length≤1000000) (hb:b=true→l≠[]) (hke:kindB ew≠2)
  (hrd:∀x∈l,∀(j:Nat) (T':List Tx),j≤L.length→At L j (tok x) T'→G T'→HFn Tryd.prog 56 [.ptr 2 0,.ptr 3 0] (D4 L s (j) noFa op) (fun r q=>r=Ty.enc x∧q=D4 L s (j+(tok x).length) noFa op))
  (hG1:∀x∈l,∀T',G ((tok x).map txB++T')) (hG2:∀T',G (txB ew::T')) (hne:∀x∈l,∃w u,tok x=w::u∧w≠ew)
  {i:Nat} {T:List Tx} (hat:At L i (l.flatMap tok++[ew]) T) (hi:i≤L.length):
  HFn Tryd.prog 32 [.ptr 1 0,nS ew,nB b,.clo 56 [.ptr 2 0,.ptr 3 0]] (D4 L s (i) noFa op) (fun r q=>r=.sl (l.map Ty.enc)∧q=D4 L s (i+(l.flatMap tok).length+1) noFa op):=by
 refine vc_untilT_ok ⟨rfl,?_⟩
 refine LoopP.intro (fun k:Nat=>(((),ew,b,((),(),()),(),()),((L.map tkEnc,s,((i+((l.take k).flatMap tok).length:Nat):Int),()),((),0,0,0,⟨#[]⟩,()),((),()),(op,()),(l.take k).map Ty.enc,()))) (fun k=>k≤l.length) (fun k=>l.length-k) 0 rfl (Nat.zero_le _) ?_
 intro k hk again hag
 dsimp only
 have hat0:At L i ((l.take k).flatMap tok++((l.drop k).flatMap tok++[ew])) T:=by
  rw[←List.append_assoc,←List.flatMap_append,List.take_append_drop];exact hat
 have hatk:=hat0.next
 have hPl:=At.le hi hat0.app
 generalize hP:i+((l.take k).flatMap tok).length=P at hatk hPl ⊢
 refine⟨_,dok_calls (f:=noFa),fun r q ⟨e1,e2⟩=>⟨_,_,_,_,_,_,_,_,⟨e1,e2⟩,ITE.pos rfl ?_⟩⟩
 by_cases hlt:k<l.length
 ·have hmem:=List.getElem_mem hlt
  obtain⟨w,u,hw,hwe⟩:=hne _ hmem
  have hx:At L P (tok l[k]) (((l.drop (k+1)).flatMap tok++[ew]).map txB++T):=by
   rw[List.drop_eq_getElem_cons hlt,List.flatMap_cons,List.append_assoc] at hatk
   exact hatk.app
  have hGk:G (((l.drop (k+1)).flatMap tok++[ew]).map txB++T):=by
   cases hd:l.drop (k+1) with
   |nil=>exact hG2 _
   |cons y m=>
    rw[List.flatMap_cons,List.append_assoc,List.map_append,List.append_assoc]
    exact hG1 y (List.mem_of_mem_drop (by rw[hd];exact List.mem_cons_self)) _
  have hno:isT ew (pk L s P)=false:=by
   rw[hw] at hx
   exact hx.not hwe
  have hr:=hrd _ hmem P _ hPl hx hGk
  rw[Ty.enc_eq] at hr
  have hend:again (((),ew,b,((),(),()),(),()),((L.map tkEnc,s,((P+(tok l[k]).length:Nat):Int),()),((),0,0,0,⟨#[]⟩,()),((),()),(op,()),((l.take k).map Ty.enc++[.agg [.sl (l[k].args.map Ty.enc),nI l[k].base]]),())):=by
   have e1:(l.take k).map Ty.enc++[.agg [.sl (l[k].args.map Ty.enc),nI l[k].base]]=(l.take (k+1)).map Ty.enc:=by rw[←Ty.enc_eq];rw[←take_snoc' hlt,List.map_append];rfl
   have e2:P+(tok l[k]).length=i+((l.take (k+1)).flatMap tok).length:=by rw[flatM_take _ hlt,List.length_append,←hP];omega
   rw[e1,e2]
   exact hag (k+1) hlt (by omega)
  refine ITE.intro (fun h1=>⟨rfl,ITE.intro (fun h2=>⟨_,hr,fun r q ⟨e1,e2⟩=>⟨_,_,_,_,_,_,_,_,_,_,⟨e1,e2⟩,rfl,appOk_one rfl (by rw[List.length_append,List.length_map,List.length_take];simp;omega) (by decide),rfl,hend⟩⟩) fun h2=>⟨_,dis_no h hPl hno,fun r q ⟨e1,e2⟩=>⟨_,_,_,_,_,_,_,_,⟨e1,e2⟩,ITE.pos rfl ⟨_,hr,fun r q ⟨e1,e2⟩=>⟨_,_,_,_,_,_,_,_,_,_,⟨e1,e2⟩,rfl,appOk_one rfl (by rw[List.length_append,List.length_map,List.length_take];simp;omega) (by decide),rfl,hend⟩⟩⟩⟩⟩) fun h1=>⟨_,dis_no h hPl hno,fun r q ⟨e1,e2⟩=>⟨_,_,_,_,_,_,_,_,⟨e1,e2⟩,ITE.pos rfl ⟨_,hr,fun r q ⟨e1,e2⟩=>⟨_,_,_,_,_,_,_,_,_,_,⟨e1,e2⟩,rfl,appOk_one rfl (by rw[List.length_append,List.length_map,List.length_take];simp;omega) (by decide),rfl,hend⟩⟩⟩⟩
 ·obtain rfl:k=l.length:=by omega
  rw[List.drop_length,List.flatMap_nil,List.nil_append] at hatk
  rw[List.take_length] at hP ⊢
  subst hP
  refine ITE.intro (fun h1=>⟨rfl,ITE.neg ?_ ⟨_,dis_yes h hatk hke,fun r q ⟨e1,e2⟩=>⟨_,_,_,_,_,_,_,_,⟨e1,e2⟩,ITE.neg rfl ⟨rfl,rfl,rfl⟩⟩⟩⟩) fun h1=>⟨_,dis_yes h hatk hke,fun r q ⟨e1,e2⟩=>⟨_,_,_,_,_,_,_,_,⟨e1,e2⟩,ITE.neg rfl ⟨rfl,rfl,rfl⟩⟩⟩
  rw[List.length_map,beq_eq_false_iff_ne]
  have:=List.length_pos_iff.2 (hb h1)
  omega
theorem untilT_bad {f:Fa} {op:Int} (hf:(f.1==0)=false) {ew:ByteArray} {b:Bool} {i:Nat}:
  HFn Tryd.prog 32 [.ptr 1 0,nS ew,nB b,.clo 56 [.ptr 2 0,.ptr 3 0]] (D4 L s (i) f op) (fun r q=>r=.sl []∧q=D4 L s (i) f op):=by
 refine vc_untilT_ok ⟨rfl,?_⟩
 refine LoopP.intro (fun k:Nat=>(((),ew,b,((),(),()),(),()),((L.map tkEnc,s,((i:Nat):Int),()),((),f.1,f.2.1,f.2.2.1,f.2.2.2,()),((),()),(op,()),[],()))) (fun k=>True) (fun k=>0) 0 rfl True.intro ?_
 intro k hk again hag
 dsimp only
 exact⟨_,dok_calls (f:=f),fun r q ⟨e1,e2⟩=>⟨_,_,_,_,_,_,_,_,⟨e1,e2⟩,ITE.neg hf ⟨rfl,rfl,rfl⟩⟩⟩
theorem untilB_calls (h:PE L s) {op:Int} {l:List (Ty)} {tok:Ty→List ByteArray} {G:List Tx→Prop} {ew:ByteArray} {b:Bool} (hl:l.length≤1000000) (hb:b=true→l≠[]) (hke:kindB ew≠2)
  (hrd:∀x∈l,∀(j:Nat) (T':List Tx),j≤L.length→At L j (tok x) T'→G T'→HFn Tryd.prog 57 [.ptr 2 0,.ptr 3 0] (D4 L s (j) noFa op) (fun r q=>r=Ty.enc x∧q=D4 L s (j+(tok x).length) noFa op))
  (hG1:∀x∈l,∀T',G ((tok x).map txB++T')) (hG2:∀T',G (txB ew::T')) (hne:∀x∈l,∃w u,tok x=w::u∧w≠ew)
  {i:Nat} {T:List Tx} (hat:At L i (l.flatMap tok++[ew]) T) (hi:i≤L.length):
  HFn Tryd.prog 32 [.ptr 1 0,nS ew,nB b,.clo 57 [.ptr 2 0,.ptr 3 0]] (D4 L s (i) noFa op) (fun r q=>r=.sl (l.map Ty.enc)∧q=D4 L s (i+(l.flatMap tok).length+1) noFa op):=by
 refine vc_untilB_ok ⟨rfl,?_⟩
 refine LoopP.intro (fun k:Nat=>(((),ew,b,((),(),()),(),()),((L.map tkEnc,s,((i+((l.take k).flatMap tok).length:Nat):Int),()),((),0,0,0,⟨#[]⟩,()),((),()),(op,()),(l.take k).map Ty.enc,()))) (fun k=>k≤l.length) (fun k=>l.length-k) 0 rfl (Nat.zero_le _) ?_
 intro k hk again hag
 dsimp only
 have hat0:At L i ((l.take k).flatMap tok++((l.drop k).flatMap tok++[ew])) T:=by
  rw[←List.append_assoc,←List.flatMap_append,List.take_append_drop];exact hat
 have hatk:=hat0.next
 have hPl:=At.le hi hat0.app
 generalize hP:i+((l.take k).flatMap tok).length=P at hatk hPl ⊢
 refine⟨_,dok_calls (f:=noFa),fun r q ⟨e1,e2⟩=>⟨_,_,_,_,_,_,_,_,⟨e1,e2⟩,ITE.pos rfl ?_⟩⟩
 by_cases hlt:k<l.length
 ·have hmem:=List.getElem_mem hlt
  obtain⟨w,u,hw,hwe⟩:=hne _ hmem
  have hx:At L P (tok l[k]) (((l.drop (k+1)).flatMap tok++[ew]).map txB++T):=by
   rw[List.drop_eq_getElem_cons hlt,List.flatMap_cons,List.append_assoc] at hatk
   exact hatk.app
  have hGk:G (((l.drop (k+1)).flatMap tok++[ew]).map txB++T):=by
   cases hd:l.drop (k+1) with
   |nil=>exact hG2 _
   |cons y m=>
    rw[List.flatMap_cons,List.append_assoc,List.map_append,List.append_assoc]
    exact hG1 y (List.mem_of_mem_drop (by rw[hd];exact List.mem_cons_self)) _
  have hno:isT ew (pk L s P)=false:=by
   rw[hw] at hx
   exact hx.not hwe
  have hr:=hrd _ hmem P _ hPl hx hGk
  rw[Ty.enc_eq] at hr
  have hend:again (((),ew,b,((),(),()),(),()),((L.map tkEnc,s,((P+(tok l[k]).length:Nat):Int),()),((),0,0,0,⟨#[]⟩,()),((),()),(op,()),((l.take k).map Ty.enc++[.agg [.sl (l[k].args.map Ty.enc),nI l[k].base]]),())):=by
   have e1:(l.take k).map Ty.enc++[.agg [.sl (l[k].args.map Ty.enc),nI l[k].base]]=(l.take (k+1)).map Ty.enc:=by rw[←Ty.enc_eq];rw[←take_snoc' hlt,List.map_append];rfl
   have e2:P+(tok l[k]).length=i+((l.take (k+1)).flatMap tok).length:=by rw[flatM_take _ hlt,List.length_append,←hP];omega
   rw[e1,e2]
   exact hag (k+1) hlt (by omega)
  refine ITE.intro (fun h1=>⟨rfl,ITE.intro (fun h2=>⟨_,hr,fun r q ⟨e1,e2⟩=>⟨_,_,_,_,_,_,_,_,_,_,⟨e1,e2⟩,rfl,appOk_one rfl (by rw[List.length_append,List.length_map,List.length_take];simp;omega) (by decide),rfl,hend⟩⟩) fun h2=>⟨_,dis_no h hPl hno,fun r q ⟨e1,e2⟩=>⟨_,_,_,_,_,_,_,_,⟨e1,e2⟩,ITE.pos rfl ⟨_,hr,fun r q ⟨e1,e2⟩=>⟨_,_,_,_,_,_,_,_,_,_,⟨e1,e2⟩,rfl,appOk_one rfl (by rw[List.length_append,List.length_map,List.length_take];simp;omega) (by decide),rfl,hend⟩⟩⟩⟩⟩) fun h1=>⟨_,dis_no h hPl hno,fun r q ⟨e1,e2⟩=>⟨_,_,_,_,_,_,_,_,⟨e1,e2⟩,ITE.pos rfl ⟨_,hr,fun r q ⟨e1,e2⟩=>⟨_,_,_,_,_,_,_,_,_,_,⟨e1,e2⟩,rfl,appOk_one rfl (by rw[List.length_append,List.length_map,List.length_take];simp;omega) (by decide),rfl,hend⟩⟩⟩⟩
 ·obtain rfl:k=l.length:=by omega
  rw[List.drop_length,List.flatMap_nil,List.nil_append] at hatk
  rw[List.take_length] at hP ⊢
  subst hP
  refine ITE.intro (fun h1=>⟨rfl,ITE.neg ?_ ⟨_,dis_yes h hatk hke,fun r q ⟨e1,e2⟩=>⟨_,_,_,_,_,_,_,_,⟨e1,e2⟩,ITE.neg rfl ⟨rfl,rfl,rfl⟩⟩⟩⟩) fun h1=>⟨_,dis_yes h hatk hke,fun r q ⟨e1,e2⟩=>⟨_,_,_,_,_,_,_,_,⟨e1,e2⟩,ITE.neg rfl ⟨rfl,rfl,rfl⟩⟩⟩
  rw[List.length_map,beq_eq_false_iff_ne]
  have:=List.length_pos_iff.2 (hb h1)
  omega
theorem untilA_calls (h:PE L s) {op:Int} {l:List (Tm)} {tok:Tm→List ByteArray} {G:List Tx→Prop} {ew:ByteArray} {b:Bool} (hl:l.length≤1000000) (hb:b=true→l≠[]) (hke:kindB ew≠2)
  (hrd:∀x∈l,∀(j:Nat) (T':List Tx),j≤L.length→At L j (tok x) T'→G T'→HFn Tryd.prog 60 [.ptr 2 0,.ptr 3 0] (D4 L s (j) noFa op) (fun r q=>r=Tm.enc x∧q=D4 L s (j+(tok x).length) noFa op))
  (hG1:∀x∈l,∀T',G ((tok x).map txB++T')) (hG2:∀T',G (txB ew::T')) (hne:∀x∈l,∃w u,tok x=w::u∧w≠ew)
  {i:Nat} {T:List Tx} (hat:At L i (l.flatMap tok++[ew]) T) (hi:i≤L.length):
  HFn Tryd.prog 59 [.ptr 1 0,nS ew,nB b,.clo 60 [.ptr 2 0,.ptr 3 0]] (D4 L s (i) noFa op) (fun r q=>r=.sl (l.map Tm.enc)∧q=D4 L s (i+(l.flatMap tok).length+1) noFa op):=by
 refine vc_untilA_ok ⟨rfl,?_⟩
 refine LoopP.intro (fun k:Nat=>(((),ew,b,((),(),()),(),()),((L.map tkEnc,s,((i+((l.take k).flatMap tok).length:Nat):Int),()),((),0,0,0,⟨#[]⟩,()),((),()),(op,()),(l.take k).map Tm.enc,()))) (fun k=>k≤l.length) (fun k=>l.length-k) 0 rfl (Nat.zero_le _) ?_
 intro k hk again hag
 dsimp only
 have hat0:At L i ((l.take k).flatMap tok++((l.drop k).flatMap tok++[ew])) T:=by
  rw[←List.append_assoc,←List.flatMap_append,List.take_append_drop];exact hat
 have hatk:=hat0.next
 have hPl:=At.le hi hat0.app
 generalize hP:i+((l.take k).flatMap tok).length=P at hatk hPl ⊢
 refine⟨_,dok_calls (f:=noFa),fun r q ⟨e1,e2⟩=>⟨_,_,_,_,_,_,_,_,⟨e1,e2⟩,ITE.pos rfl ?_⟩⟩
 by_cases hlt:k<l.length
 ·have hmem:=List.getElem_mem hlt
  obtain⟨w,u,hw,hwe⟩:=hne _ hmem
  have hx:At L P (tok l[k]) (((l.drop (k+1)).flatMap tok++[ew]).map txB++T):=by
   rw[List.drop_eq_getElem_cons hlt,List.flatMap_cons,List.append_assoc] at hatk
   exact hatk.app
  have hGk:G (((l.drop (k+1)).flatMap tok++[ew]).map txB++T):=by
   cases hd:l.drop (k+1) with
   |nil=>exact hG2 _
   |cons y m=>
    rw[List.flatMap_cons,List.append_assoc,List.map_append,List.append_assoc]
    exact hG1 y (List.mem_of_mem_drop (by rw[hd];exact List.mem_cons_self)) _
  have hno:isT ew (pk L s P)=false:=by
   rw[hw] at hx
   exact hx.not hwe
  have hr:=hrd _ hmem P _ hPl hx hGk
  rw[Tm.enc_eq] at hr
  have hend:again (((),ew,b,((),(),()),(),()),((L.map tkEnc,s,((P+(tok l[k]).length:Nat):Int),()),((),0,0,0,⟨#[]⟩,()),((),()),(op,()),((l.take k).map Tm.enc++[.agg (tmC l[k])]),())):=by
   have e1:(l.take k).map Tm.enc++[.agg (tmC l[k])]=(l.take (k+1)).map Tm.enc:=by rw[←Tm.enc_eq];rw[←take_snoc' hlt,List.map_append];rfl
   have e2:P+(tok l[k]).length=i+((l.take (k+1)).flatMap tok).length:=by rw[flatM_take _ hlt,List.length_append,←hP];omega
   rw[e1,e2]
   exact hag (k+1) hlt (by omega)
  refine ITE.intro (fun h1=>⟨rfl,ITE.intro (fun h2=>⟨_,hr,fun r q ⟨e1,e2⟩=>⟨_,_,_,_,_,_,_,_,_,_,_,_,⟨e1,e2⟩,rfl,appOk_one rfl (by rw[List.length_append,List.length_map,List.length_take];simp;omega) (by decide),rfl,hend⟩⟩) fun h2=>⟨_,dis_no h hPl hno,fun r q ⟨e1,e2⟩=>⟨_,_,_,_,_,_,_,_,⟨e1,e2⟩,ITE.pos rfl ⟨_,hr,fun r q ⟨e1,e2⟩=>⟨_,_,_,_,_,_,_,_,_,_,_,_,⟨e1,e2⟩,rfl,appOk_one rfl (by rw[List.length_append,List.length_map,List.length_take];simp;omega) (by decide),rfl,hend⟩⟩⟩⟩⟩) fun h1=>⟨_,dis_no h hPl hno,fun r q ⟨e1,e2⟩=>⟨_,_,_,_,_,_,_,_,⟨e1,e2⟩,ITE.pos rfl ⟨_,hr,fun r q ⟨e1,e2⟩=>⟨_,_,_,_,_,_,_,_,_,_,_,_,⟨e1,e2⟩,rfl,appOk_one rfl (by rw[List.length_append,List.length_map,List.length_take];simp;omega) (by decide),rfl,hend⟩⟩⟩⟩
 ·obtain rfl:k=l.length:=by omega
  rw[List.drop_length,List.flatMap_nil,List.nil_append] at hatk
  rw[List.take_length] at hP ⊢
  subst hP
  refine ITE.intro (fun h1=>⟨rfl,ITE.neg ?_ ⟨_,dis_yes h hatk hke,fun r q ⟨e1,e2⟩=>⟨_,_,_,_,_,_,_,_,⟨e1,e2⟩,ITE.neg rfl ⟨rfl,rfl,rfl⟩⟩⟩⟩) fun h1=>⟨_,dis_yes h hatk hke,fun r q ⟨e1,e2⟩=>⟨_,_,_,_,_,_,_,_,⟨e1,e2⟩,ITE.neg rfl ⟨rfl,rfl,rfl⟩⟩⟩
  rw[List.length_map,beq_eq_false_iff_ne]
  have:=List.length_pos_iff.2 (hb h1)
  omega
theorem untilM_calls (h:PE L s) {l:List (Ty)} {tok:Ty→List ByteArray} {G:List Tx→Prop} {ew:ByteArray} {b:Bool} (hl:l.length≤1000000) (hb:b=true→l≠[]) (hke:kindB ew≠2)
  (hrd:∀x∈l,∀(j:Nat) (T':List Tx),j≤L.length→At L j (tok x) T'→G T'→HFn Tryd.prog 33 [.ptr 2 0] (D3 L s (j) noFa) (fun r q=>r=Ty.enc x∧q=D3 L s (j+(tok x).length) noFa))
  (hG1:∀x∈l,∀T',G ((tok x).map txB++T')) (hG2:∀T',G (txB ew::T')) (hne:∀x∈l,∃w u,tok x=w::u∧w≠ew)
  {i:Nat} {T:List Tx} (hat:At L i (l.flatMap tok++[ew]) T) (hi:i≤L.length):
  HFn Tryd.prog 32 [.ptr 1 0,nS ew,nB b,.clo 33 [.ptr 2 0]] (D3 L s (i) noFa) (fun r q=>r=.sl (l.map Ty.enc)∧q=D3 L s (i+(l.flatMap tok).length+1) noFa):=by
 refine vc_untilM_ok ⟨rfl,?_⟩
 refine LoopP.intro (fun k:Nat=>(((),ew,b,((),()),(),()),((L.map tkEnc,s,((i+((l.take k).flatMap tok).length:Nat):Int),()),((),0,0,0,⟨#[]⟩,()),((),()),(l.take k).map Ty.enc,()))) (fun k=>k≤l.length) (fun k=>l.length-k) 0 rfl (Nat.zero_le _) ?_
 intro k hk again hag
 dsimp only
 have hat0:At L i ((l.take k).flatMap tok++((l.drop k).flatMap tok++[ew])) T:=by
  rw[←List.append_assoc,←List.flatMap_append,List.take_append_drop];exact hat
 have hatk:=hat0.next
 have hPl:=At.le hi hat0.app
 generalize hP:i+((l.take k).flatMap tok).length=P at hatk hPl ⊢
 refine⟨_,dok_calls (f:=noFa),fun r q ⟨e1,e2⟩=>⟨_,_,_,_,_,_,_,_,⟨e1,e2⟩,ITE.pos rfl ?_⟩⟩
 by_cases hlt:k<l.length
 ·have hmem:=List.getElem_mem hlt
  obtain⟨w,u,hw,hwe⟩:=hne _ hmem
  have hx:At L P (tok l[k]) (((l.drop (k+1)).flatMap tok++[ew]).map txB++T):=by
   rw[List.drop_eq_getElem_cons hlt,List.flatMap_cons,List.append_assoc] at hatk
   exact hatk.app
  have hGk:G (((l.drop (k+1)).flatMap tok++[ew]).map txB++T):=by
   cases hd:l.drop (k+1) with
   |nil=>exact hG2 _
   |cons y m=>
    rw[List.flatMap_cons,List.append_assoc,List.map_append,List.append_assoc]
    exact hG1 y (List.mem_of_mem_drop (by rw[hd];exact List.mem_cons_self)) _
  have hno:isT ew (pk L s P)=false:=by
   rw[hw] at hx
   exact hx.not hwe
  have hr:=hrd _ hmem P _ hPl hx hGk
  rw[Ty.enc_eq] at hr
  have hend:again (((),ew,b,((),()),(),()),((L.map tkEnc,s,((P+(tok l[k]).length:Nat):Int),()),((),0,0,0,⟨#[]⟩,()),((),()),((l.take k).map Ty.enc++[.agg [.sl (l[k].args.map Ty.enc),nI l[k].base]]),())):=by
   have e1:(l.take k).map Ty.enc++[.agg [.sl (l[k].args.map Ty.enc),nI l[k].base]]=(l.take (k+1)).map Ty.enc:=by rw[←Ty.enc_eq];rw[←take_snoc' hlt,List.map_append];rfl
   have e2:P+(tok l[k]).length=i+((l.take (k+1)).flatMap tok).length:=by rw[flatM_take _ hlt,List.length_append,←hP];omega
   rw[e1,e2]
   exact hag (k+1) hlt (by omega)
  refine ITE.intro (fun h1=>⟨rfl,ITE.intro (fun h2=>⟨_,hr,fun r q ⟨e1,e2⟩=>⟨_,_,_,_,_,_,_,_,_,⟨e1,e2⟩,rfl,appOk_one rfl (by rw[List.length_append,List.length_map,List.length_take];simp;omega) (by decide),rfl,hend⟩⟩) fun h2=>⟨_,dis_no h hPl hno,fun r q ⟨e1,e2⟩=>⟨_,_,_,_,_,_,_,_,⟨e1,e2⟩,ITE.pos rfl ⟨_,hr,fun r q ⟨e1,e2⟩=>⟨_,_,_,_,_,_,_,_,_,⟨e1,e2⟩,rfl,appOk_one rfl (by rw[List.length_append,List.length_map,List.length_take];simp;omega) (by decide),rfl,hend⟩⟩⟩⟩⟩) fun h1=>⟨_,dis_no h hPl hno,fun r q ⟨e1,e2⟩=>⟨_,_,_,_,_,_,_,_,⟨e1,e2⟩,ITE.pos rfl ⟨_,hr,fun r q ⟨e1,e2⟩=>⟨_,_,_,_,_,_,_,_,_,⟨e1,e2⟩,rfl,appOk_one rfl (by rw[List.length_append,List.length_map,List.length_take];simp;omega) (by decide),rfl,hend⟩⟩⟩⟩
 ·obtain rfl:k=l.length:=by omega
  rw[List.drop_length,List.flatMap_nil,List.nil_append] at hatk
  rw[List.take_length] at hP ⊢
  subst hP
  refine ITE.intro (fun h1=>⟨rfl,ITE.neg ?_ ⟨_,dis_yes h hatk hke,fun r q ⟨e1,e2⟩=>⟨_,_,_,_,_,_,_,_,⟨e1,e2⟩,ITE.neg rfl ⟨rfl,rfl,rfl⟩⟩⟩⟩) fun h1=>⟨_,dis_yes h hatk hke,fun r q ⟨e1,e2⟩=>⟨_,_,_,_,_,_,_,_,⟨e1,e2⟩,ITE.neg rfl ⟨rfl,rfl,rfl⟩⟩⟩
  rw[List.length_map,beq_eq_false_iff_ne]
  have:=List.length_pos_iff.2 (hb h1)
  omega
theorem untilP_calls (h:PE L s) {l:List (Int×Tm)} {tok:(Int×Tm)→List ByteArray} {G:List Tx→Prop} {ew:ByteArray} {b:Bool} (hl:l.length≤1000000) (hb:b=true→l≠[]) (hke:kindB ew≠2)
  (hrd:∀x∈l,∀(j:Nat) (T':List Tx),j≤L.length→At L j (tok x) T'→G T'→HFn Tryd.prog 63 [.ptr 2 0] (D3 L s (j) noFa) (fun r q=>r=spEnc x∧q=D3 L s (j+(tok x).length) noFa))
  (hG1:∀x∈l,∀T',G ((tok x).map txB++T')) (hG2:∀T',G (txB ew::T')) (hne:∀x∈l,∃w u,tok x=w::u∧w≠ew)
  {i:Nat} {T:List Tx} (hat:At L i (l.flatMap tok++[ew]) T) (hi:i≤L.length):
  HFn Tryd.prog 62 [.ptr 1 0,nS ew,nB b,.clo 63 [.ptr 2 0]] (D3 L s (i) noFa) (fun r q=>r=.sl (l.map spEnc)∧q=D3 L s (i+(l.flatMap tok).length+1) noFa):=by
 refine vc_untilP_ok ⟨rfl,?_⟩
 refine LoopP.intro (fun k:Nat=>(((),ew,b,((),()),(),()),((L.map tkEnc,s,((i+((l.take k).flatMap tok).length:Nat):Int),()),((),0,0,0,⟨#[]⟩,()),((),()),(l.take k).map spEnc,()))) (fun k=>k≤l.length) (fun k=>l.length-k) 0 rfl (Nat.zero_le _) ?_
 intro k hk again hag
 dsimp only
 have hat0:At L i ((l.take k).flatMap tok++((l.drop k).flatMap tok++[ew])) T:=by
  rw[←List.append_assoc,←List.flatMap_append,List.take_append_drop];exact hat
 have hatk:=hat0.next
 have hPl:=At.le hi hat0.app
 generalize hP:i+((l.take k).flatMap tok).length=P at hatk hPl ⊢
 refine⟨_,dok_calls (f:=noFa),fun r q ⟨e1,e2⟩=>⟨_,_,_,_,_,_,_,_,⟨e1,e2⟩,ITE.pos rfl ?_⟩⟩
 by_cases hlt:k<l.length
 ·have hmem:=List.getElem_mem hlt
  obtain⟨w,u,hw,hwe⟩:=hne _ hmem
  have hx:At L P (tok l[k]) (((l.drop (k+1)).flatMap tok++[ew]).map txB++T):=by
   rw[List.drop_eq_getElem_cons hlt,List.flatMap_cons,List.append_assoc] at hatk
   exact hatk.app
  have hGk:G (((l.drop (k+1)).flatMap tok++[ew]).map txB++T):=by
   cases hd:l.drop (k+1) with
   |nil=>exact hG2 _
   |cons y m=>
    rw[List.flatMap_cons,List.append_assoc,List.map_append,List.append_assoc]
    exact hG1 y (List.mem_of_mem_drop (by rw[hd];exact List.mem_cons_self)) _
  have hno:isT ew (pk L s P)=false:=by
   rw[hw] at hx
   exact hx.not hwe
  have hr:=hrd _ hmem P _ hPl hx hGk
  unfold spEnc at hr
  have hend:again (((),ew,b,((),()),(),()),((L.map tkEnc,s,((P+(tok l[k]).length:Nat):Int),()),((),0,0,0,⟨#[]⟩,()),((),()),((l.take k).map spEnc++[.agg (nI l[k].1::tmC l[k].2)]),())):=by
   have e1:(l.take k).map spEnc++[.agg (nI l[k].1::tmC l[k].2)]=(l.take (k+1)).map spEnc:=by show _++[spEnc l[k]]=_;rw[←take_snoc' hlt,List.map_append];rfl
   have e2:P+(tok l[k]).length=i+((l.take (k+1)).flatMap tok).length:=by rw[flatM_take _ hlt,List.length_append,←hP];omega
   rw[e1,e2]
   exact hag (k+1) hlt (by omega)
  refine ITE.intro (fun h1=>⟨rfl,ITE.intro (fun h2=>⟨_,hr,fun r q ⟨e1,e2⟩=>⟨_,_,_,_,_,_,_,_,_,_,_,_,⟨e1,e2⟩,rfl,appOk_one rfl (by rw[List.length_append,List.length_map,List.length_take];simp;omega) (by decide),rfl,hend⟩⟩) fun h2=>⟨_,dis_no h hPl hno,fun r q ⟨e1,e2⟩=>⟨_,_,_,_,_,_,_,_,⟨e1,e2⟩,ITE.pos rfl ⟨_,hr,fun r q ⟨e1,e2⟩=>⟨_,_,_,_,_,_,_,_,_,_,_,_,⟨e1,e2⟩,rfl,appOk_one rfl (by rw[List.length_append,List.length_map,List.length_take];simp;omega) (by decide),rfl,hend⟩⟩⟩⟩⟩) fun h1=>⟨_,dis_no h hPl hno,fun r q ⟨e1,e2⟩=>⟨_,_,_,_,_,_,_,_,⟨e1,e2⟩,ITE.pos rfl ⟨_,hr,fun r q ⟨e1,e2⟩=>⟨_,_,_,_,_,_,_,_,_,_,_,_,⟨e1,e2⟩,rfl,appOk_one rfl (by rw[List.length_append,List.length_map,List.length_take];simp;omega) (by decide),rfl,hend⟩⟩⟩⟩
 ·obtain rfl:k=l.length:=by omega
  rw[List.drop_length,List.flatMap_nil,List.nil_append] at hatk
  rw[List.take_length] at hP ⊢
  subst hP
  refine ITE.intro (fun h1=>⟨rfl,ITE.neg ?_ ⟨_,dis_yes h hatk hke,fun r q ⟨e1,e2⟩=>⟨_,_,_,_,_,_,_,_,⟨e1,e2⟩,ITE.neg rfl ⟨rfl,rfl,rfl⟩⟩⟩⟩) fun h1=>⟨_,dis_yes h hatk hke,fun r q ⟨e1,e2⟩=>⟨_,_,_,_,_,_,_,_,⟨e1,e2⟩,ITE.neg rfl ⟨rfl,rfl,rfl⟩⟩⟩
  rw[List.length_map,beq_eq_false_iff_ne]
  have:=List.length_pos_iff.2 (hb h1)
  omega
theorem untilN_calls (h:PE L s) {l:List (Int)} {tok:Int→List ByteArray} {G:List Tx→Prop} {ew:ByteArray} {b:Bool} (hl:l.length≤1000000) (hb:b=true→l≠[]) (hke:kindB ew≠2)
  (hrd:∀x∈l,∀(j:Nat) (T':List Tx),j≤L.length→At L j (tok x) T'→G T'→HFn Tryd.prog 55 [.ptr 1 0] (D2 L s (j) noFa) (fun r q=>r=nI x∧q=D2 L s (j+(tok x).length) noFa))
  (hG1:∀x∈l,∀T',G ((tok x).map txB++T')) (hG2:∀T',G (txB ew::T')) (hne:∀x∈l,∃w u,tok x=w::u∧w≠ew)
  {i:Nat} {T:List Tx} (hat:At L i (l.flatMap tok++[ew]) T) (hi:i≤L.length):
  HFn Tryd.prog 61 [.ptr 1 0,nS ew,nB b,.mclo 55 [.ptr 1 0]] (D2 L s (i) noFa) (fun r q=>r=.sl (l.map nI)∧q=D2 L s (i+(l.flatMap tok).length+1) noFa):=by
 refine vc_untilN_ok ⟨rfl,rfl,?_⟩
 refine LoopP.intro (fun k:Nat=>(((),ew,b,((),()),(),()),((L.map tkEnc,s,((i+((l.take k).flatMap tok).length:Nat):Int),()),((),0,0,0,⟨#[]⟩,()),(l.take k).map nI,()))) (fun k=>k≤l.length) (fun k=>l.length-k) 0 rfl (Nat.zero_le _) ?_
 intro k hk again hag
 dsimp only
 have hat0:At L i ((l.take k).flatMap tok++((l.drop k).flatMap tok++[ew])) T:=by
  rw[←List.append_assoc,←List.flatMap_append,List.take_append_drop];exact hat
 have hatk:=hat0.next
 have hPl:=At.le hi hat0.app
 generalize hP:i+((l.take k).flatMap tok).length=P at hatk hPl ⊢
 refine⟨_,dok_calls (f:=noFa),fun r q ⟨e1,e2⟩=>⟨_,_,_,_,_,_,_,_,⟨e1,e2⟩,ITE.pos rfl ?_⟩⟩
 by_cases hlt:k<l.length
 ·have hmem:=List.getElem_mem hlt
  obtain⟨w,u,hw,hwe⟩:=hne _ hmem
  have hx:At L P (tok l[k]) (((l.drop (k+1)).flatMap tok++[ew]).map txB++T):=by
   rw[List.drop_eq_getElem_cons hlt,List.flatMap_cons,List.append_assoc] at hatk
   exact hatk.app
  have hGk:G (((l.drop (k+1)).flatMap tok++[ew]).map txB++T):=by
   cases hd:l.drop (k+1) with
   |nil=>exact hG2 _
   |cons y m=>
    rw[List.flatMap_cons,List.append_assoc,List.map_append,List.append_assoc]
    exact hG1 y (List.mem_of_mem_drop (by rw[hd];exact List.mem_cons_self)) _
  have hno:isT ew (pk L s P)=false:=by
   rw[hw] at hx
   exact hx.not hwe
  have hr:=hrd _ hmem P _ hPl hx hGk
  skip
  have hend:again (((),ew,b,((),()),(),()),((L.map tkEnc,s,((P+(tok l[k]).length:Nat):Int),()),((),0,0,0,⟨#[]⟩,()),((l.take k).map nI++[nI l[k]]),())):=by
   have e1:(l.take k).map nI++[nI l[k]]=(l.take (k+1)).map nI:=by rw[←take_snoc' hlt,List.map_append];rfl
   have e2:P+(tok l[k]).length=i+((l.take (k+1)).flatMap tok).length:=by rw[flatM_take _ hlt,List.length_append,←hP];omega
   rw[e1,e2]
   exact hag (k+1) hlt (by omega)
  refine ITE.intro (fun h1=>⟨rfl,ITE.intro (fun h2=>⟨_,hr,fun r q ⟨e1,e2⟩=>⟨_,_,_,_,_,_,_,_,⟨e1,e2⟩,rfl,appOk_one rfl (by rw[List.length_append,List.length_map,List.length_take];simp;omega) (by decide),rfl,rfl,hend⟩⟩) fun h2=>⟨_,dis_no h hPl hno,fun r q ⟨e1,e2⟩=>⟨_,_,_,_,_,_,_,_,⟨e1,e2⟩,ITE.pos rfl ⟨_,hr,fun r q ⟨e1,e2⟩=>⟨_,_,_,_,_,_,_,_,⟨e1,e2⟩,rfl,appOk_one rfl (by rw[List.length_append,List.length_map,List.length_take];simp;omega) (by decide),rfl,rfl,hend⟩⟩⟩⟩⟩) fun h1=>⟨_,dis_no h hPl hno,fun r q ⟨e1,e2⟩=>⟨_,_,_,_,_,_,_,_,⟨e1,e2⟩,ITE.pos rfl ⟨_,hr,fun r q ⟨e1,e2⟩=>⟨_,_,_,_,_,_,_,_,⟨e1,e2⟩,rfl,appOk_one rfl (by rw[List.length_append,List.length_map,List.length_take];simp;omega) (by decide),rfl,rfl,hend⟩⟩⟩⟩
 ·obtain rfl:k=l.length:=by omega
  rw[List.drop_length,List.flatMap_nil,List.nil_append] at hatk
  rw[List.take_length] at hP ⊢
  subst hP
  refine ITE.intro (fun h1=>⟨rfl,ITE.neg ?_ ⟨_,dis_yes h hatk hke,fun r q ⟨e1,e2⟩=>⟨_,_,_,_,_,_,_,_,⟨e1,e2⟩,ITE.neg rfl ⟨rfl,rfl,rfl⟩⟩⟩⟩) fun h1=>⟨_,dis_yes h hatk hke,fun r q ⟨e1,e2⟩=>⟨_,_,_,_,_,_,_,_,⟨e1,e2⟩,ITE.neg rfl ⟨rfl,rfl,rfl⟩⟩⟩
  rw[List.length_map,beq_eq_false_iff_ne]
  have:=List.length_pos_iff.2 (hb h1)
  omega
theorem untilS_calls (h:PE L s) {l:List (Stp)} {tok:Stp→List ByteArray} {G:List Tx→Prop} {ew:ByteArray} {b:Bool} (hl:l.length≤1000000) (hb:b=true→l≠[]) (hke:kindB ew≠2)
  (hrd:∀x∈l,∀(j:Nat) (T':List Tx),j≤L.length→At L j (tok x) T'→G T'→HFn Tryd.prog 37 [.ptr 1 0] (D2 L s (j) noFa) (fun r q=>r=Stp.enc x∧q=D2 L s (j+(tok x).length) noFa))
  (hG1:∀x∈l,∀T',G ((tok x).map txB++T')) (hG2:∀T',G (txB ew::T')) (hne:∀x∈l,∃w u,tok x=w::u∧w≠ew)
  {i:Nat} {T:List Tx} (hat:At L i (l.flatMap tok++[ew]) T) (hi:i≤L.length):
  HFn Tryd.prog 36 [.ptr 1 0,nS ew,nB b,.mclo 37 [.ptr 1 0]] (D2 L s (i) noFa) (fun r q=>r=.sl (l.map Stp.enc)∧q=D2 L s (i+(l.flatMap tok).length+1) noFa):=by
 refine vc_untilS_ok ⟨rfl,rfl,?_⟩
 refine LoopP.intro (fun k:Nat=>(((),ew,b,((),()),(),()),((L.map tkEnc,s,((i+((l.take k).flatMap tok).length:Nat):Int),()),((),0,0,0,⟨#[]⟩,()),(l.take k).map Stp.enc,()))) (fun k=>k≤l.length) (fun k=>l.length-k) 0 rfl (Nat.zero_le _) ?_
 intro k hk again hag
 dsimp only
 have hat0:At L i ((l.take k).flatMap tok++((l.drop k).flatMap tok++[ew])) T:=by
  rw[←List.append_assoc,←List.flatMap_append,List.take_append_drop];exact hat
 have hatk:=hat0.next
 have hPl:=At.le hi hat0.app
 generalize hP:i+((l.take k).flatMap tok).length=P at hatk hPl ⊢
 refine⟨_,dok_calls (f:=noFa),fun r q ⟨e1,e2⟩=>⟨_,_,_,_,_,_,_,_,⟨e1,e2⟩,ITE.pos rfl ?_⟩⟩
 by_cases hlt:k<l.length
 ·have hmem:=List.getElem_mem hlt
  obtain⟨w,u,hw,hwe⟩:=hne _ hmem
  have hx:At L P (tok l[k]) (((l.drop (k+1)).flatMap tok++[ew]).map txB++T):=by
   rw[List.drop_eq_getElem_cons hlt,List.flatMap_cons,List.append_assoc] at hatk
   exact hatk.app
  have hGk:G (((l.drop (k+1)).flatMap tok++[ew]).map txB++T):=by
   cases hd:l.drop (k+1) with
   |nil=>exact hG2 _
   |cons y m=>
    rw[List.flatMap_cons,List.append_assoc,List.map_append,List.append_assoc]
    exact hG1 y (List.mem_of_mem_drop (by rw[hd];exact List.mem_cons_self)) _
  have hno:isT ew (pk L s P)=false:=by
   rw[hw] at hx
   exact hx.not hwe
  have hr:=hrd _ hmem P _ hPl hx hGk
  unfold Stp.enc at hr
  have hend:again (((),ew,b,((),()),(),()),((L.map tkEnc,s,((P+(tok l[k]).length:Nat):Int),()),((),0,0,0,⟨#[]⟩,()),((l.take k).map Stp.enc++[.agg [nI l[k].eq,nB l[k].back,.sl (encInts l[k].path),.sl (l[k].sub.map spEnc)]]),())):=by
   have e1:(l.take k).map Stp.enc++[.agg [nI l[k].eq,nB l[k].back,.sl (encInts l[k].path),.sl (l[k].sub.map spEnc)]]=(l.take (k+1)).map Stp.enc:=by show _++[Stp.enc l[k]]=_;rw[←take_snoc' hlt,List.map_append];rfl
   have e2:P+(tok l[k]).length=i+((l.take (k+1)).flatMap tok).length:=by rw[flatM_take _ hlt,List.length_append,←hP];omega
   rw[e1,e2]
   exact hag (k+1) hlt (by omega)
  refine ITE.intro (fun h1=>⟨rfl,ITE.intro (fun h2=>⟨_,hr,fun r q ⟨e1,e2⟩=>⟨_,_,_,_,_,_,_,_,_,_,_,⟨e1,e2⟩,rfl,appOk_one rfl (by rw[List.length_append,List.length_map,List.length_take];simp;omega) (by decide),rfl,rfl,hend⟩⟩) fun h2=>⟨_,dis_no h hPl hno,fun r q ⟨e1,e2⟩=>⟨_,_,_,_,_,_,_,_,⟨e1,e2⟩,ITE.pos rfl ⟨_,hr,fun r q ⟨e1,e2⟩=>⟨_,_,_,_,_,_,_,_,_,_,_,⟨e1,e2⟩,rfl,appOk_one rfl (by rw[List.length_append,List.length_map,List.length_take];simp;omega) (by decide),rfl,rfl,hend⟩⟩⟩⟩⟩) fun h1=>⟨_,dis_no h hPl hno,fun r q ⟨e1,e2⟩=>⟨_,_,_,_,_,_,_,_,⟨e1,e2⟩,ITE.pos rfl ⟨_,hr,fun r q ⟨e1,e2⟩=>⟨_,_,_,_,_,_,_,_,_,_,_,⟨e1,e2⟩,rfl,appOk_one rfl (by rw[List.length_append,List.length_map,List.length_take];simp;omega) (by decide),rfl,rfl,hend⟩⟩⟩⟩
 ·obtain rfl:k=l.length:=by omega
  rw[List.drop_length,List.flatMap_nil,List.nil_append] at hatk
  rw[List.take_length] at hP ⊢
  subst hP
  refine ITE.intro (fun h1=>⟨rfl,ITE.neg ?_ ⟨_,dis_yes h hatk hke,fun r q ⟨e1,e2⟩=>⟨_,_,_,_,_,_,_,_,⟨e1,e2⟩,ITE.neg rfl ⟨rfl,rfl,rfl⟩⟩⟩⟩) fun h1=>⟨_,dis_yes h hatk hke,fun r q ⟨e1,e2⟩=>⟨_,_,_,_,_,_,_,_,⟨e1,e2⟩,ITE.neg rfl ⟨rfl,rfl,rfl⟩⟩⟩
  rw[List.length_map,beq_eq_false_iff_ne]
  have:=List.length_pos_iff.2 (hb h1)
  omega
theorem untilS_bad {f:Fa} (hf:(f.1==0)=false) {ew:ByteArray} {b:Bool} {i:Nat}:
  HFn Tryd.prog 36 [.ptr 1 0,nS ew,nB b,.mclo 37 [.ptr 1 0]] (D2 L s (i) f) (fun r q=>r=.sl []∧q=D2 L s (i) f):=by
 refine vc_untilS_ok ⟨rfl,rfl,?_⟩
 refine LoopP.intro (fun k:Nat=>(((),ew,b,((),()),(),()),((L.map tkEnc,s,((i:Nat):Int),()),((),f.1,f.2.1,f.2.2.1,f.2.2.2,()),[],()))) (fun k=>True) (fun k=>0) 0 rfl True.intro ?_
 intro k hk again hag
 dsimp only
 exact⟨_,dok_calls (f:=f),fun r q ⟨e1,e2⟩=>⟨_,_,_,_,_,_,_,_,⟨e1,e2⟩,ITE.neg hf ⟨rfl,rfl,rfl⟩⟩⟩
end Go.Proofs.YtjhanogfpkbamaaDoor

namespace Go.Proofs.YtjhanogfpkbamaaDoor
open Go
set_option linter.unusedSimpArgs false
set_option linter.unusedVariables false
variable {L:List Tk} {s w:ByteArray} {i:Nat} {u v:List ByteArray} {T:List Tx} {f:Fa}
theorem kind_ne {a b:ByteArray} (h:kindB a≠kindB b):bytesI a≠bytesI b:=fun e=>h (by unfold kindB;rw[e])
theorem word_ne {a b:ByteArray} (h:bytesI a≠bytesI b):a≠b:=fun e=>h (by rw[e])
def Nxt (w:ByteArray) (T:List Tx):Prop:=∀x,T.head?=some x→x.2≠bytesI w
theorem nxt_cons {a b:ByteArray} (h:bytesI a≠bytesI b):Nxt b (txB a::T):=fun x hx=>by
 rw[List.head?_cons,Option.some.injEq] at hx
 subst hx;exact h
theorem At.none (h:At L i [] T) (hn:Nxt w T):Go.Proofs.YtjhanogfpkbamaaDoor.isT w (pk L s i)=false:=by
 unfold At at h
 rw[List.map_nil,List.nil_append] at h
 rcases Nat.lt_or_ge i L.length with h1|h1
 ·rw[pk_lt h1]
  rw[List.drop_eq_getElem_cons h1,List.map_cons] at h
  have h2:=hn (txOf L[i]) (by rw[←h];rfl)
  unfold txOf at h2
  unfold Go.Proofs.YtjhanogfpkbamaaDoor.isT
  rw[Bool.and_eq_false_iff]
  exact .inr (decide_eq_false fun e=>h2 (by rw[e]))
 ·rw[pk_ge h1];rfl
theorem tokTy_cons {d:Nat} {t:Ty} (h:okTy d t=true):∃n u,tokTy d t=numW n::u∧numOk n=true:=by
 cases d with
 |zero=>cases h
 |succ d=>
  rw[okTy,Bool.and_eq_true] at h
  exact⟨_,_,rfl,h.1⟩
theorem tokTm_cons {d:Nat} {t:Tm} (h:okTm d t=true):∃w u,tokTm d t=w::u∧(w=laW∨kindB w=1):=by
 cases d with
 |zero=>cases h
 |succ d=>
  rw[okTm,Bool.and_eq_true,Bool.and_eq_true,Bool.and_eq_true] at h
  rw[tokTm,if_pos h.1]
  cases hb:t.binds with
  |nil=>exact⟨_,_,rfl,.inr (headW_kind h.1)⟩
  |cons x l=>exact⟨_,_,rfl,.inl rfl⟩
theorem num_nxt {n:Int} (h:numOk n=true) {w:ByteArray} (hw:kindB w=3):bytesI (numW n)≠bytesI w:=kind_ne (by rw[numW_kind h,hw];decide)
theorem ty_nxt {d:Nat} {t:Ty} (h:okTy d t=true) {w:ByteArray} (hw:kindB w=3):Nxt w ((tokTy d t).map txB++T):=by
 obtain⟨n,u,e,hn⟩:=tokTy_cons h
 rw[e]
 exact nxt_cons (num_nxt hn hw)
theorem ty_ne {d:Nat} {t:Ty} (h:okTy d t=true) {w:ByteArray} (hw:kindB w=3):∃x u,tokTy d t=x::u∧x≠w:=by
 obtain⟨n,u,e,hn⟩:=tokTy_cons h
 exact⟨_,_,e,word_ne (num_nxt hn hw)⟩
theorem tm_first {d:Nat} {t:Tm} (h:okTm d t=true) {w:ByteArray} (hw:kindB w=3) (hl:bytesI laW≠bytesI w):∃x u,tokTm d t=x::u∧bytesI x≠bytesI w:=by
 obtain⟨x,u,e,hx⟩:=tokTm_cons h
 refine⟨x,u,e,?_⟩
 rcases hx with rfl|hx
 ·exact hl
 ·exact kind_ne (by rw[hx,hw];decide)
theorem tm_nxt {d:Nat} {t:Tm} (h:okTm d t=true) {w:ByteArray} (hw:kindB w=3) (hl:bytesI laW≠bytesI w):Nxt w ((tokTm d t).map txB++T):=by
 obtain⟨x,u,e,hx⟩:=tm_first h hw hl
 rw[e]
 exact nxt_cons hx
theorem tm_ne {d:Nat} {t:Tm} (h:okTm d t=true) {w:ByteArray} (hw:kindB w=3) (hl:bytesI laW≠bytesI w):∃x u,tokTm d t=x::u∧x≠w:=by
 obtain⟨x,u,e,hx⟩:=tm_first h hw hl
 exact⟨x,u,e,word_ne hx⟩
theorem dtyp_calls (h:PE L s):∀(d:Nat) (t:Ty),d≤60→okTy d t=true→t.size≤1000000→∀(j:Nat) (T:List Tx),j≤L.length→At L j (tokTy d t) T→Nxt lbW T→
  HFn Tryd.prog 34 [.ptr 1 0,nI ((60-d:Nat):Int)] (D2 L s j noFa) (fun r q=>r=t.enc∧q=D2 L s (j+(tokTy d t).length) noFa)
 |0,t,_,hok,_,_,_,_,_,_=>by cases hok
 |d+1,t,hd,hok,hz,j,T,hj,hat,hn=>by
  have hsz:=t.size_eq
  have hll:=Ty.sizes_len t.args
  rw[okTy,Bool.and_eq_true] at hok
  have hall:=List.all_eq_true.1 hok.2
  rw[tokTy] at hat ⊢
  have hat2:=hat.tail
  have hlt:=hat.lt
  refine HFn.prw ?_
  rw[Ty.enc_eq]
  by_cases ha:t.args=[]
  ·rw[ha] at hat2 ⊢
   refine vc34_ok ⟨_,dopen_calls hd,fun r q ⟨e1,e2⟩=>⟨_,_,_,_,_,_,_,_,⟨e1,e2⟩,ITE.neg rfl ⟨_,dnum_calls h hok.1 hat,fun r q ⟨e1,e2⟩=>⟨_,_,_,_,_,_,_,_,⟨e1,e2⟩,
    _,dis_no h (by omega) (hat2.none hn),fun r q ⟨e1,e2⟩=>⟨_,_,_,_,_,_,_,_,⟨e1,e2⟩,ITE.neg rfl ⟨RepW.agg ⟨repW_nil,RepW.refl _,True.intro⟩,rfl⟩⟩⟩⟩⟩⟩
  ·have hne:t.args.isEmpty=false:=by cases hx:t.args with|nil=>exact(ha hx).elim|cons _ _=>rfl
   rw[pinW,hne] at hat2 ⊢
   have hat3:At L (j+1) (lbW::(t.args.flatMap (tokTy d)++[rbW])) T:=hat2
   have hat4:=hat3.tail
   have hun:=untilT_calls (op:=((60-(d+1):Nat):Int)) (l:=t.args) (tok:=tokTy d) (G:=Nxt lbW) (ew:=rbW) (b:=true) h (by omega) (fun _=>ha) (by decide)
    (fun x hx k T' hk hatk hG=>by
     have hr:=dtyp_calls h d x (by omega) (hall x hx) (by have:=Ty.sizes_mem hx;omega) k T' hk hatk hG
     have ew:IntKind.wrap .i64 (((60-(d+1):Nat):Int)+1)=((60-d:Nat):Int):=by rw[wrap_i (by omega) (by omega)];omega
     rw[Ty.enc_eq] at hr ⊢
     refine vc56_ok ?_
     unfold vc56
     rw[ew]
     exact⟨_,hr,fun r q ⟨e1,e2⟩=>⟨_,_,_,_,_,_,_,_,_,⟨e1,e2⟩,rfl,rfl⟩⟩)
    (fun x hx T'=>ty_nxt (hall x hx) rfl) (fun T'=>nxt_cons (by decide)) (fun x hx=>ty_ne (hall x hx) rfl) hat4 (by have:=hat3.lt;omega)
   refine vc34_ok ⟨_,dopen_calls hd,fun r q ⟨e1,e2⟩=>⟨_,_,_,_,_,_,_,_,⟨e1,e2⟩,ITE.neg rfl ⟨_,dnum_calls h hok.1 hat,fun r q ⟨e1,e2⟩=>⟨_,_,_,_,_,_,_,_,⟨e1,e2⟩,
    _,dis_yes h hat3 (by decide),fun r q ⟨e1,e2⟩=>⟨_,_,_,_,_,_,_,_,⟨e1,e2⟩,ITE.pos rfl ⟨_,hun,fun r q ⟨e1,e2⟩=>⟨_,_,_,_,_,_,_,_,_,⟨e1,e2⟩,RepW.refl _,?_⟩⟩⟩⟩⟩⟩⟩
   have e:j+1+1+(t.args.flatMap (tokTy d)).length+1=j+(numW t.base::(if false=true then[] else lbW::(t.args.flatMap (tokTy d)++[rbW]))).length:=by simp;omega
   rw[←e]
theorem dterm_calls (h:PE L s):∀(d:Nat) (t:Tm),d≤60→okTm d t=true→t.size≤1000000→∀(j:Nat) (T:List Tx),j≤L.length→At L j (tokTm d t) T→Nxt opW T→
  HFn Tryd.prog 35 [.ptr 1 0,nI ((60-d:Nat):Int)] (D2 L s j noFa) (fun r q=>r=t.enc∧q=D2 L s (j+(tokTm d t).length) noFa)
 |0,t,_,hok,_,_,_,_,_,_=>by cases hok
 |d+1,t,hd,hok,hz,j,T,hj,hat,hn=>by
  have hsz:=t.size_eq
  have hll:=Tm.sizes_len t.args
  have hlb:=Ty.sizes_len t.binds
  rw[okTm,Bool.and_eq_true,Bool.and_eq_true,Bool.and_eq_true] at hok
  obtain⟨hk,hbs,hnum,hargs⟩:=hok
  have hallb:=List.all_eq_true.1 hbs
  have hall:=List.all_eq_true.1 hargs
  rw[tokTm,if_pos hk] at hat ⊢
  have ew:IntKind.wrap .i64 (((60-(d+1):Nat):Int)+1)=((60-d:Nat):Int):=by rw[wrap_i (by omega) (by omega)];omega
  refine HFn.prw ?_
  rw[Tm.enc_eq]
  have hun:∀(p:Nat) (T':List Tx),t.args≠[]→p≤L.length→At L p (t.args.flatMap (tokTm d)++[clW]) T'→_:=fun p T' ha hp hatp=>
   untilA_calls (op:=((60-(d+1):Nat):Int)) (l:=t.args) (tok:=tokTm d) (G:=Nxt opW) (ew:=clW) (b:=true) h (by omega) (fun _=>ha) (by decide)
    (fun x hx k T' hk hatk hG=>by
     have hr:=dterm_calls h d x (by omega) (hall x hx) (by have:=Tm.sizes_mem hx;omega) k T' hk hatk hG
     rw[Tm.enc_eq] at hr ⊢
     refine vc60_ok ?_
     unfold vc60
     rw[ew]
     exact⟨_,hr,fun r q ⟨e1,e2⟩=>⟨_,_,_,_,_,_,_,_,_,_,_,⟨e1,e2⟩,rfl,rfl⟩⟩)
    (fun x hx T'=>tm_nxt (hall x hx) rfl (by decide)) (fun T'=>nxt_cons (by decide)) (fun x hx=>tm_ne (hall x hx) rfl (by decide)) hatp hp
  have hlen:∀a:List ByteArray,(a++(letW t.kind++numW t.index)::pinW opW clW t.args (t.args.flatMap (tokTm d))).length=a.length+1+(pinW opW clW t.args (t.args.flatMap (tokTm d))).length:=fun a=>by simp;omega
  rw[hlen]
  by_cases hb:t.binds=[]
  ·have e0:pinW laW dtW t.binds (t.binds.flatMap (tokTy d))=[]:=by rw[hb];rfl
   rw[e0,List.nil_append] at hat
   rw[e0,hb,List.map_nil,List.length_nil,Nat.add_zero]
   have hat2:=hat.tail
   have hlt:=hat.lt
   have hno:isT laW (pk L s j)=false:=hat.not (word_ne (kind_ne (by rw[headW_kind hk];decide)))
   refine vc35_ok ⟨_,dopen_calls hd,fun r q ⟨e1,e2⟩=>⟨_,_,_,_,_,_,_,_,⟨e1,e2⟩,ITE.neg rfl ⟨_,dis_no h hj hno,fun r q ⟨e1,e2⟩=>⟨_,_,_,_,_,_,_,_,⟨e1,e2⟩,
    ITE.neg rfl ⟨_,dhead_calls h hk hnum hat,fun r q ⟨e1,e2⟩=>⟨_,_,_,_,_,_,_,_,_,⟨e1,e2⟩,?_⟩⟩⟩⟩⟩⟩
   by_cases ha:t.args=[]
   ·rw[ha] at hat2 ⊢
    exact⟨_,dis_no h (by omega) (hat2.none hn),fun r q ⟨e1,e2⟩=>⟨_,_,_,_,_,_,_,_,⟨e1,e2⟩,ITE.neg rfl ⟨RepW.agg ⟨repW_nil,RepW.refl _,RepW.refl _,repW_nil,True.intro⟩,rfl⟩⟩⟩
   ·have hne:t.args.isEmpty=false:=by cases hx:t.args with|nil=>exact(ha hx).elim|cons _ _=>rfl
    rw[pinW,hne] at hat2 ⊢
    have hat3:At L (j+1) (opW::(t.args.flatMap (tokTm d)++[clW])) T:=hat2
    have hu:=hun _ _ ha (by have:=hat3.lt;omega) hat3.tail
    refine⟨_,dis_yes h hat3 (by decide),fun r q ⟨e1,e2⟩=>⟨_,_,_,_,_,_,_,_,⟨e1,e2⟩,ITE.pos rfl ⟨_,hu,fun r q ⟨e1,e2⟩=>⟨_,_,_,_,_,_,_,_,_,⟨e1,e2⟩,RepW.agg ⟨repW_nil,RepW.refl _,RepW.refl _,RepW.refl _,True.intro⟩,?_⟩⟩⟩⟩
    have e:j+1+1+(t.args.flatMap (tokTm d)).length+1=j+(0+1+(if false=true then[] else opW::(t.args.flatMap (tokTm d)++[clW])).length):=by simp;omega
    rw[←e]
  ·have hbe:t.binds.isEmpty=false:=by cases hx:t.binds with|nil=>exact(hb hx).elim|cons _ _=>rfl
   have e0:pinW laW dtW t.binds (t.binds.flatMap (tokTy d))=laW::(t.binds.flatMap (tokTy d)++[dtW]):=by rw[pinW,hbe];rfl
   rw[e0] at hat ⊢
   have hat1:At L j (laW::((t.binds.flatMap (tokTy d)++[dtW])++(letW t.kind++numW t.index)::pinW opW clW t.args (t.args.flatMap (tokTm d)))) T:=hat
   have hatb:=hat1.tail
   have hub:=untilB_calls (op:=((60-(d+1):Nat):Int)) (l:=t.binds) (tok:=tokTy d) (G:=Nxt lbW) (ew:=dtW) (b:=true) h (by omega) (fun _=>hb) (by decide)
    (fun x hx k T' hk hatk hG=>by
     have hr:=dtyp_calls h d x (by omega) (hallb x hx) (by have:=Ty.sizes_mem hx;omega) k T' hk hatk hG
     rw[Ty.enc_eq] at hr ⊢
     refine vc57_ok ?_
     unfold vc57
     rw[ew]
     exact⟨_,hr,fun r q ⟨e1,e2⟩=>⟨_,_,_,_,_,_,_,_,_,⟨e1,e2⟩,rfl,rfl⟩⟩)
    (fun x hx T'=>ty_nxt (hallb x hx) rfl) (fun T'=>nxt_cons (by decide)) (fun x hx=>ty_ne (hallb x hx) rfl) hatb.app (by have:=hat1.lt;omega)
   have hat2:=hatb.next
   rw[List.length_append,List.length_singleton] at hat2
   have hp:j+1+((t.binds.flatMap (tokTy d)).length+1)=j+1+(t.binds.flatMap (tokTy d)).length+1:=by omega
   rw[hp] at hat2
   have hat3:=hat2.tail
   have hlt2:=hat2.lt
   refine vc35_ok ⟨_,dopen_calls hd,fun r q ⟨e1,e2⟩=>⟨_,_,_,_,_,_,_,_,⟨e1,e2⟩,ITE.neg rfl ⟨_,dis_yes h hat1 (by decide),fun r q ⟨e1,e2⟩=>⟨_,_,_,_,_,_,_,_,⟨e1,e2⟩,
    ITE.pos rfl ⟨_,hub,fun r q ⟨e1,e2⟩=>⟨_,_,_,_,_,_,_,_,_,⟨e1,e2⟩,_,dhead_calls h hk hnum hat2,fun r q ⟨e1,e2⟩=>⟨_,_,_,_,_,_,_,_,_,⟨e1,e2⟩,?_⟩⟩⟩⟩⟩⟩⟩
   by_cases ha:t.args=[]
   ·rw[ha] at hat3 ⊢
    refine⟨_,dis_no h (by omega) (hat3.none hn),fun r q ⟨e1,e2⟩=>⟨_,_,_,_,_,_,_,_,⟨e1,e2⟩,ITE.neg rfl ⟨RepW.agg ⟨RepW.refl _,RepW.refl _,RepW.refl _,repW_nil,True.intro⟩,?_⟩⟩⟩
    have e:j+1+(t.binds.flatMap (tokTy d)).length+1+1=j+((laW::(t.binds.flatMap (tokTy d)++[dtW])).length+1+(pinW opW clW ([]:List Tm) (([]:List Tm).flatMap (tokTm d))).length):=by simp[pinW];omega
    rw[←e]
   ·have hne:t.args.isEmpty=false:=by cases hx:t.args with|nil=>exact(ha hx).elim|cons _ _=>rfl
    rw[pinW,hne] at hat3 ⊢
    have hat4:At L (j+1+(t.binds.flatMap (tokTy d)).length+1+1) (opW::(t.args.flatMap (tokTm d)++[clW])) T:=hat3
    have hu:=hun _ _ ha (by have:=hat4.lt;omega) hat4.tail
    refine⟨_,dis_yes h hat4 (by decide),fun r q ⟨e1,e2⟩=>⟨_,_,_,_,_,_,_,_,⟨e1,e2⟩,ITE.pos rfl ⟨_,hu,fun r q ⟨e1,e2⟩=>⟨_,_,_,_,_,_,_,_,_,⟨e1,e2⟩,RepW.refl _,?_⟩⟩⟩⟩
    have e:j+1+(t.binds.flatMap (tokTy d)).length+1+1+1+(t.args.flatMap (tokTm d)).length+1=j+((laW::(t.binds.flatMap (tokTy d)++[dtW])).length+1+(if false=true then[] else opW::(t.args.flatMap (tokTm d)++[clW])).length):=by simp;omega
    rw[←e]
end Go.Proofs.YtjhanogfpkbamaaDoor

namespace Go.Proofs.YtjhanogfpkbamaaDoor
open Go
set_option linter.unusedSimpArgs false
set_option linter.unusedVariables false
variable {L:List Tk} {s w:ByteArray} {i:Nat} {u v:List ByteArray} {T:List Tx} {f:Fa}
theorem flat_one {α:Type} (g:α→ByteArray) (l:List α):l.flatMap (fun x=>[g x])=l.map g:=by
 induction l with
 |nil=>rfl
 |cons x l ih=>rw[List.flatMap_cons,ih];rfl
theorem dterm0_calls (h:PE L s) {t:Tm} (hok:okTm 60 t=true) (hz:t.size≤1000000) {j:Nat} (hj:j≤L.length) (hat:At L j (tokTm 60 t) T) (hn:Nxt opW T):
  HFn Tryd.prog 35 [.ptr 1 0,nI 0] (D2 L s j noFa) (fun r q=>r=.agg (tmC t)∧q=D2 L s (j+(tokTm 60 t).length) noFa):=by
 have:=dterm_calls h 60 t (Nat.le_refl _) hok hz j T hj hat hn
 rwa [Tm.enc_eq] at this
theorem dpair_calls (h:PE L s) {p:Int×Tm} (hok:spOk p=true) (hp:SpOk p) {j:Nat} (hj:j≤L.length) (hat:At L j (spTok p) T):
  HFn Tryd.prog 63 [.ptr 2 0] (D3 L s j noFa) (fun r q=>r=spEnc p∧q=D3 L s (j+(spTok p).length) noFa):=by
 rw[spOk,Bool.and_eq_true] at hok
 have h1:=hat.tail
 have h2:At L (j+1+1) (tokTm 60 p.2++[cmW]) T:=At.tail (w:=clnW) h1
 have h3:=h2.next
 have ht:=dterm0_calls h hok.2 hp.size (by have:=h1.lt;omega) h2.app (nxt_cons (by decide))
 have m1:=dmust_calls h (ws:=[clnW]) (by decide) (by decide) (show At L (j+1) ([clnW]++(tokTm 60 p.2++[cmW])) T from h1) (by have:=h1.lt;omega)
 have m2:=dmust_calls h (ws:=[cmW]) (u:=[]) (by decide) (by decide) (by simpa using h3) (by have:=h3.lt;omega)
 have e:j+1+1+(tokTm 60 p.2).length+1=j+(spTok p).length:=by simp[spTok];omega
 refine vc63_ok ⟨_,dnum_calls h hok.1 hat,fun r q ⟨e1,e2⟩=>⟨_,_,_,_,_,_,_,_,⟨e1,e2⟩,_,m1,fun r q ⟨e1,e2⟩=>⟨_,_,_,_,_,_,_,⟨e1,e2⟩,_,ht,fun r q ⟨e1,e2⟩=>⟨_,_,_,_,_,_,_,_,_,_,_,⟨e1,e2⟩,
  _,m2,fun r q ⟨e1,e2⟩=>⟨_,_,_,_,_,_,_,⟨e1,e2⟩,rfl,?_⟩⟩⟩⟩⟩
 rw[←e];rfl
theorem dstep_calls (h:PE L s) {x:Stp} (hok:stOk x=true) (hx:x.Ok) {j:Nat} (hj:j≤L.length) (hat:At L j (stTok x) T):
  HFn Tryd.prog 37 [.ptr 1 0] (D2 L s j noFa) (fun r q=>r=x.enc∧q=D2 L s (j+(stTok x).length) noFa):=by
 have hL:=h.len
 have hle:=At.le hj hat
 rw[stOk,Bool.and_eq_true,Bool.and_eq_true] at hok
 obtain⟨ok1,ok2,ok3⟩:=hok
 have hp:=List.all_eq_true.1 ok2
 have hs:=List.all_eq_true.1 ok3
 have hlen:(stTok x).length=3+(x.path.length+(2+((x.sub.flatMap spTok).length+2))):=by simp[stTok];omega
 rw[hlen] at hle ⊢
 have hsub:x.sub.length≤(x.sub.flatMap spTok).length:=by
  generalize x.sub=l
  induction l with
  |nil=>exact Nat.zero_le _
  |cons p l ih=>rw[List.flatMap_cons,List.length_append,List.length_cons,spTok,List.length_cons];omega
 unfold stTok at hat
 have h1:At L j ((if x.back=true then bkW else onW)::numW x.eq::lbW::(x.path.map numW++([rbW,lcW]++(x.sub.flatMap spTok++[rcW,smW])))) T:=hat
 have h2:=h1.tail
 have h3:=h2.tail
 have h4:=h3.tail
 have h5:At L (j+1+1+1) (x.path.flatMap (fun i=>[numW i])++[rbW]) (([lcW]++(x.sub.flatMap spTok++[rcW,smW])).map txB++T):=by
  rw[flat_one]
  exact At.app (u:=x.path.map numW++[rbW]) (v:=[lcW]++(x.sub.flatMap spTok++[rcW,smW])) (by simpa using h4)
 have h6:At L (j+1+1+1+x.path.length+1) ([lcW]++(x.sub.flatMap spTok++[rcW,smW])) T:=by
  have:=At.next (u:=x.path.map numW++[rbW]) (v:=[lcW]++(x.sub.flatMap spTok++[rcW,smW])) (i:=j+1+1+1) (T:=T) (L:=L) (by simpa using h4)
  rwa [List.length_append,List.length_map,List.length_singleton,show j+1+1+1+(x.path.length+1)=j+1+1+1+x.path.length+1 by omega] at this
 have h7:=At.tail (w:=lcW) h6
 have h7:At L (j+1+1+1+x.path.length+1+1) ((x.sub.flatMap spTok++[rcW])++[smW]) T:=by simpa using h7
 have h8:=h7.next
 rw[List.length_append,List.length_singleton] at h8
 have un:=untilN_calls (l:=x.path) (tok:=fun i=>[numW i]) (G:=fun _=>True) (ew:=rbW) (b:=false) h (by omega) (fun e=>by cases e) (by decide)
  (fun y hy k T' hk hatk _=>dnum_calls h (hp y hy) hatk) (fun _ _ _=>True.intro) (fun _=>True.intro) (fun y hy=>⟨_,_,rfl,word_ne (num_nxt (hp y hy) rfl)⟩) h5 (by have:=h3.lt;omega)
 have up:=untilP_calls (l:=x.sub) (tok:=spTok) (G:=fun _=>True) (ew:=rcW) (b:=false) h (by omega) (fun e=>by cases e) (by decide)
  (fun y hy k T' hk hatk _=>dpair_calls h (hs y hy) (hx.sub y hy) hk hatk) (fun _ _ _=>True.intro) (fun _=>True.intro)
  (fun y hy=>⟨_,_,rfl,word_ne (num_nxt (by have:=hs y hy;rw[spOk,Bool.and_eq_true] at this;exact this.1) rfl)⟩) h7.app (by have:=h6.lt;omega)
 rw[flat_one,List.length_map] at un
 have m3:=dmust_calls h (ws:=[lcW]) (by decide) (by decide) h6 (by have:=h6.lt;omega)
 have m4:=dmust_calls h (ws:=[smW]) (u:=[]) (by decide) (by decide) (show At L _ ([smW]++[]) T from h8) (by have:=h8.lt;omega)
 have m2:=dmust_calls h (ws:=[lbW]) (i:=j+1+1) (by decide) (by decide) (show At L (j+1+1) ([lbW]++_) T from h3) (by have:=h3.lt;omega)
 have e:j+1+1+1+x.path.length+1+1+((x.sub.flatMap spTok).length+1)+1=j+(3+(x.path.length+(2+((x.sub.flatMap spTok).length+2)))):=by omega
 have dn:=dnum_calls h ok1 h2
 unfold Stp.enc
 have fin:vc37_R9 (L.map tkEnc) s ((j+1+1+1+x.path.length+1+1:Nat):Int) 0 0 0 ⟨#[]⟩ (fun r q=>r=.agg [nI x.eq,nB x.back,.sl (encInts x.path),.sl (x.sub.map spEnc)]∧q=D2 L s (j+(3+(x.path.length+(2+((x.sub.flatMap spTok).length+2))))) noFa) x.eq x.back (encInts x.path):=by
  rw[←e]
  exact⟨_,up,fun r q ⟨e1,e2⟩=>⟨_,_,_,_,_,_,_,_,⟨e1,e2⟩,_,m4,fun r q ⟨e1,e2⟩=>⟨_,_,_,_,_,_,_,⟨e1,e2⟩,rfl,rfl⟩⟩⟩
 cases hb:x.back
 ·rw[hb] at h1 fin
  have m1:=dmust_calls h (ws:=[onW]) (by decide) (by decide) (show At L j ([onW]++_) T from h1) hj
  refine vc37_ok ⟨_,dis_no h hj (h1.not (by decide)),fun r q ⟨e1,e2⟩=>⟨_,_,_,_,_,_,_,_,⟨e1,e2⟩,ITE.pos rfl ⟨_,m1,fun r q ⟨e1,e2⟩=>⟨_,_,_,_,_,_,_,⟨e1,e2⟩,_,dn,fun r q ⟨e1,e2⟩=>⟨_,_,_,_,_,_,_,_,⟨e1,e2⟩,
   _,m2,fun r q ⟨e1,e2⟩=>⟨_,_,_,_,_,_,_,⟨e1,e2⟩,_,un,fun r q ⟨e1,e2⟩=>⟨_,_,_,_,_,_,_,_,⟨e1,e2⟩,_,m3,fun r q ⟨e1,e2⟩=>⟨_,_,_,_,_,_,_,⟨e1,e2⟩,fin⟩⟩⟩⟩⟩⟩⟩⟩
 ·rw[hb] at h1 fin
  refine vc37_ok ⟨_,dis_yes h h1 (by decide),fun r q ⟨e1,e2⟩=>⟨_,_,_,_,_,_,_,_,⟨e1,e2⟩,ITE.neg rfl ⟨_,dn,fun r q ⟨e1,e2⟩=>⟨_,_,_,_,_,_,_,_,⟨e1,e2⟩,
   _,m2,fun r q ⟨e1,e2⟩=>⟨_,_,_,_,_,_,_,⟨e1,e2⟩,_,un,fun r q ⟨e1,e2⟩=>⟨_,_,_,_,_,_,_,_,⟨e1,e2⟩,_,m3,fun r q ⟨e1,e2⟩=>⟨_,_,_,_,_,_,_,⟨e1,e2⟩,fin⟩⟩⟩⟩⟩⟩⟩
end Go.Proofs.YtjhanogfpkbamaaDoor

namespace Go.Proofs.YtjhanogfpkbamaaDoor
open Go
set_option linter.unusedSimpArgs false
set_option linter.unusedVariables false
variable {L:List Tk} {s w:ByteArray} {i:Nat} {u v:List ByteArray} {T:List Tx} {f:Fa}
theorem len_flat {α:Type} {g:α→List ByteArray} (hg:∀x,1≤(g x).length):∀{l:List α},l.length≤(l.flatMap g).length
 | []=>Nat.zero_le _
 |x::l=>by have:=hg x;have:=len_flat (g:=g) hg (l:=l);rw[List.flatMap_cons,List.length_append,List.length_cons];omega
theorem len_flatM {α:Type} {g:α→List ByteArray}:∀{l:List α},(∀x∈l,1≤(g x).length)→l.length≤(l.flatMap g).length
 | [],_=>Nat.zero_le _
 |x::l,h=>by
  have h1:=h x List.mem_cons_self
  have h2:=len_flatM (g:=g) (l:=l) fun y hy=>h y (List.mem_cons_of_mem _ hy)
  rw[List.flatMap_cons,List.length_append,List.length_cons];omega
theorem stTok_first (x:Stp):∃w u,stTok x=w::u∧w≠rcW:=by
 refine⟨_,_,rfl,?_⟩
 split<;>decide
theorem dlemma_calls (h:PE L s) {x:Lem} (hok:leOk x=true) (hx:x.Ok) {j:Nat} (hj:j≤L.length) (hat:At L j (leTok x) T):
  HFn Tryd.prog 17 [.ptr 1 0] (D2 L s j noFa) (fun r q=>r=x.enc∧q=D2 L s (j+(leTok x).length) noFa):=by
 have hL:=h.len
 have hle:=At.le hj hat
 rw[leOk,Bool.and_eq_true,Bool.and_eq_true,Bool.and_eq_true] at hok
 obtain⟨ok1,ok2,ok3,ok4⟩:=hok
 have hm:=List.all_eq_true.1 ok1
 have hs:=List.all_eq_true.1 ok4
 have hlen:(leTok x).length=2+((x.metas.flatMap (tokTy 60)).length+(1+((tokTm 60 x.left).length+(1+((tokTm 60 x.right).length+(1+((x.steps.flatMap stTok).length+2))))))):=by
  unfold leTok
  simp only[List.length_append,List.length_cons,List.length_nil]
 rw[hlen] at hle ⊢
 have hml:x.metas.length≤(x.metas.flatMap (tokTy 60)).length:=len_flatM fun t ht=>by
  obtain⟨n,u,e,_⟩:=tokTy_cons (hm t ht)
  rw[e];simp
 have hsl:x.steps.length≤(x.steps.flatMap stTok).length:=len_flatM fun t ht=>by
  obtain⟨w,u,e,_⟩:=stTok_first t
  rw[e];simp
 unfold leTok at hat
 have h1:At L j ([lemW,lbW]++(x.metas.flatMap (tokTy 60)++([rbW]++(tokTm 60 x.left++([eqlW]++(tokTm 60 x.right++([lcW]++(x.steps.flatMap stTok++[rcW,smW])))))))) T:=hat
 have h2:=h1.next
 have h3:At L (j+2) (x.metas.flatMap (tokTy 60)++[rbW]) ((tokTm 60 x.left++([eqlW]++(tokTm 60 x.right++([lcW]++(x.steps.flatMap stTok++[rcW,smW]))))).map txB++T):=
  At.app (u:=x.metas.flatMap (tokTy 60)++[rbW]) (by rw[List.append_assoc];exact h2)
 have h4:At L (j+2+(x.metas.flatMap (tokTy 60)).length+1) (tokTm 60 x.left++([eqlW]++(tokTm 60 x.right++([lcW]++(x.steps.flatMap stTok++[rcW,smW]))))) T:=by
  have:=At.next (u:=x.metas.flatMap (tokTy 60)++[rbW]) (v:=tokTm 60 x.left++([eqlW]++(tokTm 60 x.right++([lcW]++(x.steps.flatMap stTok++[rcW,smW]))))) (i:=j+2) (T:=T) (L:=L) (by rw[List.append_assoc];exact h2)
  rwa [List.length_append,List.length_singleton,←Nat.add_assoc] at this
 have h5:=h4.next
 have h6:=At.next (u:=[eqlW]) h5
 rw[List.length_singleton] at h6
 have h7:=h6.next
 have h8:=At.next (u:=[lcW]) h7
 rw[List.length_singleton] at h8
 generalize hA:j+2+(x.metas.flatMap (tokTy 60)).length+1=A at h4 h5 h6 h7 h8
 generalize hB:A+(tokTm 60 x.left).length=B at h5 h6 h7 h8
 generalize hC:B+1+(tokTm 60 x.right).length=C at h7 h8
 have h9:At L (C+1) (x.steps.flatMap stTok++[rcW]) ([smW].map txB++T):=At.app (u:=x.steps.flatMap stTok++[rcW]) (by rw[List.append_assoc];exact h8)
 have h10:At L (C+1+(x.steps.flatMap stTok).length+1) ([smW]++[]) T:=by
  have:=At.next (u:=x.steps.flatMap stTok++[rcW]) (v:=[smW]) (i:=C+1) (T:=T) (L:=L) (by rw[List.append_assoc];exact h8)
  rwa [List.length_append,List.length_singleton,←Nat.add_assoc] at this
 have um:=untilM_calls (l:=x.metas) (tok:=tokTy 60) (G:=Nxt lbW) (ew:=rbW) (b:=false) h (by omega) (fun e=>by cases e) (by decide)
  (fun t ht k T' hk hatk hG=>by
   have hr:=dtyp_calls h 60 t (Nat.le_refl _) (hm t ht) (hx.metas t ht).2 k T' hk hatk hG
   rw[Ty.enc_eq] at hr ⊢
   exact vc33_ok ⟨_,hr,fun r q ⟨e1,e2⟩=>⟨_,_,_,_,_,_,_,_,_,⟨e1,e2⟩,rfl,rfl⟩⟩)
  (fun t ht T'=>ty_nxt (hm t ht) rfl) (fun T'=>nxt_cons (by decide)) (fun t ht=>ty_ne (hm t ht) rfl) h3 (by omega)
 rw[hA] at um
 have us:=untilS_calls (l:=x.steps) (tok:=stTok) (G:=fun _=>True) (ew:=rcW) (b:=false) h (by omega) (fun e=>by cases e) (by decide)
  (fun y hy k T' hk hatk _=>dstep_calls h (hs y hy) (hx.steps y hy) hk hatk) (fun _ _ _=>True.intro) (fun _=>True.intro) (fun y hy=>stTok_first y) h9 (by omega)
 have dl:=dterm0_calls h ok2 hx.lsize (by omega) h4.app (nxt_cons (by decide))
 rw[hB] at dl
 have dr:=dterm0_calls h ok3 hx.rsize (by omega) h6.app (nxt_cons (by decide))
 rw[hC] at dr
 have m1:=dmust_calls h (ws:=[lemW,lbW]) (by decide) (by decide) h1 hj
 have m2:=dmust_calls h (ws:=[eqlW]) (by decide) (by decide) h5 (by omega)
 have m3:=dmust_calls h (ws:=[lcW]) (by decide) (by decide) h7 (by omega)
 have m4:=dmust_calls h (ws:=[smW]) (by decide) (by decide) h10 (by omega)
 have e:C+1+(x.steps.flatMap stTok).length+1+[smW].length=j+(2+((x.metas.flatMap (tokTy 60)).length+(1+((tokTm 60 x.left).length+(1+((tokTm 60 x.right).length+(1+((x.steps.flatMap stTok).length+2))))))) ):=by
  rw[List.length_singleton];omega
 unfold Lem.enc
 refine vc17_ok ⟨_,m1,fun r q ⟨e1,e2⟩=>⟨_,_,_,_,_,_,_,⟨e1,e2⟩,_,um,fun r q ⟨e1,e2⟩=>⟨_,_,_,_,_,_,_,_,⟨e1,e2⟩,_,dl,fun r q ⟨e1,e2⟩=>⟨_,_,_,_,_,_,_,_,_,_,_,⟨e1,e2⟩,
  _,m2,fun r q ⟨e1,e2⟩=>⟨_,_,_,_,_,_,_,⟨e1,e2⟩,_,dr,fun r q ⟨e1,e2⟩=>⟨_,_,_,_,_,_,_,_,_,_,_,⟨e1,e2⟩,_,m3,fun r q ⟨e1,e2⟩=>⟨_,_,_,_,_,_,_,⟨e1,e2⟩,_,us,fun r q ⟨e1,e2⟩=>⟨_,_,_,_,_,_,_,_,⟨e1,e2⟩,
  _,m4,fun r q ⟨e1,e2⟩=>⟨_,_,_,_,_,_,_,⟨e1,e2⟩,rfl,?_⟩⟩⟩⟩⟩⟩⟩⟩⟩
 rw[e]
theorem Decode_calls {ls:List Lem} (hsp:splitP s=(L,noFa)) (h:PE L s) (hok:ls.all leOk=true) (hls:∀l∈ls,l.Ok) (hat:At L 0 (ls.flatMap leTok) []):
  PureIs Tryd.prog 5 [nS s] (.tup [.agg [.sl (ls.map Lem.enc)],.agg (faC noFa)]):=by
 have hL:=h.len
 have hle:=At.le (Nat.zero_le _) hat
 have hall:=List.all_eq_true.1 hok
 have hlen:ls.length≤(ls.flatMap leTok).length:=len_flatM fun t ht=>by unfold leTok;simp
 have hsc:=lexSplit_calls h.size
 rw[hsp] at hsc
 have hend:L.length=(ls.flatMap leTok).length:=by
  have:=congrArg List.length hat
  simpa using this
 refine vc5_ok ⟨_,_,_,_,_,hsc,ITE.neg rfl ⟨_,rnew_calls hL,fun r q ⟨e1,e2⟩=>⟨_,_,_,⟨e1,e2⟩,rfl,?_⟩⟩⟩
 refine LoopP.intro (fun k:Nat=>(((),(),(),(),()),(((),()),(0,0,0,⟨#[]⟩,()),(0,0,0,⟨#[]⟩,()),(L.map tkEnc,s,((((ls.take k).flatMap leTok).length:Nat):Int),()),((),0,0,0,⟨#[]⟩,()),((),()),(ls.take k).map Lem.enc,())))
  (fun k=>k≤ls.length) (fun k=>ls.length-k) 0 rfl (Nat.zero_le _) ?_
 intro k hk again hag
 dsimp only
 have hat0:At L 0 ((ls.take k).flatMap leTok++(ls.drop k).flatMap leTok) []:=by
  rw[←List.flatMap_append,List.take_append_drop];exact hat
 have hatk:=hat0.next
 rw[Nat.zero_add] at hatk
 have hPl:((ls.take k).flatMap leTok).length≤L.length:=by have:=At.le (Nat.zero_le _) hat0.app;omega
 generalize hP:((ls.take k).flatMap leTok).length=P at hatk hPl ⊢
 refine⟨_,dok_calls (f:=noFa),fun r q ⟨e1,e2⟩=>⟨_,_,_,_,_,_,_,_,⟨e1,e2⟩,ITE.pos rfl ⟨_,peek_calls h hPl,fun r q ⟨e1,e2⟩=>⟨_,_,_,_,_,_,⟨e1,e2⟩,?_⟩⟩⟩⟩
 by_cases hlt:k<ls.length
 ·have hmem:=List.getElem_mem hlt
  rw[List.drop_eq_getElem_cons hlt,List.flatMap_cons] at hatk
  have hPlt:P<L.length:=by
   have:=At.le hPl hatk.app
   have:1≤(leTok ls[k]).length:=by unfold leTok;simp
   omega
  have hkind:((pk L s P).1 != 4)=true:=by rw[pk_lt hPlt,bne_iff_ne];exact h.kind _ (List.getElem_mem hPlt)
  have hr:=dlemma_calls h (hall _ hmem) (hls _ hmem) hPl hatk.app
  unfold Lem.enc at hr
  have hag2:=hag (k+1) hlt (by omega)
  have e1:(ls.take k).map Lem.enc++[.agg [.sl (ls[k].left.binds.map Ty.enc),nI ls[k].left.kind,nI ls[k].left.index,.sl (ls[k].left.args.map Tm.enc),.sl (ls[k].right.binds.map Ty.enc),nI ls[k].right.kind,nI ls[k].right.index,.sl (ls[k].right.args.map Tm.enc),.sl (ls[k].metas.map Ty.enc),.sl (ls[k].steps.map Stp.enc)]]=(ls.take (k+1)).map Lem.enc:=by
   rw[←take_snoc' hlt,List.map_append];rfl
  have e2:P+(leTok ls[k]).length=((ls.take (k+1)).flatMap leTok).length:=by rw[flatM_take _ hlt,List.length_append,←hP]
  rw[←e1,←e2] at hag2
  have key:vc5_L7 (L.map tkEnc) s (P:Int) 0 0 0 ⟨#[]⟩ (List.length ((ls.take k).map Lem.enc)) ((ls.take k).map Lem.enc) again 0 0 0 ⟨#[]⟩ 0 0 0 ⟨#[]⟩:=
   ⟨_,hr,fun r q ⟨e1,e2⟩=>⟨_,_,_,_,_,_,_,_,_,_,_,_,_,_,_,_,_,⟨e1,e2⟩,rfl,appOk_one rfl (by rw[List.length_append,List.length_map,List.length_take];simp;omega) (by decide),rfl,hag2⟩⟩
  exact ITE.pos hkind ⟨key,key⟩
 ·obtain rfl:k=ls.length:=by omega
  rw[List.take_length] at hP ⊢
  have hPe:P=L.length:=by omega
  have hkind:((pk L s P).1 != 4)=false:=by rw[pk_ge (by omega)];rfl
  exact ITE.neg hkind ⟨_,dok_calls (f:=noFa),fun r q ⟨e1,e2⟩=>⟨_,_,_,_,_,_,_,_,⟨e1,e2⟩,ITE.neg rfl ⟨rfl,rfl⟩⟩⟩
end Go.Proofs.YtjhanogfpkbamaaDoor

namespace Go.Proofs.YtjhanogfpkbamaaDoor
open Go
set_option linter.unusedSimpArgs false
set_option linter.unusedVariables false
theorem endsNL_iff {t:ByteArray}:endsNL t=true↔(bytesI t).getLast?=some 10:=by
 have hl:=bytesI_len t
 have e10:bytesI (⟨#[10]⟩:ByteArray)=[10]:=rfl
 unfold endsNL
 rw[decide_eq_true_iff]
 have key:(t.extract (t.size-1) t.size=(⟨#[10]⟩:ByteArray))↔((bytesI t).drop (t.size-1)).take (t.size-(t.size-1))=[10]:=by
  rw[←bytesI_extract,←e10]
  exact⟨fun h=>by rw[h],bytesI_inj⟩
 rw[key,←hl]
 rcases List.eq_nil_or_concat (bytesI t) with hb|⟨l,c,hb⟩
 ·rw[hb];simp
 ·rw[hb,List.concat_eq_append,List.length_append,List.length_singleton,Nat.add_sub_cancel,List.drop_left,List.getLast?_append]
  have:l.length+1-l.length=1:=by omega
  rw[this]
  simp
theorem last_app {a b:ByteArray} (h:bytesI b≠[]):(bytesI (a++b)).getLast?=(bytesI b).getLast?:=by
 rw[bytesI_app,List.getLast?_append]
 cases hb:(bytesI b).getLast? with
 |none=>rw[List.getLast?_eq_none_iff] at hb;exact(h hb).elim
 |some c=>rfl
structure TkW (w:ByteArray):Prop where
 lex:Lex w [txB w]
 ne:bytesI w≠[]
 last:(bytesI w).getLast?≠some 10
structure Wr (t:ByteArray) (U:List Tx):Prop where
 lex:Lex t U
 fresh:(!decide (t=(⟨#[]⟩:ByteArray))&&!endsNL t)=false→LexB t U
theorem Wr.put {t w:ByteArray} {U:List Tx} (h:Wr t U) (hw:TkW w):Wr (put1 t w) (U++[txB w]):=by
 have hne:put1 t w≠(⟨#[]⟩:ByteArray):=fun e=>by
  have:=congrArg bytesI e
  unfold put1 at this
  rw[bytesI_app] at this
  exact hw.ne (List.append_eq_nil_iff.1 this).2
 have hnl:endsNL (put1 t w)=false:=by
  rw[Bool.eq_false_iff]
  intro e
  rw[endsNL_iff] at e
  unfold put1 at e
  rw[last_app hw.ne] at e
  exact hw.last e
 refine⟨?_,fun e=>by rw[hnl,decide_eq_false hne] at e;cases e⟩
 unfold put1
 cases hf:(!decide (t=(⟨#[]⟩:ByteArray))&&!endsNL t) with
 |true=>
  rw[if_pos rfl]
  intro r T hr hx
  rw[bytesI_app,bytesI_app,List.append_assoc,List.append_assoc,List.append_assoc]
  exact h.lex _ _ (ni_cons (by decide)) (Lx.blank (.inl rfl) (hw.lex r T hr hx))
 |false=>
  rw[if_neg (by decide)]
  exact(h.fresh hf).app hw.lex
theorem Wr.puts {t:ByteArray}:∀{ws:List ByteArray} {t:ByteArray} {U:List Tx},Wr t U→(∀w∈ws,TkW w)→Wr (puts t ws) (U++ws.map txB)
 | [],t,U,h,_=>by rw[List.map_nil,List.append_nil];exact h
 |w::ws,t,U,h,hw=>by
  have:=Wr.puts (t:=t) (ws:=ws) (h.put (hw w List.mem_cons_self)) fun x hx=>hw x (List.mem_cons_of_mem _ hx)
  rw[List.append_assoc] at this
  exact this
theorem Wr.line {t:ByteArray} {U:List Tx} (h:Wr t U):Wr (t++nlW) U:=by
 have hb:LexB (t++nlW) U:=fun r T hx=>by
  rw[bytesI_app,List.append_assoc]
  exact h.lex _ _ (ni_cons (by decide)) (Lx.blank (.inr rfl) hx)
 exact⟨hb.lex,fun _=>hb⟩
theorem wr_nil:Wr (⟨#[]⟩:ByteArray) []:=⟨lexB_nil.lex,fun _=>lexB_nil⟩
theorem Wr.split {t:ByteArray} {U:List Tx} (h:Wr t U) (hz:t.size≤20000):∃L:List Tk,splitP t=(L,noFa)∧L.map txOf=U:=by
 refine splitP_lx ?_ hz
 have:=h.lex [] [] ni_nil (Lx.nil rfl)
 rwa [List.append_nil,List.append_nil] at this
theorem sgn_ok {w:ByteArray} {c:Int} (hb:bytesI w=[c]) (hc:c∈[40,41,92,46,59,58,61,62,44,91,93,123,125]):TkW w:=by
 have hk:kindB w=3:=by
  unfold kindB
  rw[hb]
  simp only[List.mem_cons,List.not_mem_nil,or_false] at hc
  rcases hc with rfl|rfl|rfl|rfl|rfl|rfl|rfl|rfl|rfl|rfl|rfl|rfl|rfl<;>rfl
 refine⟨fun r T _ hx=>?_,by rw[hb];simp,by rw[hb];intro e;simp at e;subst e;simp at hc⟩
 rw[txB,hk,hb]
 exact Lx.sign hc hx
theorem wd_ok {w:ByteArray} (h:isWord w=true) (hk:kindB w=1) (hl:(bytesI w).getLast?≠some 10):TkW w:=by
 refine⟨fun r T hr hx=>?_,fun e=>by simp[isWord,e] at h,hl⟩
 rw[txB,hk]
 exact Lx.word h hr hx
theorem last_digit {l:List Int} (h:l.all isDigit=true):l.getLast?≠some 10:=fun e=>by
 have:=(List.all_eq_true.1 h) 10 (List.mem_of_getLast? e)
 exact absurd this (by decide)
theorem nm_ok {n:Int} (h:numOk n=true):TkW (numW n):=by
 obtain⟨h1,h2,_⟩:=numW_digits h
 refine⟨fun r T hr hx=>?_,h2,last_digit h1⟩
 rw[txB,numW_kind h]
 exact Lx.num h1 h2 (by rw[bytesI_len];exact numW_len h) hr hx
theorem hd_ok {k n:Int} (hk:kOk k=true) (h:numOk n=true):TkW (letW k++numW n):=by
 obtain⟨h1,h2,_⟩:=numW_digits h
 obtain⟨c,c1,c2,c3,c4,c5⟩:=letW_bytes hk
 have h9:=numW_len h
 rw[←bytesI_len] at h9
 have hb:bytesI (letW k++numW n)=c::bytesI (numW n):=by rw[bytesI_app,c1];rfl
 refine wd_ok ((isWord_cons hb).2 ⟨by omega,c2,?_⟩) (headW_kind hk) ?_
 ·rw[List.all_eq_true] at h1 ⊢
  intro d hd
  have:=h1 d hd
  simp[isInner,this]
 ·rw[last_app h2];exact last_digit h1
theorem toks_in {α:Type} {a b:ByteArray} {l:List α} {f:List ByteArray} (ha:TkW a) (hb:TkW b) (hf:∀w∈f,TkW w):∀w∈pinW a b l f,TkW w:=fun w hw=>by
 unfold pinW at hw
 split at hw
 ·cases hw
 ·rcases List.mem_cons.1 hw with rfl|hw
  ·exact ha
  ·rcases List.mem_append.1 hw with hw|hw
   ·exact hf w hw
   ·rw[List.mem_singleton.1 hw];exact hb
theorem lb_ok:TkW lbW:=sgn_ok (c:=91) rfl (by decide)
theorem rb_ok:TkW rbW:=sgn_ok (c:=93) rfl (by decide)
theorem op_ok:TkW opW:=sgn_ok (c:=40) rfl (by decide)
theorem cl_ok:TkW clW:=sgn_ok (c:=41) rfl (by decide)
theorem la_ok:TkW laW:=sgn_ok (c:=92) rfl (by decide)
theorem dt_ok:TkW dtW:=sgn_ok (c:=46) rfl (by decide)
theorem cln_ok:TkW clnW:=sgn_ok (c:=58) rfl (by decide)
theorem cm_ok:TkW cmW:=sgn_ok (c:=44) rfl (by decide)
theorem lc_ok:TkW lcW:=sgn_ok (c:=123) rfl (by decide)
theorem rc_ok:TkW rcW:=sgn_ok (c:=125) rfl (by decide)
theorem sm_ok:TkW smW:=sgn_ok (c:=59) rfl (by decide)
theorem eql_ok:TkW eqlW:=sgn_ok (c:=61) rfl (by decide)
theorem on_ok:TkW onW:=wd_ok (by decide) (by decide) (by decide)
theorem bk_ok:TkW bkW:=wd_ok (by decide) (by decide) (by decide)
theorem lem_ok:TkW lemW:=wd_ok (by decide) (by decide) (by decide)
theorem toksTy_ok:∀(d:Nat) (t:Ty),okTy d t=true→∀w∈tokTy d t,TkW w
 |0,t,h,_,_=>by cases h
 |d+1,t,h,w,hw=>by
  rw[okTy,Bool.and_eq_true] at h
  have hall:=List.all_eq_true.1 h.2
  rcases List.mem_cons.1 hw with rfl|hw
  ·exact nm_ok h.1
  ·exact toks_in lb_ok rb_ok (fun x hx=>by
    obtain⟨u,hu,hx⟩:=List.mem_flatMap.1 hx
    exact toksTy_ok d u (hall u hu) x hx) w hw
theorem toksTm_ok:∀(d:Nat) (t:Tm),okTm d t=true→∀w∈tokTm d t,TkW w
 |0,t,h,_,_=>by cases h
 |d+1,t,h,w,hw=>by
  rw[okTm,Bool.and_eq_true,Bool.and_eq_true,Bool.and_eq_true] at h
  obtain⟨hk,hb,hn,ha⟩:=h
  rw[tokTm,if_pos hk] at hw
  have hall:=List.all_eq_true.1 ha
  have hbl:=List.all_eq_true.1 hb
  rcases List.mem_append.1 hw with hw|hw
  ·exact toks_in la_ok dt_ok (fun x hx=>by
    obtain⟨u,hu,hx⟩:=List.mem_flatMap.1 hx
    exact toksTy_ok d u (hbl u hu) x hx) w hw
  ·rcases List.mem_cons.1 hw with rfl|hw
   ·exact hd_ok hk hn
   ·exact toks_in op_ok cl_ok (fun x hx=>by
     obtain⟨u,hu,hx⟩:=List.mem_flatMap.1 hx
     exact toksTm_ok d u (hall u hu) x hx) w hw
theorem toks_app {a b:List ByteArray} (ha:∀w∈a,TkW w) (hb:∀w∈b,TkW w):∀w∈a++b,TkW w:=fun w hw=>(List.mem_append.1 hw).elim (ha w) (hb w)
theorem toks_cons {a:ByteArray} {b:List ByteArray} (ha:TkW a) (hb:∀w∈b,TkW w):∀w∈a::b,TkW w:=fun w hw=>(List.mem_cons.1 hw).elim (fun e=>e▸ha) (hb w)
theorem toks_nil:∀w∈([]:List ByteArray),TkW w:=fun w hw=>by cases hw
theorem toks_flat {α:Type} {l:List α} {g:α→List ByteArray} (h:∀x∈l,∀w∈g x,TkW w):∀w∈l.flatMap g,TkW w:=fun w hw=>by
 obtain⟨u,hu,hx⟩:=List.mem_flatMap.1 hw
 exact h u hu w hx
theorem toksSt_ok {s:Stp} (h:stOk s=true):∀w∈stTok s,TkW w:=by
 rw[stOk,Bool.and_eq_true,Bool.and_eq_true] at h
 obtain⟨h1,h2,h3⟩:=h
 have hp:=List.all_eq_true.1 h2
 have hs:=List.all_eq_true.1 h3
 refine toks_app (toks_cons (by split;exact bk_ok;exact on_ok) (toks_cons (nm_ok h1) (toks_cons lb_ok toks_nil))) (toks_app (fun w hw=>?_) (toks_app (toks_cons rb_ok (toks_cons lc_ok toks_nil)) (toks_app (toks_flat fun p hp=>?_) (toks_cons rc_ok (toks_cons sm_ok toks_nil)))))
 ·obtain⟨n,hn,rfl⟩:=List.mem_map.1 hw
  exact nm_ok (hp n hn)
 ·have:=hs p hp
  rw[spOk,Bool.and_eq_true] at this
  exact toks_cons (nm_ok this.1) (toks_cons cln_ok (toks_app (toksTm_ok 60 p.2 this.2) (toks_cons cm_ok toks_nil)))
theorem toksLe_ok {l:Lem} (h:leOk l=true):∀w∈leTok l,TkW w:=by
 rw[leOk,Bool.and_eq_true,Bool.and_eq_true,Bool.and_eq_true] at h
 obtain⟨h1,h2,h3,h4⟩:=h
 have hm:=List.all_eq_true.1 h1
 have hs:=List.all_eq_true.1 h4
 exact toks_app (toks_cons lem_ok (toks_cons lb_ok toks_nil)) (toks_app (toks_flat fun t ht=>toksTy_ok 60 t (hm t ht)) (toks_app (toks_cons rb_ok toks_nil) (toks_app (toksTm_ok 60 l.left h2) (toks_app (toks_cons eql_ok toks_nil)
  (toks_app (toksTm_ok 60 l.right h3) (toks_app (toks_cons lc_ok toks_nil) (toks_app (toks_flat fun s hs'=>toksSt_ok (hs s hs')) (toks_cons rc_ok (toks_cons sm_ok toks_nil)))))))))
theorem encTs_wr:∀{ls:List Lem} {t:ByteArray} {U:List Tx},Wr t U→ls.all leOk=true→Wr (encTs t ls) (U++(ls.flatMap leTok).map txB)
 | [],t,U,h,_=>by rw[List.flatMap_nil,List.map_nil,List.append_nil];exact h
 |l::ls,t,U,h,hok=>by
  rw[List.all_cons,Bool.and_eq_true] at hok
  have h1:=(Wr.puts (t:=t) h (toksLe_ok hok.1)).line
  have h2:=encTs_wr (ls:=ls) h1 hok.2
  rw[List.append_assoc,←List.map_append,←List.flatMap_cons] at h2
  exact h2
theorem Decode_back {ls:List Lem} (hok:ls.all leOk=true) (hls:∀l∈ls,l.Ok) (hb:sumB leW ls≤100000000):PureIs Tryd.prog 5 [nS (encTs ⟨#[]⟩ ls)]
  (if(encTs ⟨#[]⟩ ls).size>20000 then .tup [.agg [.sl []],.agg (faC (2,1,1,⟨#[]⟩))] else .tup [.agg [.sl (ls.map Lem.enc)],.agg (faC noFa)]):=by
 by_cases hz:(encTs ⟨#[]⟩ ls).size>20000
 ·rw[if_pos hz]
  have hz2:=encTs_size (t:=⟨#[]⟩) hls
  rw[show (⟨#[]⟩:ByteArray).size=0 from rfl] at hz2
  have hsc:=lexSplit_calls (s:=encTs ⟨#[]⟩ ls) (by omega)
  rw[splitP,if_pos hz] at hsc
  exact vc5_ok ⟨_,_,_,_,_,hsc,ITE.pos rfl rfl⟩
 ·rw[if_neg hz]
  obtain⟨L,h1,h2⟩:=(encTs_wr wr_nil hok).split (by omega)
  rw[List.nil_append] at h2
  have hpe:PE L (encTs ⟨#[]⟩ ls):=by
   rcases split_pe (s:=encTs ⟨#[]⟩ ls) with h|⟨h,_⟩
   ·rw[h1] at h;exact h
   ·exact(hz h).elim
  exact Decode_calls h1 hpe hok hls (by unfold At;rw[List.drop_zero,h2,List.append_nil])
end Go.Proofs.YtjhanogfpkbamaaDoor

namespace Go.Proofs.YtjhanogfpkbamaaDoor
open Go
set_option linter.unusedSimpArgs false
set_option linter.unusedVariables false
theorem teq_calls:∀(n:Nat) (t u:Tm),t.size≤n→n≤500000000→PureIs Tryd.prog 18 [.agg [.sl (t.binds.map Ty.enc),nI t.kind,nI t.index,.sl (t.args.map Tm.enc)],.agg [.sl (u.binds.map Ty.enc),nI u.kind,nI u.index,.sl (u.args.map Tm.enc)]] (nB (Tm.same t u)):=by
 intro n
 induction n with
 |zero=>intro t u h;have:=t.size_pos;omega
 |succ n ih=>
  intro t u h hn
  have hq:=Tm.sizes_len t.args
  have hts:=t.size_eq
  have hb:=equals_calls (l:=t.binds) (m:=u.binds) (by have:=Ty.sizes_len t.binds;omega) fun k h1 h2=>equal_calls _ t.binds[k] u.binds[k] (Nat.le_refl _) (by have:=Ty.sizes_mem (List.getElem_mem h1);omega)
  rw[Tm.same_eq]
  have hargs:PureIs Tryd.prog 40 [.sl (t.args.map Tm.enc),.sl (u.args.map Tm.enc),.clo 18 []] (nB (Tm.sames t.args u.args)):=by
   refine vc40_ok (ITE.intro (fun h=>?_) fun h=>?_)
   ·rw[Tm.sames_len (by simp at h;omega)]
   ·have hlm:t.args.length=u.args.length:=by simp at h;omega
    refine LoopP.intro (fun k:Nat=>((u.args.map Tm.enc,(),t.args.map Tm.enc,(t.args.length:Int),(k:Int),()),())) (fun k=>k≤t.args.length∧Tm.sames t.args u.args=Tm.sames (t.args.drop k) (u.args.drop k)) (fun k=>t.args.length-k) 0 (by rw[List.length_map];rfl) ⟨Nat.zero_le _,rfl⟩ ?_
    intro k ⟨hk,hs⟩ again hag
    dsimp only
    refine ITE.intro (fun h=>?_) fun h=>?_
    ·have hlt:k<t.args.length:=by simpa using h
     rw[Tm.sames_drop hlt (by omega)] at hs
     have hi:=ih t.args[k] (u.args[k]'(by omega)) (by have:=Tm.arg_size hlt;omega) (by omega)
     refine⟨by omega,by rw[List.length_map];omega,_,_,_,_,Tm.enc_getD hlt,by omega,by rw[List.length_map];omega,_,_,_,_,Tm.enc_getD (by omega),_,hi,ITE.intro (fun h=>?_) fun h=>?_⟩
     ·have:Tm.same t.args[k] u.args[k]=false:=by simpa using h
      rw[hs,this,Bool.false_and]
     ·have he:Tm.same t.args[k] u.args[k]=true:=by simpa using h
      rw[he,Bool.true_and] at hs
      rw[wrap_n (by omega)]
      exact hag (k+1) ⟨by omega,hs⟩ (by omega)
    ·have:t.args.length≤k:=by simpa using h
     rw[List.drop_eq_nil_of_le this,List.drop_eq_nil_of_le (by omega)] at hs
     rw[hs];rfl
  refine vc18_ok (ITE.intro (fun h=>⟨_,hb,ITE.intro (fun h2=>⟨_,hargs,?_⟩) fun h2=>?_⟩) fun h=>?_)
  ·rw[h,h2,Bool.true_and,Bool.true_and]
  ·rw[h,h2,Bool.true_and,Bool.false_and]
  ·rw[h,Bool.false_and]
end Go.Proofs.YtjhanogfpkbamaaDoor

namespace Go.Proofs.YtjhanogfpkbamaaDoor
open Go
set_option linter.unusedSimpArgs false
set_option linter.unusedVariables false
def zT:Tm:=.mk [] 1 0 []
def sT:Tm:=.mk [] 1 1 [zT]
def leK:Lem:=⟨sT,sT,[],[]⟩
theorem numW0:numW 0=(⟨#[48]⟩:ByteArray):=by
 have h:Lib.itoa ((0:Nat):Int)=Lib.decDigits 0:=Lib.itoa_nonneg 0
 have:numW 0=⟨(Lib.itoa ((0:Nat):Int)).toArray⟩:=rfl
 rw[this,h,dec_small (by decide)]
 rfl
theorem numW1:numW 1=(⟨#[49]⟩:ByteArray):=by
 have h:Lib.itoa ((1:Nat):Int)=Lib.decDigits 1:=Lib.itoa_nonneg 1
 have:numW 1=⟨(Lib.itoa ((1:Nat):Int)).toArray⟩:=rfl
 rw[this,h,dec_small (by decide)]
 rfl
theorem tokK:tokTm 60 sT=[(⟨#[99,49]⟩:ByteArray),opW,(⟨#[99,48]⟩:ByteArray),clW]:=by
 have:tokTm 60 sT=[letW 1++numW 1,opW,letW 1++numW 0,clW]:=rfl
 rw[this,numW0,numW1]
 rfl
abbrev exW:ByteArray:=⟨#[108,101,109,109,97,32,91,32,93,32,99,49,32,40,32,99,48,32,41,32,61,32,99,49,32,40,32,99,48,32,41,32,123,32,125,32,59,10]⟩
theorem encK:encTs (⟨#[]⟩:ByteArray) [leK]=exW:=by
 have h1:leTok leK=[lemW,lbW,rbW,⟨#[99,49]⟩,opW,⟨#[99,48]⟩,clW,eqlW,⟨#[99,49]⟩,opW,⟨#[99,48]⟩,clW,lcW,rcW,smW]:=by
  unfold leTok
  rw[show leK.left=sT from rfl,show leK.right=sT from rfl,tokK]
  rfl
 show puts (⟨#[]⟩:ByteArray) (leTok leK)++nlW=_
 rw[h1]
 kernel_rfl
theorem leK_ok:leK.Ok:=by
 have h:sT.Full:=⟨True.intro,by unfold I64;omega,by unfold I64;omega,⟨True.intro,by unfold I64;omega,by unfold I64;omega,True.intro⟩,True.intro⟩
 exact⟨h,h,by decide,by decide,fun t ht=>(by cases ht),fun t ht=>(by cases ht)⟩
theorem known26_calls:PureIs Tryd.prog 6 [] (nB true):=by
 have hls:∀l∈[leK],l.Ok:=fun l hl=>by rw[List.mem_singleton.1 hl];exact leK_ok
 have hok:[leK].all leOk=true:=by kernel_rfl
 have he:=Encode_calls hls (of_decide_eq_true (by kernel_rfl))
 have hd:=Decode_back hok hls (of_decide_eq_true (by kernel_rfl))
 rw[encK] at he hd
 rw[hok] at he
 rw[if_neg (by decide)] at hd
 have hq:=teq_calls 10 sT sT (by decide) (by decide)
 exact vc6_ok ⟨_,_,he,_,_,_,_,_,hd,ITE.pos rfl (ITE.pos (by rw[strEq_iff];exact decide_eq_true rfl) (ITE.pos rfl (ITE.pos rfl ⟨by decide,by decide,_,_,_,_,_,_,_,_,_,_,rfl,_,hq,congrArg nB (show Tm.same sT sT=true by kernel_rfl)⟩)))⟩
end Go.Proofs.YtjhanogfpkbamaaDoor

namespace Go.Proofs.YtjhanogfpkbamaaDoor
open Go
set_option linter.unusedSimpArgs false
set_option linter.unusedVariables false
def deepT:Nat→Tm
 |0=>zT
 |n+1=>.mk [] 1 1 [deepT n]
abbrev dpA:ByteArray:=⟨#[99,49,32,40,32]⟩
abbrev dpB:ByteArray:=⟨#[32,41]⟩
def deepW:Nat→ByteArray
 |0=>⟨#[99,48]⟩
 |n+1=>(dpA++deepW n)++dpB
theorem deepW_size:∀n,(deepW n).size=2+7*n
 |0=>rfl
 |n+1=>by rw[deepW,bsz,bsz,deepW_size n];show 5+(2+7*n)+2=_;omega
theorem deepT_size:∀n,(deepT n).size=n+1
 |0=>rfl
 |n+1=>by rw[deepT,Tm.size_eq,Tm.binds_mk,Tm.args_mk,Ty.sizes,Tm.sizes,Tm.sizes,deepT_size n];omega
theorem deepT_full:∀n,(deepT n).Full
 |0=>⟨True.intro,by unfold I64;omega,by unfold I64;omega,True.intro⟩
 |n+1=>⟨True.intro,by unfold I64;omega,by unfold I64;omega,deepT_full n,True.intro⟩
theorem deepT_ok:∀(d n:Nat),okTm d (deepT n)=decide (n<d)
 |0,n=>by cases n<;>rfl
 |d+1,0=>by rw[decide_eq_true (by omega)];rfl
 |d+1,n+1=>by
  have h:okTm (d+1) (deepT (n+1))=(true&&(true&&(true&&(okTm d (deepT n)&&true)))):=rfl
  rw[h,deepT_ok d n]
  simp
abbrev c1W:ByteArray:=⟨#[99,49]⟩
abbrev c0W:ByteArray:=⟨#[99,48]⟩
theorem tok_deep0 (d:Nat):tokTm (d+1) (deepT 0)=[c0W]:=by
 have:tokTm (d+1) (deepT 0)=[letW 1++numW 0]:=rfl
 rw[this,numW0];rfl
theorem tok_deep (d n:Nat):tokTm (d+1) (deepT (n+1))=c1W::opW::(tokTm d (deepT n)++[clW]):=by
 have:tokTm (d+1) (deepT (n+1))=(letW 1++numW 1)::opW::((tokTm d (deepT n)++[])++[clW]):=rfl
 rw[this,numW1,List.append_nil];rfl
def Mid (t:ByteArray):Prop:=(!decide (t=(⟨#[]⟩:ByteArray))&&!endsNL t)=true
theorem mid_put {t w:ByteArray} (hw:TkW w):Mid (put1 t w):=by
 have hne:put1 t w≠(⟨#[]⟩:ByteArray):=fun e=>by
  have:=congrArg bytesI e
  unfold put1 at this
  rw[bytesI_app] at this
  exact hw.ne (List.append_eq_nil_iff.1 this).2
 have hnl:endsNL (put1 t w)=false:=by
  rw[Bool.eq_false_iff]
  intro e
  rw[endsNL_iff] at e
  unfold put1 at e
  rw[last_app hw.ne] at e
  exact hw.last e
 rw[Mid,hnl,decide_eq_false hne];rfl
theorem put_mid {t w:ByteArray} (h:Mid t):put1 t w=(t++(⟨#[32]⟩:ByteArray))++w:=by
 unfold Mid at h
 unfold put1
 rw[if_pos h]
theorem c1_ok:TkW c1W:=wd_ok (by decide) (by decide) (by decide)
theorem c0_ok:TkW c0W:=wd_ok (by decide) (by decide) (by decide)
theorem puts_deep:∀(n d:Nat) {t:ByteArray},n<d→Mid t→puts t (tokTm d (deepT n))=(t++(⟨#[32]⟩:ByteArray))++deepW n∧Mid (puts t (tokTm d (deepT n)))
 |0,d+1,t,_,h=>by
  rw[tok_deep0]
  exact⟨put_mid h,mid_put c0_ok⟩
 |n+1,d+1,t,hd,h=>by
  rw[tok_deep]
  have e:puts t (c1W::opW::(tokTm d (deepT n)++[clW]))=put1 (puts (put1 (put1 t c1W) opW) (tokTm d (deepT n))) clW:=by
   show puts (put1 (put1 t c1W) opW) (tokTm d (deepT n)++[clW])=_
   rw[puts_app];rfl
  obtain⟨h1,h2⟩:=puts_deep n d (t:=put1 (put1 t c1W) opW) (by omega) (mid_put op_ok)
  rw[e]
  refine⟨?_,mid_put cl_ok⟩
  rw[put_mid h2,h1,put_mid (mid_put c1_ok),put_mid h,deepW]
  have a1:dpA=(c1W++(⟨#[32]⟩:ByteArray))++(opW++(⟨#[32]⟩:ByteArray)):=rfl
  have a2:dpB=(⟨#[32]⟩:ByteArray)++clW:=rfl
  rw[a1,a2]
  simp only[ByteArray.append_assoc]
theorem toks_deep:∀(n d:Nat),n<d→∀w∈tokTm d (deepT n),TkW w
 |n,d,h=>toksTm_ok d _ (by rw[deepT_ok];exact decide_eq_true h)
def deepL (odd:Bool) (n:Nat):Lem:=if odd=true then⟨zT,deepT n,[],[]⟩ else⟨deepT n,zT,[],[]⟩
abbrev dpL1:ByteArray:=⟨#[108,101,109,109,97,32,91,32,93,32]⟩
abbrev dpL2:ByteArray:=⟨#[32,61,32,99,48,32,123,32,125,32,59,10]⟩
abbrev dpR1:ByteArray:=⟨#[108,101,109,109,97,32,91,32,93,32,99,48,32,61,32]⟩
abbrev dpR2:ByteArray:=⟨#[32,123,32,125,32,59,10]⟩
def deepX (odd:Bool) (n:Nat):ByteArray:=if odd=true then(dpR1++deepW n)++dpR2 else(dpL1++deepW n)++dpL2
def deepU (odd:Bool) (n:Nat):List ByteArray:=if odd=true then[lemW,lbW,rbW,c0W,eqlW]++(tokTm (n+1) (deepT n)++[lcW,rcW,smW]) else[lemW,lbW,rbW]++(tokTm (n+1) (deepT n)++[eqlW,c0W,lcW,rcW,smW])
theorem deepX_eq (odd:Bool) (n:Nat):puts (⟨#[]⟩:ByteArray) (deepU odd n)++nlW=deepX odd n:=by
 cases odd
 ·have e0:puts (⟨#[]⟩:ByteArray) [lemW,lbW,rbW]=⟨#[108,101,109,109,97,32,91,32,93]⟩:=by kernel_rfl
  have hm:Mid (puts (⟨#[]⟩:ByteArray) [lemW,lbW,rbW]):=mid_put rb_ok
  obtain⟨h1,h2⟩:=puts_deep n (n+1) (by omega) hm
  show puts (⟨#[]⟩:ByteArray) ([lemW,lbW,rbW]++(tokTm (n+1) (deepT n)++[eqlW,c0W,lcW,rcW,smW]))++nlW=(dpL1++deepW n)++dpL2
  rw[puts_app,puts_app]
  have e1:∀t,Mid t→puts t [eqlW,c0W,lcW,rcW,smW]++nlW=t++dpL2:=fun t ht=>by
   show put1 (put1 (put1 (put1 (put1 t eqlW) c0W) lcW) rcW) smW++nlW=_
   rw[put_mid (mid_put rc_ok),put_mid (mid_put lc_ok),put_mid (mid_put c0_ok),put_mid (mid_put eql_ok),put_mid ht]
   have:dpL2=(⟨#[32]⟩:ByteArray)++(eqlW++((⟨#[32]⟩:ByteArray)++(c0W++((⟨#[32]⟩:ByteArray)++(lcW++((⟨#[32]⟩:ByteArray)++(rcW++((⟨#[32]⟩:ByteArray)++(smW++nlW))))))))):=rfl
   rw[this]
   simp only[ByteArray.append_assoc]
  rw[e1 _ h2,h1,e0]
  rfl
 ·have e0:puts (⟨#[]⟩:ByteArray) [lemW,lbW,rbW,c0W,eqlW]=⟨#[108,101,109,109,97,32,91,32,93,32,99,48,32,61]⟩:=by kernel_rfl
  have hm:Mid (puts (⟨#[]⟩:ByteArray) [lemW,lbW,rbW,c0W,eqlW]):=mid_put eql_ok
  obtain⟨h1,h2⟩:=puts_deep n (n+1) (by omega) hm
  show puts (⟨#[]⟩:ByteArray) ([lemW,lbW,rbW,c0W,eqlW]++(tokTm (n+1) (deepT n)++[lcW,rcW,smW]))++nlW=(dpR1++deepW n)++dpR2
  rw[puts_app,puts_app]
  have e1:∀t,Mid t→puts t [lcW,rcW,smW]++nlW=t++dpR2:=fun t ht=>by
   show put1 (put1 (put1 t lcW) rcW) smW++nlW=_
   rw[put_mid (mid_put rc_ok),put_mid (mid_put lc_ok),put_mid ht]
   have:dpR2=(⟨#[32]⟩:ByteArray)++(lcW++((⟨#[32]⟩:ByteArray)++(rcW++((⟨#[32]⟩:ByteArray)++(smW++nlW))))):=rfl
   rw[this]
   simp only[ByteArray.append_assoc]
  rw[e1 _ h2,h1,e0]
  rfl
theorem tok_more:∀(n d:Nat),n<d→tokTm d (deepT n)=tokTm (n+1) (deepT n)
 |0,d+1,_=>by rw[tok_deep0,tok_deep0]
 |n+1,d+1,h=>by rw[tok_deep,tok_deep,tok_more n d (by omega)]
theorem deepL_tok (odd:Bool) {n:Nat} (h:n<60):leTok (deepL odd n)=deepU odd n:=by
 have hz:tokTm 60 zT=[c0W]:=tok_deep0 59
 cases odd
 ·show [lemW,lbW]++([]++([rbW]++(tokTm 60 (deepT n)++([eqlW]++(tokTm 60 zT++([lcW]++([]++[rcW,smW])))))))=[lemW,lbW,rbW]++(tokTm (n+1) (deepT n)++[eqlW,c0W,lcW,rcW,smW])
  rw[tok_more n 60 h,hz];rfl
 ·show [lemW,lbW]++([]++([rbW]++(tokTm 60 zT++([eqlW]++(tokTm 60 (deepT n)++([lcW]++([]++[rcW,smW])))))))=[lemW,lbW,rbW,c0W,eqlW]++(tokTm (n+1) (deepT n)++[lcW,rcW,smW])
  rw[tok_more n 60 h,hz];rfl
theorem zT_full:zT.Full:=deepT_full 0
theorem deepL_ok (odd:Bool) {n:Nat} (h:n≤1000):(deepL odd n).Ok:=by
 have h1:=deepT_size n
 have h2:zT.size=1:=rfl
 unfold deepL
 split
 ·exact⟨zT_full,deepT_full n,(by show zT.size≤_;omega),(by show (deepT n).size≤_;omega),fun t ht=>(by cases ht),fun t ht=>(by cases ht)⟩
 ·exact⟨deepT_full n,zT_full,(by show (deepT n).size≤_;omega),(by show zT.size≤_;omega),fun t ht=>(by cases ht),fun t ht=>(by cases ht)⟩
theorem deepL_le (odd:Bool) (n:Nat):leOk (deepL odd n)=decide (n<60):=by
 have hz:okTm 60 zT=true:=deepT_ok 60 0
 have hd:=deepT_ok 60 n
 cases odd
 ·show (([]:List Ty).all (okTy 60)&&(okTm 60 (deepT n)&&(okTm 60 zT&&([]:List Stp).all stOk)))=_
  rw[hz,hd];simp
 ·show (([]:List Ty).all (okTy 60)&&(okTm 60 zT&&(okTm 60 (deepT n)&&([]:List Stp).all stOk)))=_
  rw[hz,hd];simp
theorem deepL_w (odd:Bool) {n:Nat} (h:n≤1000):sumB leW [deepL odd n]≤100000000:=by
 have h1:=deepT_size n
 have h2:zT.size=1:=rfl
 cases odd
 ·show 100+(0+(50*(deepT n).size+(50*zT.size+0)))+0≤_;omega
 ·show 100+(0+(50*zT.size+(50*(deepT n).size+0)))+0≤_;omega
theorem deep_enc (odd:Bool) {n:Nat} (h:n<60):PureIs Tryd.prog 4 [.agg [.sl [(deepL odd n).enc]]] (.tup [nS (deepX odd n),nI 0]):=by
 have:=Encode_calls (ls:=[deepL odd n]) (fun l hl=>by rw[List.mem_singleton.1 hl];exact deepL_ok odd (by omega)) (deepL_w odd (by omega))
 have hx:encTs ⟨#[]⟩ [deepL odd n]=deepX odd n:=by
  rw[←deepX_eq,←deepL_tok odd h];rfl
 rw[hx,List.all_cons,deepL_le,decide_eq_true h] at this
 exact this
theorem deep_dec (odd:Bool) {n:Nat} (h:n<60):PureIs Tryd.prog 5 [nS (deepX odd n)] (.tup [.agg [.sl [(deepL odd n).enc]],.agg (faC noFa)]):=by
 have:=Decode_back (ls:=[deepL odd n]) (by rw[List.all_cons,deepL_le,decide_eq_true h];rfl) (fun l hl=>by rw[List.mem_singleton.1 hl];exact deepL_ok odd (by omega)) (deepL_w odd (by omega))
 have hx:encTs ⟨#[]⟩ [deepL odd n]=deepX odd n:=by
  rw[←deepX_eq,←deepL_tok odd h];rfl
 have hz:(deepX odd n).size≤500:=by
  have:=deepW_size n
  cases odd
  ·show ((dpL1++deepW n)++dpL2).size≤_
   rw[bsz,bsz];show 10+_+12≤_;omega
  ·show ((dpR1++deepW n)++dpR2).size≤_
   rw[bsz,bsz];show 15+_+7≤_;omega
 rw[hx,if_neg (by omega)] at this
 exact this
theorem deep_no (odd:Bool) {n:Nat} (h:60≤n) (h2:n≤1000):PureIs Tryd.prog 4 [.agg [.sl [(deepL odd n).enc]]] (.tup [nS ⟨#[]⟩,nI 1]):=by
 have:=Encode_calls (ls:=[deepL odd n]) (fun l hl=>by rw[List.mem_singleton.1 hl];exact deepL_ok odd h2) (deepL_w odd h2)
 rw[List.all_cons,deepL_le,decide_eq_false (by omega)] at this
 exact this
end Go.Proofs.YtjhanogfpkbamaaDoor

namespace Go.Proofs.YtjhanogfpkbamaaDoor
open Go
set_option linter.unusedSimpArgs false
set_option linter.unusedVariables false
variable {L:List Tk} {s w:ByteArray} {i:Nat} {u v:List ByteArray} {T:List Tx} {f:Fa}
def partT:Nat→Tm
 |0=>.mk [] 0 0 []
 |d+1=>.mk [] 1 1 [partT d]
theorem dterm_bad (hf:(f.1==0)=false) {o:Int}:HFn Tryd.prog 35 [.ptr 1 0,nI o] (D2 L s i f) (fun r q=>r=.agg (tmC (partT 0))∧q=D2 L s i f):=
 HFn.prw (vc35_ok ⟨_,dopen_bad hf,fun r q ⟨e1,e2⟩=>⟨_,_,_,_,_,_,_,_,⟨e1,e2⟩,ITE.pos rfl ⟨RepW.agg ⟨repW_nil,RepW.refl _,RepW.refl _,repW_nil,True.intro⟩,rfl⟩⟩⟩)
theorem untilA_fail (h:PE L s) {op:Int} {j p:Nat} {x:Tm} (hf:(f.1==0)=false)
  (hr:HFn Tryd.prog 60 [.ptr 2 0,.ptr 3 0] (D4 L s j noFa op) (fun r q=>r=x.enc∧q=D4 L s p f op)):
  HFn Tryd.prog 59 [.ptr 1 0,nS clW,nB true,.clo 60 [.ptr 2 0,.ptr 3 0]] (D4 L s j noFa op) (fun r q=>r=.sl [x.enc]∧q=D4 L s p f op):=by
 refine vc_untilA_ok ⟨rfl,?_⟩
 refine LoopP.intro (fun b:Bool=>(((),clW,true,((),(),()),(),()),((L.map tkEnc,s,((if b=true then p else j:Nat):Int),()),((),(if b=true then f else noFa).1,(if b=true then f else noFa).2.1,(if b=true then f else noFa).2.2.1,(if b=true then f else noFa).2.2.2,()),((),()),(op,()),(if b=true then[x.enc] else[]),()))) (fun _=>True) (fun b=>if b=true then 0 else 1) false rfl True.intro ?_
 intro b _ again hag
 dsimp only
 cases b
 ·rw[Tm.enc_eq] at hr
  have hend:=hag true True.intro (by decide)
  rw[if_pos rfl,if_pos rfl,if_pos rfl,Tm.enc_eq] at hend
  exact⟨_,dok_calls (f:=noFa),fun r q ⟨e1,e2⟩=>⟨_,_,_,_,_,_,_,_,⟨e1,e2⟩,ITE.pos rfl (ITE.pos rfl ⟨rfl,ITE.pos rfl ⟨_,hr,fun r q ⟨e1,e2⟩=>⟨_,_,_,_,_,_,_,_,_,_,_,_,⟨e1,e2⟩,rfl,appOk_one rfl (by simp) (by decide),rfl,hend⟩⟩⟩)⟩⟩
 ·exact⟨_,dok_calls (f:=f),fun r q ⟨e1,e2⟩=>⟨_,_,_,_,_,_,_,_,⟨e1,e2⟩,ITE.neg hf ⟨rfl,rfl,rfl⟩⟩⟩
theorem fAt_bad {p:Nat}:((fAt L s 2 p).1==0)=false:=rfl
theorem dterm_deep (h:PE L s):∀(d m j:Nat) (T:List Tx),d≤m→d≤60→j≤L.length→At L j (tokTm (m+1) (deepT m)) T→
  HFn Tryd.prog 35 [.ptr 1 0,nI ((60-d:Nat):Int)] (D2 L s j noFa) (fun r q=>r=(partT d).enc∧q=D2 L s (j+2*d) (fAt L s 2 (j+2*d)))∧(pk L s (j+2*d)).2.1=if m=d then c0W else c1W
 |0,m,j,T,hm,_,hj,hat=>by
  refine⟨?_,?_⟩
  ·rw[Tm.enc_eq]
   exact HFn.prw (vc35_ok ⟨_,dopen_full h hj rfl,fun r q ⟨e1,e2⟩=>⟨_,_,_,_,_,_,_,_,⟨e1,e2⟩,ITE.pos rfl ⟨RepW.agg ⟨repW_nil,RepW.refl _,RepW.refl _,repW_nil,True.intro⟩,rfl⟩⟩⟩)
  ·cases m with
   |zero=>rw[tok_deep0] at hat;exact(hat.tok (s:=s)).2
   |succ m=>rw[tok_deep] at hat;rw[if_neg (by omega)];exact(hat.tok (s:=s)).2
 |d+1,m,j,T,hm,hd,hj,hat=>by
  obtain⟨m,rfl⟩:∃k,m=k+1:=⟨m-1,by omega⟩
  rw[tok_deep] at hat
  have h1:=hat.tail
  have h2:At L (j+1+1) (tokTm (m+1) (deepT m)++[clW]) T:=At.tail (w:=opW) h1
  obtain⟨r1,r2⟩:=dterm_deep h d m (j+1+1) _ (by omega) (by omega) (by have:=h1.lt;omega) h2.app
  have ep:j+1+1+2*d=j+2*(d+1):=by omega
  rw[ep] at r1 r2
  refine⟨?_,by rw[r2];by_cases e:m=d<;>simp[e]⟩
  have ew:IntKind.wrap .i64 (((60-(d+1):Nat):Int)+1)=((60-d:Nat):Int):=by rw[wrap_i (by omega) (by omega)];omega
  have hc:HFn Tryd.prog 60 [.ptr 2 0,.ptr 3 0] (D4 L s (j+1+1) noFa ((60-(d+1):Nat):Int)) (fun r q=>r=(partT d).enc∧q=D4 L s (j+2*(d+1)) (fAt L s 2 (j+2*(d+1))) ((60-(d+1):Nat):Int)):=by
   rw[Tm.enc_eq] at r1 ⊢
   refine vc60_ok ?_
   unfold vc60
   rw[ew]
   exact⟨_,r1,fun r q ⟨e1,e2⟩=>⟨_,_,_,_,_,_,_,_,_,_,_,⟨e1,e2⟩,rfl,rfl⟩⟩
  have hu:=untilA_fail h fAt_bad hc
  have ec:c1W=letW 1++numW 1:=by rw[numW1];rfl
  have hhd:HFn Tryd.prog 58 [.ptr 1 0] (D2 L s j noFa) (fun r q=>r=.agg [nI 1,nI 1]∧q=D2 L s (j+1) noFa):=dhead_calls h (k:=1) (n:=1) (by decide) (by decide) (ec▸hat)
  have hno:isT laW (pk L s j)=false:=hat.not (by decide)
  rw[Tm.enc_eq]
  refine HFn.prw ?_
  exact vc35_ok ⟨_,dopen_calls hd,fun r q ⟨e1,e2⟩=>⟨_,_,_,_,_,_,_,_,⟨e1,e2⟩,ITE.neg rfl ⟨_,dis_no h hj hno,fun r q ⟨e1,e2⟩=>⟨_,_,_,_,_,_,_,_,⟨e1,e2⟩,
    ITE.neg rfl ⟨_,hhd,fun r q ⟨e1,e2⟩=>⟨_,_,_,_,_,_,_,_,_,⟨e1,e2⟩,_,dis_yes h h1 (by decide),fun r q ⟨e1,e2⟩=>⟨_,_,_,_,_,_,_,_,⟨e1,e2⟩,ITE.pos rfl ⟨_,hu,fun r q ⟨e1,e2⟩=>⟨_,_,_,_,_,_,_,_,_,⟨e1,e2⟩,RepW.agg ⟨repW_nil,RepW.refl _,RepW.refl _,RepW.refl _,True.intro⟩,rfl⟩⟩⟩⟩⟩⟩⟩⟩⟩
theorem untilM_none (h:PE L s) {j:Nat} (hat:At L j (rbW::u) T):HFn Tryd.prog 32 [.ptr 1 0,nS rbW,nB false,.clo 33 [.ptr 2 0]] (D3 L s j noFa) (fun r q=>r=.sl []∧q=D3 L s (j+1) noFa):=
 untilM_calls (l:=[]) (tok:=tokTy 60) (G:=fun _=>True) (ew:=rbW) (b:=false) h (by decide) (fun e=>by cases e) (by decide) (fun x hx=>by cases hx) (fun x hx=>by cases hx) (fun _=>True.intro) (fun x hx=>by cases hx) (At.app (u:=[rbW]) (v:=u) hat) (by have:=hat.lt;omega)
theorem dlemma_deep (h:PE L s) {odd:Bool} {n:Nat} (hn:60≤n) (hat:At L 0 (deepU odd n) []):∃(p:Nat) (x:Lem),
  HFn Tryd.prog 17 [.ptr 1 0] (D2 L s 0 noFa) (fun r q=>r=x.enc∧q=D2 L s p (fAt L s 2 p))∧(pk L s p).2.1=if n=60 then c0W else c1W:=by
 cases odd
 ·have h1:At L 0 ([lemW,lbW]++(rbW::(tokTm (n+1) (deepT n)++[eqlW,c0W,lcW,rcW,smW]))) []:=hat
  have h2:At L 2 (rbW::(tokTm (n+1) (deepT n)++[eqlW,c0W,lcW,rcW,smW])) []:=by have:=h1.next;rwa [show 0+[lemW,lbW].length=2 from rfl] at this
  have h3:=h2.tail
  have hlt:=h2.lt
  obtain⟨r1,r2⟩:=dterm_deep h 60 n 3 _ hn (Nat.le_refl _) (by omega) h3.app
  rw[Tm.enc_eq] at r1
  have m1:=dmust_calls h (ws:=[lemW,lbW]) (by decide) (by decide) h1 (Nat.zero_le _)
  refine⟨_,⟨partT 60,partT 0,[],[]⟩,?_,r2⟩
  unfold Lem.enc
  exact vc17_ok ⟨_,m1,fun r q ⟨e1,e2⟩=>⟨_,_,_,_,_,_,_,⟨e1,e2⟩,_,untilM_none h h2,fun r q ⟨e1,e2⟩=>⟨_,_,_,_,_,_,_,_,⟨e1,e2⟩,_,r1,fun r q ⟨e1,e2⟩=>⟨_,_,_,_,_,_,_,_,_,_,_,⟨e1,e2⟩,
   _,dmust_bad (ws:=[eqlW]) fAt_bad (by decide),fun r q ⟨e1,e2⟩=>⟨_,_,_,_,_,_,_,⟨e1,e2⟩,_,dterm_bad fAt_bad,fun r q ⟨e1,e2⟩=>⟨_,_,_,_,_,_,_,_,_,_,_,⟨e1,e2⟩,_,dmust_bad (ws:=[lcW]) fAt_bad (by decide),fun r q ⟨e1,e2⟩=>⟨_,_,_,_,_,_,_,⟨e1,e2⟩,_,untilS_bad fAt_bad,fun r q ⟨e1,e2⟩=>⟨_,_,_,_,_,_,_,_,⟨e1,e2⟩,
   _,dmust_bad (ws:=[smW]) fAt_bad (by decide),fun r q ⟨e1,e2⟩=>⟨_,_,_,_,_,_,_,⟨e1,e2⟩,rfl,rfl⟩⟩⟩⟩⟩⟩⟩⟩⟩
 ·have h1:At L 0 ([lemW,lbW]++(rbW::c0W::eqlW::(tokTm (n+1) (deepT n)++[lcW,rcW,smW]))) []:=hat
  have h2:At L 2 (rbW::c0W::eqlW::(tokTm (n+1) (deepT n)++[lcW,rcW,smW])) []:=by have:=h1.next;rwa [show 0+[lemW,lbW].length=2 from rfl] at this
  have h3:=h2.tail
  have h4:=h3.tail
  have h5:=h4.tail
  have hlt:=h4.lt
  obtain⟨r1,r2⟩:=dterm_deep h 60 n (2+1+1+1) _ hn (Nat.le_refl _) (by omega) h5.app
  rw[Tm.enc_eq] at r1
  have m1:=dmust_calls h (ws:=[lemW,lbW]) (by decide) (by decide) h1 (Nat.zero_le _)
  have m2:=dmust_calls h (ws:=[eqlW]) (by decide) (by decide) (show At L (2+1+1) ([eqlW]++_) [] from h4) (by omega)
  have hz:tokTm 60 zT=[c0W]:=tok_deep0 59
  have rl:=dterm0_calls h (t:=zT) (deepT_ok 60 0) (by decide) (j:=2+1) (by omega) (by rw[hz];exact At.app (u:=[c0W]) h3) (by
   rw[List.map_cons]
   exact nxt_cons (by decide))
  rw[hz] at rl
  refine⟨_,⟨zT,partT 60,[],[]⟩,?_,r2⟩
  unfold Lem.enc
  exact vc17_ok ⟨_,m1,fun r q ⟨e1,e2⟩=>⟨_,_,_,_,_,_,_,⟨e1,e2⟩,_,untilM_none h h2,fun r q ⟨e1,e2⟩=>⟨_,_,_,_,_,_,_,_,⟨e1,e2⟩,_,rl,fun r q ⟨e1,e2⟩=>⟨_,_,_,_,_,_,_,_,_,_,_,⟨e1,e2⟩,
   _,m2,fun r q ⟨e1,e2⟩=>⟨_,_,_,_,_,_,_,⟨e1,e2⟩,_,r1,fun r q ⟨e1,e2⟩=>⟨_,_,_,_,_,_,_,_,_,_,_,⟨e1,e2⟩,_,dmust_bad (ws:=[lcW]) fAt_bad (by decide),fun r q ⟨e1,e2⟩=>⟨_,_,_,_,_,_,_,⟨e1,e2⟩,_,untilS_bad fAt_bad,fun r q ⟨e1,e2⟩=>⟨_,_,_,_,_,_,_,_,⟨e1,e2⟩,
   _,dmust_bad (ws:=[smW]) fAt_bad (by decide),fun r q ⟨e1,e2⟩=>⟨_,_,_,_,_,_,_,⟨e1,e2⟩,rfl,rfl⟩⟩⟩⟩⟩⟩⟩⟩⟩
theorem deep_bad {odd:Bool} {n:Nat} (h60:60≤n) (hn:n≤1000):∃a b:Int,PureIs Tryd.prog 5 [nS (deepX odd n)] (.tup [.agg [.sl []],.agg [nI 2,nI a,nI b,nS (if n=60 then c0W else c1W)]]):=by
 have hz:(deepX odd n).size≤20000:=by
  have:=deepW_size n
  cases odd
  ·show ((dpL1++deepW n)++dpL2).size≤_
   rw[bsz,bsz];show 10+_+12≤_;omega
  ·show ((dpR1++deepW n)++dpR2).size≤_
   rw[bsz,bsz];show 15+_+7≤_;omega
 have hu:∀w∈deepU odd n,TkW w:=by
  cases odd
  ·exact toks_app (toks_cons lem_ok (toks_cons lb_ok (toks_cons rb_ok toks_nil))) (toks_app (toks_deep n (n+1) (by omega)) (toks_cons eql_ok (toks_cons c0_ok (toks_cons lc_ok (toks_cons rc_ok (toks_cons sm_ok toks_nil))))))
  ·exact toks_app (toks_cons lem_ok (toks_cons lb_ok (toks_cons rb_ok (toks_cons c0_ok (toks_cons eql_ok toks_nil))))) (toks_app (toks_deep n (n+1) (by omega)) (toks_cons lc_ok (toks_cons rc_ok (toks_cons sm_ok toks_nil))))
 have hw:=(Wr.puts (t:=⟨#[]⟩) wr_nil hu).line
 rw[deepX_eq,List.nil_append] at hw
 obtain⟨L,h1,h2⟩:=hw.split hz
 have hpe:PE L (deepX odd n):=by
  rcases split_pe (s:=deepX odd n) with h|⟨h,_⟩
  ·rw[h1] at h;exact h
  ·omega
 obtain⟨p,x,r1,r2⟩:=dlemma_deep hpe h60 (odd:=odd) (by unfold At;rw[List.drop_zero,h2,List.append_nil])
 have hL:0<L.length:=by
  have:=congrArg List.length h2
  rw[List.length_map,List.length_map] at this
  cases odd<;>(unfold deepU at this;simp at this;omega)
 have hkind:((pk L (deepX odd n) 0).1 != 4)=true:=by rw[pk_lt hL,bne_iff_ne];exact hpe.kind _ (List.getElem_mem hL)
 have hsc:=lexSplit_calls hpe.size
 rw[h1] at hsc
 have hw2:(fAt L (deepX odd n) 2 p).2.2.2=if n=60 then c0W else c1W:=by
  show headW (pk L (deepX odd n) p).2.1=_
  rw[r2]
  split<;>rfl
 refine⟨(fAt L (deepX odd n) 2 p).2.1,(fAt L (deepX odd n) 2 p).2.2.1,?_⟩
 rw[←hw2]
 generalize hf:fAt L (deepX odd n) 2 p=f at r1 ⊢
 have hf1:f.1=2:=by rw[←hf];rfl
 have hfb:(f.1==0)=false:=by rw[hf1];rfl
 unfold Lem.enc at r1
 refine vc5_ok ⟨_,_,_,_,_,hsc,ITE.neg rfl ⟨_,rnew_calls hpe.len,fun r q ⟨e1,e2⟩=>⟨_,_,_,⟨e1,e2⟩,rfl,?_⟩⟩⟩
 refine LoopP.intro (fun b:Bool=>(((),(),(),(),()),(((),()),(0,0,0,⟨#[]⟩,()),(0,0,0,⟨#[]⟩,()),(L.map tkEnc,deepX odd n,((if b=true then p else 0:Nat):Int),()),((),(if b=true then f else noFa).1,(if b=true then f else noFa).2.1,(if b=true then f else noFa).2.2.1,(if b=true then f else noFa).2.2.2,()),((),()),(if b=true then[x.enc] else[]),())))
  (fun _=>True) (fun b=>if b=true then 0 else 1) false rfl True.intro ?_
 intro b _ again hag
 dsimp only
 cases b
 ·have hend:=hag true True.intro (by decide)
  rw[if_pos rfl,if_pos rfl,if_pos rfl] at hend
  unfold Lem.enc at hend
  have key:vc5_L7 (L.map tkEnc) (deepX odd n) ((0:Nat):Int) 0 0 0 ⟨#[]⟩ (List.length ([]:List AV)) [] again 0 0 0 ⟨#[]⟩ 0 0 0 ⟨#[]⟩:=
   ⟨_,r1,fun r q ⟨e1,e2⟩=>⟨_,_,_,_,_,_,_,_,_,_,_,_,_,_,_,_,_,⟨e1,e2⟩,rfl,appOk_one rfl (by simp) (by decide),rfl,hend⟩⟩
  exact⟨_,dok_calls (f:=noFa),fun r q ⟨e1,e2⟩=>⟨_,_,_,_,_,_,_,_,⟨e1,e2⟩,ITE.pos rfl ⟨_,peek_calls hpe (Nat.zero_le _),fun r q ⟨e1,e2⟩=>⟨_,_,_,_,_,_,⟨e1,e2⟩,ITE.pos hkind ⟨key,key⟩⟩⟩⟩⟩
 ·refine⟨_,dok_calls (f:=f),fun r q ⟨e1,e2⟩=>⟨_,_,_,_,_,_,_,_,⟨e1,e2⟩,ITE.neg hfb ⟨_,dok_calls (f:=f),fun r q ⟨e1,e2⟩=>⟨_,_,_,_,_,_,_,_,⟨e1,e2⟩,ITE.pos (by rw[hfb];rfl) ?_⟩⟩⟩⟩
  show AV.tup [.agg [.sl []],.agg [nI f.1,nI f.2.1,nI f.2.2.1,nS f.2.2.2]]=_
  rw[hf1]
end Go.Proofs.YtjhanogfpkbamaaDoor

namespace Go.Proofs.YtjhanogfpkbamaaDoor
open Go
set_option linter.unusedSimpArgs false
set_option linter.unusedVariables false
theorem deepT_shape (n:Nat):(deepT n).enc=.agg [.sl [],nI 1,nI (deepT n).index,.sl ((deepT n).args.map Tm.enc)]:=by
 rw[Tm.enc_eq]
 cases n<;>rfl
theorem deepL_shape (n:Nat):(deepL false n).enc=.agg [.sl [],nI 1,nI (deepT n).index,.sl ((deepT n).args.map Tm.enc),.sl [],nI 1,nI 0,.sl [],.sl [],.sl []]:=by
 cases n<;>rfl
theorem deepR_shape (n:Nat):(deepL true n).enc=.agg [.sl [],nI 1,nI 0,.sl [],.sl [],nI 1,nI (deepT n).index,.sl ((deepT n).args.map Tm.enc),.sl [],.sl []]:=by
 cases n<;>rfl
theorem ProofDeep_calls {a b:Int}:PureIs Tryd.prog 3 [nI a,nI b] (nB true):=by
 obtain⟨N,hN1,hN2,hN⟩:∃N:Nat,55≤N∧N≤64∧IntKind.wrap .i64 (55+(IntKind.wrap .i64 (Int.tmod (IntKind.wrap .u64 a) 10)))=(N:Int):=by
  have h0:0≤IntKind.wrap .u64 a:=by
   show 0≤a % 18446744073709551616
   omega
  have h1:Int.tmod (IntKind.wrap .u64 a) 10=IntKind.wrap .u64 a % 10:=Int.tmod_eq_emod_of_nonneg h0
  rw[h1]
  generalize IntKind.wrap .u64 a=w at h0
  rw[wrap_i (n:=w % 10) (by omega) (by omega),wrap_i (by omega) (by omega)]
  exact⟨(55+w % 10).toNat,by omega,by omega,by omega⟩
 refine vc3_ok ⟨by decide,?_⟩
 rw[hN]
 refine LoopP.intro (fun j:Nat=>(((N:Int),b,(),deepW j,((j+1:Nat):Int),()),(((),1,(deepT j).index,(deepT j).args.map Tm.enc,()),()))) (fun j=>j+1≤N) (fun j=>N-j) 0 rfl (by omega) ?_
 intro j hj again hag
 dsimp only
 have hsz:=deepW_size j
 refine ITE.intro (fun h=>?_) fun h=>?_
 ·have hlt:j+1<N:=by have:=of_decide_eq_true h;omega
  refine⟨by rw[hsz];show 5+_≤_;omega,by rw[bsz,hsz];show 5+_+2≤_;omega,?_⟩
  have:=hag (j+1) (by omega) (by omega)
  rw[wrap_n (by omega)]
  have e1:(deepT (j+1)).args.map Tm.enc=[.agg [.sl [],nI 1,nI (deepT j).index,.sl ((deepT j).args.map Tm.enc)]]:=by
   show [(deepT j).enc]=_
   rw[deepT_shape]
  rw[e1] at this
  exact this
 ·obtain rfl:N=j+1:=by have:=of_decide_eq_false h;omega
  have hdec:∀odd:Bool,∃x y:Int,∃l:List AV,∃c:Int,PureIs Tryd.prog 5 [nS (deepX odd j)] (.tup [.agg [.sl l],.agg [nI c,nI x,nI y,nS (if j<60 then⟨#[]⟩ else if j=60 then c0W else c1W)]])∧c=if j<60 then 0 else 2:=by
   intro odd
   by_cases h60:j<60
   ·rw[if_pos h60,if_pos h60]
    exact⟨0,0,_,0,deep_dec odd h60,rfl⟩
   ·rw[if_neg h60,if_neg h60]
    obtain⟨x,y,h1⟩:=deep_bad (odd:=odd) (n:=j) (by omega) (by omega)
    exact⟨x,y,[],2,h1,rfl⟩
  have henc:∀odd:Bool,PureIs Tryd.prog 4 [.agg [.sl [(deepL odd j).enc]]] (.tup [nS (if j<60 then deepX odd j else⟨#[]⟩),nI (if j<60 then 0 else 1)]):=by
   intro odd
   by_cases h60:j<60
   ·rw[if_pos h60,if_pos h60];exact deep_enc odd h60
   ·rw[if_neg h60,if_neg h60];exact deep_no odd (by omega) (by omega)
  have fin:∀(odd:Bool) (c:Int),c=(if j<60 then 0 else 2)→vc3_R17 (decide (((j+1:Nat):Int)≤60)) (if j<60 then 0 else 1) (if j<60 then deepX odd j else⟨#[]⟩) (deepX odd j) (fun r=>r=nB true) c ((j+1:Nat):Int) (if j<60 then⟨#[]⟩ else if j=60 then c0W else c1W):=by
   intro odd c hc
   by_cases h60:j<60
   ·rw[if_pos h60] at hc
    rw[if_pos h60,if_pos h60,if_pos h60,hc]
    exact ITE.pos (decide_eq_true (by omega)) ⟨_,known26_calls,ITE.pos rfl (ITE.pos rfl (ITE.pos (by rw[strEq_iff];exact decide_eq_true rfl) rfl))⟩
   ·rw[if_neg h60] at hc
    rw[if_neg h60,if_neg h60,if_neg h60,hc]
    refine ITE.neg (decide_eq_false (by omega)) (ITE.intro (fun h=>?_) fun h=>?_)
    ·have h:j=60:=by have:=eq_of_beq h;omega
     rw[if_pos h]
     exact⟨_,known26_calls,ITE.pos rfl (ITE.pos rfl (ITE.pos (by rw[strEq_iff];exact decide_eq_true rfl) (ITE.pos rfl (by rw[strEq_iff];exact congrArg nB (decide_eq_true rfl)))))⟩
    ·have h:¬j=60:=fun e=>by subst e;simp at h
     rw[if_neg h]
     exact⟨_,known26_calls,ITE.pos rfl (ITE.pos rfl (ITE.pos (by rw[strEq_iff];exact decide_eq_true rfl) (ITE.pos rfl (by rw[strEq_iff];exact congrArg nB (decide_eq_true rfl)))))⟩
  refine⟨by rw[hsz];show 10+_≤_;omega,by rw[bsz,hsz];show 10+_+12≤_;omega,by decide,ITE.intro (fun h=>?_) fun h=>?_⟩
  ·obtain⟨x,y,l,c,h1,h2⟩:=hdec true
   have h3:=henc true
   rw[deepR_shape] at h3
   exact⟨by rw[hsz];show 15+_≤_;omega,by rw[bsz,hsz];show 15+_+7≤_;omega,_,_,h3,_,_,_,_,_,h1,fin true c h2⟩
  ·obtain⟨x,y,l,c,h1,h2⟩:=hdec false
   have h3:=henc false
   rw[deepL_shape] at h3
   exact⟨_,_,h3,_,_,_,_,_,h1,fin false c h2⟩
end Go.Proofs.YtjhanogfpkbamaaDoor
