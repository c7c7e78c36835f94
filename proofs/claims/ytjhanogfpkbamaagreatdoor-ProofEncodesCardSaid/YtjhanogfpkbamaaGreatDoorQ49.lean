/- Texts of ours laid together for a claim: P1K P1L P1M P1N P1S P1T P1U P1X. -/
import Derived.KernelRfl
import Derived.Test.YtjhanogfpkbamaaGreatDoorQ48
namespace Go.Proofs.YtjhanogfpkbamaaGreatDoor
open Go
set_option linter.unusedSimpArgs false
set_option linter.unusedVariables false
variable {L:List Tk} {s w:ByteArray} {i:Nat} {u v:List ByteArray} {T:List Tx} {f:Fa}
theorem flat_one {α:Type} (g:α→ByteArray) (l:List α):l.flatMap (fun x=>[g x])=l.map g:=by
 induction l with
 |nil=>rfl
 |cons x l ih=>rw[List.flatMap_cons,ih];rfl
theorem dterm0_calls (h:PE L s) {t:Tm} (hok:okTm 60 t=true) (hz:t.size≤1000000) {j:Nat} (hj:j≤L.length) (hat:At L j (tokTm 60 t) T) (hn:Nxt opW T):
  HFn Tryz.prog 96 [.ptr 1 0,nI 0] (D2 L s j noFa) (fun r q=>r=.agg (tmC t)∧q=D2 L s (j+(tokTm 60 t).length) noFa):=by
 have:=dterm_calls h 60 t (Nat.le_refl _) hok hz j T hj hat hn
 rwa [Tm.enc_eq] at this
theorem dpair_calls (h:PE L s) {p:Int×Tm} (hok:spOk p=true) (hp:SpOk p) {j:Nat} (hj:j≤L.length) (hat:At L j (spTok p) T):
  HFn Tryz.prog 136 [.ptr 2 0] (D3 L s j noFa) (fun r q=>r=spEnc p∧q=D3 L s (j+(spTok p).length) noFa):=by
 rw[spOk,Bool.and_eq_true] at hok
 have h1:=hat.tail
 have h2:At L (j+1+1) (tokTm 60 p.2++[cmW]) T:=At.tail (w:=clnW) h1
 have h3:=h2.next
 have ht:=dterm0_calls h hok.2 hp.size (by have:=h1.lt;omega) h2.app (nxt_cons (by decide))
 have m1:=dmust_calls h (ws:=[clnW]) (by decide) (by decide) (show At L (j+1) ([clnW]++(tokTm 60 p.2++[cmW])) T from h1) (by have:=h1.lt;omega)
 have m2:=dmust_calls h (ws:=[cmW]) (u:=[]) (by decide) (by decide) (by simpa using h3) (by have:=h3.lt;omega)
 have e:j+1+1+(tokTm 60 p.2).length+1=j+(spTok p).length:=by simp[spTok];omega
 refine vc136_ok ⟨_,dnum_calls h hok.1 hat,fun r q ⟨e1,e2⟩=>⟨_,_,_,_,_,_,_,_,⟨e1,e2⟩,_,m1,fun r q ⟨e1,e2⟩=>⟨_,_,_,_,_,_,_,⟨e1,e2⟩,_,ht,fun r q ⟨e1,e2⟩=>⟨_,_,_,_,_,_,_,_,_,_,_,⟨e1,e2⟩,
  _,m2,fun r q ⟨e1,e2⟩=>⟨_,_,_,_,_,_,_,⟨e1,e2⟩,rfl,?_⟩⟩⟩⟩⟩
 rw[←e];rfl
theorem dstep_calls (h:PE L s) {x:Stp} (hok:stOk x=true) (hx:x.Ok) {j:Nat} (hj:j≤L.length) (hat:At L j (stTok x) T):
  HFn Tryz.prog 98 [.ptr 1 0] (D2 L s j noFa) (fun r q=>r=x.enc∧q=D2 L s (j+(stTok x).length) noFa):=by
 have hL:=h.len
 have hle:=At.le hj hat
 rw[stOk,Bool.and_eq_true,Bool.and_eq_true] at hok
 obtain⟨ok1,ok2,ok3⟩:=hok
 have hp:=List.all_eq_true.1 ok2
 have hs:=List.all_eq_true.1 ok3
 have hlen:(stTok x).length=3+(x.path.length+(2+((x.sub.flatMap spTok).length+2))):=by simp[stTok];omega
 rw[hlen] at hle ⊢
 have hsub:x.sub.length≤(x.sub.flatMap spTok).length:=by
  generalize x.sub=l
  induction l with
  |nil=>exact Nat.zero_le _
  |cons p l ih=>rw[List.flatMap_cons,List.length_append,List.length_cons,spTok,List.length_cons];omega
 unfold stTok at hat
 have h1:At L j ((if x.back=true then bkW else onW)::numW x.eq::lbW::(x.path.map numW++([rbW,lcW]++(x.sub.flatMap spTok++[rcW,smW])))) T:=hat
 have h2:=h1.tail
 have h3:=h2.tail
 have h4:=h3.tail
 have h5:At L (j+1+1+1) (x.path.flatMap (fun i=>[numW i])++[rbW]) (([lcW]++(x.sub.flatMap spTok++[rcW,smW])).map txB++T):=by
  rw[flat_one]
  exact At.app (u:=x.path.map numW++[rbW]) (v:=[lcW]++(x.sub.flatMap spTok++[rcW,smW])) (by simpa using h4)
 have h6:At L (j+1+1+1+x.path.length+1) ([lcW]++(x.sub.flatMap spTok++[rcW,smW])) T:=by
  have:=At.next (u:=x.path.map numW++[rbW]) (v:=[lcW]++(x.sub.flatMap spTok++[rcW,smW])) (i:=j+1+1+1) (T:=T) (L:=L) (by simpa using h4)
  rwa [List.length_append,List.length_map,List.length_singleton,show j+1+1+1+(x.path.length+1)=j+1+1+1+x.path.length+1 by omega] at this
 have h7:=At.tail (w:=lcW) h6
 have h7:At L (j+1+1+1+x.path.length+1+1) ((x.sub.flatMap spTok++[rcW])++[smW]) T:=by simpa using h7
 have h8:=h7.next
 rw[List.length_append,List.length_singleton] at h8
 have un:=untilN_calls (l:=x.path) (tok:=fun i=>[numW i]) (G:=fun _=>True) (ew:=rbW) (b:=false) h (by omega) (fun e=>by cases e) (by decide)
  (fun y hy k T' hk hatk _=>dnum_calls h (hp y hy) hatk) (fun _ _ _=>True.intro) (fun _=>True.intro) (fun y hy=>⟨_,_,rfl,word_ne (num_nxt (hp y hy) rfl)⟩) h5 (by have:=h3.lt;omega)
 have up:=untilP_calls (l:=x.sub) (tok:=spTok) (G:=fun _=>True) (ew:=rcW) (b:=false) h (by omega) (fun e=>by cases e) (by decide)
  (fun y hy k T' hk hatk _=>dpair_calls h (hs y hy) (hx.sub y hy) hk hatk) (fun _ _ _=>True.intro) (fun _=>True.intro)
  (fun y hy=>⟨_,_,rfl,word_ne (num_nxt (by have:=hs y hy;rw[spOk,Bool.and_eq_true] at this;exact this.1) rfl)⟩) h7.app (by have:=h6.lt;omega)
 rw[flat_one,List.length_map] at un
 have m3:=dmust_calls h (ws:=[lcW]) (by decide) (by decide) h6 (by have:=h6.lt;omega)
 have m4:=dmust_calls h (ws:=[smW]) (u:=[]) (by decide) (by decide) (show At L _ ([smW]++[]) T from h8) (by have:=h8.lt;omega)
 have m2:=dmust_calls h (ws:=[lbW]) (i:=j+1+1) (by decide) (by decide) (show At L (j+1+1) ([lbW]++_) T from h3) (by have:=h3.lt;omega)
 have e:j+1+1+1+x.path.length+1+1+((x.sub.flatMap spTok).length+1)+1=j+(3+(x.path.length+(2+((x.sub.flatMap spTok).length+2)))):=by omega
 have dn:=dnum_calls h ok1 h2
 unfold Stp.enc
 have fin:vc98_R9 (L.map tkEnc) s ((j+1+1+1+x.path.length+1+1:Nat):Int) 0 0 0 ⟨#[]⟩ (fun r q=>r=.agg [nI x.eq,nB x.back,.sl (encInts x.path),.sl (x.sub.map spEnc)]∧q=D2 L s (j+(3+(x.path.length+(2+((x.sub.flatMap spTok).length+2))))) noFa) x.eq x.back (encInts x.path):=by
  rw[←e]
  exact⟨_,up,fun r q ⟨e1,e2⟩=>⟨_,_,_,_,_,_,_,_,⟨e1,e2⟩,_,m4,fun r q ⟨e1,e2⟩=>⟨_,_,_,_,_,_,_,⟨e1,e2⟩,rfl,rfl⟩⟩⟩
 cases hb:x.back
 ·rw[hb] at h1 fin
  have m1:=dmust_calls h (ws:=[onW]) (by decide) (by decide) (show At L j ([onW]++_) T from h1) hj
  refine vc98_ok ⟨_,dis_no h hj (h1.not (by decide)),fun r q ⟨e1,e2⟩=>⟨_,_,_,_,_,_,_,_,⟨e1,e2⟩,ITE.pos rfl ⟨_,m1,fun r q ⟨e1,e2⟩=>⟨_,_,_,_,_,_,_,⟨e1,e2⟩,_,dn,fun r q ⟨e1,e2⟩=>⟨_,_,_,_,_,_,_,_,⟨e1,e2⟩,
   _,m2,fun r q ⟨e1,e2⟩=>⟨_,_,_,_,_,_,_,⟨e1,e2⟩,_,un,fun r q ⟨e1,e2⟩=>⟨_,_,_,_,_,_,_,_,⟨e1,e2⟩,_,m3,fun r q ⟨e1,e2⟩=>⟨_,_,_,_,_,_,_,⟨e1,e2⟩,fin⟩⟩⟩⟩⟩⟩⟩⟩
 ·rw[hb] at h1 fin
  refine vc98_ok ⟨_,dis_yes h h1 (by decide),fun r q ⟨e1,e2⟩=>⟨_,_,_,_,_,_,_,_,⟨e1,e2⟩,ITE.neg rfl ⟨_,dn,fun r q ⟨e1,e2⟩=>⟨_,_,_,_,_,_,_,_,⟨e1,e2⟩,
   _,m2,fun r q ⟨e1,e2⟩=>⟨_,_,_,_,_,_,_,⟨e1,e2⟩,_,un,fun r q ⟨e1,e2⟩=>⟨_,_,_,_,_,_,_,_,⟨e1,e2⟩,_,m3,fun r q ⟨e1,e2⟩=>⟨_,_,_,_,_,_,_,⟨e1,e2⟩,fin⟩⟩⟩⟩⟩⟩⟩
end Go.Proofs.YtjhanogfpkbamaaGreatDoor

namespace Go.Proofs.YtjhanogfpkbamaaGreatDoor
open Go
set_option linter.unusedSimpArgs false
set_option linter.unusedVariables false
variable {L:List Tk} {s w:ByteArray} {i:Nat} {u v:List ByteArray} {T:List Tx} {f:Fa}
theorem len_flat {α:Type} {g:α→List ByteArray} (hg:∀x,1≤(g x).length):∀{l:List α},l.length≤(l.flatMap g).length
 | []=>Nat.zero_le _
 |x::l=>by have:=hg x;have:=len_flat (g:=g) hg (l:=l);rw[List.flatMap_cons,List.length_append,List.length_cons];omega
theorem len_flatM {α:Type} {g:α→List ByteArray}:∀{l:List α},(∀x∈l,1≤(g x).length)→l.length≤(l.flatMap g).length
 | [],_=>Nat.zero_le _
 |x::l,h=>by
  have h1:=h x List.mem_cons_self
  have h2:=len_flatM (g:=g) (l:=l) fun y hy=>h y (List.mem_cons_of_mem _ hy)
  rw[List.flatMap_cons,List.length_append,List.length_cons];omega
theorem stTok_first (x:Stp):∃w u,stTok x=w::u∧w≠rcW:=by
 refine⟨_,_,rfl,?_⟩
 split<;>decide
theorem dlemma_calls (h:PE L s) {x:Lem} (hok:leOk x=true) (hx:x.Ok) {j:Nat} (hj:j≤L.length) (hat:At L j (leTok x) T):
  HFn Tryz.prog 51 [.ptr 1 0] (D2 L s j noFa) (fun r q=>r=x.enc∧q=D2 L s (j+(leTok x).length) noFa):=by
 have hL:=h.len
 have hle:=At.le hj hat
 rw[leOk,Bool.and_eq_true,Bool.and_eq_true,Bool.and_eq_true] at hok
 obtain⟨ok1,ok2,ok3,ok4⟩:=hok
 have hm:=List.all_eq_true.1 ok1
 have hs:=List.all_eq_true.1 ok4
 have hlen:(leTok x).length=2+((x.metas.flatMap (tokTy 60)).length+(1+((tokTm 60 x.left).length+(1+((tokTm 60 x.right).length+(1+((x.steps.flatMap stTok).length+2))))))):=by
  unfold leTok
  simp only[List.length_append,List.length_cons,List.length_nil]
 rw[hlen] at hle ⊢
 have hml:x.metas.length≤(x.metas.flatMap (tokTy 60)).length:=len_flatM fun t ht=>by
  obtain⟨n,u,e,_⟩:=tokTy_cons (hm t ht)
  rw[e];simp
 have hsl:x.steps.length≤(x.steps.flatMap stTok).length:=len_flatM fun t ht=>by
  obtain⟨w,u,e,_⟩:=stTok_first t
  rw[e];simp
 unfold leTok at hat
 have h1:At L j ([lemW,lbW]++(x.metas.flatMap (tokTy 60)++([rbW]++(tokTm 60 x.left++([eqlW]++(tokTm 60 x.right++([lcW]++(x.steps.flatMap stTok++[rcW,smW])))))))) T:=hat
 have h2:=h1.next
 have h3:At L (j+2) (x.metas.flatMap (tokTy 60)++[rbW]) ((tokTm 60 x.left++([eqlW]++(tokTm 60 x.right++([lcW]++(x.steps.flatMap stTok++[rcW,smW]))))).map txB++T):=
  At.app (u:=x.metas.flatMap (tokTy 60)++[rbW]) (by rw[List.append_assoc];exact h2)
 have h4:At L (j+2+(x.metas.flatMap (tokTy 60)).length+1) (tokTm 60 x.left++([eqlW]++(tokTm 60 x.right++([lcW]++(x.steps.flatMap stTok++[rcW,smW]))))) T:=by
  have:=At.next (u:=x.metas.flatMap (tokTy 60)++[rbW]) (v:=tokTm 60 x.left++([eqlW]++(tokTm 60 x.right++([lcW]++(x.steps.flatMap stTok++[rcW,smW]))))) (i:=j+2) (T:=T) (L:=L) (by rw[List.append_assoc];exact h2)
  rwa [List.length_append,List.length_singleton,←Nat.add_assoc] at this
 have h5:=h4.next
 have h6:=At.next (u:=[eqlW]) h5
 rw[List.length_singleton] at h6
 have h7:=h6.next
 have h8:=At.next (u:=[lcW]) h7
 rw[List.length_singleton] at h8
 generalize hA:j+2+(x.metas.flatMap (tokTy 60)).length+1=A at h4 h5 h6 h7 h8
 generalize hB:A+(tokTm 60 x.left).length=B at h5 h6 h7 h8
 generalize hC:B+1+(tokTm 60 x.right).length=C at h7 h8
 have h9:At L (C+1) (x.steps.flatMap stTok++[rcW]) ([smW].map txB++T):=At.app (u:=x.steps.flatMap stTok++[rcW]) (by rw[List.append_assoc];exact h8)
 have h10:At L (C+1+(x.steps.flatMap stTok).length+1) ([smW]++[]) T:=by
  have:=At.next (u:=x.steps.flatMap stTok++[rcW]) (v:=[smW]) (i:=C+1) (T:=T) (L:=L) (by rw[List.append_assoc];exact h8)
  rwa [List.length_append,List.length_singleton,←Nat.add_assoc] at this
 have um:=untilM_calls (l:=x.metas) (tok:=tokTy 60) (G:=Nxt lbW) (ew:=rbW) (b:=false) h (by omega) (fun e=>by cases e) (by decide)
  (fun t ht k T' hk hatk hG=>by
   have hr:=dtyp_calls h 60 t (Nat.le_refl _) (hm t ht) (hx.metas t ht).2 k T' hk hatk hG
   rw[Ty.enc_eq] at hr ⊢
   exact vc94_ok ⟨_,hr,fun r q ⟨e1,e2⟩=>⟨_,_,_,_,_,_,_,_,_,⟨e1,e2⟩,rfl,rfl⟩⟩)
  (fun t ht T'=>ty_nxt (hm t ht) rfl) (fun T'=>nxt_cons (by decide)) (fun t ht=>ty_ne (hm t ht) rfl) h3 (by omega)
 rw[hA] at um
 have us:=untilS_calls (l:=x.steps) (tok:=stTok) (G:=fun _=>True) (ew:=rcW) (b:=false) h (by omega) (fun e=>by cases e) (by decide)
  (fun y hy k T' hk hatk _=>dstep_calls h (hs y hy) (hx.steps y hy) hk hatk) (fun _ _ _=>True.intro) (fun _=>True.intro) (fun y hy=>stTok_first y) h9 (by omega)
 have dl:=dterm0_calls h ok2 hx.lsize (by omega) h4.app (nxt_cons (by decide))
 rw[hB] at dl
 have dr:=dterm0_calls h ok3 hx.rsize (by omega) h6.app (nxt_cons (by decide))
 rw[hC] at dr
 have m1:=dmust_calls h (ws:=[lemW,lbW]) (by decide) (by decide) h1 hj
 have m2:=dmust_calls h (ws:=[eqlW]) (by decide) (by decide) h5 (by omega)
 have m3:=dmust_calls h (ws:=[lcW]) (by decide) (by decide) h7 (by omega)
 have m4:=dmust_calls h (ws:=[smW]) (by decide) (by decide) h10 (by omega)
 have e:C+1+(x.steps.flatMap stTok).length+1+[smW].length=j+(2+((x.metas.flatMap (tokTy 60)).length+(1+((tokTm 60 x.left).length+(1+((tokTm 60 x.right).length+(1+((x.steps.flatMap stTok).length+2))))))) ):=by
  rw[List.length_singleton];omega
 unfold Lem.enc
 refine vc51_ok ⟨_,m1,fun r q ⟨e1,e2⟩=>⟨_,_,_,_,_,_,_,⟨e1,e2⟩,_,um,fun r q ⟨e1,e2⟩=>⟨_,_,_,_,_,_,_,_,⟨e1,e2⟩,_,dl,fun r q ⟨e1,e2⟩=>⟨_,_,_,_,_,_,_,_,_,_,_,⟨e1,e2⟩,
  _,m2,fun r q ⟨e1,e2⟩=>⟨_,_,_,_,_,_,_,⟨e1,e2⟩,_,dr,fun r q ⟨e1,e2⟩=>⟨_,_,_,_,_,_,_,_,_,_,_,⟨e1,e2⟩,_,m3,fun r q ⟨e1,e2⟩=>⟨_,_,_,_,_,_,_,⟨e1,e2⟩,_,us,fun r q ⟨e1,e2⟩=>⟨_,_,_,_,_,_,_,_,⟨e1,e2⟩,
  _,m4,fun r q ⟨e1,e2⟩=>⟨_,_,_,_,_,_,_,⟨e1,e2⟩,rfl,?_⟩⟩⟩⟩⟩⟩⟩⟩⟩
 rw[e]
theorem Decode_calls {ls:List Lem} (hsp:splitP s=(L,noFa)) (h:PE L s) (hok:ls.all leOk=true) (hls:∀l∈ls,l.Ok) (hat:At L 0 (ls.flatMap leTok) []):
  PureIs Tryz.prog 12 [nS s] (.tup [.agg [.sl (ls.map Lem.enc)],.agg (faC noFa)]):=by
 have hL:=h.len
 have hle:=At.le (Nat.zero_le _) hat
 have hall:=List.all_eq_true.1 hok
 have hlen:ls.length≤(ls.flatMap leTok).length:=len_flatM fun t ht=>by unfold leTok;simp
 have hsc:=lexSplit_calls h.size
 rw[hsp] at hsc
 have hend:L.length=(ls.flatMap leTok).length:=by
  have:=congrArg List.length hat
  simpa using this
 refine vc12_ok ⟨_,_,_,_,_,hsc,ITE.neg rfl ⟨_,rnew_calls hL,fun r q ⟨e1,e2⟩=>⟨_,_,_,⟨e1,e2⟩,rfl,?_⟩⟩⟩
 refine LoopP.intro (fun k:Nat=>(((),(),(),(),()),(((),()),(0,0,0,⟨#[]⟩,()),(0,0,0,⟨#[]⟩,()),(L.map tkEnc,s,((((ls.take k).flatMap leTok).length:Nat):Int),()),((),0,0,0,⟨#[]⟩,()),((),()),(ls.take k).map Lem.enc,())))
  (fun k=>k≤ls.length) (fun k=>ls.length-k) 0 rfl (Nat.zero_le _) ?_
 intro k hk again hag
 dsimp only
 have hat0:At L 0 ((ls.take k).flatMap leTok++(ls.drop k).flatMap leTok) []:=by
  rw[←List.flatMap_append,List.take_append_drop];exact hat
 have hatk:=hat0.next
 rw[Nat.zero_add] at hatk
 have hPl:((ls.take k).flatMap leTok).length≤L.length:=by have:=At.le (Nat.zero_le _) hat0.app;omega
 generalize hP:((ls.take k).flatMap leTok).length=P at hatk hPl ⊢
 refine⟨_,dok_calls (f:=noFa),fun r q ⟨e1,e2⟩=>⟨_,_,_,_,_,_,_,_,⟨e1,e2⟩,ITE.pos rfl ⟨_,peek_calls h hPl,fun r q ⟨e1,e2⟩=>⟨_,_,_,_,_,_,⟨e1,e2⟩,?_⟩⟩⟩⟩
 by_cases hlt:k<ls.length
 ·have hmem:=List.getElem_mem hlt
  rw[List.drop_eq_getElem_cons hlt,List.flatMap_cons] at hatk
  have hPlt:P<L.length:=by
   have:=At.le hPl hatk.app
   have:1≤(leTok ls[k]).length:=by unfold leTok;simp
   omega
  have hkind:((pk L s P).1 != 4)=true:=by rw[pk_lt hPlt,bne_iff_ne];exact h.kind _ (List.getElem_mem hPlt)
  have hr:=dlemma_calls h (hall _ hmem) (hls _ hmem) hPl hatk.app
  unfold Lem.enc at hr
  have hag2:=hag (k+1) hlt (by omega)
  have e1:(ls.take k).map Lem.enc++[.agg [.sl (ls[k].left.binds.map Ty.enc),nI ls[k].left.kind,nI ls[k].left.index,.sl (ls[k].left.args.map Tm.enc),.sl (ls[k].right.binds.map Ty.enc),nI ls[k].right.kind,nI ls[k].right.index,.sl (ls[k].right.args.map Tm.enc),.sl (ls[k].metas.map Ty.enc),.sl (ls[k].steps.map Stp.enc)]]=(ls.take (k+1)).map Lem.enc:=by
   rw[←take_snoc' hlt,List.map_append];rfl
  have e2:P+(leTok ls[k]).length=((ls.take (k+1)).flatMap leTok).length:=by rw[flatM_take _ hlt,List.length_append,←hP]
  rw[←e1,←e2] at hag2
  have key:vc12_L7 (L.map tkEnc) s (P:Int) 0 0 0 ⟨#[]⟩ (List.length ((ls.take k).map Lem.enc)) ((ls.take k).map Lem.enc) again 0 0 0 ⟨#[]⟩ 0 0 0 ⟨#[]⟩:=
   ⟨_,hr,fun r q ⟨e1,e2⟩=>⟨_,_,_,_,_,_,_,_,_,_,_,_,_,_,_,_,_,⟨e1,e2⟩,rfl,appOk_one rfl (by rw[List.length_append,List.length_map,List.length_take];simp;omega) (by decide),rfl,hag2⟩⟩
  exact ITE.pos hkind ⟨key,key⟩
 ·obtain rfl:k=ls.length:=by omega
  rw[List.take_length] at hP ⊢
  have hPe:P=L.length:=by omega
  have hkind:((pk L s P).1 != 4)=false:=by rw[pk_ge (by omega)];rfl
  exact ITE.neg hkind ⟨_,dok_calls (f:=noFa),fun r q ⟨e1,e2⟩=>⟨_,_,_,_,_,_,_,_,⟨e1,e2⟩,ITE.neg rfl ⟨rfl,rfl⟩⟩⟩
end Go.Proofs.YtjhanogfpkbamaaGreatDoor

namespace Go.Proofs.YtjhanogfpkbamaaGreatDoor
open Go
set_option linter.unusedSimpArgs false
set_option linter.unusedVariables false
theorem endsNL_iff {t:ByteArray}:endsNL t=true↔(bytesI t).getLast?=some 10:=by
 have hl:=bytesI_len t
 have e10:bytesI (⟨#[10]⟩:ByteArray)=[10]:=rfl
 unfold endsNL
 rw[decide_eq_true_iff]
 have key:(t.extract (t.size-1) t.size=(⟨#[10]⟩:ByteArray))↔((bytesI t).drop (t.size-1)).take (t.size-(t.size-1))=[10]:=by
  rw[←bytesI_extract,←e10]
  exact⟨fun h=>by rw[h],bytesI_inj⟩
 rw[key,←hl]
 rcases List.eq_nil_or_concat (bytesI t) with hb|⟨l,c,hb⟩
 ·rw[hb];simp
 ·rw[hb,List.concat_eq_append,List.length_append,List.length_singleton,Nat.add_sub_cancel,List.drop_left,List.getLast?_append]
  have:l.length+1-l.length=1:=by omega
  rw[this]
  simp
theorem last_app {a b:ByteArray} (h:bytesI b≠[]):(bytesI (a++b)).getLast?=(bytesI b).getLast?:=by
 rw[bytesI_app,List.getLast?_append]
 cases hb:(bytesI b).getLast? with
 |none=>rw[List.getLast?_eq_none_iff] at hb;exact(h hb).elim
 |some c=>rfl
structure TkW (w:ByteArray):Prop where
 lex:Lex w [txB w]
 ne:bytesI w≠[]
 last:(bytesI w).getLast?≠some 10
structure Wr (t:ByteArray) (U:List Tx):Prop where
 lex:Lex t U
 fresh:(!decide (t=(⟨#[]⟩:ByteArray))&&!endsNL t)=false→LexB t U
theorem Wr.put {t w:ByteArray} {U:List Tx} (h:Wr t U) (hw:TkW w):Wr (put1 t w) (U++[txB w]):=by
 have hne:put1 t w≠(⟨#[]⟩:ByteArray):=fun e=>by
  have:=congrArg bytesI e
  unfold put1 at this
  rw[bytesI_app] at this
  exact hw.ne (List.append_eq_nil_iff.1 this).2
 have hnl:endsNL (put1 t w)=false:=by
  rw[Bool.eq_false_iff]
  intro e
  rw[endsNL_iff] at e
  unfold put1 at e
  rw[last_app hw.ne] at e
  exact hw.last e
 refine⟨?_,fun e=>by rw[hnl,decide_eq_false hne] at e;cases e⟩
 unfold put1
 cases hf:(!decide (t=(⟨#[]⟩:ByteArray))&&!endsNL t) with
 |true=>
  rw[if_pos rfl]
  intro r T hr hx
  rw[bytesI_app,bytesI_app,List.append_assoc,List.append_assoc,List.append_assoc]
  exact h.lex _ _ (ni_cons (by decide)) (Lx.blank (.inl rfl) (hw.lex r T hr hx))
 |false=>
  rw[if_neg (by decide)]
  exact(h.fresh hf).app hw.lex
theorem Wr.puts {t:ByteArray}:∀{ws:List ByteArray} {t:ByteArray} {U:List Tx},Wr t U→(∀w∈ws,TkW w)→Wr (puts t ws) (U++ws.map txB)
 | [],t,U,h,_=>by rw[List.map_nil,List.append_nil];exact h
 |w::ws,t,U,h,hw=>by
  have:=Wr.puts (t:=t) (ws:=ws) (h.put (hw w List.mem_cons_self)) fun x hx=>hw x (List.mem_cons_of_mem _ hx)
  rw[List.append_assoc] at this
  exact this
theorem Wr.line {t:ByteArray} {U:List Tx} (h:Wr t U):Wr (t++nlW) U:=by
 have hb:LexB (t++nlW) U:=fun r T hx=>by
  rw[bytesI_app,List.append_assoc]
  exact h.lex _ _ (ni_cons (by decide)) (Lx.blank (.inr rfl) hx)
 exact⟨hb.lex,fun _=>hb⟩
theorem wr_nil:Wr (⟨#[]⟩:ByteArray) []:=⟨lexB_nil.lex,fun _=>lexB_nil⟩
theorem Wr.split {t:ByteArray} {U:List Tx} (h:Wr t U) (hz:t.size≤20000):∃L:List Tk,splitP t=(L,noFa)∧L.map txOf=U:=by
 refine splitP_lx ?_ hz
 have:=h.lex [] [] ni_nil (Lx.nil rfl)
 rwa [List.append_nil,List.append_nil] at this
theorem sgn_ok {w:ByteArray} {c:Int} (hb:bytesI w=[c]) (hc:c∈[40,41,92,46,59,58,61,62,44,91,93,123,125]):TkW w:=by
 have hk:kindB w=3:=by
  unfold kindB
  rw[hb]
  simp only[List.mem_cons,List.not_mem_nil,or_false] at hc
  rcases hc with rfl|rfl|rfl|rfl|rfl|rfl|rfl|rfl|rfl|rfl|rfl|rfl|rfl<;>rfl
 refine⟨fun r T _ hx=>?_,by rw[hb];simp,by rw[hb];intro e;simp at e;subst e;simp at hc⟩
 rw[txB,hk,hb]
 exact Lx.sign hc hx
theorem wd_ok {w:ByteArray} (h:isWord w=true) (hk:kindB w=1) (hl:(bytesI w).getLast?≠some 10):TkW w:=by
 refine⟨fun r T hr hx=>?_,fun e=>by simp[isWord,e] at h,hl⟩
 rw[txB,hk]
 exact Lx.word h hr hx
theorem last_digit {l:List Int} (h:l.all isDigit=true):l.getLast?≠some 10:=fun e=>by
 have:=(List.all_eq_true.1 h) 10 (List.mem_of_getLast? e)
 exact absurd this (by decide)
theorem nm_ok {n:Int} (h:numOk n=true):TkW (numW n):=by
 obtain⟨h1,h2,_⟩:=numW_digits h
 refine⟨fun r T hr hx=>?_,h2,last_digit h1⟩
 rw[txB,numW_kind h]
 exact Lx.num h1 h2 (by rw[bytesI_len];exact numW_len h) hr hx
theorem hd_ok {k n:Int} (hk:kOk k=true) (h:numOk n=true):TkW (letW k++numW n):=by
 obtain⟨h1,h2,_⟩:=numW_digits h
 obtain⟨c,c1,c2,c3,c4,c5⟩:=letW_bytes hk
 have h9:=numW_len h
 rw[←bytesI_len] at h9
 have hb:bytesI (letW k++numW n)=c::bytesI (numW n):=by rw[bytesI_app,c1];rfl
 refine wd_ok ((isWord_cons hb).2 ⟨by omega,c2,?_⟩) (headW_kind hk) ?_
 ·rw[List.all_eq_true] at h1 ⊢
  intro d hd
  have:=h1 d hd
  simp[isInner,this]
 ·rw[last_app h2];exact last_digit h1
theorem toks_in {α:Type} {a b:ByteArray} {l:List α} {f:List ByteArray} (ha:TkW a) (hb:TkW b) (hf:∀w∈f,TkW w):∀w∈pinW a b l f,TkW w:=fun w hw=>by
 unfold pinW at hw
 split at hw
 ·cases hw
 ·rcases List.mem_cons.1 hw with rfl|hw
  ·exact ha
  ·rcases List.mem_append.1 hw with hw|hw
   ·exact hf w hw
   ·rw[List.mem_singleton.1 hw];exact hb
theorem lb_ok:TkW lbW:=sgn_ok (c:=91) rfl (by decide)
theorem rb_ok:TkW rbW:=sgn_ok (c:=93) rfl (by decide)
theorem op_ok:TkW opW:=sgn_ok (c:=40) rfl (by decide)
theorem cl_ok:TkW clW:=sgn_ok (c:=41) rfl (by decide)
theorem la_ok:TkW laW:=sgn_ok (c:=92) rfl (by decide)
theorem dt_ok:TkW dtW:=sgn_ok (c:=46) rfl (by decide)
theorem cln_ok:TkW clnW:=sgn_ok (c:=58) rfl (by decide)
theorem cm_ok:TkW cmW:=sgn_ok (c:=44) rfl (by decide)
theorem lc_ok:TkW lcW:=sgn_ok (c:=123) rfl (by decide)
theorem rc_ok:TkW rcW:=sgn_ok (c:=125) rfl (by decide)
theorem sm_ok:TkW smW:=sgn_ok (c:=59) rfl (by decide)
theorem eql_ok:TkW eqlW:=sgn_ok (c:=61) rfl (by decide)
theorem on_ok:TkW onW:=wd_ok (by decide) (by decide) (by decide)
theorem bk_ok:TkW bkW:=wd_ok (by decide) (by decide) (by decide)
theorem lem_ok:TkW lemW:=wd_ok (by decide) (by decide) (by decide)
theorem toksTy_ok:∀(d:Nat) (t:Ty),okTy d t=true→∀w∈tokTy d t,TkW w
 |0,t,h,_,_=>by cases h
 |d+1,t,h,w,hw=>by
  rw[okTy,Bool.and_eq_true] at h
  have hall:=List.all_eq_true.1 h.2
  rcases List.mem_cons.1 hw with rfl|hw
  ·exact nm_ok h.1
  ·exact toks_in lb_ok rb_ok (fun x hx=>by
    obtain⟨u,hu,hx⟩:=List.mem_flatMap.1 hx
    exact toksTy_ok d u (hall u hu) x hx) w hw
theorem toksTm_ok:∀(d:Nat) (t:Tm),okTm d t=true→∀w∈tokTm d t,TkW w
 |0,t,h,_,_=>by cases h
 |d+1,t,h,w,hw=>by
  rw[okTm,Bool.and_eq_true,Bool.and_eq_true,Bool.and_eq_true] at h
  obtain⟨hk,hb,hn,ha⟩:=h
  rw[tokTm,if_pos hk] at hw
  have hall:=List.all_eq_true.1 ha
  have hbl:=List.all_eq_true.1 hb
  rcases List.mem_append.1 hw with hw|hw
  ·exact toks_in la_ok dt_ok (fun x hx=>by
    obtain⟨u,hu,hx⟩:=List.mem_flatMap.1 hx
    exact toksTy_ok d u (hbl u hu) x hx) w hw
  ·rcases List.mem_cons.1 hw with rfl|hw
   ·exact hd_ok hk hn
   ·exact toks_in op_ok cl_ok (fun x hx=>by
     obtain⟨u,hu,hx⟩:=List.mem_flatMap.1 hx
     exact toksTm_ok d u (hall u hu) x hx) w hw
theorem toks_app {a b:List ByteArray} (ha:∀w∈a,TkW w) (hb:∀w∈b,TkW w):∀w∈a++b,TkW w:=fun w hw=>(List.mem_append.1 hw).elim (ha w) (hb w)
theorem toks_cons {a:ByteArray} {b:List ByteArray} (ha:TkW a) (hb:∀w∈b,TkW w):∀w∈a::b,TkW w:=fun w hw=>(List.mem_cons.1 hw).elim (fun e=>e▸ha) (hb w)
theorem toks_nil:∀w∈([]:List ByteArray),TkW w:=fun w hw=>by cases hw
theorem toks_flat {α:Type} {l:List α} {g:α→List ByteArray} (h:∀x∈l,∀w∈g x,TkW w):∀w∈l.flatMap g,TkW w:=fun w hw=>by
 obtain⟨u,hu,hx⟩:=List.mem_flatMap.1 hw
 exact h u hu w hx
theorem toksSt_ok {s:Stp} (h:stOk s=true):∀w∈stTok s,TkW w:=by
 rw[stOk,Bool.and_eq_true,Bool.and_eq_true] at h
 obtain⟨h1,h2,h3⟩:=h
 have hp:=List.all_eq_true.1 h2
 have hs:=List.all_eq_true.1 h3
 refine toks_app (toks_cons (by split;exact bk_ok;exact on_ok) (toks_cons (nm_ok h1) (toks_cons lb_ok toks_nil))) (toks_app (fun w hw=>?_) (toks_app (toks_cons rb_ok (toks_cons lc_ok toks_nil)) (toks_app (toks_flat fun p hp=>?_) (toks_cons rc_ok (toks_cons sm_ok toks_nil)))))
 ·obtain⟨n,hn,rfl⟩:=List.mem_map.1 hw
  exact nm_ok (hp n hn)
 ·have:=hs p hp
  rw[spOk,Bool.and_eq_true] at this
  exact toks_cons (nm_ok this.1) (toks_cons cln_ok (toks_app (toksTm_ok 60 p.2 this.2) (toks_cons cm_ok toks_nil)))
theorem toksLe_ok {l:Lem} (h:leOk l=true):∀w∈leTok l,TkW w:=by
 rw[leOk,Bool.and_eq_true,Bool.and_eq_true,Bool.and_eq_true] at h
 obtain⟨h1,h2,h3,h4⟩:=h
 have hm:=List.all_eq_true.1 h1
 have hs:=List.all_eq_true.1 h4
 exact toks_app (toks_cons lem_ok (toks_cons lb_ok toks_nil)) (toks_app (toks_flat fun t ht=>toksTy_ok 60 t (hm t ht)) (toks_app (toks_cons rb_ok toks_nil) (toks_app (toksTm_ok 60 l.left h2) (toks_app (toks_cons eql_ok toks_nil)
  (toks_app (toksTm_ok 60 l.right h3) (toks_app (toks_cons lc_ok toks_nil) (toks_app (toks_flat fun s hs'=>toksSt_ok (hs s hs')) (toks_cons rc_ok (toks_cons sm_ok toks_nil)))))))))
theorem encTs_wr:∀{ls:List Lem} {t:ByteArray} {U:List Tx},Wr t U→ls.all leOk=true→Wr (encTs t ls) (U++(ls.flatMap leTok).map txB)
 | [],t,U,h,_=>by rw[List.flatMap_nil,List.map_nil,List.append_nil];exact h
 |l::ls,t,U,h,hok=>by
  rw[List.all_cons,Bool.and_eq_true] at hok
  have h1:=(Wr.puts (t:=t) h (toksLe_ok hok.1)).line
  have h2:=encTs_wr (ls:=ls) h1 hok.2
  rw[List.append_assoc,←List.map_append,←List.flatMap_cons] at h2
  exact h2
theorem Decode_back {ls:List Lem} (hok:ls.all leOk=true) (hls:∀l∈ls,l.Ok) (hb:sumB leW ls≤100000000):PureIs Tryz.prog 12 [nS (encTs ⟨#[]⟩ ls)]
  (if(encTs ⟨#[]⟩ ls).size>20000 then .tup [.agg [.sl []],.agg (faC (2,1,1,⟨#[]⟩))] else .tup [.agg [.sl (ls.map Lem.enc)],.agg (faC noFa)]):=by
 by_cases hz:(encTs ⟨#[]⟩ ls).size>20000
 ·rw[if_pos hz]
  have hz2:=encTs_size (t:=⟨#[]⟩) hls
  rw[show (⟨#[]⟩:ByteArray).size=0 from rfl] at hz2
  have hsc:=lexSplit_calls (s:=encTs ⟨#[]⟩ ls) (by omega)
  rw[splitP,if_pos hz] at hsc
  exact vc12_ok ⟨_,_,_,_,_,hsc,ITE.pos rfl rfl⟩
 ·rw[if_neg hz]
  obtain⟨L,h1,h2⟩:=(encTs_wr wr_nil hok).split (by omega)
  rw[List.nil_append] at h2
  have hpe:PE L (encTs ⟨#[]⟩ ls):=by
   rcases split_pe (s:=encTs ⟨#[]⟩ ls) with h|⟨h,_⟩
   ·rw[h1] at h;exact h
   ·exact(hz h).elim
  exact Decode_calls h1 hpe hok hls (by unfold At;rw[List.drop_zero,h2,List.append_nil])
end Go.Proofs.YtjhanogfpkbamaaGreatDoor

namespace Go.Proofs.YtjhanogfpkbamaaGreatDoor
open Go
set_option linter.unusedSimpArgs false
set_option linter.unusedVariables false
def zT:Tm:=.mk [] 1 0 []
def sT:Tm:=.mk [] 1 1 [zT]
def leK:Lem:=⟨sT,sT,[],[]⟩
theorem numW0:numW 0=(⟨#[48]⟩:ByteArray):=by
 have h:Lib.itoa ((0:Nat):Int)=Lib.decDigits 0:=Lib.itoa_nonneg 0
 have:numW 0=⟨(Lib.itoa ((0:Nat):Int)).toArray⟩:=rfl
 rw[this,h,dec_small (by decide)]
 rfl
theorem numW1:numW 1=(⟨#[49]⟩:ByteArray):=by
 have h:Lib.itoa ((1:Nat):Int)=Lib.decDigits 1:=Lib.itoa_nonneg 1
 have:numW 1=⟨(Lib.itoa ((1:Nat):Int)).toArray⟩:=rfl
 rw[this,h,dec_small (by decide)]
 rfl
theorem tokK:tokTm 60 sT=[(⟨#[99,49]⟩:ByteArray),opW,(⟨#[99,48]⟩:ByteArray),clW]:=by
 have:tokTm 60 sT=[letW 1++numW 1,opW,letW 1++numW 0,clW]:=rfl
 rw[this,numW0,numW1]
 rfl
abbrev exW:ByteArray:=⟨#[108,101,109,109,97,32,91,32,93,32,99,49,32,40,32,99,48,32,41,32,61,32,99,49,32,40,32,99,48,32,41,32,123,32,125,32,59,10]⟩
theorem encK:encTs (⟨#[]⟩:ByteArray) [leK]=exW:=by
 have h1:leTok leK=[lemW,lbW,rbW,⟨#[99,49]⟩,opW,⟨#[99,48]⟩,clW,eqlW,⟨#[99,49]⟩,opW,⟨#[99,48]⟩,clW,lcW,rcW,smW]:=by
  unfold leTok
  rw[show leK.left=sT from rfl,show leK.right=sT from rfl,tokK]
  rfl
 show puts (⟨#[]⟩:ByteArray) (leTok leK)++nlW=_
 rw[h1]
 kernel_rfl
theorem leK_ok:leK.Ok:=by
 have h:sT.Full:=⟨True.intro,by unfold I64;omega,by unfold I64;omega,⟨True.intro,by unfold I64;omega,by unfold I64;omega,True.intro⟩,True.intro⟩
 exact⟨h,h,by decide,by decide,fun t ht=>(by cases ht),fun t ht=>(by cases ht)⟩
theorem known26_calls:PureIs Tryz.prog 7 [] (nB true):=by
 have hls:∀l∈[leK],l.Ok:=fun l hl=>by rw[List.mem_singleton.1 hl];exact leK_ok
 have hok:[leK].all leOk=true:=by kernel_rfl
 have he:=Encode_calls hls (of_decide_eq_true (by kernel_rfl))
 have hd:=Decode_back hok hls (of_decide_eq_true (by kernel_rfl))
 rw[encK] at he hd
 rw[hok] at he
 rw[if_neg (by decide)] at hd
 have hq:=teq_calls 10 sT sT (by decide) (by decide)
 exact vc7_ok ⟨_,_,he,_,_,_,_,_,hd,ITE.pos rfl (ITE.pos (by rw[strEq_iff];exact decide_eq_true rfl) (ITE.pos rfl (ITE.pos rfl ⟨by decide,by decide,_,_,_,_,_,_,_,_,_,_,rfl,_,hq,congrArg nB (show Tm.same sT sT=true by kernel_rfl)⟩)))⟩
end Go.Proofs.YtjhanogfpkbamaaGreatDoor

namespace Go.Proofs.YtjhanogfpkbamaaGreatDoor
open Go
set_option linter.unusedSimpArgs false
set_option linter.unusedVariables false
abbrev TX (s:ByteArray) (b:Bool):List AObj:=[.box [nS s,nB b]]
structure Xs (s:ByteArray) (b:Bool) (l:List ByteArray) (ok:Bool) (c:Nat) (s':ByteArray) (b':Bool):Prop where
 bad:b'=(b||!ok)
 txt:b'=false→s'=puts s l
 size:s'.size≤s.size+c
theorem Xs.refl {s:ByteArray} {b:Bool}:Xs s b [] true 0 s b:=⟨by simp,fun _=>rfl,Nat.le_refl _⟩
theorem Xs.app {s s1 s2:ByteArray} {b b1 b2 ok1 ok2:Bool} {l1 l2:List ByteArray} {c1 c2:Nat} (h:Xs s b l1 ok1 c1 s1 b1) (k:Xs s1 b1 l2 ok2 c2 s2 b2):Xs s b (l1++l2) (ok1&&ok2) (c1+c2) s2 b2:=by
 refine⟨by rw[k.bad,h.bad,Bool.not_and,Bool.or_assoc],fun e=>?_,by have:=h.size;have:=k.size;omega⟩
 have h1:b1=false:=by
  have:=k.bad
  rw[e] at this
  cases hb:b1
  ·rfl
  ·rw[hb] at this;simp at this
 rw[k.txt e,h.txt h1,puts_app]
theorem Xs.mono {s s1:ByteArray} {b b1 ok:Bool} {l:List ByteArray} {c c':Nat} (h:Xs s b l ok c s1 b1) (hc:c≤c'):Xs s b l ok c' s1 b1:=⟨h.bad,h.txt,by have:=h.size;omega⟩
theorem Xs.stop {s s1:ByteArray} {b ok ok2:Bool} {l l2:List ByteArray} {c:Nat} (h:Xs s b l ok c s1 true) (hk:ok=false→ok2=false):Xs s b l2 ok2 c s1 true:=by
 refine⟨?_,fun e=>(by cases e),h.size⟩
 have:=h.bad
 cases b
 ·cases ok
  ·rw[hk rfl];rfl
  ·simp at this
 ·rfl
def XC (f:Nat) (args:List AV) (l:List ByteArray) (ok:Bool) (c:Nat):Prop:=
 ∀(s:ByteArray) (b:Bool),s.size+c≤100000000→HFn Tryz.prog f args (TX s b) (fun r q=>∃s' b',r=.tup []∧q=TX s' b'∧Xs s b l ok c s' b')
theorem endsNL_at {s:ByteArray} (h:0<s.size):endsNL s=(strAt s ((s.size-1:Nat):Int)==10):=by
 have hl:=bytesI_len s
 rw[Bool.eq_iff_iff,endsNL_iff,strAt_eq (by omega),List.getLast?_eq_getElem?,beq_iff_eq]
 rw[List.getElem?_eq_getElem (by omega),Option.some.injEq]
 simp only[hl]
theorem xput_calls {w:ByteArray}:XC 43 [.ptr 0 0,nS w] [w] true (w.size+1):=fun s b hb=>by
 have hfin:∀{t:ByteArray},t=put1 s w→∃s' b',AV.tup []=AV.tup []∧TX t b=TX s' b'∧Xs s b [w] true (w.size+1) s' b':=fun ht=>⟨_,_,rfl,rfl,by simp,fun _=>ht,by rw[ht];exact put1_size⟩
 have hne:s.size=0→s=(⟨#[]⟩:ByteArray):=fun h=>bytesI_inj (by rw[List.eq_nil_of_length_eq_zero ((bytesI_len s).trans h)];rfl)
 refine vc43_ok (ITE.intro (fun h=>?_) fun h=>?_)
 ·have h:0<s.size:=by have:=of_decide_eq_true h;omega
  have hw:IntKind.wrap .i64 (((s.size:Nat):Int)-1)=((s.size-1:Nat):Int):=by rw[wrap_i (by omega) (by omega)];omega
  have hs:decide (s=(⟨#[]⟩:ByteArray))=false:=decide_eq_false fun e=>by rw[e] at h;exact absurd h (by decide)
  rw[hw]
  have hnl:=endsNL_at h
  refine⟨⟨by omega,by omega⟩,ITE.intro (fun h2=>⟨by rw[sz1];omega,by rw[bsz,sz1];omega,hfin ?_⟩) fun h2=>⟨by omega,hfin ?_⟩⟩
  ·rw[put1,hs,hnl,if_pos (by rw[←bne];rw[h2];rfl)]
  ·rw[put1,hs,hnl,if_neg (by rw[←bne];rw[h2];decide)]
 ·have h:s.size=0:=by have:=of_decide_eq_false h;omega
  refine⟨by omega,hfin ?_⟩
  rw[put1,decide_eq_true (hne h),if_neg (by simp)]
theorem empty_app {w:ByteArray}:(⟨#[]⟩:ByteArray)++w=w:=bytesI_inj (by rw[bytesI_app];rfl)
theorem xnum_calls {a:ByteArray} {n:Int} (hn:I64 n) (ha:a.size≤10):XC 46 [.ptr 0 0,nS a,nI n] [a++numW n] (numOk n) (a.size+31):=fun s b hb=>by
 have hz:=numW_size hn
 have bad:numOk n=false→∃s' b',AV.tup []=AV.tup []∧TX s true=TX s' b'∧Xs s b [a++numW n] (numOk n) (a.size+31) s' b':=fun h=>⟨_,_,rfl,rfl,by rw[h];simp,fun e=>(by cases e),by omega⟩
 refine vc46_ok (ITE.intro (fun h=>bad ?_) fun h=>ITE.intro (fun h2=>bad ?_) fun h2=>?_)
 ·have:=of_decide_eq_true h;exact decide_eq_false (by omega)
 ·have:=of_decide_eq_true h2;exact decide_eq_false (by omega)
 ·have h:=of_decide_eq_false h
  have h2:=of_decide_eq_false h2
  have hok:numOk n=true:=decide_eq_true (by omega)
  refine⟨_,Number_calls hn,by omega,_,xput_calls s b (by rw[bsz];omega),fun r q ⟨s',b',e1,e2,hx⟩=>⟨s',b',⟨e1,e2⟩,s',b',rfl,rfl,?_⟩⟩
  rw[hok]
  exact hx.mono (by rw[bsz];omega)
theorem xnum0_calls {n:Int} (hn:I64 n):XC 46 [.ptr 0 0,nS ⟨#[]⟩,nI n] [numW n] (numOk n) 31:=by
 have:=xnum_calls (a:=⟨#[]⟩) hn (by decide)
 rwa [empty_app] at this
theorem xtypes_calls:∀(d:Nat) (l:List Ty),d≤60→Ty.Oks l→Ty.sizes l≤2000000→XC 44 [.ptr 0 0,.sl (l.map Ty.enc),nI ((60-d:Nat):Int)] (l.flatMap (tokTy d)) (l.all (okTy d)) (50*Ty.sizes l):=fun d=>by
 induction d with
 |zero=>
  intro l _ hl hz s b hb
  have hlen:=Ty.sizes_len l
  refine vc44_ok ?_
  refine LoopP.intro (fun _:Unit=>(((),l.map Ty.enc,((60-0:Nat):Int),0,()),((s,b,()),()))) (fun _=>True) (fun _=>0) () rfl True.intro ?_
  intro _ _ again _
  dsimp only
  rw[List.length_map]
  refine ITE.intro (fun h=>ITE.intro (fun h2=>ITE.pos rfl ?_) fun h2=>?_) fun h=>?_
  ·have:0<l.length:=by have:=of_decide_eq_true h;omega
   have hall:l.all (okTy 0)=false:=by cases l with|nil=>simp at this|cons _ _=>rfl
   exact⟨s,true,rfl,rfl,by rw[hall];simp,fun e=>(by cases e),by omega⟩
  ·have:0<l.length:=by have:=of_decide_eq_true h;omega
   have hall:l.all (okTy 0)=false:=by cases l with|nil=>simp at this|cons _ _=>rfl
   have hbt:b=true:=by simpa using h2
   subst hbt
   exact⟨s,true,rfl,rfl,by rw[hall];simp,fun e=>(by cases e),by omega⟩
  ·have:l.length=0:=by have:=of_decide_eq_false h;omega
   rw[List.eq_nil_of_length_eq_zero this]
   exact⟨s,b,rfl,rfl,Xs.refl⟩
 |succ d ih=>
  intro l hd hl hz s b hb
  have hlen:=Ty.sizes_len l
  refine vc44_ok ?_
  refine LoopP.intro (fun p:Nat×ByteArray×Bool=>(((),l.map Ty.enc,((60-(d+1):Nat):Int),(p.1:Int),()),((p.2.1,p.2.2,()),())))
   (fun p=>p.1≤l.length∧Xs s b ((l.take p.1).flatMap (tokTy (d+1))) ((l.take p.1).all (okTy (d+1))) (50*Ty.sizes (l.take p.1)) p.2.1 p.2.2) (fun p=>l.length-p.1) (0,s,b) rfl ⟨Nat.zero_le _,Xs.refl⟩ ?_
  intro ⟨k,t,c⟩ ⟨hk,hx⟩ again hag
  dsimp only at hk hx ⊢
  rw[List.length_map]
  have hts:=hx.size
  refine ITE.intro (fun h=>ITE.intro (fun h2=>ITE.neg (decide_eq_false (by omega)) ?_) fun h2=>?_) fun h=>?_
  ·have hlt:k<l.length:=by have:=of_decide_eq_true h;omega
   have hst:=Ty.sizes_take hlt
   obtain⟨hi,ha⟩:=Ty.ok_eq (Ty.oks_mem hl _ (List.getElem_mem hlt))
   have hse:=l[k].size_eq
   have g:List.getD (l.map Ty.enc) (Int.toNat (k:Int)) .top=.agg [.sl (l[k].args.map Ty.enc),nI l[k].base]:=Ty.enc_getD hlt
   have b1:0≤(k:Int):=by omega
   have b2:(k:Int)<((l.map Ty.enc).length:Nat):=by rw[List.length_map];omega
   have fin:∀{t':ByteArray} {c':Bool},Xs t c (tokTy (d+1) l[k]) (okTy (d+1) l[k]) (50*l[k].size) t' c'→again (((),l.map Ty.enc,((60-(d+1):Nat):Int),IntKind.wrap .i64 ((k:Int)+1),()),((t',c',()),())):=fun hx2=>by
    rw[wrap_n (by omega)]
    refine hag (k+1,_,_) ⟨hlt,?_⟩ (by dsimp only;omega)
    have:=hx.app hx2
    rw[←flatM_take _ hlt,←all_take _ hlt] at this
    refine this.mono ?_
    have e1:l.take (k+1)=l.take k++[l[k]]:=(take_snoc' hlt).symm
    rw[e1,Ty.sizes_append,Ty.sizes,Ty.sizes];omega
   refine⟨b1,b2,_,_,g,_,xnum0_calls hi t c (by omega),fun r q ⟨t1,c1,e1,e2,x1⟩=>⟨_,_,⟨e1,e2⟩,b1,b2,_,_,g,?_⟩⟩
   rw[List.length_map]
   have hz1:=x1.size
   refine ITE.intro (fun h3=>?_) fun h3=>?_
   ·have h3:0<l[k].args.length:=by have:=of_decide_eq_true h3;omega
    have hl2:=Ty.sizes_len l[k].args
    refine⟨_,xput_calls (w:=lbW) t1 c1 (by rw[sz1];omega),fun r q ⟨t2,c2,e1,e2,x2⟩=>⟨_,_,⟨e1,e2⟩,b1,b2,_,_,g,?_⟩⟩
    have hz2:=x2.size
    rw[sz1] at hz2
    have ew:IntKind.wrap .i64 (((60-(d+1):Nat):Int)+1)=((60-d:Nat):Int):=by rw[wrap_i (by omega) (by omega)];omega
    rw[ew]
    refine⟨_,ih l[k].args (by omega) ha (by omega) t2 c2 (by omega),fun r q ⟨t3,c3,e1,e2,x3⟩=>⟨_,_,⟨e1,e2⟩,?_⟩⟩
    have hz3:=x3.size
    refine⟨_,xput_calls (w:=rbW) t3 c3 (by rw[sz1];omega),fun r q ⟨t4,c4,e1,e2,x4⟩=>⟨_,_,⟨e1,e2⟩,fin ?_⟩⟩
    have:=((x1.app x2).app (x3.app x4)).mono (c':=50*l[k].size) (by rw[sz1,sz1];omega)
    rw[tokTy,okTy,pinW,isEmpty_pos h3]
    simpa using this
   ·have h3:l[k].args.length=0:=by have:=of_decide_eq_false h3;omega
    have ha0:=List.eq_nil_of_length_eq_zero h3
    refine fin ?_
    rw[tokTy,okTy,ha0,List.all_nil,Bool.and_true]
    exact x1.mono (by omega)
  ·have hlt:k<l.length:=by have:=of_decide_eq_true h;omega
   have hct:c=true:=by simpa using h2
   subst hct
   have hst:=Ty.sizes_take hlt
   refine⟨t,true,rfl,rfl,(hx.stop (ok2:=l.all (okTy (d+1))) fun e=>?_).mono (by omega)⟩
   have:l.take k++l.drop k=l:=List.take_append_drop k l
   rw[←this,List.all_append,e];rfl
  ·have hge:l.length≤k:=by have:=of_decide_eq_false h;omega
   obtain rfl:k=l.length:=by omega
   rw[List.take_length] at hx
   exact⟨t,c,rfl,rfl,hx⟩
end Go.Proofs.YtjhanogfpkbamaaGreatDoor

namespace Go.Proofs.YtjhanogfpkbamaaGreatDoor
open Go
set_option linter.unusedSimpArgs false
set_option linter.unusedVariables false
theorem xterm_calls:∀(d:Nat) (t:Tm),d≤60→t.Full→t.size≤1000000→XC 45 [.ptr 0 0,.agg (tmC t),nI ((60-d:Nat):Int)] (tokTm d t) (okTm d t) (50*t.size)
 |0,t,_,_,_=>fun s b hb=>vc45_ok (ITE.pos rfl ⟨s,true,rfl,rfl,by simp[okTm],fun e=>(by cases e),by omega⟩)
 |d+1,t,hd,h,hz=>fun s b hb=>by
  obtain⟨hbs,hk,hi,hl⟩:=Tm.full_eq h
  have hsz:=t.size_eq
  have hll:=Tm.sizes_len t.args
  have hlb:=Ty.sizes_len t.binds
  have bad:kOk t.kind=false→∃s' b',AV.tup []=AV.tup []∧TX s true=TX s' b'∧Xs s b (tokTm (d+1) t) (okTm (d+1) t) (50*t.size) s' b':=fun e=>⟨s,true,rfl,rfl,by rw[okTm,e];simp,fun e=>(by cases e),by omega⟩
  refine vc45_ok (ITE.neg (decide_eq_false (by omega)) (ITE.intro (fun h1=>bad ?_) fun h1=>ITE.intro (fun h2=>bad ?_) fun h2=>ITE.intro (fun h3=>?_) fun h3=>?_))
  ·have:=of_decide_eq_true h1;exact decide_eq_false (by omega)
  ·have:=of_decide_eq_true h2;exact decide_eq_false (by omega)
  ·subst h3
   exact⟨s,true,rfl,rfl,rfl,fun e=>(by cases e),by omega⟩
  subst h3
  have h1:=of_decide_eq_false h1
  have h2:=of_decide_eq_false h2
  have hkk:kOk t.kind=true:=decide_eq_true (by omega)
  have ew:IntKind.wrap .i64 (((60-(d+1):Nat):Int)+1)=((60-d:Nat):Int):=by rw[wrap_i (by omega) (by omega)];omega
  rw[tokTm,okTm,hkk,if_pos rfl,Bool.true_and]
  have loop:∀(T:ByteArray) (c:Bool) (l0:List ByteArray) (ok0:Bool) (c0:Nat),0<t.args.length→Xs s false (l0++[opW]) ok0 c0 T c→c0+50*Tm.sizes t.args+2≤50*t.size→
    vc45_L13 (((),((60-(d+1):Nat):Int),(),0,()),((T,c,()),(t.binds.map Ty.enc,t.kind,t.index,t.args.map Tm.enc,()),((⟨#[98]⟩:ByteArray),(⟨#[99]⟩:ByteArray),(⟨#[109]⟩:ByteArray),()),())) (fun r q=>∃s' b',r=.tup []∧q=TX s' b'∧Xs s false (l0++pinW opW clW t.args (t.args.flatMap (tokTm d))) (ok0&&t.args.all (okTm d)) (50*t.size) s' b'):=by
   intro T c l0 ok0 c0 hpos hx hc
   refine LoopP.intro (fun p:Nat×ByteArray×Bool=>(((),((60-(d+1):Nat):Int),(),(p.1:Int),()),((p.2.1,p.2.2,()),(t.binds.map Ty.enc,t.kind,t.index,t.args.map Tm.enc,()),((⟨#[98]⟩:ByteArray),(⟨#[99]⟩:ByteArray),(⟨#[109]⟩:ByteArray),()),())))
    (fun p=>p.1≤t.args.length∧Xs s false (l0++[opW]++(t.args.take p.1).flatMap (tokTm d)) (ok0&&(t.args.take p.1).all (okTm d)) (c0+50*Tm.sizes (t.args.take p.1)) p.2.1 p.2.2) (fun p=>t.args.length-p.1) (0,T,c) rfl
    ⟨Nat.zero_le _,by rw[List.take_zero,List.flatMap_nil,List.all_nil,List.append_nil,Bool.and_true];exact hx⟩ ?_
   intro ⟨k,u,e⟩ ⟨hkl,hxu⟩ again hag
   dsimp only at hkl hxu ⊢
   have hzu:=hxu.size
   rw[List.length_map]
   refine ITE.intro (fun h4=>?_) fun h4=>?_
   ·have hlt:k<t.args.length:=by have:=of_decide_eq_true h4;omega
    have hst:=Tm.sizes_take hlt
    have hrec:=xterm_calls d t.args[k] (by omega) (Tm.fulls_mem hl _ (List.getElem_mem hlt)) (by omega) u e (by omega)
    rw[ew]
    refine⟨by omega,by rw[List.length_map];omega,_,_,_,_,Tm.enc_getD hlt,_,hrec,fun r q ⟨u2,e2',q1,q2,x2⟩=>⟨_,_,⟨q1,q2⟩,?_⟩⟩
    rw[wrap_n (by omega)]
    refine hag (k+1,_,_) ⟨hlt,?_⟩ (by dsimp only;omega)
    have:=hxu.app x2
    rw[List.append_assoc,←flatM_take _ hlt,Bool.and_assoc,←all_take _ hlt] at this
    refine this.mono ?_
    have e1:t.args.take (k+1)=t.args.take k++[t.args[k]]:=(take_snoc' hlt).symm
    rw[e1,Tm.sizes_append,Tm.sizes,Tm.sizes];omega
   ·have hge:t.args.length≤k:=by have:=of_decide_eq_false h4;omega
    obtain rfl:k=t.args.length:=by omega
    rw[List.take_length] at hxu hzu
    refine⟨_,xput_calls (w:=clW) u e (by rw[sz1];omega),fun r q ⟨u2,e2',q1,q2,x2⟩=>⟨_,_,⟨q1,q2⟩,_,_,rfl,rfl,?_⟩⟩
    have:=(hxu.app x2).mono (c':=50*t.size) (by rw[sz1];omega)
    rw[pinW,isEmpty_pos hpos]
    simpa using this
  have head:∀(T:ByteArray) (c:Bool) (l0:List ByteArray) (ok0:Bool) (c0:Nat),Xs s false l0 ok0 c0 T c→c0+45+50*Tm.sizes t.args≤50*t.size→
    vc45_R9 t.kind t.index T c (t.args.map Tm.enc) ((60-(d+1):Nat):Int) (t.binds.map Ty.enc) (fun r q=>∃s' b',r=.tup []∧q=TX s' b'∧Xs s false (l0++(letW t.kind++numW t.index)::pinW opW clW t.args (t.args.flatMap (tokTm d))) (ok0&&(numOk t.index&&t.args.all (okTm d))) (50*t.size) s' b'):=by
   intro T c l0 ok0 c0 hx hc
   have hzT:=hx.size
   refine⟨⟨by omega,by omega⟩,?_⟩
   rw[List.length_map]
   have one:∀{a:ByteArray},a.size≤1→letW t.kind=a→callX 46 [.ptr 0 0,nS a,nI t.index] [.box [nS T,nB c]] fun r54 q55=>∃s56 b57,(r54=.tup []∧q55=[.box [nS s56,nB b57]])∧
     ITE (decide (((t.args.length:Nat):Int)>0))
     (callX 43 [.ptr 0 0,nS (⟨#[40]⟩:ByteArray)] [.box [nS s56,nB b57]] fun r59 q60=>∃s61 b62,(r59=.tup []∧q60=[.box [nS s61,nB b62]])∧
      vc45_L13 (((),((60-(d+1):Nat):Int),(),0,()),((s61,b62,()),(t.binds.map Ty.enc,t.kind,t.index,t.args.map Tm.enc,()),((⟨#[98]⟩:ByteArray),(⟨#[99]⟩:ByteArray),(⟨#[109]⟩:ByteArray),()),())) (fun r q=>∃s' b',r=.tup []∧q=TX s' b'∧Xs s false (l0++(letW t.kind++numW t.index)::pinW opW clW t.args (t.args.flatMap (tokTm d))) (ok0&&(numOk t.index&&t.args.all (okTm d))) (50*t.size) s' b'))
     ((fun r q=>∃s' b',r=AV.tup []∧q=TX s' b'∧Xs s false (l0++(letW t.kind++numW t.index)::pinW opW clW t.args (t.args.flatMap (tokTm d))) (ok0&&(numOk t.index&&t.args.all (okTm d))) (50*t.size) s' b') (.tup []) [.box [nS s56,nB b57]]):=by
    intro a ha1 ha
    refine⟨_,xnum_calls (a:=a) hi (by omega) T c (by omega),fun r q ⟨u,e,q1,q2,x1⟩=>⟨_,_,⟨q1,q2⟩,?_⟩⟩
    have hzu:=x1.size
    have hx1:=(hx.app x1).mono (c':=c0+41) (by omega)
    rw[←ha] at hx1
    refine ITE.intro (fun h3=>?_) fun h3=>?_
    ·have h3:0<t.args.length:=by have:=of_decide_eq_true h3;omega
     refine⟨_,xput_calls (w:=opW) u e (by rw[sz1];omega),fun r q ⟨u2,e2',q1,q2,x2⟩=>⟨_,_,⟨q1,q2⟩,?_⟩⟩
     have hx2:=(hx1.app x2).mono (c':=c0+43) (by rw[sz1];omega)
     rw[Bool.and_true] at hx2
     have:=loop u2 e2' _ _ _ h3 hx2 (by omega)
     rw[List.append_assoc,List.singleton_append,Bool.and_assoc] at this
     exact this
    ·have h3:t.args.length=0:=by have:=of_decide_eq_false h3;omega
     have ha0:=List.eq_nil_of_length_eq_zero h3
     refine⟨_,_,rfl,rfl,?_⟩
     rw[ha0,List.all_nil,Bool.and_true]
     exact hx1.mono (by omega)
   refine ITE.intro (fun h3=>one (a:=⟨#[98]⟩) (by decide) ?_) fun h3=>ITE.intro (fun h4=>one (a:=⟨#[99]⟩) (by decide) ?_) fun h4=>one (a:=⟨#[109]⟩) (by decide) ?_
   ·have h3:t.kind=0:=by simpa using h3
    rw[h3];rfl
   ·have h4:t.kind=1:=by simpa using h4
    rw[h4];rfl
   ·have h3:¬t.kind=0:=by simpa using h3
    have h4:¬t.kind=1:=by simpa using h4
    have:t.kind=2:=by omega
    rw[this];rfl
  rw[List.length_map]
  refine ITE.intro (fun h4=>?_) fun h4=>?_
  ·have h4:0<t.binds.length:=by have:=of_decide_eq_true h4;omega
   refine⟨_,xput_calls (w:=laW) s false (by rw[sz1];omega),fun r q ⟨u,e,q1,q2,x1⟩=>⟨_,_,⟨q1,q2⟩,?_⟩⟩
   have hz1:=x1.size
   rw[sz1] at hz1
   rw[ew]
   refine⟨_,xtypes_calls d t.binds (by omega) hbs (by omega) u e (by omega),fun r q ⟨u2,e2',q1,q2,x2⟩=>⟨_,_,⟨q1,q2⟩,?_⟩⟩
   have hz2:=x2.size
   refine⟨_,xput_calls (w:=dtW) u2 e2' (by rw[sz1];omega),fun r q ⟨u3,e3,q1,q2,x3⟩=>⟨_,_,⟨q1,q2⟩,?_⟩⟩
   have hx:=(x1.app (x2.app x3)).mono (c':=4+50*Ty.sizes t.binds) (by rw[sz1,sz1];omega)
   have:=head u3 e3 _ _ _ hx (by omega)
   have e0:pinW laW dtW t.binds (t.binds.flatMap (tokTy d))=[laW]++(t.binds.flatMap (tokTy d)++[dtW]):=by rw[pinW,isEmpty_pos h4];rfl
   rw[e0]
   rw[Bool.true_and,Bool.and_true] at this
   exact this
  ·have h4:t.binds.length=0:=by have:=of_decide_eq_false h4;omega
   have hb0:=List.eq_nil_of_length_eq_zero h4
   have:=head s false [] true 0 Xs.refl (by omega)
   have e0:pinW laW dtW t.binds (t.binds.flatMap (tokTy d))=[]:=by rw[hb0];rfl
   have e1:t.binds.all (okTy d)=true:=by rw[hb0];rfl
   rw[e0,e1]
   exact this
end Go.Proofs.YtjhanogfpkbamaaGreatDoor

namespace Go.Proofs.YtjhanogfpkbamaaGreatDoor
open Go
set_option linter.unusedSimpArgs false
set_option linter.unusedVariables false
theorem xterm0_calls {t:Tm} (h:t.Full) (hz:t.size≤1000000):XC 45 [.ptr 0 0,.agg (tmC t),nI 0] (tokTm 60 t) (okTm 60 t) (50*t.size):=xterm_calls 60 t (Nat.le_refl _) h hz
theorem xsteps_rest {x:Stp} (hx:x.Ok) {T:ByteArray} {c:Bool} {w:ByteArray} (hw:w.size≤4) {s:ByteArray} {b:Bool} {lems:List AV} {i k:Int} {p1:_→Prop}
  (hb:s.size+stW x≤100000000) (h0:Xs s b [w,numW x.eq,lbW] (numOk x.eq) 38 T c)
  (hend:∀{t':ByteArray} {c':Bool},Xs s b ([w,numW x.eq,lbW]++(x.path.map numW++([rbW,lcW]++(x.sub.flatMap spTok++[rcW,smW])))) (stOk x) (stW x) t' c'→p1 ((lems,(),i,IntKind.wrap .i64 (k+1),()),((t',c',()),()))):
  vc10_L23 ((lems,(),i,k,(),0,()),((T,c,()),(x.eq,x.back,encInts x.path,x.sub.map spEnc,()),())) p1:=by
 have hsw:stW x=60+(40*x.path.length+sumB spW x.sub):=rfl
 have hsl:=len_sumB (f:=spW) (fun p=>by unfold spW;omega) (l:=x.sub)
 refine LoopP.intro (fun p:Nat×ByteArray×Bool=>((lems,(),i,k,(),(p.1:Int),()),((p.2.1,p.2.2,()),(x.eq,x.back,encInts x.path,x.sub.map spEnc,()),())))
  (fun p=>p.1≤x.path.length∧Xs s b ([w,numW x.eq,lbW]++(x.path.take p.1).map numW) (numOk x.eq&&(x.path.take p.1).all numOk) (38+40*p.1) p.2.1 p.2.2) (fun p=>x.path.length-p.1) (0,T,c) rfl
  ⟨Nat.zero_le _,by rw[List.take_zero,List.map_nil,List.all_nil,List.append_nil,Bool.and_true];exact h0⟩ ?_
 intro ⟨j,u,e⟩ ⟨hj,hxu⟩ again hag
 dsimp only at hj hxu ⊢
 have hzu:=hxu.size
 rw[encInts_len]
 refine ITE.intro (fun h1=>?_) fun h1=>?_
 ·have hlt:j<x.path.length:=by have:=of_decide_eq_true h1;omega
  refine⟨by omega,by rw[encInts_len];omega,_,encInts_getD hlt,_,xnum0_calls (hx.path _ (List.getElem_mem hlt)) u e (by omega),fun r q ⟨u2,e2',q1,q2,x2⟩=>⟨_,_,⟨q1,q2⟩,?_⟩⟩
  rw[wrap_n (by omega)]
  refine hag (j+1,_,_) ⟨hlt,?_⟩ (by dsimp only;omega)
  have:=(hxu.app x2).mono (c':=38+40*(j+1)) (by omega)
  rw[Bool.and_assoc,←all_take _ hlt,List.append_assoc] at this
  have e1:(x.path.take j).map numW++[numW x.path[j]]=(x.path.take (j+1)).map numW:=by rw[←take_snoc' hlt,List.map_append];rfl
  rw[e1] at this
  exact this
 ·have hge:x.path.length≤j:=by have:=of_decide_eq_false h1;omega
  obtain rfl:j=x.path.length:=by omega
  rw[List.take_length] at hxu
  refine⟨_,xput_calls (w:=rbW) u e (by rw[sz1];omega),fun r q ⟨u2,c2,q1,q2,x2⟩=>⟨_,_,⟨q1,q2⟩,?_⟩⟩
  have hz2:=x2.size
  rw[sz1] at hz2
  refine⟨_,xput_calls (w:=lcW) u2 c2 (by rw[sz1];omega),fun r q ⟨u3,c3,q1,q2,x3⟩=>⟨_,_,⟨q1,q2⟩,?_⟩⟩
  have h3:=((hxu.app x2).app x3).mono (c':=42+40*x.path.length) (by rw[sz1,sz1];omega)
  clear hag hxu x2 x3 hzu hz2
  refine LoopP.intro (fun p:Nat×ByteArray×Bool=>((lems,(),i,k,(),(p.1:Int),()),((p.2.1,p.2.2,()),(x.eq,x.back,encInts x.path,x.sub.map spEnc,()),())))
   (fun p=>p.1≤x.sub.length∧Xs s b ((([w,numW x.eq,lbW]++x.path.map numW)++[rbW])++[lcW]++(x.sub.take p.1).flatMap spTok) ((((numOk x.eq&&x.path.all numOk)&&true)&&true)&&(x.sub.take p.1).all spOk) (42+40*x.path.length+sumB spW (x.sub.take p.1)) p.2.1 p.2.2) (fun p=>x.sub.length-p.1) (0,u3,c3) rfl
   ⟨Nat.zero_le _,by rw[List.take_zero,List.flatMap_nil,List.all_nil,List.append_nil,Bool.and_true];exact h3⟩ ?_
  intro ⟨j,v,e⟩ ⟨hj,hxv⟩ again hag
  dsimp only at hj hxv ⊢
  have hzv:=hxv.size
  unfold vc10_R29
  rw[List.length_map]
  refine ITE.intro (fun h2=>?_) fun h2=>?_
  ·have hlt:j<x.sub.length:=by have:=of_decide_eq_true h2;omega
   have hp:=hx.sub _ (List.getElem_mem hlt)
   have hst:=sumB_take (f:=spW) hlt
   have hpw:spW x.sub[j]=40+50*x.sub[j].2.size:=rfl
   have g:List.getD (x.sub.map spEnc) (Int.toNat (j:Int)) .top=spEnc x.sub[j]:=getD_map hlt
   refine⟨by omega,by rw[List.length_map];omega,_,_,_,_,_,g,_,xnum0_calls hp.meta_ v e (by omega),fun r q ⟨v1,c1,q1,q2,y1⟩=>⟨_,_,⟨q1,q2⟩,?_⟩⟩
   have hz1:=y1.size
   refine⟨_,xput_calls (w:=clnW) v1 c1 (by rw[sz1];omega),fun r q ⟨v2,c2,q1,q2,y2⟩=>⟨_,_,⟨q1,q2⟩,?_⟩⟩
   have hz2:=y2.size
   rw[sz1] at hz2
   refine⟨by omega,by rw[List.length_map];omega,_,_,_,_,_,g,_,xterm0_calls hp.term hp.size v2 c2 (by omega),fun r q ⟨v3,c3,q1,q2,y3⟩=>⟨_,_,⟨q1,q2⟩,?_⟩⟩
   have hz3:=y3.size
   refine⟨_,xput_calls (w:=cmW) v3 c3 (by rw[sz1];omega),fun r q ⟨v4,c4,q1,q2,y4⟩=>⟨_,_,⟨q1,q2⟩,?_⟩⟩
   have hy:Xs v e (spTok x.sub[j]) (spOk x.sub[j]) (spW x.sub[j]) v4 c4:=by
    have:=((y1.app y2).app (y3.app y4)).mono (c':=spW x.sub[j]) (by rw[sz1,sz1];omega)
    rw[Bool.and_true,Bool.and_true] at this
    exact this
   rw[wrap_n (by omega)]
   refine hag (j+1,_,_) ⟨hlt,?_⟩ (by dsimp only;omega)
   have:=(hxv.app hy).mono (c':=42+40*x.path.length+sumB spW (x.sub.take (j+1))) (by
    have e1:x.sub.take (j+1)=x.sub.take j++[x.sub[j]]:=(take_snoc' hlt).symm
    rw[e1,sumB_app,sumB,sumB];omega)
   rw[Bool.and_assoc,←all_take _ hlt,List.append_assoc,←flatM_take _ hlt] at this
   exact this
  ·have hge:x.sub.length≤j:=by have:=of_decide_eq_false h2;omega
   obtain rfl:j=x.sub.length:=by omega
   rw[List.take_length] at hxv hzv
   refine⟨_,xput_calls (w:=rcW) v e (by rw[sz1];omega),fun r q ⟨v1,c1,q1,q2,y1⟩=>⟨_,_,⟨q1,q2⟩,?_⟩⟩
   have hz1:=y1.size
   rw[sz1] at hz1
   refine⟨_,xput_calls (w:=smW) v1 c1 (by rw[sz1];omega),fun r q ⟨v2,c2,q1,q2,y2⟩=>⟨_,_,⟨q1,q2⟩,hend ?_⟩⟩
   have:=((hxv.app y1).app y2).mono (c':=stW x) (by rw[sz1,sz1];omega)
   rw[stOk]
   simpa [Bool.and_assoc] using this
theorem xEncode_calls {ls:List Lem} (h:∀l∈ls,l.Ok) (hb:sumB leW ls≤100000000):PureIs Tryz.prog 10 [.sl (ls.map Lem.enc)] (.tup [nS (if ls.all leOk=true then encTs ⟨#[]⟩ ls else⟨#[]⟩),nB (ls.all leOk)]):=by
 have hll:=len_sumB leW_pos (l:=ls)
 refine vc10_ok ?_
 refine LoopP.intro (fun p:Nat×ByteArray×Bool=>((ls.map Lem.enc,(),(p.1:Int),()),((p.2.1,p.2.2,()),())))
  (fun p=>p.1≤ls.length∧p.2.2=!(ls.take p.1).all leOk∧(p.2.2=false→p.2.1=encTs ⟨#[]⟩ (ls.take p.1))∧p.2.1.size≤sumB leW (ls.take p.1)) (fun p=>ls.length-p.1) (0,⟨#[]⟩,false) rfl ⟨Nat.zero_le _,rfl,fun _=>rfl,Nat.zero_le _⟩ ?_
 intro ⟨k,T,c⟩ ⟨hk,hc,hT,hz⟩ again hag
 dsimp only at hk hc hT hz ⊢
 unfold vc10_R3
 rw[List.length_map]
 refine ITE.intro (fun h1=>?_) fun h1=>?_
 ·have hlt:k<ls.length:=by have:=of_decide_eq_true h1;omega
  have hl:=h _ (List.getElem_mem hlt)
  have hst:=sumB_take (f:=leW) hlt
  have hlw:leW ls[k]=100+(sumB tyW ls[k].metas+(50*ls[k].left.size+(50*ls[k].right.size+sumB stW ls[k].steps))):=rfl
  have htw:sumB tyW ls[k].metas=50*Ty.sizes ls[k].metas:=by
   generalize ls[k].metas=l
   induction l with
   |nil=>rfl
   |cons t l ih=>rw[sumB,ih,Ty.sizes,tyW,Nat.mul_add]
  have hend:∀{t':ByteArray} {c':Bool},Xs T c (leTok ls[k]) (leOk ls[k]) (leW ls[k]-1) t' c'→again ((ls.map Lem.enc,(),IntKind.wrap .i64 ((k:Int)+1),()),((t'++(⟨#[10]⟩:ByteArray),c',()),())):=fun {t' c'} hx=>by
   rw[wrap_n (by omega)]
   have e1:ls.take (k+1)=ls.take k++[ls[k]]:=(take_snoc' hlt).symm
   refine hag (k+1,_,_) ⟨hlt,?_,fun e=>?_,?_⟩ (by dsimp only;omega)
   ·dsimp only
    rw[hx.bad,hc,all_take _ hlt,Bool.not_and]
   ·dsimp only at e ⊢
    have hcf:c=false:=by
     have:=hx.bad
     rw[e] at this
     cases hb:c
     ·rfl
     ·rw[hb] at this;simp at this
    rw[hx.txt e,hT hcf,e1,encTs,encTs,List.foldl_append];rfl
   ·dsimp only
    have:=hx.size
    rw[bsz,sz1,e1,sumB_app,sumB,sumB];omega
  have g:List.getD (ls.map Lem.enc) (Int.toNat (k:Int)) .top=ls[k].enc:=getD_map hlt
  have b1:0≤(k:Int):=by omega
  have b2:(k:Int)<((ls.map Lem.enc).length:Nat):=by rw[List.length_map];omega
  have b3:(k:Int)<(ls.length:Nat):=by omega
  clear hag hT hc
  generalize hgl:ls[k]=l at hl hst hlw htw hend g
  have hml:=Ty.sizes_len l.metas
  have hsl:=len_sumB stW_pos (l:=l.steps)
  have hoks:Ty.Oks l.metas:=by
   have:=fun t ht=>(hl.metas t ht).1
   revert this
   generalize l.metas=m
   intro this
   induction m with
   |nil=>exact True.intro
   |cons t m ih=>exact⟨this t List.mem_cons_self,ih fun u hu=>this u (List.mem_cons_of_mem _ hu)⟩
  refine⟨_,xput_calls (w:=lemW) T c (by rw[show lemW.size=5 from rfl];omega),fun r q ⟨t1,c1,q1,q2,x1⟩=>⟨_,_,⟨q1,q2⟩,?_⟩⟩
  have hz1:=x1.size
  rw[show lemW.size=5 from rfl] at hz1
  refine⟨_,xput_calls (w:=lbW) t1 c1 (by rw[sz1];omega),fun r q ⟨t2,c2,q1,q2,x2⟩=>⟨_,_,⟨q1,q2⟩,b1,b3,_,_,_,_,_,_,_,_,_,_,g,?_⟩⟩
  have hz2:=x2.size
  rw[sz1] at hz2
  refine⟨_,xtypes_calls 60 l.metas (Nat.le_refl _) hoks (by omega) t2 c2 (by omega),fun r q ⟨t3,c3,q1,q2,x3⟩=>⟨_,_,⟨q1,q2⟩,?_⟩⟩
  have hz3:=x3.size
  refine⟨_,xput_calls (w:=rbW) t3 c3 (by rw[sz1];omega),fun r q ⟨t4,c4,q1,q2,x4⟩=>⟨_,_,⟨q1,q2⟩,b1,b3,_,_,_,_,_,_,_,_,_,_,g,?_⟩⟩
  have hz4:=x4.size
  rw[sz1] at hz4
  refine⟨_,xterm0_calls hl.left hl.lsize t4 c4 (by omega),fun r q ⟨t5,c5,q1,q2,x5⟩=>⟨_,_,⟨q1,q2⟩,?_⟩⟩
  have hz5:=x5.size
  refine⟨_,xput_calls (w:=eqlW) t5 c5 (by rw[sz1];omega),fun r q ⟨t6,c6,q1,q2,x6⟩=>⟨_,_,⟨q1,q2⟩,b1,b3,_,_,_,_,_,_,_,_,_,_,g,?_⟩⟩
  have hz6:=x6.size
  rw[sz1] at hz6
  refine⟨_,xterm0_calls hl.right hl.rsize t6 c6 (by omega),fun r q ⟨t7,c7,q1,q2,x7⟩=>⟨_,_,⟨q1,q2⟩,?_⟩⟩
  have hz7:=x7.size
  refine⟨_,xput_calls (w:=lcW) t7 c7 (by rw[sz1];omega),fun r q ⟨t8,c8,q1,q2,x8⟩=>⟨_,_,⟨q1,q2⟩,?_⟩⟩
  have hx:=((x1.app x2).app ((x3.app x4).app ((x5.app x6).app (x7.app x8)))).mono (c':=20+(50*Ty.sizes l.metas+(50*l.left.size+50*l.right.size))) (by rw[sz1,sz1,sz1,sz1,show lemW.size=5 from rfl];omega)
  clear x1 x2 x3 x4 x5 x6 x7 x8 hz1 hz2 hz3 hz4 hz5 hz6 hz7
  refine LoopP.intro (fun p:Nat×ByteArray×Bool=>((ls.map Lem.enc,(),(k:Int),(p.1:Int),()),((p.2.1,p.2.2,()),())))
   (fun p=>p.1≤l.steps.length∧Xs T c ((([lemW]++[lbW])++((l.metas.flatMap (tokTy 60)++[rbW])++((tokTm 60 l.left++[eqlW])++(tokTm 60 l.right++[lcW]))))++(l.steps.take p.1).flatMap stTok) (((true&&true)&&((l.metas.all (okTy 60)&&true)&&((okTm 60 l.left&&true)&&(okTm 60 l.right&&true))))&&(l.steps.take p.1).all stOk)
    (20+(50*Ty.sizes l.metas+(50*l.left.size+50*l.right.size))+sumB stW (l.steps.take p.1)) p.2.1 p.2.2) (fun p=>l.steps.length-p.1) (0,t8,c8) rfl
   ⟨Nat.zero_le _,by rw[List.take_zero,List.flatMap_nil,List.all_nil,List.append_nil,Bool.and_true];exact hx⟩ ?_
  intro ⟨j,u,e⟩ ⟨hj,hxu⟩ again2 hag2
  dsimp only at hj hxu ⊢
  have hzu:=hxu.size
  unfold vc10_R14
  refine⟨b1,b2,_,_,_,_,_,_,_,_,_,_,g,?_⟩
  rw[List.length_map]
  refine ITE.intro (fun h2=>?_) fun h2=>?_
  ·have hlt2:j<l.steps.length:=by have:=of_decide_eq_true h2;omega
   have hs:=hl.steps _ (List.getElem_mem hlt2)
   have hst2:=sumB_take (f:=stW) hlt2
   have hsw2:stW l.steps[j]=60+(40*l.steps[j].path.length+sumB spW l.steps[j].sub):=rfl
   have g2:List.getD (l.steps.map Stp.enc) (Int.toNat (j:Int)) .top=l.steps[j].enc:=getD_map hlt2
   refine⟨b1,b2,_,_,_,_,_,_,_,_,_,_,g,by omega,by rw[List.length_map];omega,_,_,_,_,g2,?_⟩
   have fin:∀(w:ByteArray),w=(if l.steps[j].back=true then bkW else onW)→∀{t':ByteArray} {c':Bool},Xs u e ([w,numW l.steps[j].eq,lbW]++(l.steps[j].path.map numW++([rbW,lcW]++(l.steps[j].sub.flatMap spTok++[rcW,smW])))) (stOk l.steps[j]) (stW l.steps[j]) t' c'→again2 ((ls.map Lem.enc,(),(k:Int),IntKind.wrap .i64 ((j:Int)+1),()),((t',c',()),())):=fun w hw t' c' hx2=>by
    rw[hw] at hx2
    rw[wrap_n (by omega)]
    refine hag2 (j+1,_,_) ⟨hlt2,?_⟩ (by dsimp only;omega)
    have:=(hxu.app (show Xs u e (stTok l.steps[j]) _ _ _ _ from hx2)).mono (c':=20+(50*Ty.sizes l.metas+(50*l.left.size+50*l.right.size))+sumB stW (l.steps.take (j+1))) (by
     have e1:l.steps.take (j+1)=l.steps.take j++[l.steps[j]]:=(take_snoc' hlt2).symm
     rw[e1,sumB_app,sumB,sumB];omega)
    rw[Bool.and_assoc,←all_take _ hlt2,List.append_assoc,←flatM_take _ hlt2] at this
    exact this
   have three:∀(w:ByteArray),w.size≤4→w=(if l.steps[j].back=true then bkW else onW)→callX 43 [.ptr 0 0,nS w] [.box [nS u,nB e]] fun r79 q80=>∃s81 b82,(r79=.tup []∧q80=[.box [nS s81,nB b82]])∧
     callX 46 [.ptr 0 0,nS (⟨#[]⟩:ByteArray),nI l.steps[j].eq] [.box [nS s81,nB b82]] fun r83 q84=>∃s85 b86,(r83=.tup []∧q84=[.box [nS s85,nB b86]])∧
     callX 43 [.ptr 0 0,nS (⟨#[91]⟩:ByteArray)] [.box [nS s85,nB b86]] fun r87 q88=>∃s89 b90,(r87=.tup []∧q88=[.box [nS s89,nB b90]])∧
     vc10_L23 ((ls.map Lem.enc,(),(k:Int),(j:Int),(),0,()),((s89,b90,()),(l.steps[j].eq,l.steps[j].back,encInts l.steps[j].path,l.steps[j].sub.map spEnc,()),())) again2:=fun w hw1 hw2=>by
    refine⟨_,xput_calls (w:=w) u e (by omega),fun r q ⟨u1,c1,q1,q2,y1⟩=>⟨_,_,⟨q1,q2⟩,?_⟩⟩
    have hz1:=y1.size
    refine⟨_,xnum0_calls hs.eq u1 c1 (by omega),fun r q ⟨u2,c2,q1,q2,y2⟩=>⟨_,_,⟨q1,q2⟩,?_⟩⟩
    have hz2:=y2.size
    refine⟨_,xput_calls (w:=lbW) u2 c2 (by rw[sz1];omega),fun r q ⟨u3,c3,q1,q2,y3⟩=>⟨_,_,⟨q1,q2⟩,?_⟩⟩
    have hy:=((y1.app y2).app y3).mono (c':=38) (by rw[sz1];omega)
    rw[Bool.true_and,Bool.and_true] at hy
    exact xsteps_rest hs hw1 (by omega) hy (fin w hw2)
   refine ITE.intro (fun h3=>three bkW (by decide) (by rw[if_pos h3])) fun h3=>three onW (by decide) (by rw[if_neg (by rw[h3];decide)])
  ·have hge:l.steps.length≤j:=by have:=of_decide_eq_false h2;omega
   obtain rfl:j=l.steps.length:=by omega
   rw[List.take_length] at hxu hzu
   refine⟨_,xput_calls (w:=rcW) u e (by rw[sz1];omega),fun r q ⟨u1,c1,q1,q2,y1⟩=>⟨_,_,⟨q1,q2⟩,?_⟩⟩
   have hz1:=y1.size
   rw[sz1] at hz1
   refine⟨_,xput_calls (w:=smW) u1 c1 (by rw[sz1];omega),fun r q ⟨u2,c2,q1,q2,y2⟩=>⟨_,_,⟨q1,q2⟩,?_⟩⟩
   have hz2:=y2.size
   rw[sz1] at hz2
   refine⟨by rw[sz1];omega,hend ?_⟩
   have:=((hxu.app y1).app y2).mono (c':=leW l-1) (by rw[sz1,sz1];omega)
   rw[leOk,leTok]
   simpa [Bool.and_assoc] using this
 ·have hge:ls.length≤k:=by have:=of_decide_eq_false h1;omega
  obtain rfl:k=ls.length:=by omega
  rw[List.take_length] at hc hT
  cases hall:ls.all leOk
  ·rw[hall] at hc
   exact ITE.pos hc rfl
  ·rw[hall] at hc
   have hc:c=false:=hc
   refine ITE.neg hc ?_
   rw[hT hc,if_pos rfl]
end Go.Proofs.YtjhanogfpkbamaaGreatDoor

namespace Go.Proofs.YtjhanogfpkbamaaGreatDoor
open Go
set_option linter.unusedSimpArgs false
set_option linter.unusedVariables false
structure Stp.Num (s:Stp):Prop where
 eq:I64 s.eq
 path:∀i∈s.path,I64 i
 sub:∀p∈s.sub,I64 p.1∧p.2.Full
structure Lem.Num (l:Lem):Prop where
 left:l.left.Full
 right:l.right.Full
 metas:∀t∈l.metas,t.Ok
 steps:∀s∈l.steps,s.Num
theorem Lem.Num.cut {l:Lem} (h:l.Num) (hf:l.Few):l.cut.Ok:=by
 refine⟨h.left,h.right,Nat.le_trans hf.left (by decide),Nat.le_trans hf.right (by decide),fun t ht=>⟨h.metas t ht,Nat.le_trans (hf.metas t ht) (by decide)⟩,fun s hs=>?_⟩
 obtain⟨s0,h0,rfl⟩:=List.mem_map.1 hs
 have hn:=h.steps s0 (List.mem_of_mem_take h0)
 exact⟨hn.eq,hn.path,fun p hp=>⟨(hn.sub p (List.mem_of_mem_take hp)).1,(hn.sub p (List.mem_of_mem_take hp)).2,Nat.le_trans ((hf.steps s0 h0).1 p hp) (by decide)⟩⟩
theorem sumB_bd {α:Type} {f:α→Nat} {c:Nat}:∀{l:List α},(∀x∈l,f x≤c)→sumB f l≤l.length*c
 | [],_=>Nat.zero_le _
 |x::l,h=>by
  have h1:=h x List.mem_cons_self
  have h2:=sumB_bd (l:=l) fun y hy=>h y (List.mem_cons_of_mem _ hy)
  rw[sumB,List.length_cons,Nat.succ_mul];omega
theorem Lem.Cut.wt {l:Lem} (h:l.Cut):leW l≤1000000:=by
 have h1:sumB tyW l.metas≤20*3000:=Nat.le_trans (sumB_bd (c:=3000) fun t ht=>by have:=h.few.metas t ht;unfold tyW;omega) (Nat.mul_le_mul_right _ h.few.ml)
 have h2:sumB stW l.steps≤8*80000:=Nat.le_trans (sumB_bd (c:=80000) fun s hs=>by
  have hs':=h.sub hs
  have h3:sumB spW s.sub≤10*7540:=Nat.le_trans (sumB_bd (c:=7540) fun p hp=>by have:=hs'.1 p hp;unfold spW;omega) (Nat.mul_le_mul_right _ (h.subs s hs))
  have:=hs'.2
  unfold stW;omega) (Nat.mul_le_mul_right _ h.sl)
 have:=h.few.left
 have:=h.few.right
 unfold leW;omega
theorem cutL_wt {ls:List Lem} (h:∀l∈cutL ls,l.Cut):sumB leW (cutL ls)≤100000000:=
 Nat.le_trans (Nat.le_trans (sumB_bd (c:=1000000) fun l hl=>(h l hl).wt) (Nat.mul_le_mul_right _ (cutL_len ls))) (by decide)
theorem Lem.Cut.sz {l:Lem} (h:l.Cut):l.Sz:=
 ⟨Nat.le_trans h.few.left (by decide),Nat.le_trans h.few.right (by decide),Nat.le_trans h.few.tys (by decide),Nat.le_trans h.sl (by decide),fun s hs=>⟨Nat.le_trans (h.sub hs).2 (by decide),Nat.le_trans (h.subs s hs) (by decide),fun p hp=>Nat.le_trans ((h.sub hs).1 p hp) (by decide)⟩⟩
theorem ProofEncodes_calls {ls:List Lem} (hn:∀l∈ls,l.Num):PureIs Tryz.prog 3 [.sl (ls.map Lem.enc)] (nB true):=by
 refine vc3_ok ⟨_,lesFew_calls,ITE.intro (fun c=>⟨_,known26_calls,rfl⟩) fun c=>?_⟩
 have hall:(ls.take 6).all leFew=true:=by simpa only[Bool.not_eq_false'] using c
 have hf:∀x∈ls.take 6,x.Few:=fun x hx=>leFew_few (List.all_eq_true.1 hall x hx)
 have hc:=cutL_cut hf
 have hok:∀l∈cutL ls,l.Ok:=fun l hl=>by
  obtain⟨l0,h0,rfl⟩:=List.mem_map.1 hl
  exact(hn l0 (List.mem_of_mem_take h0)).cut (hf l0 h0)
 have hb:=cutL_wt hc
 have hlen:=cutL_len ls
 have hto:=lesTo_calls hf
 generalize cutL ls=l at hc hok hb hlen hto
 have he:=Encode_calls hok hb
 have hx:=xEncode_calls hok hb
 have hof:=lesOf_calls hlen hc
 have hq:=certEq_calls (l:=l) (m:=l) (by omega) fun s hs=>(hc s hs).sz
 rw[eqL_self leEq_self] at hq
 by_cases ha:l.all leOk=true
 ·have hd:=Decode_back ha hok hb
  rw[shown,ha] at he
  rw[ha] at hx
  refine⟨_,hto,_,_,he,_,hof,_,_,hx,ITE.neg rfl ?_⟩
  by_cases hz:(encTs ⟨#[]⟩ l).size>20000
  ·rw[if_pos hz] at hd
   exact⟨_,_,_,_,_,hd,_,known26_calls,ITE.neg rfl (ITE.neg rfl (ITE.neg (by rw[strEq_iff,decide_eq_true (by rfl)];rfl) (ITE.pos (decide_eq_true (by show ((encTs ⟨#[]⟩ l).size:Int)>20000;omega)) rfl)))⟩
  ·rw[if_neg hz] at hd
   exact⟨_,_,_,_,_,hd,_,known26_calls,ITE.neg rfl (ITE.neg rfl (ITE.neg (by rw[strEq_iff,decide_eq_true (by rfl)];rfl) (ITE.neg (decide_eq_false (by show ¬((encTs ⟨#[]⟩ l).size:Int)>20000;omega)) (ITE.pos rfl ⟨_,hq,rfl⟩))))⟩
 ·have ha':l.all leOk=false:=by simpa using ha
  rw[shown,ha'] at he
  rw[ha'] at hx
  exact⟨_,hto,_,_,he,_,hof,_,_,hx,ITE.pos rfl ⟨_,known26_calls,ITE.pos rfl (ITE.pos rfl (by rw[strEq_iff];exact congrArg nB (decide_eq_true rfl)))⟩⟩
end Go.Proofs.YtjhanogfpkbamaaGreatDoor
