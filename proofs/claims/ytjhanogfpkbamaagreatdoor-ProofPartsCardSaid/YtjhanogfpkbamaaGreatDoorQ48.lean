/- Texts of ours laid together for a claim: P1K P1L P1M P1N P1X. -/
import Derived.KernelRfl
import Derived.Test.YtjhanogfpkbamaaGreatDoorQ47
namespace Go.Proofs.YtjhanogfpkbamaaGreatDoor
open Go
set_option linter.unusedSimpArgs false
set_option linter.unusedVariables false
variable {L:List Tk} {s w:ByteArray} {i:Nat} {u v:List ByteArray} {T:List Tx} {f:Fa}
theorem flat_one {α:Type} (g:α→ByteArray) (l:List α):l.flatMap (fun x=>[g x])=l.map g:=by
 induction l with
 |nil=>rfl
 |cons x l ih=>rw[List.flatMap_cons,ih];rfl
theorem dterm0_calls (h:PE L s) {t:Tm} (hok:okTm 60 t=true) (hz:t.size≤1000000) {j:Nat} (hj:j≤L.length) (hat:At L j (tokTm 60 t) T) (hn:Nxt opW T):
  HFn Tryz.prog 96 [.ptr 1 0,nI 0] (D2 L s j noFa) (fun r q=>r=.agg (tmC t)∧q=D2 L s (j+(tokTm 60 t).length) noFa):=by
 have:=dterm_calls h 60 t (Nat.le_refl _) hok hz j T hj hat hn
 rwa [Tm.enc_eq] at this
theorem dpair_calls (h:PE L s) {p:Int×Tm} (hok:spOk p=true) (hp:SpOk p) {j:Nat} (hj:j≤L.length) (hat:At L j (spTok p) T):
  HFn Tryz.prog 136 [.ptr 2 0] (D3 L s j noFa) (fun r q=>r=spEnc p∧q=D3 L s (j+(spTok p).length) noFa):=by
 rw[spOk,Bool.and_eq_true] at hok
 have h1:=hat.tail
 have h2:At L (j+1+1) (tokTm 60 p.2++[cmW]) T:=At.tail (w:=clnW) h1
 have h3:=h2.next
 have ht:=dterm0_calls h hok.2 hp.size (by have:=h1.lt;omega) h2.app (nxt_cons (by decide))
 have m1:=dmust_calls h (ws:=[clnW]) (by decide) (by decide) (show At L (j+1) ([clnW]++(tokTm 60 p.2++[cmW])) T from h1) (by have:=h1.lt;omega)
 have m2:=dmust_calls h (ws:=[cmW]) (u:=[]) (by decide) (by decide) (by simpa using h3) (by have:=h3.lt;omega)
 have e:j+1+1+(tokTm 60 p.2).length+1=j+(spTok p).length:=by simp[spTok];omega
 refine vc136_ok ⟨_,dnum_calls h hok.1 hat,fun r q ⟨e1,e2⟩=>⟨_,_,_,_,_,_,_,_,⟨e1,e2⟩,_,m1,fun r q ⟨e1,e2⟩=>⟨_,_,_,_,_,_,_,⟨e1,e2⟩,_,ht,fun r q ⟨e1,e2⟩=>⟨_,_,_,_,_,_,_,_,_,_,_,⟨e1,e2⟩,
  _,m2,fun r q ⟨e1,e2⟩=>⟨_,_,_,_,_,_,_,⟨e1,e2⟩,rfl,?_⟩⟩⟩⟩⟩
 rw[←e];rfl
theorem dstep_calls (h:PE L s) {x:Stp} (hok:stOk x=true) (hx:x.Ok) {j:Nat} (hj:j≤L.length) (hat:At L j (stTok x) T):
  HFn Tryz.prog 98 [.ptr 1 0] (D2 L s j noFa) (fun r q=>r=x.enc∧q=D2 L s (j+(stTok x).length) noFa):=by
 have hL:=h.len
 have hle:=At.le hj hat
 rw[stOk,Bool.and_eq_true,Bool.and_eq_true] at hok
 obtain⟨ok1,ok2,ok3⟩:=hok
 have hp:=List.all_eq_true.1 ok2
 have hs:=List.all_eq_true.1 ok3
 have hlen:(stTok x).length=3+(x.path.length+(2+((x.sub.flatMap spTok).length+2))):=by simp[stTok];omega
 rw[hlen] at hle ⊢
 have hsub:x.sub.length≤(x.sub.flatMap spTok).length:=by
  generalize x.sub=l
  induction l with
  |nil=>exact Nat.zero_le _
  |cons p l ih=>rw[List.flatMap_cons,List.length_append,List.length_cons,spTok,List.length_cons];omega
 unfold stTok at hat
 have h1:At L j ((if x.back=true then bkW else onW)::numW x.eq::lbW::(x.path.map numW++([rbW,lcW]++(x.sub.flatMap spTok++[rcW,smW])))) T:=hat
 have h2:=h1.tail
 have h3:=h2.tail
 have h4:=h3.tail
 have h5:At L (j+1+1+1) (x.path.flatMap (fun i=>[numW i])++[rbW]) (([lcW]++(x.sub.flatMap spTok++[rcW,smW])).map txB++T):=by
  rw[flat_one]
  exact At.app (u:=x.path.map numW++[rbW]) (v:=[lcW]++(x.sub.flatMap spTok++[rcW,smW])) (by simpa using h4)
 have h6:At L (j+1+1+1+x.path.length+1) ([lcW]++(x.sub.flatMap spTok++[rcW,smW])) T:=by
  have:=At.next (u:=x.path.map numW++[rbW]) (v:=[lcW]++(x.sub.flatMap spTok++[rcW,smW])) (i:=j+1+1+1) (T:=T) (L:=L) (by simpa using h4)
  rwa [List.length_append,List.length_map,List.length_singleton,show j+1+1+1+(x.path.length+1)=j+1+1+1+x.path.length+1 by omega] at this
 have h7:=At.tail (w:=lcW) h6
 have h7:At L (j+1+1+1+x.path.length+1+1) ((x.sub.flatMap spTok++[rcW])++[smW]) T:=by simpa using h7
 have h8:=h7.next
 rw[List.length_append,List.length_singleton] at h8
 have un:=untilN_calls (l:=x.path) (tok:=fun i=>[numW i]) (G:=fun _=>True) (ew:=rbW) (b:=false) h (by omega) (fun e=>by cases e) (by decide)
  (fun y hy k T' hk hatk _=>dnum_calls h (hp y hy) hatk) (fun _ _ _=>True.intro) (fun _=>True.intro) (fun y hy=>⟨_,_,rfl,word_ne (num_nxt (hp y hy) rfl)⟩) h5 (by have:=h3.lt;omega)
 have up:=untilP_calls (l:=x.sub) (tok:=spTok) (G:=fun _=>True) (ew:=rcW) (b:=false) h (by omega) (fun e=>by cases e) (by decide)
  (fun y hy k T' hk hatk _=>dpair_calls h (hs y hy) (hx.sub y hy) hk hatk) (fun _ _ _=>True.intro) (fun _=>True.intro)
  (fun y hy=>⟨_,_,rfl,word_ne (num_nxt (by have:=hs y hy;rw[spOk,Bool.and_eq_true] at this;exact this.1) rfl)⟩) h7.app (by have:=h6.lt;omega)
 rw[flat_one,List.length_map] at un
 have m3:=dmust_calls h (ws:=[lcW]) (by decide) (by decide) h6 (by have:=h6.lt;omega)
 have m4:=dmust_calls h (ws:=[smW]) (u:=[]) (by decide) (by decide) (show At L _ ([smW]++[]) T from h8) (by have:=h8.lt;omega)
 have m2:=dmust_calls h (ws:=[lbW]) (i:=j+1+1) (by decide) (by decide) (show At L (j+1+1) ([lbW]++_) T from h3) (by have:=h3.lt;omega)
 have e:j+1+1+1+x.path.length+1+1+((x.sub.flatMap spTok).length+1)+1=j+(3+(x.path.length+(2+((x.sub.flatMap spTok).length+2)))):=by omega
 have dn:=dnum_calls h ok1 h2
 unfold Stp.enc
 have fin:vc98_R9 (L.map tkEnc) s ((j+1+1+1+x.path.length+1+1:Nat):Int) 0 0 0 ⟨#[]⟩ (fun r q=>r=.agg [nI x.eq,nB x.back,.sl (encInts x.path),.sl (x.sub.map spEnc)]∧q=D2 L s (j+(3+(x.path.length+(2+((x.sub.flatMap spTok).length+2))))) noFa) x.eq x.back (encInts x.path):=by
  rw[←e]
  exact⟨_,up,fun r q ⟨e1,e2⟩=>⟨_,_,_,_,_,_,_,_,⟨e1,e2⟩,_,m4,fun r q ⟨e1,e2⟩=>⟨_,_,_,_,_,_,_,⟨e1,e2⟩,rfl,rfl⟩⟩⟩
 cases hb:x.back
 ·rw[hb] at h1 fin
  have m1:=dmust_calls h (ws:=[onW]) (by decide) (by decide) (show At L j ([onW]++_) T from h1) hj
  refine vc98_ok ⟨_,dis_no h hj (h1.not (by decide)),fun r q ⟨e1,e2⟩=>⟨_,_,_,_,_,_,_,_,⟨e1,e2⟩,ITE.pos rfl ⟨_,m1,fun r q ⟨e1,e2⟩=>⟨_,_,_,_,_,_,_,⟨e1,e2⟩,_,dn,fun r q ⟨e1,e2⟩=>⟨_,_,_,_,_,_,_,_,⟨e1,e2⟩,
   _,m2,fun r q ⟨e1,e2⟩=>⟨_,_,_,_,_,_,_,⟨e1,e2⟩,_,un,fun r q ⟨e1,e2⟩=>⟨_,_,_,_,_,_,_,_,⟨e1,e2⟩,_,m3,fun r q ⟨e1,e2⟩=>⟨_,_,_,_,_,_,_,⟨e1,e2⟩,fin⟩⟩⟩⟩⟩⟩⟩⟩
 ·rw[hb] at h1 fin
  refine vc98_ok ⟨_,dis_yes h h1 (by decide),fun r q ⟨e1,e2⟩=>⟨_,_,_,_,_,_,_,_,⟨e1,e2⟩,ITE.neg rfl ⟨_,dn,fun r q ⟨e1,e2⟩=>⟨_,_,_,_,_,_,_,_,⟨e1,e2⟩,
   _,m2,fun r q ⟨e1,e2⟩=>⟨_,_,_,_,_,_,_,⟨e1,e2⟩,_,un,fun r q ⟨e1,e2⟩=>⟨_,_,_,_,_,_,_,_,⟨e1,e2⟩,_,m3,fun r q ⟨e1,e2⟩=>⟨_,_,_,_,_,_,_,⟨e1,e2⟩,fin⟩⟩⟩⟩⟩⟩⟩
end Go.Proofs.YtjhanogfpkbamaaGreatDoor

namespace Go.Proofs.YtjhanogfpkbamaaGreatDoor
open Go
set_option linter.unusedSimpArgs false
set_option linter.unusedVariables false
variable {L:List Tk} {s w:ByteArray} {i:Nat} {u v:List ByteArray} {T:List Tx} {f:Fa}
theorem len_flat {α:Type} {g:α→List ByteArray} (hg:∀x,1≤(g x).length):∀{l:List α},l.length≤(l.flatMap g).length
 | []=>Nat.zero_le _
 |x::l=>by have:=hg x;have:=len_flat (g:=g) hg (l:=l);rw[List.flatMap_cons,List.length_append,List.length_cons];omega
theorem len_flatM {α:Type} {g:α→List ByteArray}:∀{l:List α},(∀x∈l,1≤(g x).length)→l.length≤(l.flatMap g).length
 | [],_=>Nat.zero_le _
 |x::l,h=>by
  have h1:=h x List.mem_cons_self
  have h2:=len_flatM (g:=g) (l:=l) fun y hy=>h y (List.mem_cons_of_mem _ hy)
  rw[List.flatMap_cons,List.length_append,List.length_cons];omega
theorem stTok_first (x:Stp):∃w u,stTok x=w::u∧w≠rcW:=by
 refine⟨_,_,rfl,?_⟩
 split<;>decide
theorem dlemma_calls (h:PE L s) {x:Lem} (hok:leOk x=true) (hx:x.Ok) {j:Nat} (hj:j≤L.length) (hat:At L j (leTok x) T):
  HFn Tryz.prog 51 [.ptr 1 0] (D2 L s j noFa) (fun r q=>r=x.enc∧q=D2 L s (j+(leTok x).length) noFa):=by
 have hL:=h.len
 have hle:=At.le hj hat
 rw[leOk,Bool.and_eq_true,Bool.and_eq_true,Bool.and_eq_true] at hok
 obtain⟨ok1,ok2,ok3,ok4⟩:=hok
 have hm:=List.all_eq_true.1 ok1
 have hs:=List.all_eq_true.1 ok4
 have hlen:(leTok x).length=2+((x.metas.flatMap (tokTy 60)).length+(1+((tokTm 60 x.left).length+(1+((tokTm 60 x.right).length+(1+((x.steps.flatMap stTok).length+2))))))):=by
  unfold leTok
  simp only[List.length_append,List.length_cons,List.length_nil]
 rw[hlen] at hle ⊢
 have hml:x.metas.length≤(x.metas.flatMap (tokTy 60)).length:=len_flatM fun t ht=>by
  obtain⟨n,u,e,_⟩:=tokTy_cons (hm t ht)
  rw[e];simp
 have hsl:x.steps.length≤(x.steps.flatMap stTok).length:=len_flatM fun t ht=>by
  obtain⟨w,u,e,_⟩:=stTok_first t
  rw[e];simp
 unfold leTok at hat
 have h1:At L j ([lemW,lbW]++(x.metas.flatMap (tokTy 60)++([rbW]++(tokTm 60 x.left++([eqlW]++(tokTm 60 x.right++([lcW]++(x.steps.flatMap stTok++[rcW,smW])))))))) T:=hat
 have h2:=h1.next
 have h3:At L (j+2) (x.metas.flatMap (tokTy 60)++[rbW]) ((tokTm 60 x.left++([eqlW]++(tokTm 60 x.right++([lcW]++(x.steps.flatMap stTok++[rcW,smW]))))).map txB++T):=
  At.app (u:=x.metas.flatMap (tokTy 60)++[rbW]) (by rw[List.append_assoc];exact h2)
 have h4:At L (j+2+(x.metas.flatMap (tokTy 60)).length+1) (tokTm 60 x.left++([eqlW]++(tokTm 60 x.right++([lcW]++(x.steps.flatMap stTok++[rcW,smW]))))) T:=by
  have:=At.next (u:=x.metas.flatMap (tokTy 60)++[rbW]) (v:=tokTm 60 x.left++([eqlW]++(tokTm 60 x.right++([lcW]++(x.steps.flatMap stTok++[rcW,smW]))))) (i:=j+2) (T:=T) (L:=L) (by rw[List.append_assoc];exact h2)
  rwa [List.length_append,List.length_singleton,←Nat.add_assoc] at this
 have h5:=h4.next
 have h6:=At.next (u:=[eqlW]) h5
 rw[List.length_singleton] at h6
 have h7:=h6.next
 have h8:=At.next (u:=[lcW]) h7
 rw[List.length_singleton] at h8
 generalize hA:j+2+(x.metas.flatMap (tokTy 60)).length+1=A at h4 h5 h6 h7 h8
 generalize hB:A+(tokTm 60 x.left).length=B at h5 h6 h7 h8
 generalize hC:B+1+(tokTm 60 x.right).length=C at h7 h8
 have h9:At L (C+1) (x.steps.flatMap stTok++[rcW]) ([smW].map txB++T):=At.app (u:=x.steps.flatMap stTok++[rcW]) (by rw[List.append_assoc];exact h8)
 have h10:At L (C+1+(x.steps.flatMap stTok).length+1) ([smW]++[]) T:=by
  have:=At.next (u:=x.steps.flatMap stTok++[rcW]) (v:=[smW]) (i:=C+1) (T:=T) (L:=L) (by rw[List.append_assoc];exact h8)
  rwa [List.length_append,List.length_singleton,←Nat.add_assoc] at this
 have um:=untilM_calls (l:=x.metas) (tok:=tokTy 60) (G:=Nxt lbW) (ew:=rbW) (b:=false) h (by omega) (fun e=>by cases e) (by decide)
  (fun t ht k T' hk hatk hG=>by
   have hr:=dtyp_calls h 60 t (Nat.le_refl _) (hm t ht) (hx.metas t ht).2 k T' hk hatk hG
   rw[Ty.enc_eq] at hr ⊢
   exact vc94_ok ⟨_,hr,fun r q ⟨e1,e2⟩=>⟨_,_,_,_,_,_,_,_,_,⟨e1,e2⟩,rfl,rfl⟩⟩)
  (fun t ht T'=>ty_nxt (hm t ht) rfl) (fun T'=>nxt_cons (by decide)) (fun t ht=>ty_ne (hm t ht) rfl) h3 (by omega)
 rw[hA] at um
 have us:=untilS_calls (l:=x.steps) (tok:=stTok) (G:=fun _=>True) (ew:=rcW) (b:=false) h (by omega) (fun e=>by cases e) (by decide)
  (fun y hy k T' hk hatk _=>dstep_calls h (hs y hy) (hx.steps y hy) hk hatk) (fun _ _ _=>True.intro) (fun _=>True.intro) (fun y hy=>stTok_first y) h9 (by omega)
 have dl:=dterm0_calls h ok2 hx.lsize (by omega) h4.app (nxt_cons (by decide))
 rw[hB] at dl
 have dr:=dterm0_calls h ok3 hx.rsize (by omega) h6.app (nxt_cons (by decide))
 rw[hC] at dr
 have m1:=dmust_calls h (ws:=[lemW,lbW]) (by decide) (by decide) h1 hj
 have m2:=dmust_calls h (ws:=[eqlW]) (by decide) (by decide) h5 (by omega)
 have m3:=dmust_calls h (ws:=[lcW]) (by decide) (by decide) h7 (by omega)
 have m4:=dmust_calls h (ws:=[smW]) (by decide) (by decide) h10 (by omega)
 have e:C+1+(x.steps.flatMap stTok).length+1+[smW].length=j+(2+((x.metas.flatMap (tokTy 60)).length+(1+((tokTm 60 x.left).length+(1+((tokTm 60 x.right).length+(1+((x.steps.flatMap stTok).length+2))))))) ):=by
  rw[List.length_singleton];omega
 unfold Lem.enc
 refine vc51_ok ⟨_,m1,fun r q ⟨e1,e2⟩=>⟨_,_,_,_,_,_,_,⟨e1,e2⟩,_,um,fun r q ⟨e1,e2⟩=>⟨_,_,_,_,_,_,_,_,⟨e1,e2⟩,_,dl,fun r q ⟨e1,e2⟩=>⟨_,_,_,_,_,_,_,_,_,_,_,⟨e1,e2⟩,
  _,m2,fun r q ⟨e1,e2⟩=>⟨_,_,_,_,_,_,_,⟨e1,e2⟩,_,dr,fun r q ⟨e1,e2⟩=>⟨_,_,_,_,_,_,_,_,_,_,_,⟨e1,e2⟩,_,m3,fun r q ⟨e1,e2⟩=>⟨_,_,_,_,_,_,_,⟨e1,e2⟩,_,us,fun r q ⟨e1,e2⟩=>⟨_,_,_,_,_,_,_,_,⟨e1,e2⟩,
  _,m4,fun r q ⟨e1,e2⟩=>⟨_,_,_,_,_,_,_,⟨e1,e2⟩,rfl,?_⟩⟩⟩⟩⟩⟩⟩⟩⟩
 rw[e]
theorem Decode_calls {ls:List Lem} (hsp:splitP s=(L,noFa)) (h:PE L s) (hok:ls.all leOk=true) (hls:∀l∈ls,l.Ok) (hat:At L 0 (ls.flatMap leTok) []):
  PureIs Tryz.prog 12 [nS s] (.tup [.agg [.sl (ls.map Lem.enc)],.agg (faC noFa)]):=by
 have hL:=h.len
 have hle:=At.le (Nat.zero_le _) hat
 have hall:=List.all_eq_true.1 hok
 have hlen:ls.length≤(ls.flatMap leTok).length:=len_flatM fun t ht=>by unfold leTok;simp
 have hsc:=lexSplit_calls h.size
 rw[hsp] at hsc
 have hend:L.length=(ls.flatMap leTok).length:=by
  have:=congrArg List.length hat
  simpa using this
 refine vc12_ok ⟨_,_,_,_,_,hsc,ITE.neg rfl ⟨_,rnew_calls hL,fun r q ⟨e1,e2⟩=>⟨_,_,_,⟨e1,e2⟩,rfl,?_⟩⟩⟩
 refine LoopP.intro (fun k:Nat=>(((),(),(),(),()),(((),()),(0,0,0,⟨#[]⟩,()),(0,0,0,⟨#[]⟩,()),(L.map tkEnc,s,((((ls.take k).flatMap leTok).length:Nat):Int),()),((),0,0,0,⟨#[]⟩,()),((),()),(ls.take k).map Lem.enc,())))
  (fun k=>k≤ls.length) (fun k=>ls.length-k) 0 rfl (Nat.zero_le _) ?_
 intro k hk again hag
 dsimp only
 have hat0:At L 0 ((ls.take k).flatMap leTok++(ls.drop k).flatMap leTok) []:=by
  rw[←List.flatMap_append,List.take_append_drop];exact hat
 have hatk:=hat0.next
 rw[Nat.zero_add] at hatk
 have hPl:((ls.take k).flatMap leTok).length≤L.length:=by have:=At.le (Nat.zero_le _) hat0.app;omega
 generalize hP:((ls.take k).flatMap leTok).length=P at hatk hPl ⊢
 refine⟨_,dok_calls (f:=noFa),fun r q ⟨e1,e2⟩=>⟨_,_,_,_,_,_,_,_,⟨e1,e2⟩,ITE.pos rfl ⟨_,peek_calls h hPl,fun r q ⟨e1,e2⟩=>⟨_,_,_,_,_,_,⟨e1,e2⟩,?_⟩⟩⟩⟩
 by_cases hlt:k<ls.length
 ·have hmem:=List.getElem_mem hlt
  rw[List.drop_eq_getElem_cons hlt,List.flatMap_cons] at hatk
  have hPlt:P<L.length:=by
   have:=At.le hPl hatk.app
   have:1≤(leTok ls[k]).length:=by unfold leTok;simp
   omega
  have hkind:((pk L s P).1 != 4)=true:=by rw[pk_lt hPlt,bne_iff_ne];exact h.kind _ (List.getElem_mem hPlt)
  have hr:=dlemma_calls h (hall _ hmem) (hls _ hmem) hPl hatk.app
  unfold Lem.enc at hr
  have hag2:=hag (k+1) hlt (by omega)
  have e1:(ls.take k).map Lem.enc++[.agg [.sl (ls[k].left.binds.map Ty.enc),nI ls[k].left.kind,nI ls[k].left.index,.sl (ls[k].left.args.map Tm.enc),.sl (ls[k].right.binds.map Ty.enc),nI ls[k].right.kind,nI ls[k].right.index,.sl (ls[k].right.args.map Tm.enc),.sl (ls[k].metas.map Ty.enc),.sl (ls[k].steps.map Stp.enc)]]=(ls.take (k+1)).map Lem.enc:=by
   rw[←take_snoc' hlt,List.map_append];rfl
  have e2:P+(leTok ls[k]).length=((ls.take (k+1)).flatMap leTok).length:=by rw[flatM_take _ hlt,List.length_append,←hP]
  rw[←e1,←e2] at hag2
  have key:vc12_L7 (L.map tkEnc) s (P:Int) 0 0 0 ⟨#[]⟩ (List.length ((ls.take k).map Lem.enc)) ((ls.take k).map Lem.enc) again 0 0 0 ⟨#[]⟩ 0 0 0 ⟨#[]⟩:=
   ⟨_,hr,fun r q ⟨e1,e2⟩=>⟨_,_,_,_,_,_,_,_,_,_,_,_,_,_,_,_,_,⟨e1,e2⟩,rfl,appOk_one rfl (by rw[List.length_append,List.length_map,List.length_take];simp;omega) (by decide),rfl,hag2⟩⟩
  exact ITE.pos hkind ⟨key,key⟩
 ·obtain rfl:k=ls.length:=by omega
  rw[List.take_length] at hP ⊢
  have hPe:P=L.length:=by omega
  have hkind:((pk L s P).1 != 4)=false:=by rw[pk_ge (by omega)];rfl
  exact ITE.neg hkind ⟨_,dok_calls (f:=noFa),fun r q ⟨e1,e2⟩=>⟨_,_,_,_,_,_,_,_,⟨e1,e2⟩,ITE.neg rfl ⟨rfl,rfl⟩⟩⟩
end Go.Proofs.YtjhanogfpkbamaaGreatDoor

namespace Go.Proofs.YtjhanogfpkbamaaGreatDoor
open Go
set_option linter.unusedSimpArgs false
set_option linter.unusedVariables false
theorem endsNL_iff {t:ByteArray}:endsNL t=true↔(bytesI t).getLast?=some 10:=by
 have hl:=bytesI_len t
 have e10:bytesI (⟨#[10]⟩:ByteArray)=[10]:=rfl
 unfold endsNL
 rw[decide_eq_true_iff]
 have key:(t.extract (t.size-1) t.size=(⟨#[10]⟩:ByteArray))↔((bytesI t).drop (t.size-1)).take (t.size-(t.size-1))=[10]:=by
  rw[←bytesI_extract,←e10]
  exact⟨fun h=>by rw[h],bytesI_inj⟩
 rw[key,←hl]
 rcases List.eq_nil_or_concat (bytesI t) with hb|⟨l,c,hb⟩
 ·rw[hb];simp
 ·rw[hb,List.concat_eq_append,List.length_append,List.length_singleton,Nat.add_sub_cancel,List.drop_left,List.getLast?_append]
  have:l.length+1-l.length=1:=by omega
  rw[this]
  simp
theorem last_app {a b:ByteArray} (h:bytesI b≠[]):(bytesI (a++b)).getLast?=(bytesI b).getLast?:=by
 rw[bytesI_app,List.getLast?_append]
 cases hb:(bytesI b).getLast? with
 |none=>rw[List.getLast?_eq_none_iff] at hb;exact(h hb).elim
 |some c=>rfl
structure TkW (w:ByteArray):Prop where
 lex:Lex w [txB w]
 ne:bytesI w≠[]
 last:(bytesI w).getLast?≠some 10
structure Wr (t:ByteArray) (U:List Tx):Prop where
 lex:Lex t U
 fresh:(!decide (t=(⟨#[]⟩:ByteArray))&&!endsNL t)=false→LexB t U
theorem Wr.put {t w:ByteArray} {U:List Tx} (h:Wr t U) (hw:TkW w):Wr (put1 t w) (U++[txB w]):=by
 have hne:put1 t w≠(⟨#[]⟩:ByteArray):=fun e=>by
  have:=congrArg bytesI e
  unfold put1 at this
  rw[bytesI_app] at this
  exact hw.ne (List.append_eq_nil_iff.1 this).2
 have hnl:endsNL (put1 t w)=false:=by
  rw[Bool.eq_false_iff]
  intro e
  rw[endsNL_iff] at e
  unfold put1 at e
  rw[last_app hw.ne] at e
  exact hw.last e
 refine⟨?_,fun e=>by rw[hnl,decide_eq_false hne] at e;cases e⟩
 unfold put1
 cases hf:(!decide (t=(⟨#[]⟩:ByteArray))&&!endsNL t) with
 |true=>
  rw[if_pos rfl]
  intro r T hr hx
  rw[bytesI_app,bytesI_app,List.append_assoc,List.append_assoc,List.append_assoc]
  exact h.lex _ _ (ni_cons (by decide)) (Lx.blank (.inl rfl) (hw.lex r T hr hx))
 |false=>
  rw[if_neg (by decide)]
  exact(h.fresh hf).app hw.lex
theorem Wr.puts {t:ByteArray}:∀{ws:List ByteArray} {t:ByteArray} {U:List Tx},Wr t U→(∀w∈ws,TkW w)→Wr (puts t ws) (U++ws.map txB)
 | [],t,U,h,_=>by rw[List.map_nil,List.append_nil];exact h
 |w::ws,t,U,h,hw=>by
  have:=Wr.puts (t:=t) (ws:=ws) (h.put (hw w List.mem_cons_self)) fun x hx=>hw x (List.mem_cons_of_mem _ hx)
  rw[List.append_assoc] at this
  exact this
theorem Wr.line {t:ByteArray} {U:List Tx} (h:Wr t U):Wr (t++nlW) U:=by
 have hb:LexB (t++nlW) U:=fun r T hx=>by
  rw[bytesI_app,List.append_assoc]
  exact h.lex _ _ (ni_cons (by decide)) (Lx.blank (.inr rfl) hx)
 exact⟨hb.lex,fun _=>hb⟩
theorem wr_nil:Wr (⟨#[]⟩:ByteArray) []:=⟨lexB_nil.lex,fun _=>lexB_nil⟩
theorem Wr.split {t:ByteArray} {U:List Tx} (h:Wr t U) (hz:t.size≤20000):∃L:List Tk,splitP t=(L,noFa)∧L.map txOf=U:=by
 refine splitP_lx ?_ hz
 have:=h.lex [] [] ni_nil (Lx.nil rfl)
 rwa [List.append_nil,List.append_nil] at this
theorem sgn_ok {w:ByteArray} {c:Int} (hb:bytesI w=[c]) (hc:c∈[40,41,92,46,59,58,61,62,44,91,93,123,125]):TkW w:=by
 have hk:kindB w=3:=by
  unfold kindB
  rw[hb]
  simp only[List.mem_cons,List.not_mem_nil,or_false] at hc
  rcases hc with rfl|rfl|rfl|rfl|rfl|rfl|rfl|rfl|rfl|rfl|rfl|rfl|rfl<;>rfl
 refine⟨fun r T _ hx=>?_,by rw[hb];simp,by rw[hb];intro e;simp at e;subst e;simp at hc⟩
 rw[txB,hk,hb]
 exact Lx.sign hc hx
theorem wd_ok {w:ByteArray} (h:isWord w=true) (hk:kindB w=1) (hl:(bytesI w).getLast?≠some 10):TkW w:=by
 refine⟨fun r T hr hx=>?_,fun e=>by simp[isWord,e] at h,hl⟩
 rw[txB,hk]
 exact Lx.word h hr hx
theorem last_digit {l:List Int} (h:l.all isDigit=true):l.getLast?≠some 10:=fun e=>by
 have:=(List.all_eq_true.1 h) 10 (List.mem_of_getLast? e)
 exact absurd this (by decide)
theorem nm_ok {n:Int} (h:numOk n=true):TkW (numW n):=by
 obtain⟨h1,h2,_⟩:=numW_digits h
 refine⟨fun r T hr hx=>?_,h2,last_digit h1⟩
 rw[txB,numW_kind h]
 exact Lx.num h1 h2 (by rw[bytesI_len];exact numW_len h) hr hx
theorem hd_ok {k n:Int} (hk:kOk k=true) (h:numOk n=true):TkW (letW k++numW n):=by
 obtain⟨h1,h2,_⟩:=numW_digits h
 obtain⟨c,c1,c2,c3,c4,c5⟩:=letW_bytes hk
 have h9:=numW_len h
 rw[←bytesI_len] at h9
 have hb:bytesI (letW k++numW n)=c::bytesI (numW n):=by rw[bytesI_app,c1];rfl
 refine wd_ok ((isWord_cons hb).2 ⟨by omega,c2,?_⟩) (headW_kind hk) ?_
 ·rw[List.all_eq_true] at h1 ⊢
  intro d hd
  have:=h1 d hd
  simp[isInner,this]
 ·rw[last_app h2];exact last_digit h1
theorem toks_in {α:Type} {a b:ByteArray} {l:List α} {f:List ByteArray} (ha:TkW a) (hb:TkW b) (hf:∀w∈f,TkW w):∀w∈pinW a b l f,TkW w:=fun w hw=>by
 unfold pinW at hw
 split at hw
 ·cases hw
 ·rcases List.mem_cons.1 hw with rfl|hw
  ·exact ha
  ·rcases List.mem_append.1 hw with hw|hw
   ·exact hf w hw
   ·rw[List.mem_singleton.1 hw];exact hb
theorem lb_ok:TkW lbW:=sgn_ok (c:=91) rfl (by decide)
theorem rb_ok:TkW rbW:=sgn_ok (c:=93) rfl (by decide)
theorem op_ok:TkW opW:=sgn_ok (c:=40) rfl (by decide)
theorem cl_ok:TkW clW:=sgn_ok (c:=41) rfl (by decide)
theorem la_ok:TkW laW:=sgn_ok (c:=92) rfl (by decide)
theorem dt_ok:TkW dtW:=sgn_ok (c:=46) rfl (by decide)
theorem cln_ok:TkW clnW:=sgn_ok (c:=58) rfl (by decide)
theorem cm_ok:TkW cmW:=sgn_ok (c:=44) rfl (by decide)
theorem lc_ok:TkW lcW:=sgn_ok (c:=123) rfl (by decide)
theorem rc_ok:TkW rcW:=sgn_ok (c:=125) rfl (by decide)
theorem sm_ok:TkW smW:=sgn_ok (c:=59) rfl (by decide)
theorem eql_ok:TkW eqlW:=sgn_ok (c:=61) rfl (by decide)
theorem on_ok:TkW onW:=wd_ok (by decide) (by decide) (by decide)
theorem bk_ok:TkW bkW:=wd_ok (by decide) (by decide) (by decide)
theorem lem_ok:TkW lemW:=wd_ok (by decide) (by decide) (by decide)
theorem toksTy_ok:∀(d:Nat) (t:Ty),okTy d t=true→∀w∈tokTy d t,TkW w
 |0,t,h,_,_=>by cases h
 |d+1,t,h,w,hw=>by
  rw[okTy,Bool.and_eq_true] at h
  have hall:=List.all_eq_true.1 h.2
  rcases List.mem_cons.1 hw with rfl|hw
  ·exact nm_ok h.1
  ·exact toks_in lb_ok rb_ok (fun x hx=>by
    obtain⟨u,hu,hx⟩:=List.mem_flatMap.1 hx
    exact toksTy_ok d u (hall u hu) x hx) w hw
theorem toksTm_ok:∀(d:Nat) (t:Tm),okTm d t=true→∀w∈tokTm d t,TkW w
 |0,t,h,_,_=>by cases h
 |d+1,t,h,w,hw=>by
  rw[okTm,Bool.and_eq_true,Bool.and_eq_true,Bool.and_eq_true] at h
  obtain⟨hk,hb,hn,ha⟩:=h
  rw[tokTm,if_pos hk] at hw
  have hall:=List.all_eq_true.1 ha
  have hbl:=List.all_eq_true.1 hb
  rcases List.mem_append.1 hw with hw|hw
  ·exact toks_in la_ok dt_ok (fun x hx=>by
    obtain⟨u,hu,hx⟩:=List.mem_flatMap.1 hx
    exact toksTy_ok d u (hbl u hu) x hx) w hw
  ·rcases List.mem_cons.1 hw with rfl|hw
   ·exact hd_ok hk hn
   ·exact toks_in op_ok cl_ok (fun x hx=>by
     obtain⟨u,hu,hx⟩:=List.mem_flatMap.1 hx
     exact toksTm_ok d u (hall u hu) x hx) w hw
theorem toks_app {a b:List ByteArray} (ha:∀w∈a,TkW w) (hb:∀w∈b,TkW w):∀w∈a++b,TkW w:=fun w hw=>(List.mem_append.1 hw).elim (ha w) (hb w)
theorem toks_cons {a:ByteArray} {b:List ByteArray} (ha:TkW a) (hb:∀w∈b,TkW w):∀w∈a::b,TkW w:=fun w hw=>(List.mem_cons.1 hw).elim (fun e=>e▸ha) (hb w)
theorem toks_nil:∀w∈([]:List ByteArray),TkW w:=fun w hw=>by cases hw
theorem toks_flat {α:Type} {l:List α} {g:α→List ByteArray} (h:∀x∈l,∀w∈g x,TkW w):∀w∈l.flatMap g,TkW w:=fun w hw=>by
 obtain⟨u,hu,hx⟩:=List.mem_flatMap.1 hw
 exact h u hu w hx
theorem toksSt_ok {s:Stp} (h:stOk s=true):∀w∈stTok s,TkW w:=by
 rw[stOk,Bool.and_eq_true,Bool.and_eq_true] at h
 obtain⟨h1,h2,h3⟩:=h
 have hp:=List.all_eq_true.1 h2
 have hs:=List.all_eq_true.1 h3
 refine toks_app (toks_cons (by split;exact bk_ok;exact on_ok) (toks_cons (nm_ok h1) (toks_cons lb_ok toks_nil))) (toks_app (fun w hw=>?_) (toks_app (toks_cons rb_ok (toks_cons lc_ok toks_nil)) (toks_app (toks_flat fun p hp=>?_) (toks_cons rc_ok (toks_cons sm_ok toks_nil)))))
 ·obtain⟨n,hn,rfl⟩:=List.mem_map.1 hw
  exact nm_ok (hp n hn)
 ·have:=hs p hp
  rw[spOk,Bool.and_eq_true] at this
  exact toks_cons (nm_ok this.1) (toks_cons cln_ok (toks_app (toksTm_ok 60 p.2 this.2) (toks_cons cm_ok toks_nil)))
theorem toksLe_ok {l:Lem} (h:leOk l=true):∀w∈leTok l,TkW w:=by
 rw[leOk,Bool.and_eq_true,Bool.and_eq_true,Bool.and_eq_true] at h
 obtain⟨h1,h2,h3,h4⟩:=h
 have hm:=List.all_eq_true.1 h1
 have hs:=List.all_eq_true.1 h4
 exact toks_app (toks_cons lem_ok (toks_cons lb_ok toks_nil)) (toks_app (toks_flat fun t ht=>toksTy_ok 60 t (hm t ht)) (toks_app (toks_cons rb_ok toks_nil) (toks_app (toksTm_ok 60 l.left h2) (toks_app (toks_cons eql_ok toks_nil)
  (toks_app (toksTm_ok 60 l.right h3) (toks_app (toks_cons lc_ok toks_nil) (toks_app (toks_flat fun s hs'=>toksSt_ok (hs s hs')) (toks_cons rc_ok (toks_cons sm_ok toks_nil)))))))))
theorem encTs_wr:∀{ls:List Lem} {t:ByteArray} {U:List Tx},Wr t U→ls.all leOk=true→Wr (encTs t ls) (U++(ls.flatMap leTok).map txB)
 | [],t,U,h,_=>by rw[List.flatMap_nil,List.map_nil,List.append_nil];exact h
 |l::ls,t,U,h,hok=>by
  rw[List.all_cons,Bool.and_eq_true] at hok
  have h1:=(Wr.puts (t:=t) h (toksLe_ok hok.1)).line
  have h2:=encTs_wr (ls:=ls) h1 hok.2
  rw[List.append_assoc,←List.map_append,←List.flatMap_cons] at h2
  exact h2
theorem Decode_back {ls:List Lem} (hok:ls.all leOk=true) (hls:∀l∈ls,l.Ok) (hb:sumB leW ls≤100000000):PureIs Tryz.prog 12 [nS (encTs ⟨#[]⟩ ls)]
  (if(encTs ⟨#[]⟩ ls).size>20000 then .tup [.agg [.sl []],.agg (faC (2,1,1,⟨#[]⟩))] else .tup [.agg [.sl (ls.map Lem.enc)],.agg (faC noFa)]):=by
 by_cases hz:(encTs ⟨#[]⟩ ls).size>20000
 ·rw[if_pos hz]
  have hz2:=encTs_size (t:=⟨#[]⟩) hls
  rw[show (⟨#[]⟩:ByteArray).size=0 from rfl] at hz2
  have hsc:=lexSplit_calls (s:=encTs ⟨#[]⟩ ls) (by omega)
  rw[splitP,if_pos hz] at hsc
  exact vc12_ok ⟨_,_,_,_,_,hsc,ITE.pos rfl rfl⟩
 ·rw[if_neg hz]
  obtain⟨L,h1,h2⟩:=(encTs_wr wr_nil hok).split (by omega)
  rw[List.nil_append] at h2
  have hpe:PE L (encTs ⟨#[]⟩ ls):=by
   rcases split_pe (s:=encTs ⟨#[]⟩ ls) with h|⟨h,_⟩
   ·rw[h1] at h;exact h
   ·exact(hz h).elim
  exact Decode_calls h1 hpe hok hls (by unfold At;rw[List.drop_zero,h2,List.append_nil])
end Go.Proofs.YtjhanogfpkbamaaGreatDoor

namespace Go.Proofs.YtjhanogfpkbamaaGreatDoor
open Go
set_option linter.unusedSimpArgs false
set_option linter.unusedVariables false
def zT:Tm:=.mk [] 1 0 []
def sT:Tm:=.mk [] 1 1 [zT]
def leK:Lem:=⟨sT,sT,[],[]⟩
theorem numW0:numW 0=(⟨#[48]⟩:ByteArray):=by
 have h:Lib.itoa ((0:Nat):Int)=Lib.decDigits 0:=Lib.itoa_nonneg 0
 have:numW 0=⟨(Lib.itoa ((0:Nat):Int)).toArray⟩:=rfl
 rw[this,h,dec_small (by decide)]
 rfl
theorem numW1:numW 1=(⟨#[49]⟩:ByteArray):=by
 have h:Lib.itoa ((1:Nat):Int)=Lib.decDigits 1:=Lib.itoa_nonneg 1
 have:numW 1=⟨(Lib.itoa ((1:Nat):Int)).toArray⟩:=rfl
 rw[this,h,dec_small (by decide)]
 rfl
theorem tokK:tokTm 60 sT=[(⟨#[99,49]⟩:ByteArray),opW,(⟨#[99,48]⟩:ByteArray),clW]:=by
 have:tokTm 60 sT=[letW 1++numW 1,opW,letW 1++numW 0,clW]:=rfl
 rw[this,numW0,numW1]
 rfl
abbrev exW:ByteArray:=⟨#[108,101,109,109,97,32,91,32,93,32,99,49,32,40,32,99,48,32,41,32,61,32,99,49,32,40,32,99,48,32,41,32,123,32,125,32,59,10]⟩
theorem encK:encTs (⟨#[]⟩:ByteArray) [leK]=exW:=by
 have h1:leTok leK=[lemW,lbW,rbW,⟨#[99,49]⟩,opW,⟨#[99,48]⟩,clW,eqlW,⟨#[99,49]⟩,opW,⟨#[99,48]⟩,clW,lcW,rcW,smW]:=by
  unfold leTok
  rw[show leK.left=sT from rfl,show leK.right=sT from rfl,tokK]
  rfl
 show puts (⟨#[]⟩:ByteArray) (leTok leK)++nlW=_
 rw[h1]
 kernel_rfl
theorem leK_ok:leK.Ok:=by
 have h:sT.Full:=⟨True.intro,by unfold I64;omega,by unfold I64;omega,⟨True.intro,by unfold I64;omega,by unfold I64;omega,True.intro⟩,True.intro⟩
 exact⟨h,h,by decide,by decide,fun t ht=>(by cases ht),fun t ht=>(by cases ht)⟩
theorem known26_calls:PureIs Tryz.prog 7 [] (nB true):=by
 have hls:∀l∈[leK],l.Ok:=fun l hl=>by rw[List.mem_singleton.1 hl];exact leK_ok
 have hok:[leK].all leOk=true:=by kernel_rfl
 have he:=Encode_calls hls (of_decide_eq_true (by kernel_rfl))
 have hd:=Decode_back hok hls (of_decide_eq_true (by kernel_rfl))
 rw[encK] at he hd
 rw[hok] at he
 rw[if_neg (by decide)] at hd
 have hq:=teq_calls 10 sT sT (by decide) (by decide)
 exact vc7_ok ⟨_,_,he,_,_,_,_,_,hd,ITE.pos rfl (ITE.pos (by rw[strEq_iff];exact decide_eq_true rfl) (ITE.pos rfl (ITE.pos rfl ⟨by decide,by decide,_,_,_,_,_,_,_,_,_,_,rfl,_,hq,congrArg nB (show Tm.same sT sT=true by kernel_rfl)⟩)))⟩
end Go.Proofs.YtjhanogfpkbamaaGreatDoor

namespace Go.Proofs.YtjhanogfpkbamaaGreatDoor
open Go
set_option linter.unusedSimpArgs false
set_option linter.unusedVariables false
structure Stp.Num (s:Stp):Prop where
 eq:I64 s.eq
 path:∀i∈s.path,I64 i
 sub:∀p∈s.sub,I64 p.1∧p.2.Full
structure Lem.Num (l:Lem):Prop where
 left:l.left.Full
 right:l.right.Full
 metas:∀t∈l.metas,t.Ok
 steps:∀s∈l.steps,s.Num
theorem Lem.Num.cut {l:Lem} (h:l.Num) (hf:l.Few):l.cut.Ok:=by
 refine⟨h.left,h.right,Nat.le_trans hf.left (by decide),Nat.le_trans hf.right (by decide),fun t ht=>⟨h.metas t ht,Nat.le_trans (hf.metas t ht) (by decide)⟩,fun s hs=>?_⟩
 obtain⟨s0,h0,rfl⟩:=List.mem_map.1 hs
 have hn:=h.steps s0 (List.mem_of_mem_take h0)
 exact⟨hn.eq,hn.path,fun p hp=>⟨(hn.sub p (List.mem_of_mem_take hp)).1,(hn.sub p (List.mem_of_mem_take hp)).2,Nat.le_trans ((hf.steps s0 h0).1 p hp) (by decide)⟩⟩
theorem sumB_bd {α:Type} {f:α→Nat} {c:Nat}:∀{l:List α},(∀x∈l,f x≤c)→sumB f l≤l.length*c
 | [],_=>Nat.zero_le _
 |x::l,h=>by
  have h1:=h x List.mem_cons_self
  have h2:=sumB_bd (l:=l) fun y hy=>h y (List.mem_cons_of_mem _ hy)
  rw[sumB,List.length_cons,Nat.succ_mul];omega
theorem Lem.Cut.sz {l:Lem} (h:l.Cut):l.Sz:=
 ⟨Nat.le_trans h.few.left (by decide),Nat.le_trans h.few.right (by decide),Nat.le_trans h.few.tys (by decide),Nat.le_trans h.sl (by decide),fun s hs=>⟨Nat.le_trans (h.sub hs).2 (by decide),Nat.le_trans (h.subs s hs) (by decide),fun p hp=>Nat.le_trans ((h.sub hs).1 p hp) (by decide)⟩⟩
end Go.Proofs.YtjhanogfpkbamaaGreatDoor
