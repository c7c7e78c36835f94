/- Texts of ours laid together for a claim: FilS. -/
import Derived.Test.YtjhanogfpkbamaaGreatDoorQ06
namespace Go.Proofs.YtjhanogfpkbamaaGreatDoor
open Go
set_option linter.unusedSimpArgs false
set_option linter.unusedVariables false
variable {G:Type} {Γ:Env G} {s s':AS G} {a:Act} {w w':World} {η:List Value} {hp:List AObj} {P:Program}
def LiveBlk (η:List Value) (hp:List AObj) (b:Nat):Prop:=∃(r:Nat) (o:AObj) (v:Value),hp[r]?=some o∧o.live∧η[r]?=some v∧blk v=some b
theorem Rel.gx (hok:Γ.Ok) (hr:Rel Γ s a w η) {b:Nat} (hb:IsGlob b):¬LiveBlk η s.hp b:=fun⟨r,o,v,g1,g2,g3,g4⟩=>by
 rcases (hr.mine r o v b g1 g2 g3 g4).1 with h|h
 ·exact absurd (hok.glob.lt hb) (by omega)
 ·exact hok.gx b hb (.inr h)
structure HPre (w:World) (F:Nat→Nat→Prop) (η:List Value) (hp:List AObj):Prop where
 foot:∀b o,F b o→b<w.heap.size∧ObjF η hp b o
 heap:HeapOk w F η hp
 live:∀b,LiveBlk η hp b→b<w.heap.size
 glob:Glob w
 gx:∀b,IsGlob b→¬LiveBlk η hp b
def OntoH (F:Nat→Nat→Prop) (w:World) (η:List Value) (hp:List AObj) (w':World) (η':List Value) (hp':List AObj) (b o:Nat):Prop:=
 (F b o∨w.heap.size≤b∨LiveBlk η hp b)∧b<w'.heap.size∧ObjF η' hp' b o
structure HPost (w:World) (F:Nat→Nat→Prop) (η:List Value) (hp:List AObj) (w':World) (η':List Value) (hp':List AObj) (r:AV) (v:Value):Prop where
 keeps:Keeps (LiveBlk η hp) w w'
 ext:Ext w F η hp w' (OntoH F w η hp w' η' hp') η' hp'
 heap:HeapOk w' (OntoH F w η hp w' η' hp') η' hp'
 mine:∀b,LiveBlk η' hp' b→w.heap.size≤b∨LiveBlk η hp b
 rep:Rep w' (OntoH F w η hp w' η' hp') η' hp' r v
def HFn (P:Program) (f:FuncId) (args:List AV) (hp:List AObj) (R:AV→List AObj→Prop):Prop:=
 Callable P f∧∀(w:World) (F:Nat→Nat→Prop) (η:List Value) (vals:List Value),HPre w F η hp→RepL w F η hp args vals→
  CallsIn Fence.wide 0 P f vals.toArray w (fun e w'=>∃v r hp' η',e=.returned v∧R r hp'∧HPost w F η hp w' η' hp' r v)
def AV.outC (n:Nat) (hp:List AObj) (x:AV):AV:=if x.closedC n=true then x else x.dataC hp
def AV.outV (n:Nat) (hp:List AObj):AV→AV
 | .agg cs=>.agg (cs.map (AV.outC n hp))
 |x=>x.outC n hp
def AV.out (n:Nat) (hp:List AObj):AV→AV
 | .tup vs=>.tup (vs.map (AV.outV n hp))
 |x=>x.outV n hp
def retH (tab:Nat→Option TD) (rs:List ResultVar) (n:Nat) (R:AV→List AObj→Prop):Exit→AS G→Prop
 | .normal,s | .ret,s=>(match resAll tab s rs with
  |some l=>(∀o∈s.hp.take n,AObj.closed n o=true)∧R ((resTup l).out n s.hp) (s.hp.take n)
  |none=>False)
 |_,_=>False
theorem fok_take {n b o:Nat} (hf:Fok Γ w η hp b o):Fok Γ w (η.take n) (hp.take n) b o:=by
 refine⟨hf.1,hf.2.1,hf.2.2.1,(objF_iff b o).2 fun r v hv hb=>?_⟩
 rw[List.getElem?_take] at hv
 split at hv
 ·rename_i hlt
  obtain⟨o1,q1,q2⟩:=(objF_iff b o).1 hf.2.2.2 r v hv hb
  exact⟨o1,by rw[List.getElem?_take,if_pos hlt];exact q1,q2⟩
 ·cases hv
theorem rep_take {n:Nat} {η0:List Value} {hp0:List AObj} {x:AV} {v:Value} (h:Rep w (Fok Γ w η hp) η0 hp0 x v):Rep w (Fok Γ w (η.take n) (hp.take n)) η0 hp0 x v:=
 h.ext ⟨fun _ _ _ _ h=>h,fun _ _ _ _ h=>h,fun _ _ h=>fok_take h,fun _ _ h=>h,fun _ _ h=>h,fun _ _ _ h=>h⟩
theorem outC_rep (h:HeapOk w (Fok Γ w η hp) η hp) (hm:Mine Γ η hp) {n:Nat} {x:AV} {v:Value} (hx:Rep w (Fok Γ w η hp) η hp x v):Rep w (Fok Γ w (η.take n) (hp.take n)) (η.take n) (hp.take n) (x.outC n hp) v:=by
 unfold AV.outC
 split
 ·rename_i hc;exact rep_take (closedC_rep hc hx)
 ·exact rep_take (dataC_rep h hm hx).lift
theorem outV_rep (h:HeapOk w (Fok Γ w η hp) η hp) (hm:Mine Γ η hp) {n:Nat} {x:AV} {v:Value} (hx:Rep w (Fok Γ w η hp) η hp x v):Rep w (Fok Γ w (η.take n) (hp.take n)) (η.take n) (hp.take n) (x.outV n hp) v:=by
 cases x with
 |agg cs=>
  cases hx with
  |agg _ vs hl h1 hr=>
   refine .agg _ vs (by simpa using hl) h1 fun j y u hy hu=>?_
   rw[List.getElem?_map] at hy
   cases hj:cs[j]? with
   |none=>rw[hj] at hy;cases hy
   |some z=>rw[hj] at hy;obtain rfl:=Option.some.inj hy;exact outC_rep h hm (hr j z u hj hu)
 |_=>exact outC_rep h hm hx
theorem out_rep (h:HeapOk w (Fok Γ w η hp) η hp) (hm:Mine Γ η hp) {n:Nat} {x:AV} {v:Value} (hx:Rep w (Fok Γ w η hp) η hp x v):Rep w (Fok Γ w (η.take n) (hp.take n)) (η.take n) (hp.take n) (x.out n hp) v:=by
 cases x with
 |tup cs=>
  cases hx with
  |tup _ vs hl hr=>
   refine .tup _ vs (by simpa using hl) fun j y u hy hu=>?_
   rw[List.getElem?_map] at hy
   cases hj:cs[j]? with
   |none=>rw[hj] at hy;cases hy
   |some z=>rw[hj] at hy;obtain rfl:=Option.some.inj hy;exact outV_rep h hm (hr j z u hj hu)
 |_=>exact outV_rep h hm hx
theorem startT_rep {F:Nat→Nat→Prop}:∀(l:List AV) (us:List Value) (k:Nat),RepL w F η hp l us→∀t,Rep w F η hp (startT k l t) (if t<k then undef else(us[t-k]?).getD undef)∨t<k:=by
 intro l
 induction l with
 |nil=>intro us k _ t;exact .inl (.top _)
 |cons x l ih=>
  intro us k hl t
  cases us with
  |nil=>exact hl.elim
  |cons u us=>
   by_cases htk:t<k
   ·exact .inr htk
   ·refine .inl ?_
    rw[if_neg htk]
    simp only[startT,upd_eq]
    by_cases hte:t=k
    ·subst hte
     rw[if_pos rfl,Nat.sub_self]
     exact hl.1
    ·rw[if_neg hte]
     rcases ih us (k+1) hl.2 t with h1|h1
     ·rw[if_neg (by omega)] at h1
      have:t-k=(t-(k+1))+1:=by omega
      rw[this,List.getElem?_cons_succ]
      exact h1
     ·omega
theorem start_slot {vals:List Value} {n t:Nat}:(vals.toArray++Array.replicate n undef).getD t undef=(vals[t]?).getD undef:=by
 rw[Array.getD_eq_getD_getElem?]
 by_cases ht:t<vals.length
 ·rw[Array.getElem?_append_left (by simpa using ht)];simp
 ·rw[Array.getElem?_append_right (by simpa using ht),List.getElem?_eq_none (by omega)]
  rw[Array.getElem?_replicate]
  split<;>rfl
theorem heap_of_body_at {tab:Nat→Option TD} (htab:TabOk P tab) {f:FuncId} {fn:Func} {c:Code} {args:List AV} {hp:List AObj} {R:AV→List AObj→Prop} (m:Nat) (hm:hp.length≤m) (hf:P.funcs[f]?=some fn) (hb:fn.body=some c) (hname:(fn.name == "runtime.NumGoroutine")=false) (hn:args.length≤fn.ntmps)
  (h:∀Γ:Env Unit,Γ.Ok→Γ.P=P→fn.ntmps=Γ.nt→Γ.hp0.length=hp.length→Γ.Free→AWp Γ c (retH tab fn.results.toList m R) ⟨startT 0 args,hp,()⟩):HFn P f args hp R:=by
 refine⟨⟨fn,hf,hname,by rw[hb];rfl⟩,fun w F η vals hpre hv=>?_⟩
 let Γ:Env Unit:={ P:=P,w0:=w,F0:=F,X:=fun _=>False,Y:=LiveBlk η hp,Inv:=fun _ _=>True,nt:=fn.ntmps,rnd:=none,m0:=fun r=>w.heap.size≤r,Z:=fun _ _=>False,η0:=η,hp0:=hp }
 have hok:Γ.Ok:=⟨hpre.heap.len,fun _ h=>h.elim,fun b hb=>hpre.live b hb,fun _ _ _ _ _ h=>h,fun _ _ h=>h.elim,hpre.glob,fun b hb h=>h.elim (fun h=>h) (hpre.gx b hb)⟩
 have hvl:=hv.length
 have hfoot:∀b o,F b o→Fok Γ w η hp b o:=fun b o hb=>⟨.inl hb,(hpre.foot b o hb).1,fun h=>h.elim (fun h=>h) fun h=>h,(hpre.foot b o hb).2⟩
 have he0:Ext w F η hp w (Fok Γ w η hp) η hp:=⟨fun _ _ _ _ h=>h,fun _ _ _ _ h=>h,hfoot,fun _ _ h=>h,fun _ _ h=>h,fun _ _ _ h=>h⟩
 have hrel:Rel Γ ⟨startT 0 args,hp,()⟩ ⟨vals.toArray++Array.replicate (fn.ntmps-vals.toArray.size) undef,[]⟩ w η:=by
  refine⟨by simp[Γ];omega,fun t=>?_,⟨hpre.heap.len,fun r o v h1 h2=>(hpre.heap.obj r o v h1 h2).ext he0 (Nat.le_refl _) fun _ _ _=>rfl,hpre.heap.sep⟩,fun r o v b h1 h2 h3 h4=>⟨.inr ⟨r,o,v,h1,h2,h3,h4⟩,fun _ h=>h.elim (fun h=>h) fun h=>h⟩,Keeps.refl _ w,True.intro,⟨fun d hd=>(by cases hd),List.Pairwise.nil⟩,he0⟩
  have:=startT_rep (hp:=hp) (η:=η) args vals 0 hv t
  simp only[Nat.not_lt_zero,if_false,or_false,Nat.sub_zero] at this
  show Rep w _ _ _ _ ((vals.toArray++Array.replicate (fn.ntmps-vals.toArray.size) undef).getD t undef)
  rw[start_slot];exact this.ext he0
 have hbody:=h Γ hok rfl rfl rfl ⟨rfl,fun _ h=>h⟩ _ _ _ hrel
 refine callsIn_of_wp_marks (F:=Fence.wide) hf hb trivial (wpIn_mono (F:=Fence.wide) hbody fun e a' w' ⟨s',η',hq,hr'⟩=>?_)
 have fin:(∃l,resAll tab s' fn.results.toList=some l∧(∀o∈s'.hp.take m,AObj.closed m o=true)∧R ((resTup l).out m s'.hp) (s'.hp.take m))→
   LeavesInM Fence.wide 0 P fn a'.tmps (fun e w'=>∃v r hp' η',e=.returned v∧R r hp'∧HPost w F η hp w' η' hp' r v) a'.defers .returning w':=by
  intro ⟨l,hl,hcl,hR⟩
  have:=leavesM (Γ:=Γ) (s:=s') (η:=η') (fn:=fn) (ts:=a'.tmps) (R:=fun e w'=>∃v r hp' η',e=.returned v∧R r hp'∧HPost w F η hp w' η' hp' r v) hok (fun _ h=>h) (fun w2 hr2=>by
   obtain⟨v,h1,h2⟩:=run_results htab hr2 hl
   refine⟨v,h1,v,_,_,η'.take m,rfl,hR,?_⟩
   obtain⟨ηc,hcut⟩:∃ηc,ηc=η'.take m∧Rel Γ ⟨fun _=>.top,s'.hp.take m,()⟩ ⟨a'.tmps,[]⟩ w2 ηc:=by
    have hw:=Weak.cut (Γ:=Γ) (f:=s'.tmps) (f':=fun _=>.top) (hp:=s'.hp) (g:=s'.g) hok m hm Sub.nil ShutF.nil rfl hcl
    have hw':Rel Γ ⟨fun _=>.top,s'.hp.take m,()⟩ ⟨a'.tmps,[]⟩ w2 (η'.take m):=by
     have:=Weak.cutAt (Γ:=Γ) (f:=s'.tmps) (f':=fun _=>.top) (hp:=s'.hp) (g:=s'.g) hok m hm Sub.nil ShutF.nil hcl hr2
     exact this
    exact⟨_,rfl,hw'⟩
   obtain⟨rfl,hr3⟩:=hcut
   have hsame:∀b o,Fok Γ w2 (η'.take m) (s'.hp.take m) b o→OntoH F w η hp w2 (η'.take m) (s'.hp.take m) b o:=fun b o hf=>⟨hf.1,hf.2.1,hf.2.2.2⟩
   have hex:∀{η1:List Value} {hp1:List AObj},Ext w2 (Fok Γ w2 (η'.take m) (s'.hp.take m)) η1 hp1 w2 (OntoH F w η hp w2 (η'.take m) (s'.hp.take m)) η1 hp1:=
    ⟨fun _ _ _ _ h=>h,fun _ _ _ _ h=>h,hsame,fun _ _ h=>h,fun _ _ h=>h,fun _ _ _ h=>h⟩
   refine⟨?_,hr3.ext.trans hex,⟨hr3.heap.len,fun r o v h1 h2=>(hr3.heap.obj r o v h1 h2).ext hex (Nat.le_refl _) fun _ _ _=>rfl,hr3.heap.sep⟩,fun b ⟨r,o,v,g1,g2,g3,g4⟩=>(hr3.mine r o v b g1 g2 g3 g4).1,(out_rep hr2.heap hr2.mine h2).ext hex⟩
   exact⟨hr2.keeps.os,hr2.keeps.tape,hr2.keeps.output,hr2.keeps.size,fun k hk hx=>hr2.keeps.block k hk fun h=>h.elim (fun h=>h) hx⟩) a'.defers w' hr'
  exact this
 cases e with
 |normal=>
  simp only[retH] at hq
  split at hq
  ·rename_i l hl;exact fin ⟨l,hl,hq⟩
  ·exact hq.elim
 |ret=>
  simp only[retH] at hq
  split at hq
  ·rename_i l hl;exact fin ⟨l,hl,hq⟩
  ·exact hq.elim
 |_=>exact hq.elim
theorem heap_of_body {tab:Nat→Option TD} (htab:TabOk P tab) {f:FuncId} {fn:Func} {c:Code} {args:List AV} {hp:List AObj} {R:AV→List AObj→Prop} (hf:P.funcs[f]?=some fn) (hb:fn.body=some c) (hname:(fn.name == "runtime.NumGoroutine")=false) (hn:args.length≤fn.ntmps)
  (h:∀Γ:Env Unit,Γ.Ok→Γ.P=P→fn.ntmps=Γ.nt→Γ.hp0.length=hp.length→Γ.Free→AWp Γ c (retH tab fn.results.toList hp.length R) ⟨startT 0 args,hp,()⟩):HFn P f args hp R:=
 heap_of_body_at htab hp.length (Nat.le_refl _) hf hb hname hn h
theorem ACall.heap (hok:Γ.Ok) {o:Oper} {c:Call} {x:Operand} (ho:o.op=.call c) (hc:c.callee=.value x) {f:FuncId} {caps:List AV} (hx:s.ev x=.clo f caps) {R:AV→List AObj→Prop}
  (hP:HFn Γ.P f (c.args.toList.map s.ev++caps) s.hp R) (hd:dstOk Γ.nt o.dst) {K:AS G→Prop} (hK:∀r hp',R r hp'→K (AS.put { s with hp:=hp' } o.dst r)):ACall Γ o s K:=by
 intro a w η Kc Qc hk hr
 have hxr:=hr.ev x
 rw[hx] at hxr
 generalize hv:a.eval x=v at hxr
 cases hxr with
 |clo _ _ vs hl hrep=>
  refine⟨fun _ _=>trivial,?_⟩
  have hne:∀c',o.op ≠ .defer c':=by intro c' h;rw[ho] at h;cases h
  rw[Oper.semAt_eq _ _ _ hne,run_call_clo ho hc hP.1 hv]
  have hargs:(c.args.map a.eval++vs)=(c.args.toList.map a.eval++vs.toList).toArray:=by apply Array.ext';simp
  have hcl:RepL w (Fok Γ w η s.hp) η s.hp caps vs.toList:=repL_of_get (by simpa using hl) fun j y u hy hu=>hrep j y u hy (by simpa using hu)
  have hreps:=repL_append _ _ (repArgs hr c.args.toList) hcl
  refine⟨fun h=>(by cases h),?_⟩
  rw[hargs]
  have hlive:∀b,LiveBlk η s.hp b→b<w.heap.size∧(Γ.w0.heap.size≤b∨Γ.Y b)∧∀o,¬Γ.No b o:=fun b ⟨r,o,v,g1,g2,g3,g4⟩=>⟨hr.heap.block g1 g2 g3 g4,hr.mine r o v b g1 g2 g3 g4⟩
  have hcall:=hP.2 w (Fok Γ w η s.hp) η _ ⟨fun b o hf=>⟨hf.2.1,hf.2.2.2⟩,hr.heap,fun b hb=>(hlive b hb).1,hr.glob hok,fun b hb hl=>hr.gx hok hb hl⟩ hreps
  refine CallsIn.mono (F:=Γ.fence) (R:=fun e w'=>∃v r hp' η',e=.returned v∧R r hp'∧HPost w (Fok Γ w η s.hp) η s.hp w' η' hp' r v) ?_ fun e w' ⟨u,r,hp',η',he,hR,hpost⟩=>?_
  ·exact hcall
  ·subst he
   have hfok:∀b o,OntoH (Fok Γ w η s.hp) w η s.hp w' η' hp' b o→Fok Γ w' η' hp' b o:=by
    intro b o ⟨h1,h2,h3⟩
    refine⟨?_,h2,?_,h3⟩
    ·rcases h1 with h1|h1|h1
     ·exact h1.1
     ·exact .inr (.inl (Nat.le_trans hr.keeps.size h1))
     ·exact .inr (hlive b h1).2.1
    ·rcases h1 with h1|h1|h1
     ·exact h1.2.2.1
     ·intro hx;have:=hok.no hx;have:=hr.keeps.size;omega
     ·exact(hlive b h1).2.2 _
   have hex:∀{η1:List Value} {hp1:List AObj},Ext w' (OntoH (Fok Γ w η s.hp) w η s.hp w' η' hp') η1 hp1 w' (Fok Γ w' η' hp') η1 hp1:=
    ⟨fun _ _ _ _ h=>h,fun _ _ _ _ h=>h,hfok,fun _ _ h=>h,fun _ _ h=>h,fun _ _ _ h=>h⟩
   have he2:=hpost.ext.trans hex
   have hrel:Rel Γ { s with hp:=hp' } a w' η':=by
    refine⟨hr.nt,fun t=>(hr.tmps t).ext he2,⟨hpost.heap.len,fun r o v h1 h2=>(hpost.heap.obj r o v h1 h2).ext hex (Nat.le_refl _) fun _ _ _=>rfl,hpost.heap.sep⟩,fun r o v b h1 h2 h3 h4=>?_,?_,?_,?_,hr.ext.trans he2⟩
    ·rcases hpost.mine b ⟨r,o,v,h1,h2,h3,h4⟩ with h5|h5
     ·exact⟨.inl (Nat.le_trans hr.keeps.size h5),fun o hx=>by have:=hok.no hx;have:=hr.keeps.size;omega⟩
     ·exact(hlive b h5).2
    ·refine hr.keeps.trans hpost.keeps fun b hb hl=>?_
     rcases (hlive b hl).2.1 with h1|h1
     ·omega
     ·exact .inr h1
    ·exact hok.stable _ _ _ (fun b hb=>hpost.keeps.block b (Nat.lt_of_lt_of_le (hok.x b hb) hr.keeps.size) fun hl=>(hlive b hl).2.2 0 (.inl hb)) hpost.keeps.size hr.inv
    ·refine hpost.keeps.marks hr.marks fun b hl=>.inr fun d hd=>?_
     obtain⟨r,o,v,g1,g2,g3,g4⟩:=hl
     have hob:=hr.heap.obj r o v g1 g3
     cases o with
     |dead=>exact g2.elim
     |box cs=>obtain⟨b',vs,T,rfl,q1,_⟩:=hob;simp only[blk,Option.some.injEq] at g4;subst g4;rw[hd] at q1;cases q1
     |row e size els=>obtain⟨_,xs,q1,_⟩:=hob;obtain⟨cur,q2⟩:=q1.lt g4;rw[hd] at q2;cases q2
     |mapo es=>obtain⟨b',en,c,rfl,q1,_⟩:=hob;simp only[blk,Option.some.injEq] at g4;subst g4;rw[hd] at q1;cases q1
     |bld q k=>obtain⟨b',vs,rfl,q1,_⟩:=hob;simp only[blk,Option.some.injEq] at g4;subst g4;rw[hd] at q1;cases q1
     |mrow e size els=>obtain⟨_,xs,q1,_⟩:=hob;obtain⟨cur,q2⟩:=q1.lt g4;rw[hd] at q2;cases q2
   exact hk _ _ _ _ (hK r hp' hR) (hrel.put (dstOk_spec hd) (hpost.rep.ext hex))
end Go.Proofs.YtjhanogfpkbamaaGreatDoor
