/- Texts of ours laid together for a claim: FilU. -/
import Derived.Lib.AppendZeros
import Derived.Test.YtjhanogfpkbamaaGreatDoorQ08
namespace Go.Proofs.YtjhanogfpkbamaaGreatDoor
open Go
set_option linter.unusedSimpArgs false
set_option linter.unusedVariables false
variable {G:Type} {Γ:Env G} {s s':AS G} {a:Act} {w w':World} {η:List Value} {hp:List AObj} {P:Program} {ops:Array Oper}
theorem act_put_get {a:Act} {d t:Nat} {v:Value} (hd:d<a.tmps.size):(a.put (some d) v).eval (.tmp t)=if t=d then v else a.eval (.tmp t):=by
 show (a.tmps.setIfInBounds d v).getD t undef=if t=d then v else a.tmps.getD t undef
 rw[Array.getD_eq_getD_getElem?,Array.getD_eq_getD_getElem?,Array.getElem?_setIfInBounds]
 by_cases h:d=t
 ·subst h;simp[hd]
 ·rw[if_neg h,if_neg (fun e=>h e.symm)]
theorem wpList_val {o:Oper} {rest:List Oper} {v:Value} {Q:Exit→Act→World→Prop} (hg:o.guard=none) (h:(execOp a.eval o).run Γ.P w=.ok (.value v) w') (hn:wpListIn Γ.fence 0 Γ.P ops Q rest (a.put o.dst v) w'):
  wpListIn Γ.fence 0 Γ.P ops Q (o::rest) a w:=by
 simp only[wpListIn]
 rw[if_pos (by simp[Region.wanted,hg])]
 refine⟨fun _ _=>trivial,?_⟩
 rw[semAt_run h (.inl ⟨v,rfl⟩)]
 exact hn
theorem AList.room (hok:Γ.Ok) {tab:Nat→Option TD} (htab:TabOk Γ.P tab) {K:AS G→Prop} {rest:List Oper} {o1 o2 o3 o4:Oper} {c1 c3:Call} {b z x:Operand} {T T' e d1 d2 d3 d4:Nat} {d d' dz:TD} {n:Nat} {ik:IntKind}
  (g1:o1.guard=none) (g2:o2.guard=none) (g3:o3.guard=none) (g4:o4.guard=none)
  (h1:o1.op=.call c1) (hb:c1.callee=.builtin .append) (hl:c1.args=#[b,z]) (hT:c1.argTypes=#[T,T'])
  (hd:tab T=some d) (hk:d.kind=.slc e) (hd':tab e=some d') (hz:tab T'=some dz) (hik:dz.kind=.int ik) (hsz:0<d'.size)
  (hbv:s.ev b=.prim (.slice none 0 0)) (hzv:s.ev z=.prim (.int .i64 n)) (hn:0<n) (hm:n≤maxLen) (hby:n*d'.bytes≤140737488355328)
  (h2:o2.op=.move x) (hx:s.ev x=.prim (.slice none 0 0)) (hxd:x ≠ .tmp d1)
  (h3:o3.op=.call c3) (hb3:c3.callee=.builtin .len) (hl3:c3.args=#[.tmp d2]) (hT3:c3.argTypes=#[T])
  (h4:o4.op=.slice T (.tmp d1) none (some (.tmp d3)) none)
  (t1:o1.dst=some d1) (t2:o2.dst=some d2) (t3:o3.dst=some d3) (t4:o4.dst=some d4) (l1:d1<Γ.nt) (l2:d2<Γ.nt) (l3:d3<Γ.nt) (l4:d4<Γ.nt) (n12:d1≠d2) (n13:d1≠d3)
  (hK:AList Γ ops K rest (AS.put (AS.put (AS.put (AS.put { s with hp:=s.hp++[.row e d'.size []] } (some d1) .top) (some d2) (.prim (.slice none 0 0))) (some d3) (.prim (.int .i64 0))) (some d4) (.own s.hp.length 0))):
  AList Γ ops K (o1::o2::o3::o4::rest) s:=by
 intro a w η Qc hQ hr
 obtain⟨i,hi1,hi2,hi3,hi4⟩:=(htab e d' hd').info
 have hu:Γ.P.underlying T=some (.slice e):=by
  obtain⟨u,q2,q3⟩:=(htab T d hd).und
  rw[hk] at q3
  rw[q2];exact congrArg some q3
 have hu':Γ.P.underlying T'=some (.int ik):=by
  obtain⟨u,q2,q3⟩:=(htab T' dz hz).und
  rw[hik] at q3
  rw[q2];exact congrArg some q3
 have eb:=hr.ev b
 rw[hbv] at eb
 have eb:=eb.prim_inv
 have ez:=hr.ev z
 rw[hzv] at ez
 have ez:=ez.prim_inv
 have ex:=hr.ev x
 rw[hx] at ex
 have ex:=ex.prim_inv
 have hnt:=hr.nt
 have hrun:=Lib.run_append_nil_zeros (P:=Γ.P) w T T' o1.type e i d'.zero .i64 ik hu hu' hi1 hi4 n hn (by rw[hi2];exact hsz) (by simp only[maxLen] at hm;omega) (by rw[hi3];omega)
 refine wpList_val (w':=w.drew.alloc (.cells (Builtin.zeroCells d'.zero.cells n++Builtin.zeroCells d'.zero.cells (grownCap w n 0 e-n)) e)) (v:=.slice (some ⟨w.heap.size,0,none⟩) n (grownCap w n 0 e)) g1 (by
  simp only[execOp,h1,resolve,hb,Sem.run_bind,Sem.run_pure,Result.andThen_ok,invoke,builtin,hT,hl,List.map_toArray,List.map_cons,List.map_nil,eb,ez,hrun]) ?_
 generalize hw1:w.drew.alloc _=w1
 have hge:=grownCap_ge w n 0 e
 have hcm:grownCap w n 0 e≤maxLen:=grownCap_le_maxLen w n 0 e hm
 have hs:Same w w1:=by rw[←hw1];exact(Same.drew w).trans (Same.alloc _ _)
 have hr1:=hr.add hok (o:=.row e d'.size []) (v:=.slice (some ⟨w.heap.size,0,none⟩) 0 (grownCap w n 0 e)) hs (fun b' hb'=>by
   rw[blk_slice (by omega)] at hb'
   obtain rfl:=Option.some.inj hb'
   exact Nat.le_refl _) ⟨hsz,[],⟨by simp,.inr ⟨w.heap.size,_,_,rfl,by omega,by rw[←hw1];exact⟨0,Nat.zero_le _,heap_alloc_new w.drew _⟩,by simp,hcm,by
    simp only[Array.size_append,size_zeroCells,(htab e d' hd').zsize,←Nat.add_mul]
    congr 1
    omega,by simp⟩⟩,fun i el hi=>by simp at hi⟩
 rw[t1]
 have p1:∀y:Operand,y ≠ .tmp d1→(a.put (some d1) (.slice (some ⟨w.heap.size,0,none⟩) n (grownCap w n 0 e))).eval y=a.eval y:=by
  intro y hy
  cases y with
  |tmp t=>
   rw[act_put_get (by rw[hnt];exact l1),if_neg (fun h=>hy (by rw[h]))]
  |_=>rfl
 have hr2:=hr1.put (d:=some d1) (x:=.top) (v:=.slice (some ⟨w.heap.size,0,none⟩) n (grownCap w n 0 e)) (fun t ht=>by cases ht;exact l1) (.top _)
 generalize ha1:a.put (some d1) (.slice (some ⟨w.heap.size,0,none⟩) n (grownCap w n 0 e))=a1 at hr2 p1 ⊢
 have q1:a1.eval (.tmp d1)=.slice (some ⟨w.heap.size,0,none⟩) n (grownCap w n 0 e):=by rw[←ha1,act_put_get (by rw[hnt];exact l1),if_pos rfl]
 refine wpList_val (w':=w1) (v:=.slice none 0 0) g2 (by simp only[execOp,h2,Sem.run_pure,p1 x hxd,ex]) ?_
 rw[t2]
 have hr3:=hr2.put (d:=some d2) (x:=.prim (.slice none 0 0)) (v:=.slice none 0 0) (fun t ht=>by cases ht;exact l2) (.prim _)
 have q2:(a1.put (some d2) (.slice none 0 0)).eval (.tmp d2)=.slice none 0 0:=by rw[act_put_get (by rw[hr2.nt];exact l2),if_pos rfl]
 have q2':(a1.put (some d2) (.slice none 0 0)).eval (.tmp d1)=.slice (some ⟨w.heap.size,0,none⟩) n (grownCap w n 0 e):=by rw[act_put_get (by rw[hr2.nt];exact l2),if_neg n12,q1]
 generalize a1.put (some d2) (.slice none 0 0)=a2 at hr3 q2 q2' ⊢
 refine wpList_val (w':=w1) (v:=.int .i64 0) g3 (by
  simp only[execOp,h3,resolve,hb3,Sem.run_bind,Sem.run_pure,Result.andThen_ok,invoke,builtin,hl3,List.map_toArray,List.map_cons,List.map_nil,q2]
  simp[hT3,Builtin.len_,run_underlying hu,goInt]) ?_
 rw[t3]
 have hr4:=hr3.put (d:=some d3) (x:=.prim (.int .i64 0)) (v:=.int .i64 0) (fun t ht=>by cases ht;exact l3) (.prim _)
 have q3:(a2.put (some d3) (.int .i64 0)).eval (.tmp d3)=.int .i64 0:=by rw[act_put_get (by rw[hr3.nt];exact l3),if_pos rfl]
 have q3':(a2.put (some d3) (.int .i64 0)).eval (.tmp d1)=.slice (some ⟨w.heap.size,0,none⟩) n (grownCap w n 0 e):=by rw[act_put_get (by rw[hr3.nt];exact l3),if_neg n13,q2']
 generalize a2.put (some d3) (.int .i64 0)=a3 at hr4 q3 q3' ⊢
 have hsize:=(htab e d' hd').run_sizeOf w1
 have hsb:=run_sliceBound (P:=Γ.P) w1 (v:=.int .i64 0) (k:=.i64) (n:=0) rfl (y:=grownCap w n 0 e) (by omega) (by omega) .sliceAcap
 have hrun4:(Instr.sliceBounds true n (grownCap w n 0 e) none (some (.int .i64 0)) none).run Γ.P w1=.ok (0,0,grownCap w n 0 e) w1:=by
  simp[Instr.sliceBounds,hsb]
 have hne:¬grownCap w n 0 e=0:=by omega
 refine wpList_val (w':=w1) (v:=.slice (some ⟨w.heap.size,0,none⟩) 0 (grownCap w n 0 e)) g4 (by
  simp only[execOp,h4,Instr.sliceAt,Sem.run_bind,run_underlying hu,Result.andThen_ok,Instr.slice,q3',q3,Option.map_none,Option.map_some,hrun4,hsize,Sem.run_pure]
  simp[hne,Addr.add_lit]) ?_
 rw[t4]
 refine hK _ _ _ Qc hQ ((hr4).put (d:=some d4) (x:=.own s.hp.length 0) (v:=.slice (some ⟨w.heap.size,0,none⟩) 0 (grownCap w n 0 e)) (fun t ht=>by cases ht;exact l4) (.own _ _ _ rfl ?_))
 unfold OwnOk
 have:(s.hp++[AObj.row e d'.size []])[s.hp.length]?=some (.row e d'.size []):=by simp
 show match (s.hp++[AObj.row e d'.size []])[s.hp.length]? with|some (.row _ _ els)=>_|some (.mrow _ _ els)=>_|some .dead=>_|_=>_
 rw[this]
 exact⟨Nat.le_refl _,fun _=>by rw[←hr.heap.len];simp⟩
end Go.Proofs.YtjhanogfpkbamaaGreatDoor
