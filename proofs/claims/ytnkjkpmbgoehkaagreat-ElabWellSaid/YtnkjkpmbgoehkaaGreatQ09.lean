/- Lemmas. -/
import Derived.Lib.AppendZeros
import Derived.Test.YtnkjkpmbgoehkaaGreatQ08
namespace Go.Proofs.YtnkjkpmbgoehkaaGreat
open Go
open Go.Result renaming andThen_ok->al
open Go.Sem renaming run_pure->aq
set_option linter.unusedSimpArgs false
set_option linter.unusedVariables false
variable {G:Type} {Γ:Env G} {s s':AS G} {a:Act} {w w':World} {η:List Value} {hp:List aw} {P:Program} {ops:Array Oper}
theorem iK {a:Act} {d t:Nat} {v:Value} (hd:d<a.tmps.size):(a.put (some d) v).eval (.tmp t)=if t=d then v else a.eval (.tmp t):=by
 show (a.tmps.setIfInBounds d v).getD t undef=if t=d then v else a.tmps.getD t undef;rw[aq3,aq3,arU]
 by_cases h:d=t
 ·subst h;simp[hd]
 ·rw[if_neg h,if_neg (fun e=>h e.symm)]
theorem pg {o:Oper} {rest:List Oper} {v:Value} {Q:Exit->Act->World->Prop} (hg:o.guard=none) (h:(execOp a.eval o).run Γ.P w=.ok (.value v) w') (hn:wpListIn Γ.fj 0 Γ.P ops Q rest (a.put o.dst v) w'):
  wpListIn Γ.fj 0 Γ.P ops Q (o::rest) a w:=by
 simp only[wpListIn];rw[if_pos (by simp[Region.wanted,hg])];refine⟨fun _ _=>trivial,?_⟩;rw[lH h (.inl ⟨v,rfl⟩)];exact hn
theorem iG.room (aE:Γ.Ok) {tab:Nat->Option TD} (aA:bc Γ.P tab) {K:AS G->Prop} {rest:List Oper} {o1 o2 o3 o4:Oper} {c1 c3:Call} {b z x:Operand} {T T' e d1 d2 d3 d4:Nat} {d d' dz:TD} {n:Nat} {ik:IntKind}
  (g1:o1.guard=none) (g2:o2.guard=none) (g3:o3.guard=none) (g4:o4.guard=none)
  (h1:o1.op=.call c1) (hb:c1.callee=.builtin .append) (hl:c1.args=#[b,z]) (hT:c1.argTypes=#[T,T'])
  (hd:tab T=some d) (hk:d.kind=.lU e) (ef:tab e=some d') (hz:tab T'=some dz) (yi:dz.kind=.int ik) (cx:0<d'.size)
  (qD:s.ev b=.ax (.slice none 0 0)) (hzv:s.ev z=.ax (.int .i64 n)) (hn:0<n) (hm:n<=maxLen) (JG:n*d'.bytes<=140737488355328)
  (h2:o2.op=.move x) (hx:s.ev x=.ax (.slice none 0 0)) (hxd:x ≠ .tmp d1)
  (h3:o3.op=.call c3) (hb3:c3.callee=.builtin .len) (hl3:c3.args=#[.tmp d2]) (hT3:c3.argTypes=#[T])
  (h4:o4.op=.slice T (.tmp d1) none (some (.tmp d3)) none)
  (t1:o1.dst=some d1) (t2:o2.dst=some d2) (t3:o3.dst=some d3) (t4:o4.dst=some d4) (l1:d1<Γ.nt) (l2:d2<Γ.nt) (l3:d3<Γ.nt) (l4:d4<Γ.nt) (n12:d1≠d2) (n13:d1≠d3)
  (hK:iG Γ ops K rest (AS.put (AS.put (AS.put (AS.put { s with hp:=s.hp++[.row e d'.size []] } (some d1) .top) (some d2) (.ax (.slice none 0 0))) (some d3) (.ax (.int .i64 0))) (some d4) (.own s.hp.length 0))):
  iG Γ ops K (o1::o2::o3::o4::rest) s:=by
 intro a w η Qc hQ hr;obtain⟨i,jN,sD,Fw,LS⟩:=(aA e d' ef).info;have hu:Γ.P.underlying T=some (.slice e):=by
  obtain⟨u,q2,q3⟩:=(aA T d hd).mK;rw[hk] at q3;rw[q2];exact congrArg some q3
 have hu':Γ.P.underlying T'=some (.int ik):=by
  obtain⟨u,q2,q3⟩:=(aA T' dz hz).mK;rw[yi] at q3;rw[q2];exact congrArg some q3
 have eb:=hr.ev b;rw[qD] at eb;have eb:=eb.aC;have ez:=hr.ev z;rw[hzv] at ez;have ez:=ez.aC;have ex:=hr.ev x;rw[hx] at ex;have ex:=ex.aC;have dS:=hr.nt;have gX:=Lib.run_append_nil_zeros (P:=Γ.P) w T T' o1.type e i d'.zero .i64 ik hu hu' jN LS n hn (by rw[sD];exact cx) (by simp only[maxLen] at hm;omega) (by rw[Fw];omega);refine pg (w':=w.drew.alloc (.cells (Builtin.zeroCells d'.zero.cells n++Builtin.zeroCells d'.zero.cells (grownCap w n 0 e-n)) e)) (v:=.slice (some ⟨w.heap.size,0,none⟩) n (grownCap w n 0 e)) g1 (by
  simp only[execOp,h1,resolve,hb,Sem.run_bind,aq,al,invoke,builtin,hT,hl,arY,aqS,arl,eb,ez,gX]) ?_
 generalize J9:w.drew.alloc _=w1;have jM:=grownCap_ge w n 0 e;have Jy:grownCap w n 0 e<=maxLen:=grownCap_le_maxLen w n 0 e hm;have hs:bV w w1:=by rw[<-J9];exact(bV.drew w).trans (bV.alloc _ _)
 have DP:=hr.add aE (o:=.row e d'.size []) (v:=.slice (some ⟨w.heap.size,0,none⟩) 0 (grownCap w n 0 e)) hs (fun b' gz=>by
   rw[cF (by omega)] at gz;obtain rfl:=aqs gz;exact aqw _) ⟨cx,[],⟨by simp,.inr ⟨w.heap.size,_,_,rfl,by omega,by rw[<-J9];exact⟨0,aqC _,heap_alloc_new w.drew _⟩,by simp,Jy,by
    simp only[Array.size_append,size_zeroCells,(aA e d' ef).LR,<-arz]
    congr 1
    omega,by simp⟩⟩,fun i el hi=>by simp at hi⟩
 rw[t1];have p1:∀y:Operand,y ≠ .tmp d1->(a.put (some d1) (.slice (some ⟨w.heap.size,0,none⟩) n (grownCap w n 0 e))).eval y=a.eval y:=by
  intro y hy
  cases y with
  |tmp t=>
   rw[iK (by rw[dS];exact l1),if_neg (fun h=>hy (by rw[h]))]
  |_=>rfl
 have rV:=DP.put (d:=some d1) (x:=.top) (v:=.slice (some ⟨w.heap.size,0,none⟩) n (grownCap w n 0 e)) (fun t ht=>by cases ht;exact l1) (.top _);generalize ha1:a.put (some d1) (.slice (some ⟨w.heap.size,0,none⟩) n (grownCap w n 0 e))=a1 at rV p1 ⊢;have q1:a1.eval (.tmp d1)=.slice (some ⟨w.heap.size,0,none⟩) n (grownCap w n 0 e):=by rw[<-ha1,iK (by rw[dS];exact l1),if_pos rfl]
 refine pg (w':=w1) (v:=.slice none 0 0) g2 (by simp only[execOp,h2,aq,p1 x hxd,ex]) ?_;rw[t2];have J6:=rV.put (d:=some d2) (x:=.ax (.slice none 0 0)) (v:=.slice none 0 0) (fun t ht=>by cases ht;exact l2) (.ax _);have q2:(a1.put (some d2) (.slice none 0 0)).eval (.tmp d2)=.slice none 0 0:=by rw[iK (by rw[rV.nt];exact l2),if_pos rfl]
 have XC:(a1.put (some d2) (.slice none 0 0)).eval (.tmp d1)=.slice (some ⟨w.heap.size,0,none⟩) n (grownCap w n 0 e):=by rw[iK (by rw[rV.nt];exact l2),if_neg n12,q1]
 generalize a1.put (some d2) (.slice none 0 0)=a2 at J6 q2 XC ⊢;refine pg (w':=w1) (v:=.int .i64 0) g3 (by
  simp only[execOp,h3,resolve,hb3,Sem.run_bind,aq,al,invoke,builtin,hl3,arY,aqS,arl,q2]
  simp[hT3,Builtin.len_,run_underlying hu,goInt]) ?_
 rw[t3];have hr4:=J6.put (d:=some d3) (x:=.ax (.int .i64 0)) (v:=.int .i64 0) (fun t ht=>by cases ht;exact l3) (.ax _);have q3:(a2.put (some d3) (.int .i64 0)).eval (.tmp d3)=.int .i64 0:=by rw[iK (by rw[J6.nt];exact l3),if_pos rfl]
 have q3':(a2.put (some d3) (.int .i64 0)).eval (.tmp d1)=.slice (some ⟨w.heap.size,0,none⟩) n (grownCap w n 0 e):=by rw[iK (by rw[J6.nt];exact l3),if_neg n13,XC]
 generalize a2.put (some d3) (.int .i64 0)=a3 at hr4 q3 q3' ⊢;have sF:=(aA e d' ef).run_sizeOf w1;have hsb:=run_sliceBound (P:=Γ.P) w1 (v:=.int .i64 0) (k:=.i64) (n:=0) rfl (y:=grownCap w n 0 e) (by omega) (by omega) .sliceAcap;have aea:(Instr.sliceBounds true n (grownCap w n 0 e) none (some (.int .i64 0)) none).run Γ.P w1=.ok (0,0,grownCap w n 0 e) w1:=by
  simp[Instr.sliceBounds,hsb]
 have cg:¬grownCap w n 0 e=0:=by omega
 refine pg (w':=w1) (v:=.slice (some ⟨w.heap.size,0,none⟩) 0 (grownCap w n 0 e)) g4 (by
  simp only[execOp,h4,Instr.sliceAt,Sem.run_bind,run_underlying hu,al,Instr.slice,q3',q3,Option.map_none,aq1,aea,sF,aq]
  simp[cg,Addr.add_lit]) ?_
 rw[t4];refine hK _ _ _ Qc hQ ((hr4).put (d:=some d4) (x:=.own s.hp.length 0) (v:=.slice (some ⟨w.heap.size,0,none⟩) 0 (grownCap w n 0 e)) (fun t ht=>by cases ht;exact l4) (.own _ _ _ rfl ?_));unfold bl;have:(s.hp++[aw.row e d'.size []])[s.hp.length]?=some (.row e d'.size []):=by simp
 show match (s.hp++[aw.row e d'.size []])[s.hp.length]? with|some (.row _ _ els)=>_|some (.bj _ _ els)=>_|some (.fz _ m _)=>_|some .dead=>_|_=>_
 rw[this];exact⟨aqw _,fun _=>by rw[<-hr.heap.len];simp⟩
end Go.Proofs.YtnkjkpmbgoehkaaGreat
