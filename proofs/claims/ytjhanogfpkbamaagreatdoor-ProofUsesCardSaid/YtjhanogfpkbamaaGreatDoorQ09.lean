/- Texts of ours laid together for a claim: FilU. -/
import Derived.Lib.AppendZeros
import Derived.Test.YtjhanogfpkbamaaGreatDoorQ08
namespace Go.Proofs.YtjhanogfpkbamaaGreatDoor
open Go
set_option linter.unusedSimpArgs false
set_option linter.unusedVariables false
variable {G:Type} {Γ:Env G} {s s':AS G} {a:Act} {w w':World} {η:List Value} {hp:List af} {P:Program} {ops:Array Oper}
theorem iF {a:Act} {d t:Nat} {v:Value} (hd:d<a.tmps.size):(a.put (some d) v).eval (.tmp t)=if t=d then v else a.eval (.tmp t):=by
 show (a.tmps.setIfInBounds d v).getD t undef=if t=d then v else a.tmps.getD t undef
 rw[aiu,aiu,ajr]
 by_cases h:d=t
 ·subst h;simp[hd]
 ·rw[if_neg h,if_neg (fun e=>h e.symm)]
theorem nU {o:Oper} {rest:List Oper} {v:Value} {Q:Exit→Act→World→Prop} (hg:o.guard=none) (h:(execOp a.eval o).run Γ.P w=.ok (.value v) w') (hn:wpListIn Γ.eV 0 Γ.P ops Q rest (a.put o.dst v) w'):
  wpListIn Γ.eV 0 Γ.P ops Q (o::rest) a w:=by
 simp only[wpListIn]
 rw[if_pos (by simp[Region.wanted,hg])]
 refine⟨fun _ _=>trivial,?_⟩
 rw[kP h (.inl ⟨v,rfl⟩)]
 exact hn
theorem iB.room (aD:Γ.Ok) {az:Nat→Option TD} (au:aT Γ.P az) {K:AS G→Prop} {rest:List Oper} {o1 o2 o3 o4:Oper} {c1 c3:Call} {b z x:Operand} {T T' e d1 d2 d3 d4:Nat} {d d' dz:TD} {n:Nat} {ik:IntKind}
  (g1:o1.guard=none) (g2:o2.guard=none) (g3:o3.guard=none) (g4:o4.guard=none)
  (h1:o1.op=.call c1) (hb:c1.callee=.builtin .append) (hl:c1.args=#[b,z]) (hT:c1.argTypes=#[T,T'])
  (hd:az T=some d) (hk:d.kind=.lO e) (eG:az e=some d') (hz:az T'=some dz) (xl:dz.kind=.int ik) (cJ:0<d'.size)
  (pV:s.ev b=.ah (.slice none 0 0)) (hzv:s.ev z=.ah (.int .i64 n)) (hn:0<n) (hm:n≤maxLen) (G0:n*d'.bytes≤140737488355328)
  (h2:o2.op=.move x) (hx:s.ev x=.ah (.slice none 0 0)) (hxd:x ≠ .tmp d1)
  (h3:o3.op=.call c3) (XQ:c3.callee=.builtin .len) (US:c3.args=#[.tmp d2]) (hT3:c3.argTypes=#[T])
  (h4:o4.op=.slice T (.tmp d1) none (some (.tmp d3)) none)
  (t1:o1.dst=some d1) (t2:o2.dst=some d2) (t3:o3.dst=some d3) (t4:o4.dst=some d4) (l1:d1<Γ.nt) (l2:d2<Γ.nt) (l3:d3<Γ.nt) (l4:d4<Γ.nt) (n12:d1≠d2) (n13:d1≠d3)
  (hK:iB Γ ops K rest (AS.put (AS.put (AS.put (AS.put { s with hp:=s.hp++[.row e d'.size []] } (some d1) .top) (some d2) (.ah (.slice none 0 0))) (some d3) (.ah (.int .i64 0))) (some d4) (.own s.hp.length 0))):
  iB Γ ops K (o1::o2::o3::o4::rest) s:=by
 intro a w η Qc hQ hr
 obtain⟨i,pG,sX,DB,IL⟩:=(au e d' eG).info
 have hu:Γ.P.underlying T=some (.slice e):=by
  obtain⟨u,q2,q3⟩:=(au T d hd).jR
  rw[hk] at q3
  rw[q2];exact congrArg some q3
 have hu':Γ.P.underlying T'=some (.int ik):=by
  obtain⟨u,q2,q3⟩:=(au T' dz hz).jR
  rw[xl] at q3
  rw[q2];exact congrArg some q3
 have eb:=hr.ev b
 rw[pV] at eb
 have eb:=eb.aE
 have ez:=hr.ev z
 rw[hzv] at ez
 have ez:=ez.aE
 have ex:=hr.ev x
 rw[hx] at ex
 have ex:=ex.aE
 have dI:=hr.nt
 have gM:=Lib.run_append_nil_zeros (P:=Γ.P) w T T' o1.type e i d'.zero .i64 ik hu hu' pG IL n hn (by rw[sX];exact cJ) (by simp only[maxLen] at hm;omega) (by rw[DB];omega)
 refine nU (w':=w.drew.alloc (.cells (Builtin.zeroCells d'.zero.cells n++Builtin.zeroCells d'.zero.cells (grownCap w n 0 e-n)) e)) (v:=.slice (some ⟨w.heap.size,0,none⟩) n (grownCap w n 0 e)) g1 (by
  simp only[execOp,h1,resolve,hb,Sem.run_bind,Sem.run_pure,Result.andThen_ok,invoke,builtin,hT,hl,ajx,ais,aiY,eb,ez,gM]) ?_
 generalize Xq:w.drew.alloc _=w1
 have gQ:=grownCap_ge w n 0 e
 have IK:grownCap w n 0 e≤maxLen:=grownCap_le_maxLen w n 0 e hm
 have hs:bX w w1:=by rw[←Xq];exact(bX.drew w).trans (bX.alloc _ _)
 have GY:=hr.add aD (o:=.row e d'.size []) (v:=.slice (some ⟨w.heap.size,0,none⟩) 0 (grownCap w n 0 e)) hs (fun b' gb=>by
   rw[ct (by omega)] at gb
   obtain rfl:=Option.some.inj gb
   exact ah5 _) ⟨cJ,[],⟨by simp,.inr ⟨w.heap.size,_,_,rfl,by omega,by rw[←Xq];exact⟨0,ah3 _,heap_alloc_new w.drew _⟩,by simp,IK,by
    simp only[Array.size_append,size_zeroCells,(au e d' eG).IJ,←aiV]
    congr 1
    omega,by simp⟩⟩,fun i el hi=>by simp at hi⟩
 rw[t1]
 have p1:∀y:Operand,y ≠ .tmp d1→(a.put (some d1) (.slice (some ⟨w.heap.size,0,none⟩) n (grownCap w n 0 e))).eval y=a.eval y:=by
  intro y hy
  cases y with
  |tmp t=>
   rw[iF (by rw[dI];exact l1),if_neg (fun h=>hy (by rw[h]))]
  |_=>rfl
 have nH:=GY.put (d:=some d1) (x:=.top) (v:=.slice (some ⟨w.heap.size,0,none⟩) n (grownCap w n 0 e)) (fun t ht=>by cases ht;exact l1) (.top _)
 generalize ha1:a.put (some d1) (.slice (some ⟨w.heap.size,0,none⟩) n (grownCap w n 0 e))=a1 at nH p1 ⊢
 have q1:a1.eval (.tmp d1)=.slice (some ⟨w.heap.size,0,none⟩) n (grownCap w n 0 e):=by rw[←ha1,iF (by rw[dI];exact l1),if_pos rfl]
 refine nU (w':=w1) (v:=.slice none 0 0) g2 (by simp only[execOp,h2,Sem.run_pure,p1 x hxd,ex]) ?_
 rw[t2]
 have Hw:=nH.put (d:=some d2) (x:=.ah (.slice none 0 0)) (v:=.slice none 0 0) (fun t ht=>by cases ht;exact l2) (.ah _)
 have q2:(a1.put (some d2) (.slice none 0 0)).eval (.tmp d2)=.slice none 0 0:=by rw[iF (by rw[nH.nt];exact l2),if_pos rfl]
 have Q9:(a1.put (some d2) (.slice none 0 0)).eval (.tmp d1)=.slice (some ⟨w.heap.size,0,none⟩) n (grownCap w n 0 e):=by rw[iF (by rw[nH.nt];exact l2),if_neg n12,q1]
 generalize a1.put (some d2) (.slice none 0 0)=a2 at Hw q2 Q9 ⊢
 refine nU (w':=w1) (v:=.int .i64 0) g3 (by
  simp only[execOp,h3,resolve,XQ,Sem.run_bind,Sem.run_pure,Result.andThen_ok,invoke,builtin,US,ajx,ais,aiY,q2]
  simp[hT3,Builtin.len_,run_underlying hu,goInt]) ?_
 rw[t3]
 have hr4:=Hw.put (d:=some d3) (x:=.ah (.int .i64 0)) (v:=.int .i64 0) (fun t ht=>by cases ht;exact l3) (.ah _)
 have q3:(a2.put (some d3) (.int .i64 0)).eval (.tmp d3)=.int .i64 0:=by rw[iF (by rw[Hw.nt];exact l3),if_pos rfl]
 have q3':(a2.put (some d3) (.int .i64 0)).eval (.tmp d1)=.slice (some ⟨w.heap.size,0,none⟩) n (grownCap w n 0 e):=by rw[iF (by rw[Hw.nt];exact l3),if_neg n13,Q9]
 generalize a2.put (some d3) (.int .i64 0)=a3 at hr4 q3 q3' ⊢
 have rL:=(au e d' eG).run_sizeOf w1
 have hsb:=run_sliceBound (P:=Γ.P) w1 (v:=.int .i64 0) (k:=.i64) (n:=0) rfl (y:=grownCap w n 0 e) (by omega) (by omega) .sliceAcap
 have XR:(Instr.sliceBounds true n (grownCap w n 0 e) none (some (.int .i64 0)) none).run Γ.P w1=.ok (0,0,grownCap w n 0 e) w1:=by
  simp[Instr.sliceBounds,hsb]
 have bK:¬grownCap w n 0 e=0:=by omega
 refine nU (w':=w1) (v:=.slice (some ⟨w.heap.size,0,none⟩) 0 (grownCap w n 0 e)) g4 (by
  simp only[execOp,h4,Instr.sliceAt,Sem.run_bind,run_underlying hu,Result.andThen_ok,Instr.slice,q3',q3,Option.map_none,aiv,XR,rL,Sem.run_pure]
  simp[bK,Addr.add_lit]) ?_
 rw[t4]
 refine hK _ _ _ Qc hQ ((hr4).put (d:=some d4) (x:=.own s.hp.length 0) (v:=.slice (some ⟨w.heap.size,0,none⟩) 0 (grownCap w n 0 e)) (fun t ht=>by cases ht;exact l4) (.own _ _ _ rfl ?_))
 unfold aY
 have:(s.hp++[af.row e d'.size []])[s.hp.length]?=some (.row e d'.size []):=by simp
 show match (s.hp++[af.row e d'.size []])[s.hp.length]? with|some (.row _ _ els)=>_|some (.bM _ _ els)=>_|some (.eH _ m _)=>_|some .dead=>_|_=>_
 rw[this]
 exact⟨ah5 _,fun _=>by rw[←hr.heap.len];simp⟩
end Go.Proofs.YtjhanogfpkbamaaGreatDoor
