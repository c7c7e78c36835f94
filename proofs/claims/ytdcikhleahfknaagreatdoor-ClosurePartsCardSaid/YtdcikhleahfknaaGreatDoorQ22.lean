/- Texts of ours laid together for a claim: VcR. -/
import Derived.Test.YtdcikhleahfknaaGreatDoorQ21
namespace Go.Proofs.YtdcikhleahfknaaGreatDoor
open Go
set_option linter.unusedSimpArgs false
set_option linter.unusedVariables false
def intOf:AV→Option Int
 | .ae (.int .i64 n)=>some n
 |_=>none
theorem z6 {x:AV} {n:Int} (h:intOf x=some n):x=.ae (.int .i64 n):=by
 unfold intOf at h
 split at h
 ·rw[Option.some.inj h]
 ·cases h
def qL:List AV→Option (List Int)
 | []=>some []
 |x::l=>(match intOf x,qL l with
  |some n,some ns=>some (n::ns)
  |_,_=>none)
theorem wc:∀{l:List AV} {ns:List Int},qL l=some ns→l=ns.map fun n=>.ae (.int .i64 n)
 | [],ns,h=>by simp only[qL,Option.some.injEq] at h;subst h;rfl
 |x::l,ns,h=>by
  simp only[qL] at h
  split at h
  ·rename_i n ms h1 h2
   obtain rfl:=Option.some.inj h
   rw[z6 h1,wc h2];rfl
  ·cases h
structure WD where
 r:Nat
 n:Nat
 e:Nat
 m:Nat
 ns:List Int
def tU (hp:List af):AV→Option WD
 | .own r n=>(match hp[r]? with
  |some (.dh e m ns)=>some ⟨r,n,e,m,ns⟩
  |_=>none)
 |_=>none
theorem Ip {hp:List af} {x:AV} {q:WD} (h:tU hp x=some q):x=.own q.r q.n∧hp[q.r]?=some (.dh q.e q.m q.ns):=by
 unfold tU at h
 split at h
 ·split at h
  ·rename_i h1
   obtain rfl:=Option.some.inj h
   exact⟨rfl,h1⟩
  ·cases h
 ·cases h
def mA (tab:Nat→Option TD) (T:Nat):Option (Nat×TD×TD):=
 match tab T with
 |some d=>(match d.kind with
  | .iu e=>(tab e).map fun d'=>(e,d,d')
  |_=>none)
 |none=>none
theorem tV {tab:Nat→Option TD} {T e:Nat} {d d':TD} (h:mA tab T=some (e,d,d')):tab T=some d∧d.kind=.iu e∧tab e=some d':=by
 unfold mA at h
 split at h
 ·rename_i d1 h1
  split at h
  ·rename_i e1 h2
   obtain⟨d2,h3,h4⟩:=Option.map_eq_some_iff.1 h
   cases h4
   exact⟨h1,h2,h3⟩
  ·cases h
 ·cases h
def qOp (mk:Bool) (tab:Nat→Option TD) (hp:List af) (ρ:Operand→AV):Op→Option (List Prop×AV×List af)
 | .buildSlice T n parts=>(match mk,parts.toList,mA tab T with
  |true,[(0,x)],some (e,_,d')=>(match intOf (ρ x),Nat.beq d'.size 1&&Nat.beq n 1 with
   |some k,true=>some ([],.own hp.length 0,hp++[.dh e 0 [k]])
   |_,_=>none)
  |_,_,_=>none)
 | .indexAddr T x i=>(match mA tab T,tU hp (ρ x),ρ i with
  |some (e,_,d'),some q,.ae (.int _ k)=>(match Nat.beq d'.size 1&&Nat.beq e q.e with
   |true=>some ([q.n=q.m,0≤k∧k<q.ns.length],.ea q.r q.n k.toNat 1,hp)
   |false=>none)
  |_,_,_=>none)
 | .load T x=>(match ρ x,tab T with
  | .ea r n i 1,some d=>(match hp[r]?,Nat.beq d.size 1&&!d.kind.agg with
   |some (.dh _ m ns),true=>some ([n=m,i<ns.length],.ae (.int .i64 (ns.getD i 0)),hp)
   |_,_=>none)
  |_,_=>none)
 | .slice T x (some lo) none none=>(match mA tab T,tU hp (ρ x),ρ lo with
  |some (e,_,d'),some q,.ae (.int _ l)=>(match Nat.beq d'.size 1&&Nat.beq e q.e with
   |true=>some ([q.n=q.m,0≤l∧l≤q.ns.length],.own q.r (q.m+1),hp.set q.r (.dh e (q.m+1) (q.ns.drop l.toNat)))
   |false=>none)
  |_,_,_=>none)
 | .call c=>(match c.callee,c.args.toList,c.argTypes.toList with
  | .builtin .len,[x],[T]=>(match mA tab T,tU hp (ρ x) with
   |some _,some q=>some ([q.n=q.m],.ae (.int .i64 q.ns.length),hp)
   |_,_=>none)
  | .builtin .append,[b,x],[T,T']=>(match mA tab T,tU hp (ρ b),(ρ x).jm hp with
   |some (e,_,d'),some q,some (cs,els)=>(match qL els,Nat.beq d'.size 1&&(Nat.beq e q.e&&Nat.beq T T') with
    |some ks,true=>some (cs++[q.n=q.m,(q.ns.length+ks.length≤maxLen∧(q.ns.length+ks.length)*d'.bytes≤140737488355328)],.own q.r (q.m+1),hp.set q.r (.dh e (q.m+1) (q.ns++ks)))
    |_,_=>none)
   |_,_,_=>none)
  |_,_,_=>none)
 |_=>none
variable {G:Type} {Γ:Env G} {s:AS G} {a:Act} {w w':World} {η:List Value} {hp:List af}
theorem dT.Qm {e:Nat} {v:Value} {ns:List Int} {xs:List Value} (h:jf w e 1 v ns.length xs 0) (hx:xs=ns.map fun n=>.int .i64 n):dT w e v ns:=by
 rcases h.2 with⟨h0,h1⟩|⟨g,cap,cur,rfl,h0,⟨hi,hk,hg⟩,h2,h3,h4,h5⟩
 ·refine .inl ⟨List.eq_nil_of_length_eq_zero h0,?_⟩
  rcases h1 with rfl|⟨ad,rfl⟩
  ·exact⟨_,rfl⟩
  ·exact⟨_,rfl⟩
 ·obtain rfl:hi=0:=Nat.le_zero.1 hk
  refine .inr ⟨g,0,cap,cur,rfl,h0,hg,h2,h3,by omega,fun i n hn=>?_⟩
  have:xs[i]?=some (.int .i64 n):=by rw[hx,List.getElem?_map,hn];rfl
  rw[←h5,List.getElem?_take] at this
  split at this
  ·simpa using this
  ·cases this
theorem dT.slice {e:Nat} {v:Value} {ns:List Int} (h:dT w e v ns):∃ad c,v=.slice ad ns.length c:=by
 rcases h with⟨rfl,ad,rfl⟩|⟨g,o,cap,cur,rfl,_⟩
 ·exact⟨_,_,rfl⟩
 ·exact⟨_,_,rfl⟩
theorem Rel.dh (aq:Γ.Ok) (h:Rel Γ s a w η) {r e m:Nat} {ns RX:List Int} {v v':Value} (hr:s.hp[r]?=some (.dh e m ns)) (hv:η[r]?=some v) (hk:bo (fun k=>bT v=some k) w w') (Ha:∀b,bT v'=some b→bT v=some b∨w.heap.size≤b)
  (s9:dT w' e v' RX):Rel Γ { s with hp:=s.hp.set r (.dh e (m+1) RX) } a w' (η.set r v'):=by
 have hq:dT w e v ns:=h.heap.obj r _ _ hr hv
 obtain⟨ad,c,rfl⟩:=hq.slice
 exact h.change aq (o':=.dh e (m+1) RX) hr True.intro hv hk Ha (fun k hf=>hf.elim) (fun _ _ _ _ hf _=>hf.elim) (fun _ _ _ _ hf _=>hf.elim)
  (fun n u ho=>by
   unfold aQ at ho ⊢
   rw[hr] at ho
   rw[ai hr]
   exact⟨Nat.le_succ_of_le ho.1,fun hn=>by have:=ho.1;omega⟩)
  (fun _ hx=>by cases hx) (fun _ hx=>by cases hx) (fun b d hb hd=>by obtain⟨cur,h5⟩:=hq.lt hb;rw[h5] at hd;cases hd) (fun _=>s9)
theorem ig {r e m:Nat} {ns:List Int} {v:Value} (h:hp[r]?=some (.dh e m ns)):aQ η hp r m v↔η[r]?=some v:=by
 unfold aQ
 rw[h]
 exact⟨fun h=>h.2 rfl,fun h=>⟨Nat.le_refl _,fun _=>h⟩⟩
theorem CZ (aq:Γ.Ok) (h:Rel Γ s a w η) {t ty e:TypeId} {d:TD} (ht:Γ.P.underlying t=some (.slice e)) (ft:eK Γ.P e d) (h1:d.size=1) {r m:Nat} {ns ks:List Int} {av:List AV} {v0 v2:Value}
  (hr:s.hp[r]?=some (.dh e m ns)) (pa:η[r]?=some v0) (hx:aV w (aU Γ w η s.hp) η s.hp (.sl av) v2) (SE:qL av=some ks)
  (hm:ns.length+ks.length≤maxLen) (Cp:(ns.length+ks.length)*d.bytes≤140737488355328):
  ∃v' w',(Builtin.append_ #[t,t] ty #[v0,v2]).run Γ.P w=.ok v' w'∧Rel Γ { s with hp:=s.hp.set r (.dh e (m+1) (ns++ks)) } a w' (η.set r v')∧v'.oneCell'=true:=by
 have hq:dT w e v0 ns:=h.heap.obj r _ v0 hr pa
 have cy:=wc SE
 have hlen:av.length=ks.length:=by rw[cy,List.length_map]
 have n7:∀x:AV,x∈av→x.cells.length=d.size:=by
  intro x lH
  rw[cy] at lH
  obtain⟨n,_,rfl⟩:=List.mem_map.1 lH
  rw[h1];rfl
 obtain⟨i,nq,o7,y8,Ej⟩:=ft.info
 obtain⟨jo,hn⟩:=o8 (ty:=ty) ht ft (by omega) hx n7
 have lG:jo=ks.map fun n=>.int .i64 n:=by
  apply List.ext_getElem?
  intro j
  by_cases hj:j<ks.length
  ·have e1:av[j]?=some (.ae (.int .i64 ks[j])):=by rw[cy,List.getElem?_map,List.getElem?_eq_getElem hj];rfl
   obtain⟨u,q1,q2,_⟩:=hn.rep j _ 0 _ e1 rfl
   rw[h1,Nat.mul_one,Nat.add_zero] at q1
   rw[q1,List.getElem?_map,List.getElem?_eq_getElem hj,q2.ao];rfl
  ·rw[List.getElem?_eq_none (by rw[hn.len,h1,hlen];omega),List.getElem?_eq_none (by rw[List.length_map];omega)]
 by_cases hz:av=[]
 ·have FL:ks=[]:=List.eq_nil_of_length_eq_zero (by rw[←hlen,hz];rfl)
  subst FL
  obtain⟨ad,c,rfl⟩:=hq.slice
  have zi:ns.length≤c:=by
   rcases hq with⟨rfl,_⟩|⟨g,o,cap,cur,he,_,_,h5,_⟩
   ·exact Nat.zero_le _
   ·simp only[Value.slice.injEq] at he;omega
  exact⟨_,w,hn.nothing hz _ _ _ zi,h.dh aq hr pa (bo.refl _ w) (fun b hb=>.inl hb) (by rw[List.append_nil];exact hq),rfl⟩
 have xf:0<av.length:=List.length_pos_iff.2 hz
 have xd:ns.length+ks.length≤9223372036854775807:=by simp only[maxLen] at hm;omega
 have grown:∀(old:Nat),(∀b,bT v0=some b→b<w.heap.size)→
   Rel Γ { s with hp:=s.hp.set r (.dh e (m+1) (ns++ks)) } a
   (w.drew.alloc (.cells ((ns.map fun n=>Value.int .i64 n).toArray++jo.toArray++Builtin.zeroCells d.zero.cells (grownCap w (ns.length+av.length) old e-(ns.length+av.length))) e))
   (η.set r (.slice (some ⟨w.heap.size,0,none⟩) (ns.length+av.length) (grownCap w (ns.length+av.length) old e))):=by
  intro old al
  have hs:bt w (w.drew.alloc (.cells ((ns.map fun n=>Value.int .i64 n).toArray++jo.toArray++Builtin.zeroCells d.zero.cells (grownCap w (ns.length+av.length) old e-(ns.length+av.length))) e)):=
   (bt.drew w).trans (bt.alloc _ _)
  refine h.dh aq hr pa (hs.keeps _) (fun b hb=>?_) (.Qm (xs:=(ns.map fun n=>Value.int .i64 n)++jo) ?_ (by rw[lG,List.map_append]))
  ·rw[ba (by have:=grownCap_ge w (ns.length+av.length) old e;omega)] at hb
   obtain rfl:=Option.some.inj hb
   exact .inr (Nat.le_refl _)
  ·have:=qz (w:=w) (e:=e) (size:=d.size) (n:=ns.length) (m:=av.length) (z:=d.zero.cells) (ns.map fun n=>Value.int .i64 n) jo (by rw[h1,List.length_map,Nat.mul_one]) hn.len ft.Ei old xf (by rw[hlen];exact hm)
   rw[h1] at this
   rw[List.length_append,←hlen]
   exact this
 rcases hq with⟨rfl,ad,rfl⟩|⟨g,o,cap,cur,rfl,h0,hg,zi,Cn,eS,zj⟩
 ·have gr:=grown 0 (fun b hb=>by cases ad<;>simp[bT] at hb)
  simp only[List.map_nil,List.length_nil,Nat.zero_add,Array.empty_append] at gr
  simp only[List.length_nil,Nat.zero_add,←hlen] at xd Cp
  cases ad with
  |none=>
   have:=hn.nil xf (by omega) (by omega)
   exact⟨_,_,this,gr,rfl⟩
  |some ad=>
   have:=hn.grow xf ad 0 0 [] (by simp) (fun j u hj=>by simp at hj) (by omega) (by simp only[Nat.zero_add];omega) (growslice_fits (by omega) (by simpa only[Nat.zero_add] using Cp))
   simp only[Nat.zero_add,List.nil_append] at this
   refine⟨_,_,this,?_,rfl⟩
   simpa only[Array.empty_append] using gr
 ·have np:∀c,0<c→∀n,bT (.slice (some ⟨g,o,none⟩) n c)=some g:=fun c hc n=>ba hc
  by_cases dU:ns.length+av.length≤cap
  ·have Pk:jo.length=av.length:=by rw[hn.len,h1,Nat.mul_one]
   have o9:o+ns.length+jo.length≤cur.size:=by omega
   obtain⟨b2,o2,c2,rfl,hc⟩:∃b2 o2 c2,v2=.slice (some ⟨b2,o2,none⟩) av.length c2∧∀(j:Nat) (u:Value),jo[j]?=some u→w.cell? ((⟨b2,o2,none⟩:Addr).add j)=some u:=by
    obtain⟨SF,RL⟩:=hx.sH (size:=d.size) (by omega) n7
    have hnn:SF=jo:=by
     rw[lG]
     apply List.ext_getElem?
     intro j
     by_cases hj:j<ks.length
     ·have e1:av[j]?=some (.ae (.int .i64 ks[j])):=by rw[cy,List.getElem?_map,List.getElem?_eq_getElem hj];rfl
      obtain⟨u,q1,q2,_⟩:=RL.rep j _ 0 _ e1 rfl
      rw[h1,Nat.mul_one,Nat.add_zero] at q1
      rw[q1,List.getElem?_map,List.getElem?_eq_getElem hj,q2.ao];rfl
     ·rw[List.getElem?_eq_none (by rw[RL.len,h1,hlen];omega),List.getElem?_eq_none (by rw[List.length_map];omega)]
    rcases RL.shape with⟨_,_,q⟩|⟨b2,o2,c2,rfl,_,_,Hb⟩
    ·exact(hz q).elim
    ·exact⟨b2,o2,c2,rfl,fun j u hj=>by rw[Addr.add_lit];exact Hb j u (by rw[hnn];exact hj)⟩
   have Zj:=iw (us:=jo) hg (Nat.zero_le (o+ns.length)) o9
   have ew:=run_append_room_cells (P:=Γ.P) w t ty e i ht nq g o ns.length cap ⟨b2,o2,none⟩ av.length c2 jo (by rw[o7];exact hn.len) hc hn.one dU (by rw[o7,h1,Nat.mul_one];exact Zj.1) (by rw[o7,h1,Nat.mul_one];exact Zj.2)
   rw[o7,h1,Nat.mul_one,kS jo _ cur w hg o9] at ew
   refine⟨_,_,ew,?_,rfl⟩
   have Ek:=setRow_heap w g cur (cur.toList.take (o+ns.length)++jo++cur.toList.drop (o+ns.length+jo.length)).toArray e (0,0) hg
   refine h.dh aq hr pa ⟨rfl,rfl,rfl,by simp,fun k hk hb=>setRow_other w g k _ (fun e=>hb (by rw[np _ h0,e]))⟩ (fun b hb=>.inl (by rw[np _ h0];rw[np _ h0] at hb;exact hb)) (.inr ⟨g,o,cap,_,by rw[List.length_append,←hlen],h0,Ek,by rw[List.length_append,←hlen];exact dU,Cn,?_,fun j n hj=>?_⟩)
   ·simp only[List.size_toArray,List.length_append,List.length_take,List.length_drop,Array.length_toList]
    omega
   ·simp only[List.getElem?_toArray]
    by_cases al:j<ns.length
    ·rw[List.getElem?_append_left al] at hj
     rw[List.append_assoc,List.getElem?_append_left (by simp;omega),List.getElem?_take,if_pos (by omega)]
     simpa using zj j n hj
    ·rw[List.getElem?_append_right (by omega)] at hj
     have ie:j-ns.length<ks.length:=(List.getElem?_eq_some_iff.1 hj).1
     have cS:cur.toList.length=cur.size:=Array.length_toList
     have Zk:(List.take (o+ns.length) cur.toList).length=o+ns.length:=by rw[List.length_take,cS];exact Nat.min_eq_left (by omega)
     have hq:o+j-(List.take (o+ns.length) cur.toList).length=j-ns.length:=by rw[Zk];omega
     rw[List.append_assoc,List.getElem?_append_right (by rw[Zk];omega),hq,List.getElem?_append_left (by omega),lG,List.getElem?_map,hj];rfl
  ·have aw:∀(j:Nat) (u:Value),(ns.map fun n=>Value.int .i64 n)[j]?=some u→w.cell? ((⟨g,o,none⟩:Addr).add j)=some u:=by
    intro j u hj
    rw[List.getElem?_map] at hj
    obtain⟨n,Hr,rfl⟩:=Option.map_eq_some_iff.1 hj
    rw[Addr.add_lit,cell_of_row w g _ cur e _ hg]
    exact zj j n Hr
   have:=hn.grow xf ⟨g,o,none⟩ ns.length cap (ns.map fun n=>Value.int .i64 n) (by rw[h1,List.length_map,Nat.mul_one]) aw (by omega) (by omega) (growslice_fits (by omega) (by rw[hlen];exact Cp))
   exact⟨_,_,this,grown cap (fun b hb=>by rw[np _ h0] at hb;obtain rfl:=Option.some.inj hb;exact aX hg),rfl⟩
theorem pC {tab:Nat→Option TD} (ah:aL Γ.P tab) {T e:Nat} {d d':TD} (h:mA tab T=some (e,d,d')):Γ.P.underlying T=some (.slice e)∧eK Γ.P e d':=by
 obtain⟨h1,h2,h3⟩:=tV h
 obtain⟨u,q2,q3⟩:=(ah T d h1).iS
 rw[h2] at q3
 exact⟨by rw[q2];exact congrArg some q3,ah e d' h3⟩
theorem L8 {a b c d:Nat} (h:(Nat.beq a b&&Nat.beq c d)=true):a=b∧c=d:=by
 rw[Bool.and_eq_true] at h
 exact⟨Nat.eq_of_beq_eq_true h.1,Nat.eq_of_beq_eq_true h.2⟩
theorem Rel.Qn (h:Rel Γ s a w η) {x:Operand} {u:Value} (hx:s.ev x=.ae u):a.eval x=u:=by
 have:=h.ev x
 rw[hx] at this
 exact this.ao
theorem Rel.L9 (h:Rel Γ s a w η) {x:Operand} {q:WD} (hq:tU s.hp (s.ev x)=some q) (hn:q.n=q.m):s.hp[q.r]?=some (.dh q.e q.m q.ns)∧η[q.r]?=some (a.eval x)∧dT w q.e (a.eval x) q.ns:=by
 obtain⟨h1,h2⟩:=Ip hq
 have hx:=h.ev x
 rw[h1,hn] at hx
 generalize a.eval x=v at hx
 cases hx with
 |own _ _ _ _ qF=>
  have h3:=(ig h2).1 qF
  exact⟨h2,h3,h.heap.obj _ _ _ h2 h3⟩
theorem C0 (aq:Γ.Ok) {tab:Nat→Option TD} (ah:aL Γ.P tab) {o:Oper} {T e:Nat} {x:Operand} {parts:Array (Nat×Operand)} (ho:o.op=.buildSlice T 1 parts) {d d':TD} (hs:mA tab T=some (e,d,d')) (Hf:parts.toList=[(0,x)]) (h1:d'.size=1)
  {k:Int} (hk:s.ev x=.ae (.int .i64 k)):eA Γ o s (.own s.hp.length 0) (s.hp++[.dh e 0 [k]]):=by
 intro a w η hr
 obtain⟨hu,ft⟩:=pC ah hs
 have qw:=hr.Qn hk
 obtain⟨r,e1,e2,e3,e4⟩:=tx (size:=d'.size) [Value.int .i64 k] 0 (parts.toList.map fun p=>(p.1,a.eval p.2)) ((Array.range (1*d'.size)).map (d'.zero.cells[· % d'.zero.cells.size]!)) (by rw[Hf];simp[qw]) (fun j p hj=>by
  rw[Hf] at hj
  cases j with
  |zero=>simp at hj;rw[←hj]
  |succ j=>simp at hj) (fun v hv=>by simp at hv;rw[hv,h1];rfl) (by simp)
 have e5:=e4 0 _ 0 (.int .i64 k) rfl rfl
 have hb:¬1*d'.size>2 ^ 24:=by omega
 have hz:¬1*d'.size=0:=by omega
 have hrs:r.size=1:=by rw[e2];simp[h1]
 refine⟨.slice (some ⟨w.heap.size,0,none⟩) 1 1,w.alloc (.cells r e),η++[.slice (some ⟨w.heap.size,0,none⟩) 1 1],.inl ?_,?_,?_⟩
 ·simp only[execOp,ho,Instr.buildSlice,Sem.run_bind,run_underlying hu,Result.andThen_ok,ft.run_sizeOf,Sem.run_ite,if_neg hb,Sem.run_pure,if_neg hz,ft.fp,Array.toList_map,e1,newRow,run_newObj]
  rfl
 ·refine hr.add aq (bt.alloc w _) (fun b hb=>?_) (.inr ⟨w.heap.size,0,1,r,rfl,by omega,heap_alloc_new w _,by simp,by simp[maxLen],by omega,fun i n hn=>?_⟩)
  ·rw[ba (by omega)] at hb
   obtain rfl:=Option.some.inj hb
   exact Nat.le_refl _
  ·cases i with
   |zero=>
    simp at hn
    subst hn
    simpa using e5
   |succ i=>simp at hn
 ·exact .own _ _ _ rfl ((ig (e:=e) (ns:=[k]) (by simp)).2 (by rw[←hr.heap.len];simp))
theorem vw (aq:Γ.Ok) {tab:Nat→Option TD} (ah:aL Γ.P tab) {o:Oper} {T n e:Nat} {parts:Array (Nat×Operand)} (ho:o.op=.buildSlice T n parts) {d d':TD} (hd:tab T=some d) (hk:d.kind=.iu e) (cM:tab e=some d')
  (hn:n=parts.toList.length) (kV:0<n) (hz:0<d'.size) (jY:pd 0 parts.toList=true) (LU:n≤16777216) (LV:n*d'.size≤16777216) (hl:oy d'.size (parts.toList.map fun p=>(s.ev p.2).bh s.hp)):
  eA Γ o s (.own s.hp.length n) (s.hp++[.row e d'.size (parts.toList.map fun p=>(s.ev p.2).bh s.hp)]):=by
 intro a w η hr
 obtain⟨r,e1,e2,jZ,bO⟩:=lI aq ah ho hd hk cM hn jY LU LV hl hr
 have LW:=mc _ hl
 have he:=l9 (Γ:=Γ) (η:=η) (hp:=s.hp) (bt.alloc w (.cells r e)) (fun _ _=>dy)
 refine⟨_,_,η++[.slice (some ⟨w.heap.size,0,none⟩) n n],.inl e1,?_,?_⟩
 ·have Qd:=o6 (Γ:=Γ) (o:=.row e d'.size (parts.toList.map fun p=>(s.ev p.2).bh s.hp)) (v:=.slice (some ⟨w.heap.size,0,none⟩) n n) hr.heap.len (bt.alloc w (.cells r e)) (fun b hb=>by
   rw[ba kV] at hb
   obtain rfl:=Option.some.inj hb
   exact Nat.le_refl _)
  refine hr.add aq (bt.alloc w _) (fun b hb=>?_) ⟨hz,r.toList,⟨by rw[Array.length_toList,e2,jZ],.inr ⟨w.heap.size,n,r,by rw[jZ],kV,⟨0,Nat.zero_le _,heap_alloc_new w _⟩,by rw[jZ];exact Nat.le_refl _,by simp only[maxLen];omega,e2,by rw[jZ,←e2,←Array.length_toList,List.take_length]⟩⟩,fun i el hi=>⟨(LW el (List.mem_of_getElem? hi)).1,fun j x hj=>?_⟩⟩
  ·rw[ba kV] at hb
   obtain rfl:=Option.some.inj hb
   exact Nat.le_refl _
  ·obtain⟨u,h1,h2,h3⟩:=bO i el j x hi hj
   exact⟨u,by simpa using h1,h2.ext Qd.jP.ext,h3⟩
 ·refine .own _ _ _ rfl ?_
  unfold aQ
  rw[←hr.heap.len]
  simp[hr.heap.len,jZ]
theorem dT.at {e:Nat} {v:Value} {ns:List Int} (h:dT w e v ns) {i:Nat} (hi:i<ns.length):∃g o cap,v=.slice (some ⟨g,o,none⟩) ns.length cap∧w.cell? ⟨g,o+i,none⟩=some (.int .i64 (ns.getD i 0)):=by
 rcases h with⟨rfl,_⟩|⟨g,o,cap,cur,rfl,_,hg,_,_,_,h1⟩
 ·simp at hi
 ·refine⟨g,o,cap,rfl,?_⟩
  rw[cell_of_row w g _ cur e _ hg]
  exact h1 i _ (by simp[List.getD_eq_getElem?_getD,hi])
theorem Qo (aq:Γ.Ok) {tab:Nat→Option TD} (ah:aL Γ.P tab) {mk:Bool} {o:Oper} {cs:List Prop} {r:AV} {hp':List af} (h:qOp mk tab s.hp s.ev o.op=some (cs,r,hp')) (hc:dw cs):eA Γ o s r hp':=by
 generalize ho:o.op=op at h
 unfold qOp at h
 split at h
 ·
  split at h
  ·rename_i T n parts _ _ _ x e d d' Hf hs
   split at h
   ·rename_i k hk hb
    simp only[Option.some.injEq,Prod.mk.injEq] at h
    obtain⟨rfl,rfl,rfl⟩:=h
    obtain⟨b1,rfl⟩:=L8 hb
    exact C0 aq ah ho hs Hf b1 (z6 hk)
   ·cases h
  ·cases h
 ·
  split at h
  ·rename_i T x i _ _ _ e d d' q kk k hs hq hi
   split at h
   ·rename_i hb
    simp only[Option.some.injEq,Prod.mk.injEq] at h
    obtain⟨rfl,rfl,rfl⟩:=h
    obtain⟨h1,h2,_⟩:=hc
    obtain⟨b1,_⟩:=L8 hb
    intro a w η hr
    obtain⟨hu,ft⟩:=pC ah hs
    obtain⟨g1,g2,g3⟩:=hr.L9 hq h1
    have LQ:=hr.Qn hi
    obtain⟨g,off,cap,hv,_⟩:=g3.at (i:=k.toNat) (by omega)
    obtain⟨i0,vi,nq,_⟩:=ft.info
    refine⟨.pointer (some ⟨g,off+k.toNat*1,none⟩),w,η,.inl ?_,hr,.ea _ _ _ _ g off cap q.ns.length ?_⟩
    ·simp[execOp,ho,hv,LQ,Instr.indexAt,asIntOf,run_underlying hu,h2,sizeOf,typeInfo,vi,nq,Addr.add_lit,b1]
    ·rw[h1];exact(ig g1).2 (by rw[g2,hv])
   ·cases h
  ·cases h
 ·
  split at h
  ·rename_i T x _ _ r0 n i d hx hd
   split at h
   ·rename_i e m ns nQ hb
    simp only[Option.some.injEq,Prod.mk.injEq] at h
    obtain⟨rfl,rfl,rfl⟩:=h
    obtain⟨h1,h2,_⟩:=hc
    simp only[Bool.and_eq_true,Bool.not_eq_true'] at hb
    have bE:=Nat.eq_of_beq_eq_true hb.1
    have ft:=ah T d hd
    intro a w η hr
    have di:=hr.ev x
    rw[hx] at di
    cases tn:a.eval x<;>rw[tn] at di<;>cases di
    rename_i b o' c k qF
    rw[h1] at qF
    have dn:=(ig nQ).1 qF
    obtain⟨g,off,cap,hv,aw⟩:=dT.at (hr.heap.obj _ _ _ nQ dn) h2
    simp only[Value.slice.injEq,Option.some.injEq,Addr.mk.injEq,and_true] at hv
    obtain⟨⟨rfl,rfl⟩,_,_⟩:=hv
    refine⟨.int .i64 (ns.getD i 0),w,η,.inl ?_,hr,.ae _⟩
    simp only[execOp,ho,tn,Instr.loadAt,Instr.sureAddr,Sem.run_bind,Sem.run_pure,Result.andThen_ok]
    rw[ft.run_load (vs:=[.int .i64 (ns.getD i 0)]) (by rw[bE];rfl) (fun j u hj=>by
     cases j with
     |zero=>simp only[List.getElem?_cons_zero,Option.some.injEq] at hj;rw[←hj,Nat.mul_one,Nat.add_zero];exact aw
     |succ j=>simp at hj)]
    simp[hb.2]
   ·cases h
  ·cases h
 ·
  split at h
  ·rename_i T x lo _ _ _ e d d' q kk l hs hq hl
   split at h
   ·rename_i hb
    simp only[Option.some.injEq,Prod.mk.injEq] at h
    obtain⟨rfl,rfl,rfl⟩:=h
    obtain⟨h1,⟨h2,h3⟩,_⟩:=hc
    obtain⟨b1,b2⟩:=L8 hb
    intro a w η hr
    obtain⟨hu,ft⟩:=pC ah hs
    obtain⟨g1,g2,g3⟩:=hr.L9 hq h1
    have tA:=hr.Qn hl
    obtain⟨ad,c,hv,zi⟩:∃ad c,a.eval x=.slice ad q.ns.length c∧q.ns.length≤c:=by
     rcases g3 with⟨e0,ad,e1⟩|⟨g,off,cap,cur,e1,_,_,e2,_⟩
     ·exact⟨ad,0,by rw[e1,e0];rfl,by rw[e0];exact Nat.le_refl _⟩
     ·exact⟨_,cap,e1,e2⟩
    have Hd:=run_sliceBound (P:=Γ.P) w tA (y:=q.ns.length) h2 h3 .sliceB
    have ew:(Instr.sliceBounds true q.ns.length c (some (a.eval lo)) none none).run Γ.P w=.ok (l.toNat,q.ns.length,c) w:=by
     simp[Instr.sliceBounds,Hd]
    have j6:=ft.run_sizeOf w
    have hex:(execOp a.eval o).run Γ.P w=.ok (.value (.slice (if c=l.toNat then ad else ad.map (·.add (l.toNat*d'.size))) (q.ns.length-l.toNat) (c-l.toNat))) w:=by
     simp only[execOp,ho,Instr.sliceAt,Sem.run_bind,run_underlying hu,Result.andThen_ok,Instr.slice,hv,Option.map_some,Option.map_none,ew,j6,Sem.run_pure]
    subst b2
    have np:∀b,bT (.slice (if c=l.toNat then ad else ad.map (·.add (l.toNat*d'.size))) (q.ns.length-l.toNat) (c-l.toNat))=some b→bT (a.eval x)=some b:=by
     intro b hb
     rw[hv]
     by_cases cS:c=l.toNat
     ·rw[if_pos cS] at hb
      cases ad<;>simp[bT] at hb
      omega
     ·rw[if_neg cS] at hb
      cases ad with
      |none=>simp[bT] at hb
      |some ad=>
       simp only[Option.map_some] at hb
       rw[ba (by omega)] at hb ⊢
       have he:(ad.add (l.toNat*d'.size)).block=ad.block:=by unfold Addr.add;split<;>rfl
       rw[he] at hb
       exact hb
    refine⟨_,w,η.set q.r _,.inl hex,hr.dh aq g1 g2 (bo.refl _ w) (fun b hb=>.inl (np b hb)) ?_,.own _ _ _ rfl ((ig (ai g1)).2 (ai g2))⟩
    rw[hv] at g3
    rcases g3 with⟨e0,ad',e1⟩|⟨g,off,cap,cur,e1,e2,e3,e4,e5,e6,e7⟩
    ·simp only[Value.slice.injEq] at e1
     obtain⟨rfl,e1,rfl⟩:=e1
     refine .inl ⟨by rw[e0];simp,ad,?_⟩
     have:l.toNat=0:=by omega
     rw[this,e1];simp
    ·simp only[Value.slice.injEq] at e1
     obtain⟨rfl,_,rfl⟩:=e1
     by_cases cS:c=l.toNat
     ·refine .inl ⟨List.drop_eq_nil_of_le (by omega),some ⟨g,off,none⟩,?_⟩
      rw[if_pos cS,show q.ns.length-l.toNat=0 by omega,show c-l.toNat=0 by omega]
     ·rw[if_neg cS]
      refine .inr ⟨g,off+l.toNat,c-l.toNat,cur,by rw[List.length_drop,b1,Nat.mul_one,Option.map_some,Addr.add_lit],by omega,e3,by rw[List.length_drop];omega,by omega,by omega,fun i n hn=>?_⟩
      rw[List.getElem?_drop] at hn
      have:=e7 _ _ hn
      rw[Nat.add_assoc];exact this
   ·cases h
  ·cases h
 ·
  rename_i c
  split at h
  ·rename_i x T xD ax Qp
   split at h
   ·rename_i sd q hs hq
    simp only[Option.some.injEq,Prod.mk.injEq] at h
    obtain⟨rfl,rfl,rfl⟩:=h
    obtain⟨e,d,d'⟩:=sd
    intro a w η hr
    obtain⟨hu,ft⟩:=pC ah hs
    obtain⟨g1,g2,g3⟩:=hr.L9 hq hc.1
    obtain⟨ad,cc,hv⟩:=g3.slice
    have mh:c.argTypes=#[T]:=by rw[←Array.toArray_toList (xs:=c.argTypes),Qp]
    have ld:c.args=#[x]:=by rw[←Array.toArray_toList (xs:=c.args),ax]
    refine⟨.int .i64 q.ns.length,w,η,.inl ?_,hr,.ae _⟩
    simp[execOp,ho,resolve,xD,invoke,builtin,Builtin.len_,mh,ld,hv,run_underlying hu,goInt]
   ·cases h
  ·rename_i b x T T' xD ax Qp
   split at h
   ·rename_i e d d' q cs' els hs hq hx
    split at h
    ·rename_i ks SE hb
     simp only[Option.some.injEq,Prod.mk.injEq] at h
     obtain⟨rfl,rfl,rfl⟩:=h
     rw[bq] at hc
     obtain⟨FI,h1,⟨h2,h3⟩,_⟩:=hc
     rw[Bool.and_eq_true] at hb
     have b1:=Nat.eq_of_beq_eq_true hb.1
     obtain⟨b2,rfl⟩:=L8 hb.2
     intro a w η hr
     obtain⟨hu,ft⟩:=pC ah hs
     obtain⟨g1,g2,g3⟩:=hr.L9 hq h1
     have di:=iv hr.heap hr.bA (hr.ev x) (eM hx FI)
     have mh:c.argTypes=#[T,T]:=by rw[←Array.toArray_toList (xs:=c.argTypes),Qp]
     have ld:c.args=#[b,x]:=by rw[←Array.toArray_toList (xs:=c.args),ax]
     subst b2
     obtain⟨v',w',q1,q2,q3⟩:=CZ aq hr (ty:=o.type) hu ft b1 g1 g2 di SE h2 h3
     refine⟨v',w',_,.inl ?_,q2,.own _ _ _ q3 ((ig (ai g1)).2 (ai g2))⟩
     simp only[execOp,ho,resolve,xD,Sem.run_bind,Sem.run_pure,Result.andThen_ok,invoke,builtin,mh,ld,List.map_toArray,List.map_cons,List.map_nil,q1]
    ·cases h
   ·cases h
  ·cases h
 ·cases h
end Go.Proofs.YtdcikhleahfknaaGreatDoor
