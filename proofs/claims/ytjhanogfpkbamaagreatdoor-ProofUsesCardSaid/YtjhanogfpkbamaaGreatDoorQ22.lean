/- Texts of ours laid together for a claim: VcR. -/
import Derived.Test.YtjhanogfpkbamaaGreatDoorQ21
namespace Go.Proofs.YtjhanogfpkbamaaGreatDoor
open Go
set_option linter.unusedSimpArgs false
set_option linter.unusedVariables false
def intOf:AV→Option Int
 | .ah (.int .i64 n)=>some n
 |_=>none
theorem Ex {x:AV} {n:Int} (h:intOf x=some n):x=.ah (.int .i64 n):=by
 unfold intOf at h
 split at h
 ·rw[Option.some.inj h]
 ·cases h
def u0:List AV→Option (List Int)
 | []=>some []
 |x::l=>(match intOf x,u0 l with
  |some n,some ns=>some (n::ns)
  |_,_=>none)
theorem AK:∀{l:List AV} {ns:List Int},u0 l=some ns→l=ns.map fun n=>.ah (.int .i64 n)
 | [],ns,h=>by simp only[u0,Option.some.injEq] at h;subst h;rfl
 |x::l,ns,h=>by
  simp only[u0] at h
  split at h
  ·rename_i n ms h1 h2
   obtain rfl:=Option.some.inj h
   rw[Ex h1,AK h2];rfl
  ·cases h
structure Que where
 r:Nat
 n:Nat
 e:Nat
 m:Nat
 ns:List Int
def yP (hp:List af):AV→Option Que
 | .own r n=>(match hp[r]? with
  |some (.eH e m ns)=>some ⟨r,n,e,m,ns⟩
  |_=>none)
 |_=>none
theorem Nu {hp:List af} {x:AV} {q:Que} (h:yP hp x=some q):x=.own q.r q.n∧hp[q.r]?=some (.eH q.e q.m q.ns):=by
 unfold yP at h
 split at h
 ·split at h
  ·rename_i h1
   obtain rfl:=Option.some.inj h
   exact⟨rfl,h1⟩
  ·cases h
 ·cases h
def rQ (az:Nat→Option TD) (T:Nat):Option (Nat×TD×TD):=
 match az T with
 |some d=>(match d.kind with
  | .lO e=>(az e).map fun d'=>(e,d,d')
  |_=>none)
 |none=>none
theorem Ey {az:Nat→Option TD} {T e:Nat} {d d':TD} (h:rQ az T=some (e,d,d')):az T=some d∧d.kind=.lO e∧az e=some d':=by
 unfold rQ at h
 split at h
 ·rename_i d1 h1
  split at h
  ·rename_i e1 h2
   obtain⟨d2,h3,h4⟩:=aiX.1 h
   cases h4
   exact⟨h1,h2,h3⟩
  ·cases h
 ·cases h
def qOp (mk:Bool) (az:Nat→Option TD) (hp:List af) (ρ:Operand→AV):Op→Option (List Prop×AV×List af)
 | .buildSlice T n parts=>(match mk,parts.toList,rQ az T with
  |true,[(0,x)],some (e,_,d')=>(match intOf (ρ x),Nat.beq d'.size 1&&Nat.beq n 1 with
   |some k,true=>some ([],.own hp.length 0,hp++[.eH e 0 [k]])
   |_,_=>none)
  |_,_,_=>none)
 | .indexAddr T x i=>(match rQ az T,yP hp (ρ x),ρ i with
  |some (e,_,d'),some q,.ah (.int _ k)=>(match Nat.beq d'.size 1&&Nat.beq e q.e with
   |true=>some ([q.n=q.m,0≤k∧k<q.ns.length],.fY q.r q.n k.toNat 1,hp)
   |false=>none)
  |_,_,_=>none)
 | .load T x=>(match ρ x,az T with
  | .fY r n i 1,some d=>(match hp[r]?,Nat.beq d.size 1&&!d.kind.agg with
   |some (.eH _ m ns),true=>some ([n=m,i<ns.length],.ah (.int .i64 (ns.getD i 0)),hp)
   |_,_=>none)
  |_,_=>none)
 | .slice T x (some lo) none none=>(match rQ az T,yP hp (ρ x),ρ lo with
  |some (e,_,d'),some q,.ah (.int _ l)=>(match Nat.beq d'.size 1&&Nat.beq e q.e with
   |true=>some ([q.n=q.m,0≤l∧l≤q.ns.length],.own q.r (q.m+1),hp.set q.r (.eH e (q.m+1) (q.ns.drop l.toNat)))
   |false=>none)
  |_,_,_=>none)
 | .call c=>(match c.callee,c.args.toList,c.argTypes.toList with
  | .builtin .len,[x],[T]=>(match rQ az T,yP hp (ρ x) with
   |some _,some q=>some ([q.n=q.m],.ah (.int .i64 q.ns.length),hp)
   |_,_=>none)
  | .builtin .append,[b,x],[T,T']=>(match rQ az T,yP hp (ρ b),(ρ x).l6 hp with
   |some (e,_,d'),some q,some (cs,els)=>(match u0 els,Nat.beq d'.size 1&&(Nat.beq e q.e&&Nat.beq T T') with
    |some ks,true=>some (cs++[q.n=q.m,(q.ns.length+ks.length≤maxLen∧(q.ns.length+ks.length)*d'.bytes≤140737488355328)],.own q.r (q.m+1),hp.set q.r (.eH e (q.m+1) (q.ns++ks)))
    |_,_=>none)
   |_,_,_=>none)
  |_,_,_=>none)
 |_=>none
variable {G:Type} {Γ:Env G} {s:AS G} {a:Act} {w w':World} {η:List Value} {hp:List af}
theorem ga.V4 {e:Nat} {v:Value} {ns:List Int} {xs:List Value} (h:lT w e 1 v ns.length xs 0) (hx:xs=ns.map fun n=>.int .i64 n):ga w e v ns:=by
 rcases h.2 with⟨h0,h1⟩|⟨g,cap,cur,rfl,h0,⟨hi,hk,hg⟩,h2,h3,h4,h5⟩
 ·refine .inl ⟨aio h0,?_⟩
  rcases h1 with rfl|⟨ad,rfl⟩
  ·exact⟨_,rfl⟩
  ·exact⟨_,rfl⟩
 ·obtain rfl:hi=0:=Nat.le_zero.1 hk
  refine .inr ⟨g,0,cap,cur,rfl,h0,hg,h2,h3,by omega,fun i n hn=>?_⟩
  have:xs[i]?=some (.int .i64 n):=by rw[hx,aie,hn];rfl
  rw[←h5,aik] at this
  split at this
  ·simpa using this
  ·cases this
theorem ga.slice {e:Nat} {v:Value} {ns:List Int} (h:ga w e v ns):∃ad c,v=.slice ad ns.length c:=by
 rcases h with⟨rfl,ad,rfl⟩|⟨g,o,cap,cur,rfl,_⟩
 ·exact⟨_,_,rfl⟩
 ·exact⟨_,_,rfl⟩
theorem Rel.eH (aD:Γ.Ok) (h:Rel Γ s a w η) {r e m:Nat} {ns XC:List Int} {v v':Value} (hr:s.hp[r]?=some (.eH e m ns)) (hv:η[r]?=some v) (hk:cD (fun k=>dK v=some k) w w') (L9:∀b,dK v'=some b→dK v=some b∨w.heap.size≤b)
  (xZ:ga w' e v' XC):Rel Γ { s with hp:=s.hp.set r (.eH e (m+1) XC) } a w' (η.set r v'):=by
 have hq:ga w e v ns:=h.heap.obj r _ _ hr hv
 obtain⟨ad,c,rfl⟩:=hq.slice
 exact h.change aD (o':=.eH e (m+1) XC) hr True.intro hv hk L9 (fun k hf=>hf.elim) (fun _ _ _ _ hf _=>hf.elim) (fun _ _ _ _ hf _=>hf.elim)
  (fun n u ho=>by
   unfold aY at ho ⊢
   rw[hr] at ho
   rw[aA hr]
   exact⟨Nat.le_succ_of_le ho.1,fun hn=>by have:=ho.1;omega⟩)
  (fun _ hx=>by cases hx) (fun _ hx=>by cases hx) (fun b d hb hd=>by obtain⟨cur,h5⟩:=hq.lt hb;rw[h5] at hd;cases hd) (fun _=>xZ)
theorem kR {r e m:Nat} {ns:List Int} {v:Value} (h:hp[r]?=some (.eH e m ns)):aY η hp r m v↔η[r]?=some v:=by
 unfold aY
 rw[h]
 exact⟨fun h=>h.2 rfl,fun h=>⟨ah5 _,fun _=>h⟩⟩
theorem HH (aD:Γ.Ok) (h:Rel Γ s a w η) {t ty e:TypeId} {d:TD} (ht:Γ.P.underlying t=some (.slice e)) (iL:iI Γ.P e d) (h1:d.size=1) {r m:Nat} {ns ks:List Int} {aG:List AV} {v0 v2:Value}
  (hr:s.hp[r]?=some (.eH e m ns)) (uO:η[r]?=some v0) (hx:bw w (bn Γ w η s.hp) η s.hp (.sl aG) v2) (hks:u0 aG=some ks)
  (hm:ns.length+ks.length≤maxLen) (G0:(ns.length+ks.length)*d.bytes≤140737488355328):
  ∃v' w',(Builtin.append_ #[t,t] ty #[v0,v2]).run Γ.P w=.ok v' w'∧Rel Γ { s with hp:=s.hp.set r (.eH e (m+1) (ns++ks)) } a w' (η.set r v')∧v'.oneCell'=true:=by
 have hq:ga w e v0 ns:=h.heap.obj r _ v0 hr uO
 have eC:=AK hks
 have hlen:aG.length=ks.length:=by rw[eC,ahX]
 have uM:∀x:AV,x∈aG→x.cells.length=d.size:=by
  intro x oR
  rw[eC] at oR
  obtain⟨n,_,rfl⟩:=aiQ.1 oR
  rw[h1];rfl
 obtain⟨i,pG,sX,DB,IL⟩:=iL.info
 obtain⟨l8,hn⟩:=sY (ty:=ty) ht iL (by omega) hx uM
 have x7:l8=ks.map fun n=>.int .i64 n:=by
  apply aiO
  intro j
  by_cases hj:j<ks.length
  ·have e1:aG[j]?=some (.ah (.int .i64 ks[j])):=by rw[eC,aie,ah2 hj];rfl
   obtain⟨u,q1,q2,_⟩:=hn.rep j _ 0 _ e1 rfl
   rw[h1,ajg,ai4] at q1
   rw[q1,aie,ah2 hj,q2.aE];rfl
  ·rw[aiG (by rw[hn.len,h1,hlen];omega),aiG (by rw[ahX];omega)]
 by_cases hz:aG=[]
 ·have MB:ks=[]:=aio (by rw[←hlen,hz];rfl)
  subst MB
  obtain⟨ad,c,rfl⟩:=hq.slice
  have DM:ns.length≤c:=by
   rcases hq with⟨rfl,_⟩|⟨g,o,cap,cur,he,_,_,h5,_⟩
   ·exact ah3 _
   ·simp only[Value.slice.injEq] at he;omega
  exact⟨_,w,hn.nothing hz _ _ _ DM,h.eH aD hr uO (cD.refl _ w) (fun b hb=>.inl hb) (by rw[aiH];exact hq),rfl⟩
 have zZ:0<aG.length:=ai0.2 hz
 have BA:ns.length+ks.length≤9223372036854775807:=by simp only[maxLen] at hm;omega
 have grown:∀(rK:Nat),(∀b,dK v0=some b→b<w.heap.size)→
   Rel Γ { s with hp:=s.hp.set r (.eH e (m+1) (ns++ks)) } a
   (w.drew.alloc (.cells ((ns.map fun n=>Value.int .i64 n).toArray++l8.toArray++Builtin.zeroCells d.zero.cells (grownCap w (ns.length+aG.length) rK e-(ns.length+aG.length))) e))
   (η.set r (.slice (some ⟨w.heap.size,0,none⟩) (ns.length+aG.length) (grownCap w (ns.length+aG.length) rK e))):=by
  intro rK ay
  have hs:bX w (w.drew.alloc (.cells ((ns.map fun n=>Value.int .i64 n).toArray++l8.toArray++Builtin.zeroCells d.zero.cells (grownCap w (ns.length+aG.length) rK e-(ns.length+aG.length))) e)):=
   (bX.drew w).trans (bX.alloc _ _)
  refine h.eH aD hr uO (hs.keeps _) (fun b hb=>?_) (.V4 (xs:=(ns.map fun n=>Value.int .i64 n)++l8) ?_ (by rw[x7,aii]))
  ·rw[ct (by have:=grownCap_ge w (ns.length+aG.length) rK e;omega)] at hb
   obtain rfl:=Option.some.inj hb
   exact .inr (ah5 _)
  ·have:=uL (w:=w) (e:=e) (size:=d.size) (n:=ns.length) (m:=aG.length) (z:=d.zero.cells) (ns.map fun n=>Value.int .i64 n) l8 (by rw[h1,ahX,ajg]) hn.len iL.IJ rK zZ (by rw[hlen];exact hm)
   rw[h1] at this
   rw[ah0,←hlen]
   exact this
 rcases hq with⟨rfl,ad,rfl⟩|⟨g,o,cap,cur,rfl,h0,hg,DM,IK,iK,GV⟩
 ·have gr:=grown 0 (fun b hb=>by cases ad<;>simp[dK] at hb)
  simp only[aiY,aiK,aiw,Array.empty_append] at gr
  simp only[aiK,aiw,←hlen] at BA G0
  cases ad with
  |none=>
   have:=hn.nil zZ (by omega) (by omega)
   exact⟨_,_,this,gr,rfl⟩
  |some ad=>
   have:=hn.grow zZ ad 0 0 [] (by simp) (fun j u hj=>by simp at hj) (by omega) (by simp only[aiw];omega) (growslice_fits (by omega) (by simpa only[aiw] using G0))
   simp only[aiw,aiU] at this
   refine⟨_,_,this,?_,rfl⟩
   simpa only[Array.empty_append] using gr
 ·have rI:∀c,0<c→∀n,dK (.slice (some ⟨g,o,none⟩) n c)=some g:=fun c hc n=>ct hc
  by_cases fR:ns.length+aG.length≤cap
  ·have U7:l8.length=aG.length:=by rw[hn.len,h1,ajg]
   have sZ:o+ns.length+l8.length≤cur.size:=by omega
   obtain⟨b2,o2,c2,rfl,hc⟩:∃b2 o2 c2,v2=.slice (some ⟨b2,o2,none⟩) aG.length c2∧∀(j:Nat) (u:Value),l8[j]?=some u→w.cell? ((⟨b2,o2,none⟩:Addr).add j)=some u:=by
    obtain⟨Yb,U8⟩:=hx.xk (size:=d.size) (by omega) uM
    have hnn:Yb=l8:=by
     rw[x7]
     apply aiO
     intro j
     by_cases hj:j<ks.length
     ·have e1:aG[j]?=some (.ah (.int .i64 ks[j])):=by rw[eC,aie,ah2 hj];rfl
      obtain⟨u,q1,q2,_⟩:=U8.rep j _ 0 _ e1 rfl
      rw[h1,ajg,ai4] at q1
      rw[q1,aie,ah2 hj,q2.aE];rfl
     ·rw[aiG (by rw[U8.len,h1,hlen];omega),aiG (by rw[ahX];omega)]
    rcases U8.shape with⟨_,_,q⟩|⟨b2,o2,c2,rfl,_,_,Mb⟩
    ·exact(hz q).elim
    ·exact⟨b2,o2,c2,rfl,fun j u hj=>by rw[Addr.add_lit];exact Mb j u (by rw[hnn];exact hj)⟩
   have hrm:=kX (us:=l8) hg (ah3 (o+ns.length)) sZ
   have gM:=run_append_room_cells (P:=Γ.P) w t ty e i ht pG g o ns.length cap ⟨b2,o2,none⟩ aG.length c2 l8 (by rw[sX];exact hn.len) hc hn.one fR (by rw[sX,h1,ajg];exact hrm.1) (by rw[sX,h1,ajg];exact hrm.2)
   rw[sX,h1,ajg,nL l8 _ cur w hg sZ] at gM
   refine⟨_,_,gM,?_,rfl⟩
   have IM:=setRow_heap w g cur (cur.toList.take (o+ns.length)++l8++cur.toList.drop (o+ns.length+l8.length)).toArray e (0,0) hg
   refine h.eH aD hr uO ⟨rfl,rfl,rfl,by simp,fun k hk hb=>setRow_other w g k _ (fun e=>hb (by rw[rI _ h0,e]))⟩ (fun b hb=>.inl (by rw[rI _ h0];rw[rI _ h0] at hb;exact hb)) (.inr ⟨g,o,cap,_,by rw[ah0,←hlen],h0,IM,by rw[ah0,←hlen];exact fR,IK,?_,fun j n hj=>?_⟩)
   ·simp only[ajS,ah0,aid,aix,aiL]
    omega
   ·simp only[ajH]
    by_cases ay:j<ns.length
    ·rw[aib ay] at hj
     rw[ah7,aib (by simp;omega),aik,if_pos (by omega)]
     simpa using GV j n hj
    ·rw[aiz (by omega)] at hj
     have kQ:j-ns.length<ks.length:=(ahY.1 hj).1
     have eu:cur.toList.length=cur.size:=aiL
     have I8:(List.take (o+ns.length) cur.toList).length=o+ns.length:=by rw[aid,eu];exact ajC (by omega)
     have hq:o+j-(List.take (o+ns.length) cur.toList).length=j-ns.length:=by rw[I8];omega
     rw[ah7,aiz (by rw[I8];omega),hq,aib (by omega),x7,aie,hj];rfl
  ·have aN:∀(j:Nat) (u:Value),(ns.map fun n=>Value.int .i64 n)[j]?=some u→w.cell? ((⟨g,o,none⟩:Addr).add j)=some u:=by
    intro j u hj
    rw[aie] at hj
    obtain⟨n,Mz,rfl⟩:=aiX.1 hj
    rw[Addr.add_lit,cell_of_row w g _ cur e _ hg]
    exact GV j n Mz
   have:=hn.grow zZ ⟨g,o,none⟩ ns.length cap (ns.map fun n=>Value.int .i64 n) (by rw[h1,ahX,ajg]) aN (by omega) (by omega) (growslice_fits (by omega) (by rw[hlen];exact G0))
   exact⟨_,_,this,grown cap (fun b hb=>by rw[rI _ h0] at hb;obtain rfl:=Option.some.inj hb;exact bY hg),rfl⟩
theorem tC {az:Nat→Option TD} (au:aT Γ.P az) {T e:Nat} {d d':TD} (h:rQ az T=some (e,d,d')):Γ.P.underlying T=some (.slice e)∧iI Γ.P e d':=by
 obtain⟨h1,h2,h3⟩:=Ey h
 obtain⟨u,q2,q3⟩:=(au T d h1).jR
 rw[h2] at q3
 exact⟨by rw[q2];exact congrArg some q3,au e d' h3⟩
theorem Re {a b c d:Nat} (h:(Nat.beq a b&&Nat.beq c d)=true):a=b∧c=d:=by
 rw[ahZ] at h
 exact⟨ain h.1,ain h.2⟩
theorem Rel.V5 (h:Rel Γ s a w η) {x:Operand} {u:Value} (hx:s.ev x=.ah u):a.eval x=u:=by
 have:=h.ev x
 rw[hx] at this
 exact this.aE
theorem Rel.Rf (h:Rel Γ s a w η) {x:Operand} {q:Que} (hq:yP s.hp (s.ev x)=some q) (hn:q.n=q.m):s.hp[q.r]?=some (.eH q.e q.m q.ns)∧η[q.r]?=some (a.eval x)∧ga w q.e (a.eval x) q.ns:=by
 obtain⟨h1,h2⟩:=Nu hq
 have hx:=h.ev x
 rw[h1,hn] at hx
 generalize a.eval x=v at hx
 cases hx with
 |own _ _ _ _ uS=>
  have h3:=(kR h2).1 uS
  exact⟨h2,h3,h.heap.obj _ _ _ h2 h3⟩
theorem HI (aD:Γ.Ok) {az:Nat→Option TD} (au:aT Γ.P az) {o:Oper} {T e:Nat} {x:Operand} {parts:Array (Nat×Operand)} (ho:o.op=.buildSlice T 1 parts) {d d':TD} (hs:rQ az T=some (e,d,d')) (Mf:parts.toList=[(0,x)]) (h1:d'.size=1)
  {k:Int} (hk:s.ev x=.ah (.int .i64 k)):gR Γ o s (.own s.hp.length 0) (s.hp++[.eH e 0 [k]]):=by
 intro a w η hr
 obtain⟨hu,iL⟩:=tC au hs
 have vF:=hr.V5 hk
 obtain⟨r,e1,e2,e3,e4⟩:=yp (size:=d'.size) [Value.int .i64 k] 0 (parts.toList.map fun p=>(p.1,a.eval p.2)) ((Array.range (1*d'.size)).map (d'.zero.cells[· % d'.zero.cells.size]!)) (by rw[Mf];simp[vF]) (fun j p hj=>by
  rw[Mf] at hj
  cases j with
  |zero=>simp at hj;rw[←hj]
  |succ j=>simp at hj) (fun v hv=>by simp at hv;rw[hv,h1];rfl) (by simp)
 have e5:=e4 0 _ 0 (.int .i64 k) rfl rfl
 have hb:¬1*d'.size>2 ^ 24:=by omega
 have hz:¬1*d'.size=0:=by omega
 have hrs:r.size=1:=by rw[e2];simp[h1]
 refine⟨.slice (some ⟨w.heap.size,0,none⟩) 1 1,w.alloc (.cells r e),η++[.slice (some ⟨w.heap.size,0,none⟩) 1 1],.inl ?_,?_,?_⟩
 ·simp only[execOp,ho,Instr.buildSlice,Sem.run_bind,run_underlying hu,Result.andThen_ok,iL.run_sizeOf,Sem.run_ite,if_neg hb,Sem.run_pure,if_neg hz,iL.jS,ajV,e1,newRow,run_newObj]
  rfl
 ·refine hr.add aD (bX.alloc w _) (fun b hb=>?_) (.inr ⟨w.heap.size,0,1,r,rfl,by omega,heap_alloc_new w _,by simp,by simp[maxLen],by omega,fun i n hn=>?_⟩)
  ·rw[ct (by omega)] at hb
   obtain rfl:=Option.some.inj hb
   exact ah5 _
  ·cases i with
   |zero=>
    simp at hn
    subst hn
    simpa using e5
   |succ i=>simp at hn
 ·exact .own _ _ _ rfl ((kR (e:=e) (ns:=[k]) (by simp)).2 (by rw[←hr.heap.len];simp))
theorem ga.at {e:Nat} {v:Value} {ns:List Int} (h:ga w e v ns) {i:Nat} (hi:i<ns.length):∃g o cap,v=.slice (some ⟨g,o,none⟩) ns.length cap∧w.cell? ⟨g,o+i,none⟩=some (.int .i64 (ns.getD i 0)):=by
 rcases h with⟨rfl,_⟩|⟨g,o,cap,cur,rfl,_,hg,_,_,_,h1⟩
 ·simp at hi
 ·refine⟨g,o,cap,rfl,?_⟩
  rw[cell_of_row w g _ cur e _ hg]
  exact h1 i _ (by simp[List.getD_eq_getElem?_getD,hi])
theorem V6 (aD:Γ.Ok) {az:Nat→Option TD} (au:aT Γ.P az) {mk:Bool} {o:Oper} {cs:List Prop} {r:AV} {hp':List af} (h:qOp mk az s.hp s.ev o.op=some (cs,r,hp')) (hc:eY cs):gR Γ o s r hp':=by
 generalize ho:o.op=op at h
 unfold qOp at h
 split at h
 ·
  split at h
  ·rename_i T n parts _ _ _ x e d d' Mf hs
   split at h
   ·rename_i k hk hb
    simp only[Option.some.injEq,Prod.mk.injEq] at h
    obtain⟨rfl,rfl,rfl⟩:=h
    obtain⟨b1,rfl⟩:=Re hb
    exact HI aD au ho hs Mf b1 (Ex hk)
   ·cases h
  ·cases h
 ·
  split at h
  ·rename_i T x i _ _ _ e d d' q kk k hs hq hi
   split at h
   ·rename_i hb
    simp only[Option.some.injEq,Prod.mk.injEq] at h
    obtain⟨rfl,rfl,rfl⟩:=h
    obtain⟨h1,h2,_⟩:=hc
    obtain⟨b1,_⟩:=Re hb
    intro a w η hr
    obtain⟨hu,iL⟩:=tC au hs
    obtain⟨g1,g2,g3⟩:=hr.Rf hq h1
    have VK:=hr.V5 hi
    obtain⟨g,off,cap,hv,_⟩:=g3.at (i:=k.toNat) (by omega)
    obtain⟨i0,G6,pG,_⟩:=iL.info
    refine⟨.pointer (some ⟨g,off+k.toNat*1,none⟩),w,η,.inl ?_,hr,.fY _ _ _ _ g off cap q.ns.length ?_⟩
    ·simp[execOp,ho,hv,VK,Instr.indexAt,asIntOf,run_underlying hu,h2,sizeOf,typeInfo,G6,pG,Addr.add_lit,b1]
    ·rw[h1];exact(kR g1).2 (by rw[g2,hv])
   ·cases h
  ·cases h
 ·
  split at h
  ·rename_i T x _ _ r0 n i d hx hd
   split at h
   ·rename_i e m ns ry hb
    simp only[Option.some.injEq,Prod.mk.injEq] at h
    obtain⟨rfl,rfl,rfl⟩:=h
    obtain⟨h1,h2,_⟩:=hc
    simp only[ahZ,aiA] at hb
    have cJ:=ain hb.1
    have iL:=au T d hd
    intro a w η hr
    have eU:=hr.ev x
    rw[hx] at eU
    cases yf:a.eval x<;>rw[yf] at eU<;>cases eU
    rename_i b o' c k uS
    rw[h1] at uS
    have eS:=(kR ry).1 uS
    obtain⟨g,off,cap,hv,aN⟩:=ga.at (hr.heap.obj _ _ _ ry eS) h2
    simp only[Value.slice.injEq,Option.some.injEq,Addr.mk.injEq,and_true] at hv
    obtain⟨⟨rfl,rfl⟩,_,_⟩:=hv
    refine⟨.int .i64 (ns.getD i 0),w,η,.inl ?_,hr,.ah _⟩
    simp only[execOp,ho,yf,Instr.loadAt,Instr.sureAddr,Sem.run_bind,Sem.run_pure,Result.andThen_ok]
    rw[iL.run_load (vs:=[.int .i64 (ns.getD i 0)]) (by rw[cJ];rfl) (fun j u hj=>by
     cases j with
     |zero=>simp only[aiS,Option.some.injEq] at hj;rw[←hj,ajg,ai4];exact aN
     |succ j=>simp at hj)]
    simp[hb.2]
   ·cases h
  ·cases h
 ·
  split at h
  ·rename_i T x lo _ _ _ e d d' q kk l hs hq hl
   split at h
   ·rename_i hb
    simp only[Option.some.injEq,Prod.mk.injEq] at h
    obtain⟨rfl,rfl,rfl⟩:=h
    obtain⟨h1,⟨h2,h3⟩,_⟩:=hc
    obtain⟨b1,b2⟩:=Re hb
    intro a w η hr
    obtain⟨hu,iL⟩:=tC au hs
    obtain⟨g1,g2,g3⟩:=hr.Rf hq h1
    have AB:=hr.V5 hl
    obtain⟨ad,c,hv,DM⟩:∃ad c,a.eval x=.slice ad q.ns.length c∧q.ns.length≤c:=by
     rcases g3 with⟨e0,ad,e1⟩|⟨g,off,cap,cur,e1,_,_,e2,_⟩
     ·exact⟨ad,0,by rw[e1,e0];rfl,by rw[e0];exact ah5 _⟩
     ·exact⟨_,cap,e1,e2⟩
    have Me:=run_sliceBound (P:=Γ.P) w AB (y:=q.ns.length) h2 h3 .sliceB
    have gM:(Instr.sliceBounds true q.ns.length c (some (a.eval lo)) none none).run Γ.P w=.ok (l.toNat,q.ns.length,c) w:=by
     simp[Instr.sliceBounds,Me]
    have rL:=iL.run_sizeOf w
    have hex:(execOp a.eval o).run Γ.P w=.ok (.value (.slice (if c=l.toNat then ad else ad.map (·.add (l.toNat*d'.size))) (q.ns.length-l.toNat) (c-l.toNat))) w:=by
     simp only[execOp,ho,Instr.sliceAt,Sem.run_bind,run_underlying hu,Result.andThen_ok,Instr.slice,hv,aiv,Option.map_none,gM,rL,Sem.run_pure]
    subst b2
    have rI:∀b,dK (.slice (if c=l.toNat then ad else ad.map (·.add (l.toNat*d'.size))) (q.ns.length-l.toNat) (c-l.toNat))=some b→dK (a.eval x)=some b:=by
     intro b hb
     rw[hv]
     by_cases eu:c=l.toNat
     ·rw[if_pos eu] at hb
      cases ad<;>simp[dK] at hb
      omega
     ·rw[if_neg eu] at hb
      cases ad with
      |none=>simp[dK] at hb
      |some ad=>
       simp only[aiv] at hb
       rw[ct (by omega)] at hb ⊢
       have he:(ad.add (l.toNat*d'.size)).block=ad.block:=by unfold Addr.add;split<;>rfl
       rw[he] at hb
       exact hb
    refine⟨_,w,η.set q.r _,.inl hex,hr.eH aD g1 g2 (cD.refl _ w) (fun b hb=>.inl (rI b hb)) ?_,.own _ _ _ rfl ((kR (aA g1)).2 (aA g2))⟩
    rw[hv] at g3
    rcases g3 with⟨e0,ad',e1⟩|⟨g,off,cap,cur,e1,e2,e3,e4,e5,e6,e7⟩
    ·simp only[Value.slice.injEq] at e1
     obtain⟨rfl,e1,rfl⟩:=e1
     refine .inl ⟨by rw[e0];simp,ad,?_⟩
     have:l.toNat=0:=by omega
     rw[this,e1];simp
    ·simp only[Value.slice.injEq] at e1
     obtain⟨rfl,_,rfl⟩:=e1
     by_cases eu:c=l.toNat
     ·refine .inl ⟨ah8 (by omega),some ⟨g,off,none⟩,?_⟩
      rw[if_pos eu,show q.ns.length-l.toNat=0 by omega,show c-l.toNat=0 by omega]
     ·rw[if_neg eu]
      refine .inr ⟨g,off+l.toNat,c-l.toNat,cur,by rw[aix,b1,ajg,aiv,Addr.add_lit],by omega,e3,by rw[aix];omega,by omega,by omega,fun i n hn=>?_⟩
      rw[ajc] at hn
      have:=e7 _ _ hn
      rw[ajt];exact this
   ·cases h
  ·cases h
 ·
  rename_i c
  split at h
  ·rename_i x T BZ aI V7
   split at h
   ·rename_i sd q hs hq
    simp only[Option.some.injEq,Prod.mk.injEq] at h
    obtain⟨rfl,rfl,rfl⟩:=h
    obtain⟨e,d,d'⟩:=sd
    intro a w η hr
    obtain⟨hu,iL⟩:=tC au hs
    obtain⟨g1,g2,g3⟩:=hr.Rf hq hc.1
    obtain⟨ad,cc,hv⟩:=g3.slice
    have pW:c.argTypes=#[T]:=by rw[←aiF (xs:=c.argTypes),V7]
    have nV:c.args=#[x]:=by rw[←aiF (xs:=c.args),aI]
    refine⟨.int .i64 q.ns.length,w,η,.inl ?_,hr,.ah _⟩
    simp[execOp,ho,resolve,BZ,invoke,builtin,Builtin.len_,pW,nV,hv,run_underlying hu,goInt]
   ·cases h
  ·rename_i b x T T' BZ aI V7
   split at h
   ·rename_i e d d' q iP els hs hq hx
    split at h
    ·rename_i ks hks hb
     simp only[Option.some.injEq,Prod.mk.injEq] at h
     obtain⟨rfl,rfl,rfl⟩:=h
     rw[bT] at hc
     obtain⟨DL,h1,⟨h2,h3⟩,_⟩:=hc
     rw[ahZ] at hb
     have b1:=ain hb.1
     obtain⟨b2,rfl⟩:=Re hb.2
     intro a w η hr
     obtain⟨hu,iL⟩:=tC au hs
     obtain⟨g1,g2,g3⟩:=hr.Rf hq h1
     have eU:=kW hr.heap hr.cE (hr.ev x) (gV hx DL)
     have pW:c.argTypes=#[T,T]:=by rw[←aiF (xs:=c.argTypes),V7]
     have nV:c.args=#[b,x]:=by rw[←aiF (xs:=c.args),aI]
     subst b2
     obtain⟨v',w',q1,q2,q3⟩:=HH aD hr (ty:=o.type) hu iL b1 g1 g2 eU hks h2 h3
     refine⟨v',w',_,.inl ?_,q2,.own _ _ _ q3 ((kR (aA g1)).2 (aA g2))⟩
     simp only[execOp,ho,resolve,BZ,Sem.run_bind,Sem.run_pure,Result.andThen_ok,invoke,builtin,pW,nV,ajx,ais,aiY,q1]
    ·cases h
   ·cases h
  ·cases h
 ·cases h
end Go.Proofs.YtjhanogfpkbamaaGreatDoor
