/- Texts of ours laid together for a claim: VcR. -/
import Derived.Test.YtdcikhleahfknaaGreatDoorQ21
namespace Go.Proofs.YtdcikhleahfknaaGreatDoor
open Go
set_option linter.unusedSimpArgs false
set_option linter.unusedVariables false
def intOf:AV->Option Int
 | .ae (.int .i64 n)=>some n
 |_=>none
theorem Ec {x:AV} {n:Int} (h:intOf x=some n):x=.ae (.int .i64 n):=by
 unfold intOf at h;split at h
 ·rw[alw h]
 ·cases h
def tR:List AV->Option (List Int)
 | []=>some []
 |x::l=>(match intOf x,tR l with
  |some n,some ns=>some (n::ns)
  |_,_=>none)
theorem zU:∀{l:List AV} {ns:List Int},tR l=some ns->l=ns.map fun n=>.ae (.int .i64 n)
 | [],ns,h=>by simp only[tR,als] at h;subst h;rfl
 |x::l,ns,h=>by
  simp only[tR] at h;split at h
  ·rename_i n ms h1 h2;obtain rfl:=alw h;rw[Ec h1,zU h2];rfl
  ·cases h
structure Que where
 r:Nat
 n:Nat
 e:Nat
 m:Nat
 ns:List Int
def xk (hp:List af):AV->Option Que
 | .own r n=>(match hp[r]? with
  |some (.dN e m ns)=>some ⟨r,n,e,m,ns⟩
  |_=>none)
 |_=>none
theorem N5 {hp:List af} {x:AV} {q:Que} (h:xk hp x=some q):x=.own q.r q.n/\hp[q.r]?=some (.dN q.e q.m q.ns):=by
 unfold xk at h;split at h
 ·split at h
  ·rename_i h1;obtain rfl:=alw h;exact⟨rfl,h1⟩
  ·cases h
 ·cases h
def oQ (tab:Nat->Option TD) (T:Nat):Option (Nat×TD×TD):=
 match tab T with
 |some d=>(match d.kind with
  | .jS e=>(tab e).map fun d'=>(e,d,d')
  |_=>none)
 |none=>none
theorem xl {tab:Nat->Option TD} {T e:Nat} {d d':TD} (h:oQ tab T=some (e,d,d')):tab T=some d/\d.kind=.jS e/\tab e=some d':=by
 unfold oQ at h;split at h
 ·rename_i d1 h1;split at h
  ·rename_i e1 h2;obtain⟨d2,h3,h4⟩:=amv.1 h;cases h4;exact⟨h1,h2,h3⟩
  ·cases h
 ·cases h
def qOp (mk:Bool) (tab:Nat->Option TD) (hp:List af) (ρ:Operand->AV):Op->Option (List Prop×AV×List af)
 | .buildSlice T n parts=>(match mk,parts.toList,oQ tab T with
  |true,[(0,x)],some (e,_,d')=>(match intOf (ρ x),Nat.beq d'.size 1&&Nat.beq n 1 with
   |some k,true=>some ([],.own hp.length 0,hp++[.dN e 0 [k]])
   |_,_=>none)
  |_,_,_=>none)
 | .indexAddr T x i=>(match oQ tab T,xk hp (ρ x),ρ i with
  |some (e,_,d'),some q,.ae (.int _ k)=>(match Nat.beq d'.size 1&&Nat.beq e q.e with
   |true=>some ([q.n=q.m,0<=k/\k<q.ns.length],.fa q.r q.n k.toNat 1,hp)
   |false=>none)
  |_,_,_=>none)
 | .load T x=>(match ρ x,tab T with
  | .fa r n i 1,some d=>(match hp[r]?,Nat.beq d.size 1&&!d.kind.agg with
   |some (.dN _ m ns),true=>some ([n=m,i<ns.length],.ae (.int .i64 (ns.getD i 0)),hp)
   |_,_=>none)
  |_,_=>none)
 | .slice T x (some lo) none none=>(match oQ tab T,xk hp (ρ x),ρ lo with
  |some (e,_,d'),some q,.ae (.int _ l)=>(match Nat.beq d'.size 1&&Nat.beq e q.e with
   |true=>some ([q.n=q.m,0<=l/\l<=q.ns.length],.own q.r (q.m+1),hp.set q.r (.dN e (q.m+1) (q.ns.drop l.toNat)))
   |false=>none)
  |_,_,_=>none)
 | .call c=>(match c.callee,c.args.toList,c.argTypes.toList with
  | .builtin .len,[x],[T]=>(match oQ tab T,xk hp (ρ x) with
   |some _,some q=>some ([q.n=q.m],.ae (.int .i64 q.ns.length),hp)
   |_,_=>none)
  | .builtin .append,[b,x],[T,T']=>(match oQ tab T,xk hp (ρ b),(ρ x).kZ hp with
   |some (e,_,d'),some q,some (cs,els)=>(match tR els,Nat.beq d'.size 1&&(Nat.beq e q.e&&Nat.beq T T') with
    |some ks,true=>some (cs++[q.n=q.m,(q.ns.length+ks.length<=maxLen/\(q.ns.length+ks.length)*d'.bytes<=140737488355328)],.own q.r (q.m+1),hp.set q.r (.dN e (q.m+1) (q.ns++ks)))
    |_,_=>none)
   |_,_,_=>none)
  |_,_,_=>none)
 |_=>none
variable {G:Type} {Γ:Env G} {s:AS G} {a:Act} {w w':World} {η:List Value} {hp:List af}
theorem eS.Ys {e:Nat} {v:Value} {ns:List Int} {xs:List Value} (h:kQ w e 1 v ns.length xs 0) (hx:xs=ns.map fun n=>.int .i64 n):eS w e v ns:=by
 rcases h.2 with⟨h0,h1⟩|⟨g,cap,cur,rfl,h0,⟨hi,hk,hg⟩,h2,h3,h4,h5⟩
 ·refine .inl ⟨al1 h0,?_⟩;rcases h1 with rfl|⟨ad,rfl⟩
  ·exact⟨_,rfl⟩
  ·exact⟨_,rfl⟩
 ·obtain rfl:hi=0:=Nat.le_zero.1 hk;refine .inr ⟨g,0,cap,cur,rfl,h0,hg,h2,h3,by omega,fun i n hn=>?_⟩;have:xs[i]?=some (.int .i64 n):=by rw[hx,alM,hn];rfl
  rw[<-h5,alO] at this;split at this
  ·simpa using this
  ·cases this
theorem eS.slice {e:Nat} {v:Value} {ns:List Int} (h:eS w e v ns):∃ad c,v=.slice ad ns.length c:=by
 rcases h with⟨rfl,ad,rfl⟩|⟨g,o,cap,cur,rfl,_⟩
 ·exact⟨_,_,rfl⟩
 ·exact⟨_,_,rfl⟩
theorem Rel.dN (ax:Γ.Ok) (h:Rel Γ s a w η) {r e m:Nat} {ns Z7:List Int} {v v':Value} (hr:s.hp[r]?=some (.dN e m ns)) (hv:η[r]?=some v) (hk:bE (fun k=>ct v=some k) w w') (Jp:∀b,ct v'=some b->ct v=some b\/w.heap.size<=b)
  (wF:eS w' e v' Z7):Rel Γ { s with hp:=s.hp.set r (.dN e (m+1) Z7) } a w' (η.set r v'):=by
 have hq:eS w e v ns:=h.heap.obj r _ _ hr hv;obtain⟨ad,c,rfl⟩:=hq.slice;exact h.change ax (o':=.dN e (m+1) Z7) hr True.intro hv hk Jp (fun k hf=>hf.elim) (fun _ _ _ _ hf _=>hf.elim) (fun _ _ _ _ hf _=>hf.elim)
  (fun n u ho=>by
   unfold aT at ho ⊢;rw[hr] at ho;rw[au hr]
   exact⟨Nat.le_succ_of_le ho.1,fun hn=>by have:=ho.1;omega⟩)
  (fun _ hx=>by cases hx) (fun _ hx=>by cases hx) (fun b d hb hd=>by obtain⟨cur,h5⟩:=hq.lt hb;rw[h5] at hd;cases hd) (fun _=>wF)
theorem jM {r e m:Nat} {ns:List Int} {v:Value} (h:hp[r]?=some (.dN e m ns)):aT η hp r m v↔η[r]?=some v:=by
 unfold aT;rw[h];exact⟨fun h=>h.2 rfl,fun h=>⟨alA _,fun _=>h⟩⟩
theorem HF (ax:Γ.Ok) (h:Rel Γ s a w η) {t ty e:TypeId} {d:TD} (ht:Γ.P.underlying t=some (.slice e)) (gO:fN Γ.P e d) (h1:d.size=1) {r m:Nat} {ns ks:List Int} {aD:List AV} {v0 v2:Value}
  (hr:s.hp[r]?=some (.dN e m ns)) (rH:η[r]?=some v0) (hx:bm w (bk Γ w η s.hp) η s.hp (.sl aD) v2) (Yt:tR aD=some ks)
  (hm:ns.length+ks.length<=maxLen) (G7:(ns.length+ks.length)*d.bytes<=140737488355328):
  ∃v' w',(Builtin.append_ #[t,t] ty #[v0,v2]).run Γ.P w=.ok v' w'/\Rel Γ { s with hp:=s.hp.set r (.dN e (m+1) (ns++ks)) } a w' (η.set r v')/\v'.oneCell'=true:=by
 have hq:eS w e v0 ns:=h.heap.obj r _ v0 hr rH;have cS:=zU Yt;have hlen:aD.length=ks.length:=by rw[cS,alv]
 have qg:∀x:AV,x∈aD->x.cells.length=d.size:=by
  intro x kD;rw[cS] at kD;obtain⟨n,_,rfl⟩:=amz.1 kD;rw[h1];rfl
 obtain⟨i,ox,rC,Df,Jr⟩:=gO.info;obtain⟨k9,hn⟩:=rF (ty:=ty) ht gO (by omega) hx qg;have nP:k9=ks.map fun n=>.int .i64 n:=by
  apply ams;intro j
  by_cases hj:j<ks.length
  ·have e1:aD[j]?=some (.ae (.int .i64 ks[j])):=by rw[cS,alM,aly hj];rfl
   obtain⟨u,q1,q2,_⟩:=hn.rep j _ 0 _ e1 rfl;rw[h1,amI,amy] at q1;rw[q1,alM,aly hj,q2.ay];rfl
  ·rw[al0 (by rw[hn.len,h1,hlen];omega),al0 (by rw[alv];omega)]
 by_cases hz:aD=[]
 ·have y5:ks=[]:=al1 (by rw[<-hlen,hz];rfl);subst y5;obtain⟨ad,c,rfl⟩:=hq.slice;have Dp:ns.length<=c:=by
   rcases hq with⟨rfl,_⟩|⟨g,o,cap,cur,he,_,_,h5,_⟩
   ·exact alE _
   ·simp only[Value.slice.injEq] at he;omega
  exact⟨_,w,hn.nothing hz _ _ _ Dp,h.dN ax hr rH (bE.refl _ w) (fun b hb=>.inl hb) (by rw[alV];exact hq),rfl⟩
 have Bb:0<aD.length:=ang.2 hz;have Ba:ns.length+ks.length<=9223372036854775807:=by simp only[maxLen] at hm;omega
 have grown:∀(old:Nat),(∀b,ct v0=some b->b<w.heap.size)->
   Rel Γ { s with hp:=s.hp.set r (.dN e (m+1) (ns++ks)) } a
   (w.drew.alloc (.cells ((ns.map fun n=>Value.int .i64 n).toArray++k9.toArray++Builtin.zeroCells d.zero.cells (grownCap w (ns.length+aD.length) old e-(ns.length+aD.length))) e))
   (η.set r (.slice (some ⟨w.heap.size,0,none⟩) (ns.length+aD.length) (grownCap w (ns.length+aD.length) old e))):=by
  intro old ak;have hs:bI w (w.drew.alloc (.cells ((ns.map fun n=>Value.int .i64 n).toArray++k9.toArray++Builtin.zeroCells d.zero.cells (grownCap w (ns.length+aD.length) old e-(ns.length+aD.length))) e)):=
   (bI.drew w).trans (bI.alloc _ _)
  refine h.dN ax hr rH (hs.keeps _) (fun b hb=>?_) (.Ys (xs:=(ns.map fun n=>Value.int .i64 n)++k9) ?_ (by rw[nP,ama]))
  ·rw[bp (by have:=grownCap_ge w (ns.length+aD.length) old e;omega)] at hb;obtain rfl:=alw hb;exact .inr (alA _)
  ·have:=tF (w:=w) (e:=e) (size:=d.size) (n:=ns.length) (m:=aD.length) (z:=d.zero.cells) (ns.map fun n=>Value.int .i64 n) k9 (by rw[h1,alv,amI]) hn.len gO.Jq old Bb (by rw[hlen];exact hm);rw[h1] at this;rw[alz,<-hlen];exact this
 rcases hq with⟨rfl,ad,rfl⟩|⟨g,o,cap,cur,rfl,h0,hg,Dp,G5,fO,Dq⟩
 ·have gr:=grown 0 (fun b hb=>by cases ad<;>simp[ct] at hb);simp only[aml,al4,al2,Array.empty_append] at gr;simp only[al4,al2,<-hlen] at Ba G7
  cases ad with
  |none=>
   have:=hn.nil Bb (by omega) (by omega);exact⟨_,_,this,gr,rfl⟩
  |some ad=>
   have:=hn.grow Bb ad 0 0 [] (by simp) (fun j u hj=>by simp at hj) (by omega) (by simp only[al2];omega) (growslice_fits (by omega) (by simpa only[al2] using G7));simp only[al2,amq] at this;refine⟨_,_,this,?_,rfl⟩;simpa only[Array.empty_append] using gr
 ·have pG:∀c,0<c->∀n,ct (.slice (some ⟨g,o,none⟩) n c)=some g:=fun c hc n=>bp hc
  by_cases eU:ns.length+aD.length<=cap
  ·have Xh:k9.length=aD.length:=by rw[hn.len,h1,amI]
   have rG:o+ns.length+k9.length<=cur.size:=by omega
   obtain⟨b2,o2,c2,rfl,hc⟩:∃b2 o2 c2,v2=.slice (some ⟨b2,o2,none⟩) aD.length c2/\∀(j:Nat) (u:Value),k9[j]?=some u->w.cell? ((⟨b2,o2,none⟩:Addr).add j)=some u:=by
    obtain⟨aaG,Yu⟩:=hx.vW (size:=d.size) (by omega) qg;have hnn:aaG=k9:=by
     rw[nP];apply ams;intro j
     by_cases hj:j<ks.length
     ·have e1:aD[j]?=some (.ae (.int .i64 ks[j])):=by rw[cS,alM,aly hj];rfl
      obtain⟨u,q1,q2,_⟩:=Yu.rep j _ 0 _ e1 rfl;rw[h1,amI,amy] at q1;rw[q1,alM,aly hj,q2.ay];rfl
     ·rw[al0 (by rw[Yu.len,h1,hlen];omega),al0 (by rw[alv];omega)]
    rcases Yu.shape with⟨_,_,q⟩|⟨b2,o2,c2,rfl,_,_,Js⟩
    ·exact(hz q).elim
    ·exact⟨b2,o2,c2,rfl,fun j u hj=>by rw[Addr.add_lit];exact Js j u (by rw[hnn];exact hj)⟩
   have hrm:=jU (us:=k9) hg (alE (o+ns.length)) rG;have fz:=run_append_room_cells (P:=Γ.P) w t ty e i ht ox g o ns.length cap ⟨b2,o2,none⟩ aD.length c2 k9 (by rw[rC];exact hn.len) hc hn.one eU (by rw[rC,h1,amI];exact hrm.1) (by rw[rC,h1,amI];exact hrm.2);rw[rC,h1,amI,mV k9 _ cur w hg rG] at fz;refine⟨_,_,fz,?_,rfl⟩;have Jv:=setRow_heap w g cur (cur.toList.take (o+ns.length)++k9++cur.toList.drop (o+ns.length+k9.length)).toArray e (0,0) hg;refine h.dN ax hr rH ⟨rfl,rfl,rfl,by simp,fun k hk hb=>setRow_other w g k _ (fun e=>hb (by rw[pG _ h0,e]))⟩ (fun b hb=>.inl (by rw[pG _ h0];rw[pG _ h0] at hb;exact hb)) (.inr ⟨g,o,cap,_,by rw[alz,<-hlen],h0,Jv,by rw[alz,<-hlen];exact eU,G5,?_,fun j n hj=>?_⟩)
   ·simp only[anl,alz,amd,amN,amg];omega
   ·simp only[ana]
    by_cases ak:j<ns.length
    ·rw[alH ak] at hj;rw[alU,alH (by simp;omega),alO,if_pos (by omega)];simpa using Dq j n hj
    ·rw[amb (by omega)] at hj;have jL:j-ns.length<ks.length:=(alu.1 hj).1;have dx:cur.toList.length=cur.size:=amg;have htl:(List.take (o+ns.length) cur.toList).length=o+ns.length:=by rw[amd,dx];exact Nat.min_eq_left (by omega)
     have hq:o+j-(List.take (o+ns.length) cur.toList).length=j-ns.length:=by rw[htl];omega
     rw[alU,amb (by rw[htl];omega),hq,alH (by omega),nP,alM,hj];rfl
  ·have aE:∀(j:Nat) (u:Value),(ns.map fun n=>Value.int .i64 n)[j]?=some u->w.cell? ((⟨g,o,none⟩:Addr).add j)=some u:=by
    intro j u hj;rw[alM] at hj;obtain⟨n,Ju,rfl⟩:=amv.1 hj;rw[Addr.add_lit,cell_of_row w g _ cur e _ hg];exact Dq j n Ju
   have:=hn.grow Bb ⟨g,o,none⟩ ns.length cap (ns.map fun n=>Value.int .i64 n) (by rw[h1,alv,amI]) aE (by omega) (by omega) (growslice_fits (by omega) (by rw[hlen];exact G7));exact⟨_,_,this,grown cap (fun b hb=>by rw[pG _ h0] at hb;obtain rfl:=alw hb;exact bo hg),rfl⟩
theorem rZ {tab:Nat->Option TD} (aj:aZ Γ.P tab) {T e:Nat} {d d':TD} (h:oQ tab T=some (e,d,d')):Γ.P.underlying T=some (.slice e)/\fN Γ.P e d':=by
 obtain⟨h1,h2,h3⟩:=xl h;obtain⟨u,q2,q3⟩:=(aj T d h1).kC;rw[h2] at q3;exact⟨by rw[q2];exact congrArg some q3,aj e d' h3⟩
theorem Td {a b c d:Nat} (h:(Nat.beq a b&&Nat.beq c d)=true):a=b/\c=d:=by
 rw[alB] at h;exact⟨alT h.1,alT h.2⟩
theorem Rel.Yv (h:Rel Γ s a w η) {x:Operand} {u:Value} (hx:s.ev x=.ae u):a.eval x=u:=by
 have:=h.ev x;rw[hx] at this;exact this.ay
theorem Rel.Te (h:Rel Γ s a w η) {x:Operand} {q:Que} (hq:xk s.hp (s.ev x)=some q) (hn:q.n=q.m):s.hp[q.r]?=some (.dN q.e q.m q.ns)/\η[q.r]?=some (a.eval x)/\eS w q.e (a.eval x) q.ns:=by
 obtain⟨h1,h2⟩:=N5 hq;have hx:=h.ev x;rw[h1,hn] at hx;generalize a.eval x=v at hx
 cases hx with
 |own _ _ _ _ tL=>
  have h3:=(jM h2).1 tL;exact⟨h2,h3,h.heap.obj _ _ _ h2 h3⟩
theorem HG (ax:Γ.Ok) {tab:Nat->Option TD} (aj:aZ Γ.P tab) {o:Oper} {T e:Nat} {x:Operand} {parts:Array (Nat×Operand)} (ho:o.op=.buildSlice T 1 parts) {d d':TD} (hs:oQ tab T=some (e,d,d')) (Jy:parts.toList=[(0,x)]) (h1:d'.size=1)
  {k:Int} (hk:s.ev x=.ae (.int .i64 k)):fA Γ o s (.own s.hp.length 0) (s.hp++[.dN e 0 [k]]):=by
 intro a w η hr;obtain⟨hu,gO⟩:=rZ aj hs;have tC:=hr.Yv hk;obtain⟨r,e1,e2,e3,e4⟩:=wT (size:=d'.size) [Value.int .i64 k] 0 (parts.toList.map fun p=>(p.1,a.eval p.2)) ((Array.range (1*d'.size)).map (d'.zero.cells[· % d'.zero.cells.size]!)) (by rw[Jy];simp[tC]) (fun j p hj=>by
  rw[Jy] at hj
  cases j with
  |zero=>simp at hj;rw[<-hj]
  |succ j=>simp at hj) (fun v hv=>by simp at hv;rw[hv,h1];rfl) (by simp)
 have e5:=e4 0 _ 0 (.int .i64 k) rfl rfl;have hb:¬1*d'.size>2 ^ 24:=by omega
 have hz:¬1*d'.size=0:=by omega
 have hrs:r.size=1:=by rw[e2];simp[h1]
 refine⟨.slice (some ⟨w.heap.size,0,none⟩) 1 1,w.alloc (.cells r e),η++[.slice (some ⟨w.heap.size,0,none⟩) 1 1],.inl ?_,?_,?_⟩
 ·simp only[execOp,ho,Instr.buildSlice,Sem.run_bind,run_underlying hu,Result.andThen_ok,gO.run_sizeOf,Sem.run_ite,if_neg hb,Sem.run_pure,if_neg hz,gO.gM,anr,e1,newRow,run_newObj];rfl
 ·refine hr.add ax (bI.alloc w _) (fun b hb=>?_) (.inr ⟨w.heap.size,0,1,r,rfl,by omega,heap_alloc_new w _,by simp,by simp[maxLen],by omega,fun i n hn=>?_⟩)
  ·rw[bp (by omega)] at hb;obtain rfl:=alw hb;exact alA _
  ·cases i with
   |zero=>
    simp at hn;subst hn;simpa using e5
   |succ i=>simp at hn
 ·exact .own _ _ _ rfl ((jM (e:=e) (ns:=[k]) (by simp)).2 (by rw[<-hr.heap.len];simp))
theorem zh (ax:Γ.Ok) {tab:Nat->Option TD} (aj:aZ Γ.P tab) {o:Oper} {T n e:Nat} {parts:Array (Nat×Operand)} (ho:o.op=.buildSlice T n parts) {d d':TD} (hd:tab T=some d) (hk:d.kind=.jS e) (dv:tab e=some d')
  (hn:n=parts.toList.length) (l8:0<n) (hz:0<d'.size) (lW:rI 0 parts.toList=true) (SW:n<=16777216) (SX:n*d'.size<=16777216) (hl:qJ d'.size (parts.toList.map fun p=>(s.ev p.2).bB s.hp)):
  fA Γ o s (.own s.hp.length n) (s.hp++[.row e d'.size (parts.toList.map fun p=>(s.ev p.2).bB s.hp)]):=by
 intro a w η hr;obtain⟨r,e1,e2,lX,cq⟩:=nQ ax aj ho hd hk dv hn lW SW SX hl hr;have Sz:=oz _ hl;have he:=ov (Γ:=Γ) (η:=η) (hp:=s.hp) (bI.alloc w (.cells r e)) (fun _ _=>dZ);refine⟨_,_,η++[.slice (some ⟨w.heap.size,0,none⟩) n n],.inl e1,?_,?_⟩
 ·have Yi:=rD (Γ:=Γ) (o:=.row e d'.size (parts.toList.map fun p=>(s.ev p.2).bB s.hp)) (v:=.slice (some ⟨w.heap.size,0,none⟩) n n) hr.heap.len (bI.alloc w (.cells r e)) (fun b hb=>by
   rw[bp l8] at hb;obtain rfl:=alw hb
   exact alA _)
  refine hr.add ax (bI.alloc w _) (fun b hb=>?_) ⟨hz,r.toList,⟨by rw[amg,e2,lX],.inr ⟨w.heap.size,n,r,by rw[lX],l8,⟨0,alE _,heap_alloc_new w _⟩,by rw[lX];exact alA _,by simp only[maxLen];omega,e2,by rw[lX,<-e2,<-amg,amY]⟩⟩,fun i el hi=>⟨(Sz el (alF hi)).1,fun j x hj=>?_⟩⟩
  ·rw[bp l8] at hb;obtain rfl:=alw hb;exact alA _
  ·obtain⟨u,h1,h2,h3⟩:=cq i el j x hi hj;exact⟨u,by simpa using h1,h2.ext Yi.lN.ext,h3⟩
 ·refine .own _ _ _ rfl ?_;unfold aT;rw[<-hr.heap.len];simp[hr.heap.len,lX]
theorem eS.at {e:Nat} {v:Value} {ns:List Int} (h:eS w e v ns) {i:Nat} (hi:i<ns.length):∃g o cap,v=.slice (some ⟨g,o,none⟩) ns.length cap/\w.cell? ⟨g,o+i,none⟩=some (.int .i64 (ns.getD i 0)):=by
 rcases h with⟨rfl,_⟩|⟨g,o,cap,cur,rfl,_,hg,_,_,_,h1⟩
 ·simp at hi
 ·refine⟨g,o,cap,rfl,?_⟩;rw[cell_of_row w g _ cur e _ hg];exact h1 i _ (by simp[amB,hi])
theorem Yw (ax:Γ.Ok) {tab:Nat->Option TD} (aj:aZ Γ.P tab) {mk:Bool} {o:Oper} {cs:List Prop} {r:AV} {hp':List af} (h:qOp mk tab s.hp s.ev o.op=some (cs,r,hp')) (hc:dQ cs):fA Γ o s r hp':=by
 generalize ho:o.op=op at h;unfold qOp at h;split at h
 ·
  split at h
  ·rename_i T n parts _ _ _ x e d d' Jy hs;split at h
   ·rename_i k hk hb;simp only[als,alx] at h;obtain⟨rfl,rfl,rfl⟩:=h;obtain⟨b1,rfl⟩:=Td hb;exact HG ax aj ho hs Jy b1 (Ec hk)
   ·cases h
  ·cases h
 ·
  split at h
  ·rename_i T x i _ _ _ e d d' q kk k hs hq hi;split at h
   ·rename_i hb;simp only[als,alx] at h;obtain⟨rfl,rfl,rfl⟩:=h;obtain⟨h1,h2,_⟩:=hc;obtain⟨b1,_⟩:=Td hb;intro a w η hr;obtain⟨hu,gO⟩:=rZ aj hs;obtain⟨g1,g2,g3⟩:=hr.Te hq h1;have SS:=hr.Yv hi;obtain⟨g,off,cap,hv,_⟩:=g3.at (i:=k.toNat) (by omega);obtain⟨i0,y3,ox,_⟩:=gO.info;refine⟨.pointer (some ⟨g,off+k.toNat*1,none⟩),w,η,.inl ?_,hr,.fa _ _ _ _ g off cap q.ns.length ?_⟩
    ·simp[execOp,ho,hv,SS,Instr.indexAt,asIntOf,run_underlying hu,h2,sizeOf,typeInfo,y3,ox,Addr.add_lit,b1]
    ·rw[h1];exact(jM g1).2 (by rw[g2,hv])
   ·cases h
  ·cases h
 ·
  split at h
  ·rename_i T x _ _ r0 n i d hx hd;split at h
   ·rename_i e m ns qi hb;simp only[als,alx] at h;obtain⟨rfl,rfl,rfl⟩:=h;obtain⟨h1,h2,_⟩:=hc;simp only[alB,ame] at hb;have bN:=alT hb.1;have gO:=aj T d hd;intro a w η hr;have dO:=hr.ev x;rw[hx] at dO
    cases wL:a.eval x<;>rw[wL] at dO<;>cases dO
    rename_i b o' c k tL;rw[h1] at tL;have dR:=(jM qi).1 tL;obtain⟨g,off,cap,hv,aE⟩:=eS.at (hr.heap.obj _ _ _ qi dR) h2;simp only[Value.slice.injEq,als,Addr.mk.injEq,and_true] at hv;obtain⟨⟨rfl,rfl⟩,_,_⟩:=hv;refine⟨.int .i64 (ns.getD i 0),w,η,.inl ?_,hr,.ae _⟩;simp only[execOp,ho,wL,Instr.loadAt,Instr.sureAddr,Sem.run_bind,Sem.run_pure,Result.andThen_ok];rw[gO.run_load (vs:=[.int .i64 (ns.getD i 0)]) (by rw[bN];rfl) (fun j u hj=>by
     cases j with
     |zero=>simp only[amp,als] at hj;rw[<-hj,amI,amy];exact aE
     |succ j=>simp at hj)]
    simp[hb.2]
   ·cases h
  ·cases h
 ·
  split at h
  ·rename_i T x lo _ _ _ e d d' q kk l hs hq hl;split at h
   ·rename_i hb;simp only[als,alx] at h;obtain⟨rfl,rfl,rfl⟩:=h;obtain⟨h1,⟨h2,h3⟩,_⟩:=hc;obtain⟨b1,b2⟩:=Td hb;intro a w η hr;obtain⟨hu,gO⟩:=rZ aj hs;obtain⟨g1,g2,g3⟩:=hr.Te hq h1;have wV:=hr.Yv hl;obtain⟨ad,c,hv,Dp⟩:∃ad c,a.eval x=.slice ad q.ns.length c/\q.ns.length<=c:=by
     rcases g3 with⟨e0,ad,e1⟩|⟨g,off,cap,cur,e1,_,_,e2,_⟩
     ·exact⟨ad,0,by rw[e1,e0];rfl,by rw[e0];exact alA _⟩
     ·exact⟨_,cap,e1,e2⟩
    have MR:=run_sliceBound (P:=Γ.P) w wV (y:=q.ns.length) h2 h3 .sliceB;have fz:(Instr.sliceBounds true q.ns.length c (some (a.eval lo)) none none).run Γ.P w=.ok (l.toNat,q.ns.length,c) w:=by
     simp[Instr.sliceBounds,MR]
    have lY:=gO.run_sizeOf w;have hex:(execOp a.eval o).run Γ.P w=.ok (.value (.slice (if c=l.toNat then ad else ad.map (·.add (l.toNat*d'.size))) (q.ns.length-l.toNat) (c-l.toNat))) w:=by
     simp only[execOp,ho,Instr.sliceAt,Sem.run_bind,run_underlying hu,Result.andThen_ok,Instr.slice,hv,al7,Option.map_none,fz,lY,Sem.run_pure]
    subst b2;have pG:∀b,ct (.slice (if c=l.toNat then ad else ad.map (·.add (l.toNat*d'.size))) (q.ns.length-l.toNat) (c-l.toNat))=some b->ct (a.eval x)=some b:=by
     intro b hb;rw[hv]
     by_cases dx:c=l.toNat
     ·rw[if_pos dx] at hb
      cases ad<;>simp[ct] at hb
      omega
     ·rw[if_neg dx] at hb
      cases ad with
      |none=>simp[ct] at hb
      |some ad=>
       simp only[al7] at hb;rw[bp (by omega)] at hb ⊢;have he:(ad.add (l.toNat*d'.size)).block=ad.block:=by unfold Addr.add;split<;>rfl
       rw[he] at hb;exact hb
    refine⟨_,w,η.set q.r _,.inl hex,hr.dN ax g1 g2 (bE.refl _ w) (fun b hb=>.inl (pG b hb)) ?_,.own _ _ _ rfl ((jM (au g1)).2 (au g2))⟩;rw[hv] at g3;rcases g3 with⟨e0,ad',e1⟩|⟨g,off,cap,cur,e1,e2,e3,e4,e5,e6,e7⟩
    ·simp only[Value.slice.injEq] at e1;obtain⟨rfl,e1,rfl⟩:=e1;refine .inl ⟨by rw[e0];simp,ad,?_⟩;have:l.toNat=0:=by omega
     rw[this,e1];simp
    ·simp only[Value.slice.injEq] at e1;obtain⟨rfl,_,rfl⟩:=e1
     by_cases dx:c=l.toNat
     ·refine .inl ⟨alD (by omega),some ⟨g,off,none⟩,?_⟩;rw[if_pos dx,show q.ns.length-l.toNat=0 by omega,show c-l.toNat=0 by omega]
     ·rw[if_neg dx];refine .inr ⟨g,off+l.toNat,c-l.toNat,cur,by rw[amN,b1,amI,al7,Addr.add_lit],by omega,e3,by rw[amN];omega,by omega,by omega,fun i n hn=>?_⟩;rw[amx] at hn;have:=e7 _ _ hn;rw[anp];exact this
   ·cases h
  ·cases h
 ·
  rename_i c;split at h
  ·rename_i x T By aF Yx;split at h
   ·rename_i sd q hs hq;simp only[als,alx] at h;obtain⟨rfl,rfl,rfl⟩:=h;obtain⟨e,d,d'⟩:=sd;intro a w η hr;obtain⟨hu,gO⟩:=rZ aj hs;obtain⟨g1,g2,g3⟩:=hr.Te hq hc.1;obtain⟨ad,cc,hv⟩:=g3.slice;have oC:c.argTypes=#[T]:=by rw[<-ami (xs:=c.argTypes),Yx]
    have nf:c.args=#[x]:=by rw[<-ami (xs:=c.args),aF]
    refine⟨.int .i64 q.ns.length,w,η,.inl ?_,hr,.ae _⟩;simp[execOp,ho,resolve,By,invoke,builtin,Builtin.len_,oC,nf,hv,run_underlying hu,goInt]
   ·cases h
  ·rename_i b x T T' By aF Yx;split at h
   ·rename_i e d d' q cs' els hs hq hx;split at h
    ·rename_i ks Yt hb;simp only[als,alx] at h;obtain⟨rfl,rfl,rfl⟩:=h;rw[bF] at hc;obtain⟨G4,h1,⟨h2,h3⟩,_⟩:=hc;rw[alB] at hb;have b1:=alT hb.1;obtain⟨b2,rfl⟩:=Td hb.2;intro a w η hr;obtain⟨hu,gO⟩:=rZ aj hs;obtain⟨g1,g2,g3⟩:=hr.Te hq h1;have dO:=jT hr.heap hr.bM (hr.ev x) (fQ hx G4);have oC:c.argTypes=#[T,T]:=by rw[<-ami (xs:=c.argTypes),Yx]
     have nf:c.args=#[b,x]:=by rw[<-ami (xs:=c.args),aF]
     subst b2;obtain⟨v',w',q1,q2,q3⟩:=HF ax hr (ty:=o.type) hu gO b1 g1 g2 dO Yt h2 h3;refine⟨v',w',_,.inl ?_,q2,.own _ _ _ q3 ((jM (au g1)).2 (au g2))⟩;simp only[execOp,ho,resolve,By,Sem.run_bind,Sem.run_pure,Result.andThen_ok,invoke,builtin,oC,nf,am2,al3,aml,q1]
    ·cases h
   ·cases h
  ·cases h
 ·cases h
end Go.Proofs.YtdcikhleahfknaaGreatDoor
