/- Lemmas. -/
import Derived.Test.YtnkjkpmbgoehkaaGreatQ21
namespace Go.Proofs.YtnkjkpmbgoehkaaGreat
open Go
open Go.Result renaming andThen_ok->al
open Go.Sem renaming run_bind->ao,run_pure->aq
set_option linter.unusedSimpArgs false
set_option linter.unusedVariables false
def intOf:AV->Option Int
 | .ax (.int .i64 n)=>some n
 |_=>none
theorem Gs {x:AV} {n:Int} (h:intOf x=some n):x=.ax (.int .i64 n):=by
 unfold intOf at h;split at h
 ·rw[aqs h]
 ·cases h
def vT:List AV->Option (List Int)
 | []=>some []
 |x::l=>(match intOf x,vT l with
  |some n,some ns=>some (n::ns)
  |_,_=>none)
theorem Cy:∀{l:List AV} {ns:List Int},vT l=some ns->l=ns.map fun n=>.ax (.int .i64 n)
 | [],ns,h=>by simp only[vT,aqq] at h;subst h;rfl
 |x::l,ns,h=>by
  simp only[vT] at h;split at h
  ·rename_i n ms h1 h2;obtain rfl:=aqs h;rw[Gs h1,Cy h2];rfl
  ·cases h
structure Que where
 r:Nat
 n:Nat
 e:Nat
 m:Nat
 ns:List Int
def zv (hp:List aw):AV->Option Que
 | .own r n=>(match hp[r]? with
  |some (.fz e m ns)=>some ⟨r,n,e,m,ns⟩
  |_=>none)
 |_=>none
theorem RS {hp:List aw} {x:AV} {q:Que} (h:zv hp x=some q):x=.own q.r q.n/\hp[q.r]?=some (.fz q.e q.m q.ns):=by
 unfold zv at h;split at h
 ·split at h
  ·rename_i h1;obtain rfl:=aqs h;exact⟨rfl,h1⟩
  ·cases h
 ·cases h
def qR (tab:Nat->Option TD) (T:Nat):Option (Nat×TD×TD):=
 match tab T with
 |some d=>(match d.kind with
  | .lU e=>(tab e).map fun d'=>(e,d,d')
  |_=>none)
 |none=>none
theorem zw {tab:Nat->Option TD} {T e:Nat} {d d':TD} (h:qR tab T=some (e,d,d')):tab T=some d/\d.kind=.lU e/\tab e=some d':=by
 unfold qR at h;split at h
 ·rename_i d1 h1;split at h
  ·rename_i e1 h2;obtain⟨d2,h3,h4⟩:=aro.1 h;cases h4;exact⟨h1,h2,h3⟩
  ·cases h
 ·cases h
def qOp (mk:Bool) (tab:Nat->Option TD) (hp:List aw) (ρ:Operand->AV):Op->Option (List Prop×AV×List aw)
 | .buildSlice T n parts=>(match mk,parts.toList,qR tab T with
  |true,[(0,x)],some (e,_,d')=>(match intOf (ρ x),Nat.beq d'.size 1&&Nat.beq n 1 with
   |some k,true=>some ([],.own hp.length 0,hp++[.fz e 0 [k]])
   |_,_=>none)
  |_,_,_=>none)
 | .indexAddr T x i=>(match qR tab T,zv hp (ρ x),ρ i with
  |some (e,_,d'),some q,.ax (.int _ k)=>(match Nat.beq d'.size 1&&Nat.beq e q.e with
   |true=>some ([q.n=q.m,0<=k/\k<q.ns.length],.fV q.r q.n k.toNat 1,hp)
   |false=>none)
  |_,_,_=>none)
 | .load T x=>(match ρ x,tab T with
  | .fV r n i 1,some d=>(match hp[r]?,Nat.beq d.size 1&&!d.kind.agg with
   |some (.fz _ m ns),true=>some ([n=m,i<ns.length],.ax (.int .i64 (ns.getD i 0)),hp)
   |_,_=>none)
  |_,_=>none)
 | .slice T x (some lo) none none=>(match qR tab T,zv hp (ρ x),ρ lo with
  |some (e,_,d'),some q,.ax (.int _ l)=>(match Nat.beq d'.size 1&&Nat.beq e q.e with
   |true=>some ([q.n=q.m,0<=l/\l<=q.ns.length],.own q.r (q.m+1),hp.set q.r (.fz e (q.m+1) (q.ns.drop l.toNat)))
   |false=>none)
  |_,_,_=>none)
 | .call c=>(match c.callee,c.args.toList,c.argTypes.toList with
  | .builtin .len,[x],[T]=>(match qR tab T,zv hp (ρ x) with
   |some _,some q=>some ([q.n=q.m],.ax (.int .i64 q.ns.length),hp)
   |_,_=>none)
  | .builtin .append,[b,x],[T,T']=>(match qR tab T,zv hp (ρ b),(ρ x).mZ hp with
   |some (e,_,d'),some q,some (cs,els)=>(match vT els,Nat.beq d'.size 1&&(Nat.beq e q.e&&Nat.beq T T') with
    |some ks,true=>some (cs++[q.n=q.m,(q.ns.length+ks.length<=maxLen/\(q.ns.length+ks.length)*d'.bytes<=140737488355328)],.own q.r (q.m+1),hp.set q.r (.fz e (q.m+1) (q.ns++ks)))
    |_,_=>none)
   |_,_,_=>none)
  |_,_,_=>none)
 |_=>none
variable {G:Type} {Γ:Env G} {s:AS G} {a:Act} {w w':World} {η:List Value} {hp:List aw}
theorem gv.ab2 {e:Nat} {v:Value} {ns:List Int} {xs:List Value} (h:mT w e 1 v ns.length xs 0) (hx:xs=ns.map fun n=>.int .i64 n):gv w e v ns:=by
 rcases h.2 with⟨h0,h1⟩|⟨g,cap,cur,rfl,h0,⟨hi,hk,hg⟩,h2,h3,h4,h5⟩
 ·refine .inl ⟨aq4 h0,?_⟩;rcases h1 with rfl|⟨ad,rfl⟩
  ·exact⟨_,rfl⟩
  ·exact⟨_,rfl⟩
 ·obtain rfl:hi=0:=Nat.le_zero.1 hk;refine .inr ⟨g,0,cap,cur,rfl,h0,hg,h2,h3,by omega,fun i n hn=>?_⟩;have:xs[i]?=some (.int .i64 n):=by rw[hx,aqE,hn];rfl
  rw[<-h5,aqM] at this;split at this
  ·simpa using this
  ·cases this
theorem gv.slice {e:Nat} {v:Value} {ns:List Int} (h:gv w e v ns):∃ad c,v=.slice ad ns.length c:=by
 rcases h with⟨rfl,ad,rfl⟩|⟨g,o,cap,cur,rfl,_⟩
 ·exact⟨_,_,rfl⟩
 ·exact⟨_,_,rfl⟩
theorem Rel.fz (aE:Γ.Ok) (h:Rel Γ s a w η) {r e m:Nat} {ns ns':List Int} {v v':Value} (hr:s.hp[r]?=some (.fz e m ns)) (hv:η[r]?=some v) (hk:cG (fun k=>dO v=some k) w w') (QC:∀b,dO v'=some b->dO v=some b\/w.heap.size<=b)
  (BH:gv w' e v' ns'):Rel Γ { s with hp:=s.hp.set r (.fz e (m+1) ns') } a w' (η.set r v'):=by
 have hq:gv w e v ns:=h.heap.obj r _ _ hr hv;obtain⟨ad,c,rfl⟩:=hq.slice;exact h.change aE (o':=.fz e (m+1) ns') hr True.intro hv hk QC (fun k hf=>hf.elim) (fun _ _ _ _ hf _=>hf.elim) (fun _ _ _ _ hf _=>hf.elim)
  (fun n u ho=>by
   unfold bl at ho ⊢;rw[hr] at ho;rw[aB hr]
   exact⟨arJ ho.1,fun hn=>by have:=ho.1;omega⟩)
  (fun _ hx=>by cases hx) (fun _ hx=>by cases hx) (fun b d hb hd=>by obtain⟨cur,h5⟩:=hq.lt hb;rw[h5] at hd;cases hd) (fun _=>BH)
theorem lK {r e m:Nat} {ns:List Int} {v:Value} (h:hp[r]?=some (.fz e m ns)):bl η hp r m v↔η[r]?=some v:=by
 unfold bl;rw[h];exact⟨fun h=>h.2 rfl,fun h=>⟨aqw _,fun _=>h⟩⟩
theorem Km (aE:Γ.Ok) (h:Rel Γ s a w η) {t ty e:TypeId} {d:TD} (ht:Γ.P.underlying t=some (.slice e)) (dJ:fM Γ.P e d) (h1:d.size=1) {r m:Nat} {ns ks:List Int} {aJ:List AV} {v0 v2:Value}
  (hr:s.hp[r]?=some (.fz e m ns)) (vJ:η[r]?=some v0) (hx:bB w (bt Γ w η s.hp) η s.hp (.sl aJ) v2) (hks:vT aJ=some ks)
  (hm:ns.length+ks.length<=maxLen) (JG:(ns.length+ks.length)*d.bytes<=140737488355328):
  ∃v' w',(Builtin.append_ #[t,t] ty #[v0,v2]).run Γ.P w=.ok v' w'/\Rel Γ { s with hp:=s.hp.set r (.fz e (m+1) (ns++ks)) } a w' (η.set r v')/\v'.oneCell'=true:=by
 have hq:gv w e v0 ns:=h.heap.obj r _ v0 hr vJ;have fN:=Cy hks;have hlen:aJ.length=ks.length:=by rw[fN,aqu]
 have BA:∀x:AV,x∈aJ->x.cells.length=d.size:=by
  intro x nL;rw[fN] at nL;obtain⟨n,_,rfl⟩:=arx.1 nL;rw[h1];rfl
 obtain⟨i,jN,sD,Fw,LS⟩:=dJ.info;obtain⟨nc,hn⟩:=tS (ty:=ty) ht dJ (by omega) hx BA;have yR:nc=ks.map fun n=>.int .i64 n:=by
  apply ark;intro j
  by_cases hj:j<ks.length
  ·have e1:aJ[j]?=some (.ax (.int .i64 ks[j])):=by rw[fN,aqE,aqx hj];rfl
   obtain⟨u,q1,q2,_⟩:=hn.rep j _ 0 _ e1 rfl;rw[h1,arG,arw] at q1;rw[q1,aqE,aqx hj,q2.aC];rfl
  ·rw[aq6 (by rw[hn.len,h1,hlen];omega),aq6 (by rw[aqu];omega)]
 by_cases hz:aJ=[]
 ·have rR:ks=[]:=aq4 (by rw[<-hlen,hz];rfl);subst rR;obtain⟨ad,c,rfl⟩:=hq.slice;have Jx:ns.length<=c:=by
   rcases hq with⟨rfl,_⟩|⟨g,o,cap,cur,he,_,_,h5,_⟩
   ·exact aqC _
   ·simp only[Value.slice.injEq] at he;omega
  exact⟨_,w,hn.nothing hz _ _ _ Jx,h.fz aE hr vJ (cG.refl _ w) (fun b hb=>.inl hb) (by rw[aqR];exact hq),rfl⟩
 have sq:0<aJ.length:=List.length_pos_iff.2 hz;have Dz:ns.length+ks.length<=9223372036854775807:=by simp only[maxLen] at hm;omega
 have grown:∀(sC:Nat),(∀b,dO v0=some b->b<w.heap.size)->
   Rel Γ { s with hp:=s.hp.set r (.fz e (m+1) (ns++ks)) } a
   (w.drew.alloc (.cells ((ns.map fun n=>Value.int .i64 n).toArray++nc.toArray++Builtin.zeroCells d.zero.cells (grownCap w (ns.length+aJ.length) sC e-(ns.length+aJ.length))) e))
   (η.set r (.slice (some ⟨w.heap.size,0,none⟩) (ns.length+aJ.length) (grownCap w (ns.length+aJ.length) sC e))):=by
  intro sC aH;have hs:bV w (w.drew.alloc (.cells ((ns.map fun n=>Value.int .i64 n).toArray++nc.toArray++Builtin.zeroCells d.zero.cells (grownCap w (ns.length+aJ.length) sC e-(ns.length+aJ.length))) e)):=
   (bV.drew w).trans (bV.alloc _ _)
  refine h.fz aE hr vJ (hs.keeps _) (fun b hb=>?_) (.ab2 (xs:=(ns.map fun n=>Value.int .i64 n)++nc) ?_ (by rw[yR,arq]))
  ·rw[cF (by have:=grownCap_ge w (ns.length+aJ.length) sC e;omega)] at hb;obtain rfl:=aqs hb;exact .inr (aqw _)
  ·have:=vG (w:=w) (e:=e) (size:=d.size) (n:=ns.length) (m:=aJ.length) (z:=d.zero.cells) (ns.map fun n=>Value.int .i64 n) nc (by rw[h1,aqu,arG]) hn.len dJ.LR sC sq (by rw[hlen];exact hm);rw[h1] at this;rw[aqz,<-hlen];exact this
 rcases hq with⟨rfl,ad,rfl⟩|⟨g,o,cap,cur,rfl,h0,hg,Jx,Jy,iV,tU⟩
 ·have gr:=grown 0 (fun b hb=>by cases ad<;>simp[dO] at hb);simp only[arl,aqW,aqV,Array.empty_append] at gr;simp only[aqW,aqV,<-hlen] at Dz JG
  cases ad with
  |none=>
   have:=hn.nil sq (by omega) (by omega);exact⟨_,_,this,gr,rfl⟩
  |some ad=>
   have:=hn.grow sq ad 0 0 [] (by simp) (fun j u hj=>by simp at hj) (by omega) (by simp only[aqV];omega) (growslice_fits (by omega) (by simpa only[aqV] using JG));simp only[aqV,arF] at this;refine⟨_,_,this,?_,rfl⟩;simpa only[Array.empty_append] using gr
 ·have wH:∀c,0<c->∀n,dO (.slice (some ⟨g,o,none⟩) n c)=some g:=fun c hc n=>cF hc
  by_cases fi:ns.length+aJ.length<=cap
  ·have hnl:nc.length=aJ.length:=by rw[hn.len,h1,arG]
   have tT:o+ns.length+nc.length<=cur.size:=by omega
   obtain⟨b2,o2,c2,rfl,hc⟩:∃b2 o2 c2,v2=.slice (some ⟨b2,o2,none⟩) aJ.length c2/\∀(j:Nat) (u:Value),nc[j]?=some u->w.cell? ((⟨b2,o2,none⟩:Addr).add j)=some u:=by
    obtain⟨aeu,XH⟩:=hx.yh (size:=d.size) (by omega) BA;have hnn:aeu=nc:=by
     rw[yR];apply ark;intro j
     by_cases hj:j<ks.length
     ·have e1:aJ[j]?=some (.ax (.int .i64 ks[j])):=by rw[fN,aqE,aqx hj];rfl
      obtain⟨u,q1,q2,_⟩:=XH.rep j _ 0 _ e1 rfl;rw[h1,arG,arw] at q1;rw[q1,aqE,aqx hj,q2.aC];rfl
     ·rw[aq6 (by rw[XH.len,h1,hlen];omega),aq6 (by rw[aqu];omega)]
    rcases XH.shape with⟨_,_,q⟩|⟨b2,o2,c2,rfl,_,_,QE⟩
    ·exact(hz q).elim
    ·exact⟨b2,o2,c2,rfl,fun j u hj=>by rw[Addr.add_lit];exact QE j u (by rw[hnn];exact hj)⟩
   have hrm:=lW (us:=nc) hg (aqC (o+ns.length)) tT;have gX:=run_append_room_cells (P:=Γ.P) w t ty e i ht jN g o ns.length cap ⟨b2,o2,none⟩ aJ.length c2 nc (by rw[sD];exact hn.len) hc hn.one fi (by rw[sD,h1,arG];exact hrm.1) (by rw[sD,h1,arG];exact hrm.2);rw[sD,h1,arG,oV nc _ cur w hg tT] at gX;refine⟨_,_,gX,?_,rfl⟩;have LU:=setRow_heap w g cur (cur.toList.take (o+ns.length)++nc++cur.toList.drop (o+ns.length+nc.length)).toArray e (0,0) hg;refine h.fz aE hr vJ ⟨rfl,rfl,rfl,by simp,fun k hk hb=>setRow_other w g k _ (fun e=>hb (by rw[wH _ h0,e]))⟩ (fun b hb=>.inl (by rw[wH _ h0];rw[wH _ h0] at hb;exact hb)) (.inr ⟨g,o,cap,_,by rw[aqz,<-hlen],h0,LU,by rw[aqz,<-hlen];exact fi,Jy,?_,fun j n hj=>?_⟩)
   ·simp only[List.size_toArray,aqz,arp,aqY,ara];omega
   ·simp only[ar6]
    by_cases aH:j<ns.length
    ·rw[aqD aH] at hj;rw[aqT,aqD (by simp;omega),aqM,if_pos (by omega)];simpa using tU j n hj
    ·rw[aq5 (by omega)] at hj;have lI:j-ns.length<ks.length:=(aqr.1 hj).1;have dK:cur.toList.length=cur.size:=ara;have Gt:(List.take (o+ns.length) cur.toList).length=o+ns.length:=by rw[arp,dK];exact Nat.min_eq_left (by omega)
     have hq:o+j-(List.take (o+ns.length) cur.toList).length=j-ns.length:=by rw[Gt];omega
     rw[aqT,aq5 (by rw[Gt];omega),hq,aqD (by omega),yR,aqE,hj];rfl
  ·have aR:∀(j:Nat) (u:Value),(ns.map fun n=>Value.int .i64 n)[j]?=some u->w.cell? ((⟨g,o,none⟩:Addr).add j)=some u:=by
    intro j u hj;rw[aqE] at hj;obtain⟨n,Xl,rfl⟩:=aro.1 hj;rw[Addr.add_lit,cell_of_row w g _ cur e _ hg];exact tU j n Xl
   have:=hn.grow sq ⟨g,o,none⟩ ns.length cap (ns.map fun n=>Value.int .i64 n) (by rw[h1,aqu,arG]) aR (by omega) (by omega) (growslice_fits (by omega) (by rw[hlen];exact JG));exact⟨_,_,this,grown cap (fun b hb=>by rw[wH _ h0] at hb;obtain rfl:=aqs hb;exact bX hg),rfl⟩
theorem uo {tab:Nat->Option TD} (aA:bc Γ.P tab) {T e:Nat} {d d':TD} (h:qR tab T=some (e,d,d')):Γ.P.underlying T=some (.slice e)/\fM Γ.P e d':=by
 obtain⟨h1,h2,h3⟩:=zw h;obtain⟨u,q2,q3⟩:=(aA T d h1).mK;rw[h2] at q3;exact⟨by rw[q2];exact congrArg some q3,aA e d' h3⟩
theorem XI {a b c d:Nat} (h:(Nat.beq a b&&Nat.beq c d)=true):a=b/\c=d:=by
 rw[aqv] at h;exact⟨aqN h.1,aqN h.2⟩
theorem Rel.ab3 (h:Rel Γ s a w η) {x:Operand} {u:Value} (hx:s.ev x=.ax u):a.eval x=u:=by
 have:=h.ev x;rw[hx] at this;exact this.aC
theorem Rel.XJ (h:Rel Γ s a w η) {x:Operand} {q:Que} (hq:zv s.hp (s.ev x)=some q) (hn:q.n=q.m):s.hp[q.r]?=some (.fz q.e q.m q.ns)/\η[q.r]?=some (a.eval x)/\gv w q.e (a.eval x) q.ns:=by
 obtain⟨h1,h2⟩:=RS hq;have hx:=h.ev x;rw[h1,hn] at hx;generalize a.eval x=v at hx
 cases hx with
 |own _ _ _ _ Fx=>
  have h3:=(lK h2).1 Fx;exact⟨h2,h3,h.heap.obj _ _ _ h2 h3⟩
theorem Kn (aE:Γ.Ok) {tab:Nat->Option TD} (aA:bc Γ.P tab) {o:Oper} {T e:Nat} {x:Operand} {parts:Array (Nat×Operand)} (ho:o.op=.buildSlice T 1 parts) {d d':TD} (hs:qR tab T=some (e,d,d')) (QG:parts.toList=[(0,x)]) (h1:d'.size=1)
  {k:Int} (hk:s.ev x=.ax (.int .i64 k)):gL Γ o s (.own s.hp.length 0) (s.hp++[.fz e 0 [k]]):=by
 intro a w η hr;obtain⟨hu,dJ⟩:=uo aA hs;have vD:=hr.ab3 hk;obtain⟨r,e1,e2,e3,e4⟩:=y7 (size:=d'.size) [Value.int .i64 k] 0 (parts.toList.map fun p=>(p.1,a.eval p.2)) ((Array.range (1*d'.size)).map (d'.zero.cells[· % d'.zero.cells.size]!)) (by rw[QG];simp[vD]) (fun j p hj=>by
  rw[QG] at hj
  cases j with
  |zero=>simp at hj;rw[<-hj]
  |succ j=>simp at hj) (fun v hv=>by simp at hv;rw[hv,h1];rfl) (by simp)
 have e5:=e4 0 _ 0 (.int .i64 k) rfl rfl;have hb:¬1*d'.size>2 ^ 24:=by omega
 have hz:¬1*d'.size=0:=by omega
 have hrs:r.size=1:=by rw[e2];simp[h1]
 refine⟨.slice (some ⟨w.heap.size,0,none⟩) 1 1,w.alloc (.cells r e),η++[.slice (some ⟨w.heap.size,0,none⟩) 1 1],.inl ?_,?_,?_⟩
 ·simp only[execOp,ho,Instr.buildSlice,ao,run_underlying hu,al,dJ.run_sizeOf,Sem.run_ite,if_neg hb,aq,if_neg hz,dJ.kq,asf,e1,newRow,run_newObj];rfl
 ·refine hr.add aE (bV.alloc w _) (fun b hb=>?_) (.inr ⟨w.heap.size,0,1,r,rfl,by omega,heap_alloc_new w _,by simp,by simp[maxLen],by omega,fun i n hn=>?_⟩)
  ·rw[cF (by omega)] at hb;obtain rfl:=aqs hb;exact aqw _
  ·cases i with
   |zero=>
    simp at hn;subst hn;simpa using e5
   |succ i=>simp at hn
 ·exact .own _ _ _ rfl ((lK (e:=e) (ns:=[k]) (by simp)).2 (by rw[<-hr.heap.len];simp))
theorem BS (aE:Γ.Ok) {tab:Nat->Option TD} (aA:bc Γ.P tab) {o:Oper} {T n e:Nat} {parts:Array (Nat×Operand)} (ho:o.op=.buildSlice T n parts) {d d':TD} (hd:tab T=some d) (hk:d.kind=.lU e) (ef:tab e=some d')
  (hn:n=parts.toList.length) (oY:0<n) (hz:0<d'.size) (lf:tV 0 parts.toList=true) (Xs:n<=16777216) (Xt:n*d'.size<=16777216) (hl:sT d'.size (parts.toList.map fun p=>(s.ev p.2).bK s.hp)):
  gL Γ o s (.own s.hp.length n) (s.hp++[.row e d'.size (parts.toList.map fun p=>(s.ev p.2).bK s.hp)]):=by
 intro a w η hr;obtain⟨r,e1,e2,nR,eg⟩:=qb aE aA ho hd hk ef hn lf Xs Xt hl hr;have hls:=qB _ hl;have he:=qw (Γ:=Γ) (η:=η) (hp:=s.hp) (bV.alloc w (.cells r e)) (fun _ _=>fh);refine⟨_,_,η++[.slice (some ⟨w.heap.size,0,none⟩) n n],.inl e1,?_,?_⟩
 ·have Jz:=tQ (Γ:=Γ) (o:=.row e d'.size (parts.toList.map fun p=>(s.ev p.2).bK s.hp)) (v:=.slice (some ⟨w.heap.size,0,none⟩) n n) hr.heap.len (bV.alloc w (.cells r e)) (fun b hb=>by
   rw[cF oY] at hb;obtain rfl:=aqs hb
   exact aqw _)
  refine hr.add aE (bV.alloc w _) (fun b hb=>?_) ⟨hz,r.toList,⟨by rw[ara,e2,nR],.inr ⟨w.heap.size,n,r,by rw[nR],oY,⟨0,aqC _,heap_alloc_new w _⟩,by rw[nR];exact aqw _,by simp only[maxLen];omega,e2,by rw[nR,<-e2,<-ara,List.take_length]⟩⟩,fun i el hi=>⟨(hls el (aqA hi)).1,fun j x hj=>?_⟩⟩
  ·rw[cF oY] at hb;obtain rfl:=aqs hb;exact aqw _
  ·obtain⟨u,h1,h2,h3⟩:=eg i el j x hi hj;exact⟨u,by simpa using h1,h2.ext Jz.qu.ext,h3⟩
 ·refine .own _ _ _ rfl ?_;unfold bl;rw[<-hr.heap.len];simp[hr.heap.len,nR]
theorem gv.at {e:Nat} {v:Value} {ns:List Int} (h:gv w e v ns) {i:Nat} (hi:i<ns.length):∃g o cap,v=.slice (some ⟨g,o,none⟩) ns.length cap/\w.cell? ⟨g,o+i,none⟩=some (.int .i64 (ns.getD i 0)):=by
 rcases h with⟨rfl,_⟩|⟨g,o,cap,cur,rfl,_,hg,_,_,_,h1⟩
 ·simp at hi
 ·refine⟨g,o,cap,rfl,?_⟩;rw[cell_of_row w g _ cur e _ hg];exact h1 i _ (by simp[aru,hi])
theorem ab4 (aE:Γ.Ok) {tab:Nat->Option TD} (aA:bc Γ.P tab) {mk:Bool} {o:Oper} {cs:List Prop} {r:AV} {hp':List aw} (h:qOp mk tab s.hp s.ev o.op=some (cs,r,hp')) (hc:eA cs):gL Γ o s r hp':=by
 generalize ho:o.op=op at h;unfold qOp at h;split at h
 ·
  split at h
  ·rename_i T n parts _ _ _ x e d d' QG hs;split at h
   ·rename_i k hk hb;simp only[aqq,aqt] at h;obtain⟨rfl,rfl,rfl⟩:=h;obtain⟨b1,rfl⟩:=XI hb;exact Kn aE aA ho hs QG b1 (Gs hk)
   ·cases h
  ·cases h
 ·
  split at h
  ·rename_i T x i _ _ _ e d d' q kk k hs hq hi;split at h
   ·rename_i hb;simp only[aqq,aqt] at h;obtain⟨rfl,rfl,rfl⟩:=h;obtain⟨h1,h2,_⟩:=hc;obtain⟨b1,_⟩:=XI hb;intro a w η hr;obtain⟨hu,dJ⟩:=uo aA hs;obtain⟨g1,g2,g3⟩:=hr.XJ hq h1;have Xq:=hr.ab3 hi;obtain⟨g,off,cap,hv,_⟩:=g3.at (i:=k.toNat) (by omega);obtain⟨i0,FG,jN,_⟩:=dJ.info;refine⟨.pointer (some ⟨g,off+k.toNat*1,none⟩),w,η,.inl ?_,hr,.fV _ _ _ _ g off cap q.ns.length ?_⟩
    ·simp[execOp,ho,hv,Xq,Instr.indexAt,asIntOf,run_underlying hu,h2,sizeOf,typeInfo,FG,jN,Addr.add_lit,b1]
    ·rw[h1];exact(lK g1).2 (by rw[g2,hv])
   ·cases h
  ·cases h
 ·
  split at h
  ·rename_i T x _ _ r0 n i d hx hd;split at h
   ·rename_i e m ns ss hb;simp only[aqq,aqt] at h;obtain⟨rfl,rfl,rfl⟩:=h;obtain⟨h1,h2,_⟩:=hc;simp only[aqv,arc] at hb;have cx:=aqN hb.1;have dJ:=aA T d hd;intro a w η hr;have eP:=hr.ev x;rw[hx] at eP
    cases yW:a.eval x<;>rw[yW] at eP<;>cases eP
    rename_i b o' c k Fx;rw[h1] at Fx;have fF:=(lK ss).1 Fx;obtain⟨g,off,cap,hv,aR⟩:=gv.at (hr.heap.obj _ _ _ ss fF) h2;simp only[Value.slice.injEq,aqq,Addr.mk.injEq,and_true] at hv;obtain⟨⟨rfl,rfl⟩,_,_⟩:=hv;refine⟨.int .i64 (ns.getD i 0),w,η,.inl ?_,hr,.ax _⟩;simp only[execOp,ho,yW,Instr.loadAt,Instr.sureAddr,ao,aq,al];rw[dJ.run_load (vs:=[.int .i64 (ns.getD i 0)]) (by rw[cx];rfl) (fun j u hj=>by
     cases j with
     |zero=>simp only[ari,aqq] at hj;rw[<-hj,arG,arw];exact aR
     |succ j=>simp at hj)]
    simp[hb.2]
   ·cases h
  ·cases h
 ·
  split at h
  ·rename_i T x lo _ _ _ e d d' q kk l hs hq hl;split at h
   ·rename_i hb;simp only[aqq,aqt] at h;obtain⟨rfl,rfl,rfl⟩:=h;obtain⟨h1,⟨h2,h3⟩,_⟩:=hc;obtain⟨b1,b2⟩:=XI hb;intro a w η hr;obtain⟨hu,dJ⟩:=uo aA hs;obtain⟨g1,g2,g3⟩:=hr.XJ hq h1;have FN:=hr.ab3 hl;obtain⟨ad,c,hv,Jx⟩:∃ad c,a.eval x=.slice ad q.ns.length c/\q.ns.length<=c:=by
     rcases g3 with⟨e0,ad,e1⟩|⟨g,off,cap,cur,e1,_,_,e2,_⟩
     ·exact⟨ad,0,by rw[e1,e0];rfl,by rw[e0];exact aqw _⟩
     ·exact⟨_,cap,e1,e2⟩
    have QF:=run_sliceBound (P:=Γ.P) w FN (y:=q.ns.length) h2 h3 .sliceB;have gX:(Instr.sliceBounds true q.ns.length c (some (a.eval lo)) none none).run Γ.P w=.ok (l.toNat,q.ns.length,c) w:=by
     simp[Instr.sliceBounds,QF]
    have sF:=dJ.run_sizeOf w;have hex:(execOp a.eval o).run Γ.P w=.ok (.value (.slice (if c=l.toNat then ad else ad.map (·.add (l.toNat*d'.size))) (q.ns.length-l.toNat) (c-l.toNat))) w:=by
     simp only[execOp,ho,Instr.sliceAt,ao,run_underlying hu,al,Instr.slice,hv,aq1,Option.map_none,gX,sF,aq]
    subst b2;have wH:∀b,dO (.slice (if c=l.toNat then ad else ad.map (·.add (l.toNat*d'.size))) (q.ns.length-l.toNat) (c-l.toNat))=some b->dO (a.eval x)=some b:=by
     intro b hb;rw[hv]
     by_cases dK:c=l.toNat
     ·rw[if_pos dK] at hb
      cases ad<;>simp[dO] at hb
      omega
     ·rw[if_neg dK] at hb
      cases ad with
      |none=>simp[dO] at hb
      |some ad=>
       simp only[aq1] at hb;rw[cF (by omega)] at hb ⊢;have he:(ad.add (l.toNat*d'.size)).block=ad.block:=by unfold Addr.add;split<;>rfl
       rw[he] at hb;exact hb
    refine⟨_,w,η.set q.r _,.inl hex,hr.fz aE g1 g2 (cG.refl _ w) (fun b hb=>.inl (wH b hb)) ?_,.own _ _ _ rfl ((lK (aB g1)).2 (aB g2))⟩;rw[hv] at g3;rcases g3 with⟨e0,ad',e1⟩|⟨g,off,cap,cur,e1,e2,e3,e4,e5,e6,e7⟩
    ·simp only[Value.slice.injEq] at e1;obtain⟨rfl,e1,rfl⟩:=e1;refine .inl ⟨by rw[e0];simp,ad,?_⟩;have:l.toNat=0:=by omega
     rw[this,e1];simp
    ·simp only[Value.slice.injEq] at e1;obtain⟨rfl,_,rfl⟩:=e1
     by_cases dK:c=l.toNat
     ·refine .inl ⟨aqK (by omega),some ⟨g,off,none⟩,?_⟩;rw[if_pos dK,show q.ns.length-l.toNat=0 by omega,show c-l.toNat=0 by omega]
     ·rw[if_neg dK];refine .inr ⟨g,off+l.toNat,c-l.toNat,cur,by rw[aqY,b1,arG,aq1,Addr.add_lit],by omega,e3,by rw[aqY];omega,by omega,by omega,fun i n hn=>?_⟩;rw[arB] at hn;have:=e7 _ _ hn;rw[asd];exact this
   ·cases h
  ·cases h
 ·
  rename_i c;split at h
  ·rename_i x T DW aN ab5;split at h
   ·rename_i sd q hs hq;simp only[aqq,aqt] at h;obtain⟨rfl,rfl,rfl⟩:=h;obtain⟨e,d,d'⟩:=sd;intro a w η hr;obtain⟨hu,dJ⟩:=uo aA hs;obtain⟨g1,g2,g3⟩:=hr.XJ hq hc.1;obtain⟨ad,cc,hv⟩:=g3.slice;have qE:c.argTypes=#[T]:=by rw[<-aq8 (xs:=c.argTypes),ab5]
    have ph:c.args=#[x]:=by rw[<-aq8 (xs:=c.args),aN]
    refine⟨.int .i64 q.ns.length,w,η,.inl ?_,hr,.ax _⟩;simp[execOp,ho,resolve,DW,invoke,builtin,Builtin.len_,qE,ph,hv,run_underlying hu,goInt]
   ·cases h
  ·rename_i b x T T' DW aN ab5;split at h
   ·rename_i e d d' q gi els hs hq hx;split at h
    ·rename_i ks hks hb;simp only[aqq,aqt] at h;obtain⟨rfl,rfl,rfl⟩:=h;rw[bP] at hc;obtain⟨Xg,h1,⟨h2,h3⟩,_⟩:=hc;rw[aqv] at hb;have b1:=aqN hb.1;obtain⟨b2,rfl⟩:=XI hb.2;intro a w η hr;obtain⟨hu,dJ⟩:=uo aA hs;obtain⟨g1,g2,g3⟩:=hr.XJ hq h1;have eP:=lV hr.heap hr.cq (hr.ev x) (ie hx Xg);have qE:c.argTypes=#[T,T]:=by rw[<-aq8 (xs:=c.argTypes),ab5]
     have ph:c.args=#[b,x]:=by rw[<-aq8 (xs:=c.args),aN]
     subst b2;obtain⟨v',w',q1,q2,q3⟩:=Km aE hr (ty:=o.type) hu dJ b1 g1 g2 eP hks h2 h3;refine⟨v',w',_,.inl ?_,q2,.own _ _ _ q3 ((lK (aB g1)).2 (aB g2))⟩;simp only[execOp,ho,resolve,DW,ao,aq,al,invoke,builtin,qE,ph,arY,aqS,arl,q1]
    ·cases h
   ·cases h
  ·cases h
 ·cases h
end Go.Proofs.YtnkjkpmbgoehkaaGreat
