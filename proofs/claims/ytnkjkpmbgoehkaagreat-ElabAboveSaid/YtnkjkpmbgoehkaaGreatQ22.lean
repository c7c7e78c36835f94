/- Texts of ours laid together for a claim: VcR. -/
import Derived.Test.YtnkjkpmbgoehkaaGreatQ21
namespace Go.Proofs.YtnkjkpmbgoehkaaGreat
open Go
set_option linter.unusedSimpArgs false
set_option linter.unusedVariables false
def intOf:AV->Option Int
 | .ae (.int .i64 n)=>some n
 |_=>none
theorem DJ {x:AV} {n:Int} (h:intOf x=some n):x=.ae (.int .i64 n):=by
 unfold intOf at h;split at h
 ·rw[alj h]
 ·cases h
def tS:List AV->Option (List Int)
 | []=>some []
 |x::l=>(match intOf x,tS l with
  |some n,some ns=>some (n::ns)
  |_,_=>none)
theorem Ae:∀{l:List AV} {ns:List Int},tS l=some ns->l=ns.map fun n=>.ae (.int .i64 n)
 | [],ns,h=>by simp only[tS,alh] at h;subst h;rfl
 |x::l,ns,h=>by
  simp only[tS] at h;split at h
  ·rename_i n ms h1 h2;obtain rfl:=alj h;rw[DJ h1,Ae h2];rfl
  ·cases h
structure Que where
 r:Nat
 n:Nat
 e:Nat
 m:Nat
 ns:List Int
def xi (hp:List ab):AV->Option Que
 | .own r n=>(match hp[r]? with
  |some (.eI e m ns)=>some ⟨r,n,e,m,ns⟩
  |_=>none)
 |_=>none
theorem N7 {hp:List ab} {x:AV} {q:Que} (h:xi hp x=some q):x=.own q.r q.n/\hp[q.r]?=some (.eI q.e q.m q.ns):=by
 unfold xi at h;split at h
 ·split at h
  ·rename_i h1;obtain rfl:=alj h;exact⟨rfl,h1⟩
  ·cases h
 ·cases h
def oZ (tab:Nat->Option TD) (T:Nat):Option (Nat×TD×TD):=
 match tab T with
 |some d=>(match d.kind with
  | .kC e=>(tab e).map fun d'=>(e,d,d')
  |_=>none)
 |none=>none
theorem xj {tab:Nat->Option TD} {T e:Nat} {d d':TD} (h:oZ tab T=some (e,d,d')):tab T=some d/\d.kind=.kC e/\tab e=some d':=by
 unfold oZ at h;split at h
 ·rename_i d1 h1;split at h
  ·rename_i e1 h2;obtain⟨d2,h3,h4⟩:=amb.1 h;cases h4;exact⟨h1,h2,h3⟩
  ·cases h
 ·cases h
def qOp (mk:Bool) (tab:Nat->Option TD) (hp:List ab) (ρ:Operand->AV):Op->Option (List Prop×AV×List ab)
 | .buildSlice T n parts=>(match mk,parts.toList,oZ tab T with
  |true,[(0,x)],some (e,_,d')=>(match intOf (ρ x),Nat.beq d'.size 1&&Nat.beq n 1 with
   |some k,true=>some ([],.own hp.length 0,hp++[.eI e 0 [k]])
   |_,_=>none)
  |_,_,_=>none)
 | .indexAddr T x i=>(match oZ tab T,xi hp (ρ x),ρ i with
  |some (e,_,d'),some q,.ae (.int _ k)=>(match Nat.beq d'.size 1&&Nat.beq e q.e with
   |true=>some ([q.n=q.m,0<=k/\k<q.ns.length],.fq q.r q.n k.toNat 1,hp)
   |false=>none)
  |_,_,_=>none)
 | .load T x=>(match ρ x,tab T with
  | .fq r n i 1,some d=>(match hp[r]?,Nat.beq d.size 1&&!d.kind.agg with
   |some (.eI _ m ns),true=>some ([n=m,i<ns.length],.ae (.int .i64 (ns.getD i 0)),hp)
   |_,_=>none)
  |_,_=>none)
 | .slice T x (some lo) none none=>(match oZ tab T,xi hp (ρ x),ρ lo with
  |some (e,_,d'),some q,.ae (.int _ l)=>(match Nat.beq d'.size 1&&Nat.beq e q.e with
   |true=>some ([q.n=q.m,0<=l/\l<=q.ns.length],.own q.r (q.m+1),hp.set q.r (.eI e (q.m+1) (q.ns.drop l.toNat)))
   |false=>none)
  |_,_,_=>none)
 | .call c=>(match c.callee,c.args.toList,c.argTypes.toList with
  | .builtin .len,[x],[T]=>(match oZ tab T,xi hp (ρ x) with
   |some _,some q=>some ([q.n=q.m],.ae (.int .i64 q.ns.length),hp)
   |_,_=>none)
  | .builtin .append,[b,x],[T,T']=>(match oZ tab T,xi hp (ρ b),(ρ x).lC hp with
   |some (e,_,d'),some q,some (cs,els)=>(match tS els,Nat.beq d'.size 1&&(Nat.beq e q.e&&Nat.beq T T') with
    |some ks,true=>some (cs++[q.n=q.m,(q.ns.length+ks.length<=maxLen/\(q.ns.length+ks.length)*d'.bytes<=140737488355328)],.own q.r (q.m+1),hp.set q.r (.eI e (q.m+1) (q.ns++ks)))
    |_,_=>none)
   |_,_,_=>none)
  |_,_,_=>none)
 |_=>none
variable {G:Type} {Γ:Env G} {s:AS G} {a:Act} {w w':World} {η:List Value} {hp:List ab}
theorem fH.Xv {e:Nat} {v:Value} {ns:List Int} {xs:List Value} (h:lu w e 1 v ns.length xs 0) (hx:xs=ns.map fun n=>.int .i64 n):fH w e v ns:=by
 rcases h.2 with⟨h0,h1⟩|⟨g,cap,cur,rfl,h0,⟨hi,hk,hg⟩,h2,h3,h4,h5⟩
 ·refine .inl ⟨alS h0,?_⟩;rcases h1 with rfl|⟨ad,rfl⟩
  ·exact⟨_,rfl⟩
  ·exact⟨_,rfl⟩
 ·obtain rfl:hi=0:=Nat.le_zero.1 hk;refine .inr ⟨g,0,cap,cur,rfl,h0,hg,h2,h3,by omega,fun i n hn=>?_⟩;have:xs[i]?=some (.int .i64 n):=by rw[hx,alu,hn];rfl
  rw[<-h5,alz] at this;split at this
  ·simpa using this
  ·cases this
theorem fH.slice {e:Nat} {v:Value} {ns:List Int} (h:fH w e v ns):∃ad c,v=.slice ad ns.length c:=by
 rcases h with⟨rfl,ad,rfl⟩|⟨g,o,cap,cur,rfl,_⟩
 ·exact⟨_,_,rfl⟩
 ·exact⟨_,_,rfl⟩
theorem Rel.eI (al:Γ.Ok) (h:Rel Γ s a w η) {r e m:Nat} {ns Y3:List Int} {v v':Value} (hr:s.hp[r]?=some (.eI e m ns)) (hv:η[r]?=some v) (hk:bZ (fun k=>cZ v=some k) w w') (Mz:∀b,cZ v'=some b->cZ v=some b\/w.heap.size<=b)
  (zh:fH w' e v' Y3):Rel Γ { s with hp:=s.hp.set r (.eI e (m+1) Y3) } a w' (η.set r v'):=by
 have hq:fH w e v ns:=h.heap.obj r _ _ hr hv;obtain⟨ad,c,rfl⟩:=hq.slice;exact h.change al (o':=.eI e (m+1) Y3) hr True.intro hv hk Mz (fun k hf=>hf.elim) (fun _ _ _ _ hf _=>hf.elim) (fun _ _ _ _ hf _=>hf.elim)
  (fun n u ho=>by
   unfold aR at ho ⊢;rw[hr] at ho;rw[ai hr]
   exact⟨amv ho.1,fun hn=>by have:=ho.1;omega⟩)
  (fun _ hx=>by cases hx) (fun _ hx=>by cases hx) (fun b d hb hd=>by obtain⟨cur,h5⟩:=hq.lt hb;rw[h5] at hd;cases hd) (fun _=>zh)
theorem ko {r e m:Nat} {ns:List Int} {v:Value} (h:hp[r]?=some (.eI e m ns)):aR η hp r m v↔η[r]?=some v:=by
 unfold aR;rw[h];exact⟨fun h=>h.2 rfl,fun h=>⟨alp _,fun _=>h⟩⟩
theorem Ho (al:Γ.Ok) (h:Rel Γ s a w η) {t ty e:TypeId} {d:TD} (ht:Γ.P.underlying t=some (.slice e)) (dZ:eZ Γ.P e d) (h1:d.size=1) {r m:Nat} {ns ks:List Int} {ar:List AV} {v0 v2:Value}
  (hr:s.hp[r]?=some (.eI e m ns)) (tI:η[r]?=some v0) (hx:ba w (aW Γ w η s.hp) η s.hp (.sl ar) v2) (ZC:tS ar=some ks)
  (hm:ns.length+ks.length<=maxLen) (GG:(ns.length+ks.length)*d.bytes<=140737488355328):
  ∃v' w',(Builtin.append_ #[t,t] ty #[v0,v2]).run Γ.P w=.ok v' w'/\Rel Γ { s with hp:=s.hp.set r (.eI e (m+1) (ns++ks)) } a w' (η.set r v')/\v'.oneCell'=true:=by
 have hq:fH w e v0 ns:=h.heap.obj r _ v0 hr tI;have fb:=Ae ZC;have hlen:ar.length=ks.length:=by rw[fb,alm]
 have zc:∀x:AV,x∈ar->x.cells.length=d.size:=by
  intro x mg;rw[fb] at mg;obtain⟨n,_,rfl⟩:=amg.1 mg;rw[h1];rfl
 obtain⟨i,iK,qD,CU,IU⟩:=dZ.info;obtain⟨lF,hn⟩:=rR (ty:=ty) ht dZ (by omega) hx zc;have wE:lF=ks.map fun n=>.int .i64 n:=by
  apply al9;intro j
  by_cases hj:j<ks.length
  ·have e1:ar[j]?=some (.ae (.int .i64 ks[j])):=by rw[fb,alu,alo hj];rfl
   obtain⟨u,q1,q2,_⟩:=hn.rep j _ 0 _ e1 rfl;rw[h1,amu,amh] at q1;rw[q1,alu,alo hj,q2.aj];rfl
  ·rw[alU (by rw[hn.len,h1,hlen];omega),alU (by rw[alm];omega)]
 by_cases hz:ar=[]
 ·have zY:ks=[]:=alS (by rw[<-hlen,hz];rfl);subst zY;obtain⟨ad,c,rfl⟩:=hq.slice;have Gz:ns.length<=c:=by
   rcases hq with⟨rfl,_⟩|⟨g,o,cap,cur,he,_,_,h5,_⟩
   ·exact aly _
   ·simp only[Value.slice.injEq] at he;omega
  exact⟨_,w,hn.nothing hz _ _ _ Gz,h.eI al hr tI (bZ.refl _ w) (fun b hb=>.inl hb) (by rw[ame];exact hq),rfl⟩
 have qU:0<ar.length:=List.length_pos_iff.2 hz;have A4:ns.length+ks.length<=9223372036854775807:=by simp only[maxLen] at hm;omega
 have grown:∀(qC:Nat),(∀b,cZ v0=some b->b<w.heap.size)->
   Rel Γ { s with hp:=s.hp.set r (.eI e (m+1) (ns++ks)) } a
   (w.drew.alloc (.cells ((ns.map fun n=>Value.int .i64 n).toArray++lF.toArray++Builtin.zeroCells d.zero.cells (grownCap w (ns.length+ar.length) qC e-(ns.length+ar.length))) e))
   (η.set r (.slice (some ⟨w.heap.size,0,none⟩) (ns.length+ar.length) (grownCap w (ns.length+ar.length) qC e))):=by
  intro qC aq;have hs:bD w (w.drew.alloc (.cells ((ns.map fun n=>Value.int .i64 n).toArray++lF.toArray++Builtin.zeroCells d.zero.cells (grownCap w (ns.length+ar.length) qC e-(ns.length+ar.length))) e)):=
   (bD.drew w).trans (bD.alloc _ _)
  refine h.eI al hr tI (hs.keeps _) (fun b hb=>?_) (.Xv (xs:=(ns.map fun n=>Value.int .i64 n)++lF) ?_ (by rw[wE,ami]))
  ·rw[bX (by have:=grownCap_ge w (ns.length+ar.length) qC e;omega)] at hb;obtain rfl:=alj hb;exact .inr (alp _)
  ·have:=tF (w:=w) (e:=e) (size:=d.size) (n:=ns.length) (m:=ar.length) (z:=d.zero.cells) (ns.map fun n=>Value.int .i64 n) lF (by rw[h1,alm,amu]) hn.len dZ.IQ qC qU (by rw[hlen];exact hm);rw[h1] at this;rw[alA,<-hlen];exact this
 rcases hq with⟨rfl,ad,rfl⟩|⟨g,o,cap,cur,rfl,h0,hg,Gz,GA,gO,zd⟩
 ·have gr:=grown 0 (fun b hb=>by cases ad<;>simp[cZ] at hb);simp only[ama,al5,alM,Array.empty_append] at gr;simp only[al5,alM,<-hlen] at A4 GG
  cases ad with
  |none=>
   have:=hn.nil qU (by omega) (by omega);exact⟨_,_,this,gr,rfl⟩
  |some ad=>
   have:=hn.grow qU ad 0 0 [] (by simp) (fun j u hj=>by simp at hj) (by omega) (by simp only[alM];omega) (growslice_fits (by omega) (by simpa only[alM] using GG));simp only[alM,amw] at this;refine⟨_,_,this,?_,rfl⟩;simpa only[Array.empty_append] using gr
 ·have uz:∀c,0<c->∀n,cZ (.slice (some ⟨g,o,none⟩) n c)=some g:=fun c hc n=>bX hc
  by_cases eA:ns.length+ar.length<=cap
  ·have YN:lF.length=ar.length:=by rw[hn.len,h1,amu]
   have rS:o+ns.length+lF.length<=cur.size:=by omega
   obtain⟨b2,o2,c2,rfl,hc⟩:∃b2 o2 c2,v2=.slice (some ⟨b2,o2,none⟩) ar.length c2/\∀(j:Nat) (u:Value),lF[j]?=some u->w.cell? ((⟨b2,o2,none⟩:Addr).add j)=some u:=by
    obtain⟨ZD,Tz⟩:=hx.vW (size:=d.size) (by omega) zc;have hnn:ZD=lF:=by
     rw[wE];apply al9;intro j
     by_cases hj:j<ks.length
     ·have e1:ar[j]?=some (.ae (.int .i64 ks[j])):=by rw[fb,alu,alo hj];rfl
      obtain⟨u,q1,q2,_⟩:=Tz.rep j _ 0 _ e1 rfl;rw[h1,amu,amh] at q1;rw[q1,alu,alo hj,q2.aj];rfl
     ·rw[alU (by rw[Tz.len,h1,hlen];omega),alU (by rw[alm];omega)]
    rcases Tz.shape with⟨_,_,q⟩|⟨b2,o2,c2,rfl,_,_,MB⟩
    ·exact(hz q).elim
    ·exact⟨b2,o2,c2,rfl,fun j u hj=>by rw[Addr.add_lit];exact MB j u (by rw[hnn];exact hj)⟩
   have hrm:=kE (us:=lF) hg (aly (o+ns.length)) rS;have fY:=run_append_room_cells (P:=Γ.P) w t ty e i ht iK g o ns.length cap ⟨b2,o2,none⟩ ar.length c2 lF (by rw[qD];exact hn.len) hc hn.one eA (by rw[qD,h1,amu];exact hrm.1) (by rw[qD,h1,amu];exact hrm.2);rw[qD,h1,amu,ni lF _ cur w hg rS] at fY;refine⟨_,_,fY,?_,rfl⟩;have IV:=setRow_heap w g cur (cur.toList.take (o+ns.length)++lF++cur.toList.drop (o+ns.length+lF.length)).toArray e (0,0) hg;refine h.eI al hr tI ⟨rfl,rfl,rfl,by simp,fun k hk hb=>setRow_other w g k _ (fun e=>hb (by rw[uz _ h0,e]))⟩ (fun b hb=>.inl (by rw[uz _ h0];rw[uz _ h0] at hb;exact hb)) (.inr ⟨g,o,cap,_,by rw[alA,<-hlen],h0,IV,by rw[alA,<-hlen];exact eA,GA,?_,fun j n hj=>?_⟩)
   ·simp only[List.size_toArray,alA,amf,alX,alY];omega
   ·simp only[amP]
    by_cases aq:j<ns.length
    ·rw[alr aq] at hj;rw[al3,alr (by simp;omega),alz,if_pos (by omega)];simpa using zd j n hj
    ·rw[alO (by omega)] at hj;have km:j-ns.length<ks.length:=(ali.1 hj).1;have cY:cur.toList.length=cur.size:=alY;have DK:(List.take (o+ns.length) cur.toList).length=o+ns.length:=by rw[amf,cY];exact Nat.min_eq_left (by omega)
     have hq:o+j-(List.take (o+ns.length) cur.toList).length=j-ns.length:=by rw[DK];omega
     rw[al3,alO (by rw[DK];omega),hq,alr (by omega),wE,alu,hj];rfl
  ·have aA:∀(j:Nat) (u:Value),(ns.map fun n=>Value.int .i64 n)[j]?=some u->w.cell? ((⟨g,o,none⟩:Addr).add j)=some u:=by
    intro j u hj;rw[alu] at hj;obtain⟨n,Ta,rfl⟩:=amb.1 hj;rw[Addr.add_lit,cell_of_row w g _ cur e _ hg];exact zd j n Ta
   have:=hn.grow qU ⟨g,o,none⟩ ns.length cap (ns.map fun n=>Value.int .i64 n) (by rw[h1,alm,amu]) aA (by omega) (by omega) (growslice_fits (by omega) (by rw[hlen];exact GG));exact⟨_,_,this,grown cap (fun b hb=>by rw[uz _ h0] at hb;obtain rfl:=alj hb;exact bF hg),rfl⟩
theorem si {tab:Nat->Option TD} (ah:aL Γ.P tab) {T e:Nat} {d d':TD} (h:oZ tab T=some (e,d,d')):Γ.P.underlying T=some (.slice e)/\eZ Γ.P e d':=by
 obtain⟨h1,h2,h3⟩:=xj h;obtain⟨u,q2,q3⟩:=(ah T d h1).lj;rw[h2] at q3;exact⟨by rw[q2];exact congrArg some q3,ah e d' h3⟩
theorem TB {a b c d:Nat} (h:(Nat.beq a b&&Nat.beq c d)=true):a=b/\c=d:=by
 rw[aln] at h;exact⟨alB h.1,alB h.2⟩
theorem Rel.Xw (h:Rel Γ s a w η) {x:Operand} {u:Value} (hx:s.ev x=.ae u):a.eval x=u:=by
 have:=h.ev x;rw[hx] at this;exact this.aj
theorem Rel.TC (h:Rel Γ s a w η) {x:Operand} {q:Que} (hq:xi s.hp (s.ev x)=some q) (hn:q.n=q.m):s.hp[q.r]?=some (.eI q.e q.m q.ns)/\η[q.r]?=some (a.eval x)/\fH w q.e (a.eval x) q.ns:=by
 obtain⟨h1,h2⟩:=N7 hq;have hx:=h.ev x;rw[h1,hn] at hx;generalize a.eval x=v at hx
 cases hx with
 |own _ _ _ _ CW=>
  have h3:=(ko h2).1 CW;exact⟨h2,h3,h.heap.obj _ _ _ h2 h3⟩
theorem Hp (al:Γ.Ok) {tab:Nat->Option TD} (ah:aL Γ.P tab) {o:Oper} {T e:Nat} {x:Operand} {parts:Array (Nat×Operand)} (ho:o.op=.buildSlice T 1 parts) {d d':TD} (hs:oZ tab T=some (e,d,d')) (MD:parts.toList=[(0,x)]) (h1:d'.size=1)
  {k:Int} (hk:s.ev x=.ae (.int .i64 k)):fS Γ o s (.own s.hp.length 0) (s.hp++[.eI e 0 [k]]):=by
 intro a w η hr;obtain⟨hu,dZ⟩:=si ah hs;have tB:=hr.Xw hk;obtain⟨r,e1,e2,e3,e4⟩:=wP (size:=d'.size) [Value.int .i64 k] 0 (parts.toList.map fun p=>(p.1,a.eval p.2)) ((Array.range (1*d'.size)).map (d'.zero.cells[· % d'.zero.cells.size]!)) (by rw[MD];simp[tB]) (fun j p hj=>by
  rw[MD] at hj
  cases j with
  |zero=>simp at hj;rw[<-hj]
  |succ j=>simp at hj) (fun v hv=>by simp at hv;rw[hv,h1];rfl) (by simp)
 have e5:=e4 0 _ 0 (.int .i64 k) rfl rfl;have hb:¬1*d'.size>2 ^ 24:=by omega
 have hz:¬1*d'.size=0:=by omega
 have hrs:r.size=1:=by rw[e2];simp[h1]
 refine⟨.slice (some ⟨w.heap.size,0,none⟩) 1 1,w.alloc (.cells r e),η++[.slice (some ⟨w.heap.size,0,none⟩) 1 1],.inl ?_,?_,?_⟩
 ·simp only[execOp,ho,Instr.buildSlice,Sem.run_bind,run_underlying hu,Result.andThen_ok,dZ.run_sizeOf,Sem.run_ite,if_neg hb,Sem.run_pure,if_neg hz,dZ.jd,amW,e1,newRow,run_newObj];rfl
 ·refine hr.add al (bD.alloc w _) (fun b hb=>?_) (.inr ⟨w.heap.size,0,1,r,rfl,by omega,heap_alloc_new w _,by simp,by simp[maxLen],by omega,fun i n hn=>?_⟩)
  ·rw[bX (by omega)] at hb;obtain rfl:=alj hb;exact alp _
  ·cases i with
   |zero=>
    simp at hn;subst hn;simpa using e5
   |succ i=>simp at hn
 ·exact .own _ _ _ rfl ((ko (e:=e) (ns:=[k]) (by simp)).2 (by rw[<-hr.heap.len];simp))
theorem zu (al:Γ.Ok) {tab:Nat->Option TD} (ah:aL Γ.P tab) {o:Oper} {T n e:Nat} {parts:Array (Nat×Operand)} (ho:o.op=.buildSlice T n parts) {d d':TD} (hd:tab T=some d) (hk:d.kind=.kC e) (dy:tab e=some d')
  (hn:n=parts.toList.length) (nk:0<n) (hz:0<d'.size) (jO:rT 0 parts.toList=true) (Th:n<=16777216) (Ti:n*d'.size<=16777216) (hl:qV d'.size (parts.toList.map fun p=>(s.ev p.2).bl s.hp)):
  fS Γ o s (.own s.hp.length n) (s.hp++[.row e d'.size (parts.toList.map fun p=>(s.ev p.2).bl s.hp)]):=by
 intro a w η hr;obtain⟨r,e1,e2,mr,dA⟩:=oe al ah ho hd hk dy hn jO Th Ti hl hr;have YH:=oI _ hl;have he:=oD (Γ:=Γ) (η:=η) (hp:=s.hp) (bD.alloc w (.cells r e)) (fun _ _=>eu);refine⟨_,_,η++[.slice (some ⟨w.heap.size,0,none⟩) n n],.inl e1,?_,?_⟩
 ·have GB:=rQ (Γ:=Γ) (o:=.row e d'.size (parts.toList.map fun p=>(s.ev p.2).bl s.hp)) (v:=.slice (some ⟨w.heap.size,0,none⟩) n n) hr.heap.len (bD.alloc w (.cells r e)) (fun b hb=>by
   rw[bX nk] at hb;obtain rfl:=alj hb
   exact alp _)
  refine hr.add al (bD.alloc w _) (fun b hb=>?_) ⟨hz,r.toList,⟨by rw[alY,e2,mr],.inr ⟨w.heap.size,n,r,by rw[mr],nk,⟨0,aly _,heap_alloc_new w _⟩,by rw[mr];exact alp _,by simp only[maxLen];omega,e2,by rw[mr,<-e2,<-alY,List.take_length]⟩⟩,fun i el hi=>⟨(YH el (alq hi)).1,fun j x hj=>?_⟩⟩
  ·rw[bX nk] at hb;obtain rfl:=alj hb;exact alp _
  ·obtain⟨u,h1,h2,h3⟩:=dA i el j x hi hj;exact⟨u,by simpa using h1,h2.ext GB.oB.ext,h3⟩
 ·refine .own _ _ _ rfl ?_;unfold aR;rw[<-hr.heap.len];simp[hr.heap.len,mr]
theorem fH.at {e:Nat} {v:Value} {ns:List Int} (h:fH w e v ns) {i:Nat} (hi:i<ns.length):∃g o cap,v=.slice (some ⟨g,o,none⟩) ns.length cap/\w.cell? ⟨g,o+i,none⟩=some (.int .i64 (ns.getD i 0)):=by
 rcases h with⟨rfl,_⟩|⟨g,o,cap,cur,rfl,_,hg,_,_,_,h1⟩
 ·simp at hi
 ·refine⟨g,o,cap,rfl,?_⟩;rw[cell_of_row w g _ cur e _ hg];exact h1 i _ (by simp[amG,hi])
theorem Xx (al:Γ.Ok) {tab:Nat->Option TD} (ah:aL Γ.P tab) {mk:Bool} {o:Oper} {cs:List Prop} {r:AV} {hp':List ab} (h:qOp mk tab s.hp s.ev o.op=some (cs,r,hp')) (hc:dK cs):fS Γ o s r hp':=by
 generalize ho:o.op=op at h;unfold qOp at h;split at h
 ·
  split at h
  ·rename_i T n parts _ _ _ x e d d' MD hs;split at h
   ·rename_i k hk hb;simp only[alh,alk] at h;obtain⟨rfl,rfl,rfl⟩:=h;obtain⟨b1,rfl⟩:=TB hb;exact Hp al ah ho hs MD b1 (DJ hk)
   ·cases h
  ·cases h
 ·
  split at h
  ·rename_i T x i _ _ _ e d d' q kk k hs hq hi;split at h
   ·rename_i hb;simp only[alh,alk] at h;obtain⟨rfl,rfl,rfl⟩:=h;obtain⟨h1,h2,_⟩:=hc;obtain⟨b1,_⟩:=TB hb;intro a w η hr;obtain⟨hu,dZ⟩:=si ah hs;obtain⟨g1,g2,g3⟩:=hr.TC hq h1;have Tf:=hr.Xw hi;obtain⟨g,off,cap,hv,_⟩:=g3.at (i:=k.toNat) (by omega);obtain⟨i0,C3,iK,_⟩:=dZ.info;refine⟨.pointer (some ⟨g,off+k.toNat*1,none⟩),w,η,.inl ?_,hr,.fq _ _ _ _ g off cap q.ns.length ?_⟩
    ·simp[execOp,ho,hv,Tf,Instr.indexAt,asIntOf,run_underlying hu,h2,sizeOf,typeInfo,C3,iK,Addr.add_lit,b1]
    ·rw[h1];exact(ko g1).2 (by rw[g2,hv])
   ·cases h
  ·cases h
 ·
  split at h
  ·rename_i T x _ _ r0 n i d hx hd;split at h
   ·rename_i e m ns qp hb;simp only[alh,alk] at h;obtain⟨rfl,rfl,rfl⟩:=h;obtain⟨h1,h2,_⟩:=hc;simp only[aln,al0] at hb;have bO:=alB hb.1;have dZ:=ah T d hd;intro a w η hr;have eo:=hr.ev x;rw[hx] at eo
    cases wJ:a.eval x<;>rw[wJ] at eo<;>cases eo
    rename_i b o' c k CW;rw[h1] at CW;have eP:=(ko qp).1 CW;obtain⟨g,off,cap,hv,aA⟩:=fH.at (hr.heap.obj _ _ _ qp eP) h2;simp only[Value.slice.injEq,alh,Addr.mk.injEq,and_true] at hv;obtain⟨⟨rfl,rfl⟩,_,_⟩:=hv;refine⟨.int .i64 (ns.getD i 0),w,η,.inl ?_,hr,.ae _⟩;simp only[execOp,ho,wJ,Instr.loadAt,Instr.sureAddr,Sem.run_bind,Sem.run_pure,Result.andThen_ok];rw[dZ.run_load (vs:=[.int .i64 (ns.getD i 0)]) (by rw[bO];rfl) (fun j u hj=>by
     cases j with
     |zero=>simp only[al8,alh] at hj;rw[<-hj,amu,amh];exact aA
     |succ j=>simp at hj)]
    simp[hb.2]
   ·cases h
  ·cases h
 ·
  split at h
  ·rename_i T x lo _ _ _ e d d' q kk l hs hq hl;split at h
   ·rename_i hb;simp only[alh,alk] at h;obtain⟨rfl,rfl,rfl⟩:=h;obtain⟨h1,⟨h2,h3⟩,_⟩:=hc;obtain⟨b1,b2⟩:=TB hb;intro a w η hr;obtain⟨hu,dZ⟩:=si ah hs;obtain⟨g1,g2,g3⟩:=hr.TC hq h1;have Da:=hr.Xw hl;obtain⟨ad,c,hv,Gz⟩:∃ad c,a.eval x=.slice ad q.ns.length c/\q.ns.length<=c:=by
     rcases g3 with⟨e0,ad,e1⟩|⟨g,off,cap,cur,e1,_,_,e2,_⟩
     ·exact⟨ad,0,by rw[e1,e0];rfl,by rw[e0];exact alp _⟩
     ·exact⟨_,cap,e1,e2⟩
    have MC:=run_sliceBound (P:=Γ.P) w Da (y:=q.ns.length) h2 h3 .sliceB;have fY:(Instr.sliceBounds true q.ns.length c (some (a.eval lo)) none none).run Γ.P w=.ok (l.toNat,q.ns.length,c) w:=by
     simp[Instr.sliceBounds,MC]
    have qF:=dZ.run_sizeOf w;have hex:(execOp a.eval o).run Γ.P w=.ok (.value (.slice (if c=l.toNat then ad else ad.map (·.add (l.toNat*d'.size))) (q.ns.length-l.toNat) (c-l.toNat))) w:=by
     simp only[execOp,ho,Instr.sliceAt,Sem.run_bind,run_underlying hu,Result.andThen_ok,Instr.slice,hv,alN,Option.map_none,fY,qF,Sem.run_pure]
    subst b2;have uz:∀b,cZ (.slice (if c=l.toNat then ad else ad.map (·.add (l.toNat*d'.size))) (q.ns.length-l.toNat) (c-l.toNat))=some b->cZ (a.eval x)=some b:=by
     intro b hb;rw[hv]
     by_cases cY:c=l.toNat
     ·rw[if_pos cY] at hb
      cases ad<;>simp[cZ] at hb
      omega
     ·rw[if_neg cY] at hb
      cases ad with
      |none=>simp[cZ] at hb
      |some ad=>
       simp only[alN] at hb;rw[bX (by omega)] at hb ⊢;have he:(ad.add (l.toNat*d'.size)).block=ad.block:=by unfold Addr.add;split<;>rfl
       rw[he] at hb;exact hb
    refine⟨_,w,η.set q.r _,.inl hex,hr.eI al g1 g2 (bZ.refl _ w) (fun b hb=>.inl (uz b hb)) ?_,.own _ _ _ rfl ((ko (ai g1)).2 (ai g2))⟩;rw[hv] at g3;rcases g3 with⟨e0,ad',e1⟩|⟨g,off,cap,cur,e1,e2,e3,e4,e5,e6,e7⟩
    ·simp only[Value.slice.injEq] at e1;obtain⟨rfl,e1,rfl⟩:=e1;refine .inl ⟨by rw[e0];simp,ad,?_⟩;have:l.toNat=0:=by omega
     rw[this,e1];simp
    ·simp only[Value.slice.injEq] at e1;obtain⟨rfl,_,rfl⟩:=e1
     by_cases cY:c=l.toNat
     ·refine .inl ⟨alC (by omega),some ⟨g,off,none⟩,?_⟩;rw[if_pos cY,show q.ns.length-l.toNat=0 by omega,show c-l.toNat=0 by omega]
     ·rw[if_neg cY];refine .inr ⟨g,off+l.toNat,c-l.toNat,cur,by rw[alX,b1,amu,alN,Addr.add_lit],by omega,e3,by rw[alX];omega,by omega,by omega,fun i n hn=>?_⟩;rw[amo] at hn;have:=e7 _ _ hn;rw[amV];exact this
   ·cases h
  ·cases h
 ·
  rename_i c;split at h
  ·rename_i x T Bq aw Xy;split at h
   ·rename_i sd q hs hq;simp only[alh,alk] at h;obtain⟨rfl,rfl,rfl⟩:=h;obtain⟨e,d,d'⟩:=sd;intro a w η hr;obtain⟨hu,dZ⟩:=si ah hs;obtain⟨g1,g2,g3⟩:=hr.TC hq hc.1;obtain⟨ad,cc,hv⟩:=g3.slice;have oM:c.argTypes=#[T]:=by rw[<-alV (xs:=c.argTypes),Xy]
    have nw:c.args=#[x]:=by rw[<-alV (xs:=c.args),aw]
    refine⟨.int .i64 q.ns.length,w,η,.inl ?_,hr,.ae _⟩;simp[execOp,ho,resolve,Bq,invoke,builtin,Builtin.len_,oM,nw,hv,run_underlying hu,goInt]
   ·cases h
  ·rename_i b x T T' Bq aw Xy;split at h
   ·rename_i e d d' q eQ els hs hq hx;split at h
    ·rename_i ks ZC hb;simp only[alh,alk] at h;obtain⟨rfl,rfl,rfl⟩:=h;rw[bt] at hc;obtain⟨MZ,h1,⟨h2,h3⟩,_⟩:=hc;rw[aln] at hb;have b1:=alB hb.1;obtain⟨b2,rfl⟩:=TB hb.2;intro a w η hr;obtain⟨hu,dZ⟩:=si ah hs;obtain⟨g1,g2,g3⟩:=hr.TC hq h1;have eo:=kD hr.heap hr.bN (hr.ev x) (gd hx MZ);have oM:c.argTypes=#[T,T]:=by rw[<-alV (xs:=c.argTypes),Xy]
     have nw:c.args=#[b,x]:=by rw[<-alV (xs:=c.args),aw]
     subst b2;obtain⟨v',w',q1,q2,q3⟩:=Ho al hr (ty:=o.type) hu dZ b1 g1 g2 eo ZC h2 h3;refine⟨v',w',_,.inl ?_,q2,.own _ _ _ q3 ((ko (ai g1)).2 (ai g2))⟩;simp only[execOp,ho,resolve,Bq,Sem.run_bind,Sem.run_pure,Result.andThen_ok,invoke,builtin,oM,nw,amI,alQ,ama,q1]
    ·cases h
   ·cases h
  ·cases h
 ·cases h
end Go.Proofs.YtnkjkpmbgoehkaaGreat
