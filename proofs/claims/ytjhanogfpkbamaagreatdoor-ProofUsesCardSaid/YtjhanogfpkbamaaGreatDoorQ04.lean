/- Texts of ours laid together for a claim: FilP. -/
import Derived.Test.YtjhanogfpkbamaaGreatDoorQ03
namespace Go.Proofs.YtjhanogfpkbamaaGreatDoor
open Go
set_option linter.unusedSimpArgs false
set_option linter.unusedVariables false
variable {G:Type} {Γ:Env G} {s s':AS G} {a:Act} {w w':World} {η:List Value} {hp:List af} {P:Program} {ops:Array Oper}
def tq (Γ:Env G) (o:Oper) (s:AS G) (r:AV):Prop:=
 ∀a w η (Kc:Act→World→Prop) (Qc:Exit→Act→World→Prop),Rel Γ s a w η→(∀v w',bX w w'→bw w' (bn Γ w' η s.hp) η s.hp r v→Kc (a.put o.dst v) w')→o.wpIn Γ.eV 0 Γ.P a w Kc Qc
def AS.only (s:AS G) (L:List Nat):AS G:={ s with tmps:=fun t=>if t∈L then s.tmps t else .top }
theorem Rel.only (h:Rel Γ s a w η) (L:List Nat):Rel Γ (s.only L) a w η:=by
 refine⟨h.nt,fun t=>?_,h.heap,h.cE,h.keeps,h.inv,h.marks,h.ext⟩
 show bw w _ η s.hp (if t∈L then s.tmps t else .top) _
 split
 ·exact h.tmps t
 ·exact .top _
def cF:Op→Bool
 | .alloc _ | .box .. | .store .. | .makeSlice .. | .makeMap .. | .mapUpdate .. | .insert .. | .range .. | .next ..=>true
 | .call { callee:=.builtin .append,.. } | .call { callee:=.builtin .copy,.. } | .call { callee:=.builtin .delete,.. }=>true
 |_=>false
def aM (ops:Array Oper) (s:AS G) (o:Oper):Option Bool:=
 match o.guard with
 |none=>some true
 |some (j,want)=>(jW ops s j).map (·==some want)
def Yields (Γ:Env G) (ops:Array Oper) (o:Oper) (s:AS G) (x:AV):Prop:=
 dB Γ.nt o.dst∧((aM ops s o=some true∧tq Γ o (s.only (o.looksAt ops)) x)∨(aM ops s o=some false∧x=.ah (.tuple #[])))
def rO (Γ:Env G) (ops:Array Oper) (i:Nat) (K:AS G→Prop) (s:AS G):Prop:=
 match ops[i]? with
 |none=>K s
 |some o=>if cF o.op=true then dB Γ.nt o.dst∧o.guard=none∧∃r hp',gR Γ o s r hp'∧K (AS.put { s with hp:=hp' } o.dst r)
  else ∃x,Yields Γ ops o s x∧K (s.put o.dst x)
theorem eA (hr:Rel Γ s a w η) {o:Oper} {b:Bool} (h:aM ops s o=some b):Region.wanted o (yielded ops a.tmps)=b:=by
 unfold aM at h
 split at h
 ·rename_i hg
  obtain rfl:=Option.some.inj h
  simp[Region.wanted,hg]
 ·rename_i j want hg
  cases hs:jW ops s j with
  |none=>rw[hs] at h;cases h
  |some c=>
   rw[hs] at h
   obtain rfl:=Option.some.inj h
   simp[Region.wanted,hg,eJ hr hs]
theorem rO.sound (aD:Γ.Ok) {i:Nat} {K:AS G→Prop} {Kc:Act→World→Prop} {Qc:Exit→Act→World→Prop} (h:rO Γ ops i K s) (hr:Rel Γ s a w η) (hk:∀s' a' w' aU,K s'→Rel Γ s' a' w' aU→Kc a' w'):
  wpOpIn Γ.eV 0 Γ.P ops Qc i Kc a w:=by
 unfold rO at h
 unfold wpOpIn
 split at h
 ·rename_i ho;rw[ho];exact hk _ _ _ _ h hr
 ·rename_i o ho
  rw[ho]
  simp only
  split at h
  ·obtain⟨h1,h2,r,hp',h3,h4⟩:=h
   rw[if_pos (by simp[Region.wanted,h2])]
   exact(bR.oV h3 h1 h4) a w η Kc Qc hk hr
  ·obtain⟨x,⟨h1,h2⟩,h3⟩:=h
   rcases h2 with⟨h2,h4⟩|⟨h2,rfl⟩
   ·rw[if_pos (eA hr h2)]
    exact h4 a w η Kc Qc (hr.only _) fun v w' hs ec=>hk _ _ _ _ h3 ((hr.same aD hs).put (cA h1) ec)
   ·rw[if_neg (by rw[eA hr h2];simp)]
    exact⟨fun _ _=>trivial,hk _ _ _ _ h3 (hr.put (cA h1) (.ah _))⟩
def rA (Γ:Env G) (ops:Array Oper) (Q:AS G→Prop):Nat→Array Bool→AS G→Prop
 |0,listed,s=>Region.ready .any ops listed=[]∧Q s
 |fuel+1,listed,s=>(Region.ready .any ops listed=[]→Q s)∧∀i∈Region.ready .any ops listed,rO Γ ops i (rA Γ ops Q fuel (listed.setIfInBounds i true)) s
theorem rA.sound (aD:Γ.Ok) {Q:AS G→Prop} {Qc:Exit→Act→World→Prop} (hq:∀s' a' w' aU,Q s'→Rel Γ s' a' w' aU→Qc .normal a' w'):∀(fuel:Nat) (listed:Array Bool) (s:AS G) (a:Act) (w:World) (η:List Value),rA Γ ops Q fuel listed s→Rel Γ s a w η→
  wpAnyIn Γ.eV 0 Γ.P .any ops Qc fuel listed a w:=by
 intro fuel
 induction fuel with
 |zero=>intro listed s a w η h hr;exact⟨h.1,hq _ _ _ _ h.2 hr⟩
 |succ fuel ih=>intro listed s a w η h hr;exact⟨fun he=>hq _ _ _ _ (h.1 he) hr,fun i hi=>(h.2 i hi).sound aD hr fun s' a' w' aU h1 h2=>ih _ s' a' w' aU h1 h2⟩
inductive Reach (ops:Array Oper) (i:Nat):Nat→Prop
 |XM (j:Nat) (o:Oper) (e:Edge) (ho:ops[j]?=some o) (he:e∈o.after) (hb:Region.binds .any e=true) (hi:e.on=i):Reach ops i j
 |step (j:Nat) (o:Oper) (e:Edge) (ho:ops[j]?=some o) (he:e∈o.after) (hb:Region.binds .any e=true) (h:Reach ops i e.on):Reach ops i j
def pY (ops:Array Oper) (listed:Array Bool):Prop:=∀(k:Nat) (o:Oper),listed.getD k false=true→ops[k]?=some o→∀e∈o.after,Region.binds .any e=true→listed.getD e.on false=true
theorem Reach.listed {listed:Array Bool} (hs:pY ops listed) {i j:Nat} (h:Reach ops i j) (hj:∀o,ops[j]?=some o→∀e∈o.after,Region.binds .any e=true→listed.getD e.on false=true):listed.getD i false=true:=by
 induction h with
 |XM j o e ho he hb hi=>rw[←hi];exact hj o ho e he hb
 |step j o e ho he hb _ ih=>exact ih fun o' xZ=>hs e.on o' (hj o ho e he hb) xZ
theorem cK {listed:Array Bool} (hs:pY ops listed) {i:Nat} (hi:i∈Region.ready .any ops listed):pY ops (listed.setIfInBounds i true):=by
 obtain⟨_,o,ho,jz⟩:=mem_ready.1 hi
 intro k o' hk xZ e he hb
 by_cases Qy:k=i
 ·subst Qy
  rw[ho] at xZ
  obtain rfl:=Option.some.inj xZ
  exact getD_set_true (jz e he hb)
 ·refine getD_set_true (hs k o' ?_ xZ e he hb)
  simpa [ajo (ajz Qy)] using hk
theorem iD {listed:Array Bool} (hs:pY ops listed) {i j:Nat} (hi:i∈Region.ready .any ops listed) (hj:j∈Region.ready .any ops listed):¬Reach ops i j:=by
 intro h
 obtain⟨_,oj,jN,XN⟩:=mem_ready.1 hj
 have h1:=h.listed hs fun o ho e he hb=>by rw[jN] at ho;obtain rfl:=Option.some.inj ho;exact XN e he hb
 have h0:=(mem_ready.1 hi).1
 rcases ajP i listed.size with h' | h'
 ·simp[h'] at h0 h1;rw[h0] at h1;cases h1
 ·simp[Array.getElem?_eq_none h'] at h1
theorem yy {d:Option Nat} {x:AV} {L:List Nat} (h:∀t,d=some t→t∉L):(s.put d x).only L=s.only L:=by
 cases d with
 |none=>rfl
 |some d=>
  unfold AS.only AS.put
  simp only
  congr 1
  funext t
  by_cases ht:t∈L
  ·have bK:¬t=d:=by
    intro e;subst e;exact h t rfl ht
   rw[if_pos ht,if_pos ht,gL,if_neg bK]
  ·rw[if_neg ht,if_neg ht]
theorem iQ {d:Option Nat} {x:AV} {o:Oper} (h:∀t,d=some t→t∉o.looksAt ops):aM ops (s.put d x) o=aM ops s o:=by
 unfold aM
 split
 ·rfl
 ·rename_i j want hg
  have:jW ops (s.put d x) j=jW ops s j:=by
   unfold jW
   split
   ·rename_i t ht
    cases d with
    |none=>rfl
    |some d=>
     have bK:t≠d:=by
      intro e
      refine h d rfl ?_
      simp[Oper.looksAt,hg,ht,e]
     have:(s.put (some d) x).tmps t=s.tmps t:=by show Bx s.tmps d x t=_;rw[gL,if_neg bK]
     rw[this]
   ·rfl
  rw[this]
theorem Yields.put {o:Oper} {x y:AV} {d:Option Nat} (h:∀t,d=some t→t∉o.looksAt ops) (hy:Yields Γ ops o s y):Yields Γ ops o (s.put d x) y:=by
 unfold Yields at *
 rw[iQ h,yy h];exact hy
theorem Yields.pZ {o:Oper} {x y:AV} {d:Option Nat} (h:∀t,d=some t→t∉o.looksAt ops) (hy:Yields Γ ops o (s.put d x) y):Yields Γ ops o s y:=by
 unfold Yields at *
 rw[iQ h,yy h] at hy;exact hy
theorem put_comm {d e:Option Nat} {x y:AV} (h:∀t,d=some t→e≠some t):(s.put d x).put e y=(s.put e y).put d x:=by
 cases d with
 |none=>rfl
 |some d=>
  cases e with
  |none=>rfl
  |some e=>
   have bK:e≠d:=fun he=>h d rfl (he▸rfl)
   unfold AS.put
   simp only
   congr 1
   funext t
   simp only[gL]
   split<;>split<;>first|rfl|(rename_i h1 h2;exact(bK (h1▸h2)).elim)|omega
theorem rA.first {Q:AS G→Prop} {i:Nat} {oi:Oper} {x:AV} (hi:ops[i]?=some oi) (bK:cF oi.op=false):∀(fuel:Nat) (listed:Array Bool) (s:AS G),pY ops listed→
  (∀(j:Nat) oj,ops[j]?=some oj→j≠i→listed.getD j true=false→Reach ops i j∨(cF oj.op=false∧oi.apart ops oj=true))→
  i∈Region.ready .any ops listed→Yields Γ ops oi s x→rA Γ ops Q fuel (listed.setIfInBounds i true) (s.put oi.dst x)→rA Γ ops Q (fuel+1) listed s:=by
 have own:∀{K:AS G→Prop} {s:AS G},Yields Γ ops oi s x→K (s.put oi.dst x)→rO Γ ops i K s:=by
  intro K s hy hK
  unfold rO
  rw[hi]
  simp only[bK,aij,if_false]
  exact⟨x,hy,hK⟩
 intro fuel
 induction fuel with
 |zero=>
  intro listed s _ _ hr hy H
  refine⟨fun h=>(by rw[h] at hr;cases hr),fun j hj=>?_⟩
  by_cases iE:j=i
  ·subst iE;exact own hy H
  ·have:=ready_mono hj iE
   rw[H.1] at this
   cases this
 |succ fuel ih=>
  intro listed s cZ cU hr hy H
  refine⟨fun h=>(by rw[h] at hr;cases hr),fun j hj=>?_⟩
  by_cases iE:j=i
  ·subst iE;exact own hy H
  ·have h1:=H.2 j (ready_mono hj iE)
   obtain⟨nP,oj,jN,jz⟩:=mem_ready.1 hj
   rcases cU j oj jN iE nP with h2|⟨IZ,VP⟩
   ·exact(iD cZ hr hj h2).elim
   obtain⟨p1,p2,p3⟩:=Oper.apart_spec VP
   unfold rO at h1 ⊢
   rw[jN] at h1 ⊢
   simp only[IZ,aij,if_false] at h1 ⊢
   obtain⟨y,VQ,hK⟩:=h1
   refine⟨y,VQ.pZ p1,ih (listed.setIfInBounds j true) (s.put oj.dst y) (cK cZ hj) (fun k ok hk Qy kE=>?_) (ready_mono hr (ajz iE)) (hy.put p3) ?_⟩
   ·refine cU k ok hk Qy ?_
    by_cases kQ:j=k
    ·subst kQ;exact nP
    ·rw[getD_set_ne true kQ] at kE;exact kE
   ·rw[ai9 _ _ iE,←put_comm p2]
    exact hK
theorem rA.iR {Q:AS G→Prop} {i:Nat} {fuel:Nat} {listed:Array Bool} (cZ:pY ops listed) (cU:∀(j:Nat) oj,ops[j]?=some oj→j≠i→listed.getD j true=false→Reach ops i j)
  (hr:i∈Region.ready .any ops listed) (H:rO Γ ops i (rA Γ ops Q fuel (listed.setIfInBounds i true)) s):rA Γ ops Q (fuel+1) listed s:=by
 refine⟨fun h=>(by rw[h] at hr;cases hr),fun j hj=>?_⟩
 by_cases iE:j=i
 ·subst iE;exact H
 ·obtain⟨nP,oj,jN,_⟩:=mem_ready.1 hj
  exact(iD cZ hr hj (cU j oj jN iE nP)).elim
def I0 (acc:List Nat) (o:Oper):Nat:=o.after.toList.foldl (fun m e=>if Region.binds .any e=true then m ||| 2 ^ e.on ||| acc.getD e.on 0 else m) 0
def mS:List Oper→List Nat→List Nat
 | [],acc=>acc
 |o::l,acc=>mS l (acc++[I0 acc o])
theorem Hr {acc:List Nat} {o:Oper} {k:Nat} (ho:ops[k]?=some o) (Q5:∀(j:Nat) m i,acc[j]?=some m→m.testBit i=true→Reach ops i j) {i:Nat} (h:(I0 acc o).testBit i=true):Reach ops i k:=by
 unfold I0 at h
 have key:∀(es:List Edge) (m:Nat),(∀e∈es,e∈o.after)→(es.foldl (fun m e=>if Region.binds .any e=true then m ||| 2 ^ e.on ||| acc.getD e.on 0 else m) m).testBit i=true→m.testBit i=true∨Reach ops i k:=by
  intro es
  induction es with
  |nil=>intro m _ h;exact .inl h
  |cons e es ih=>
   intro m hm h
   rcases ih _ (fun e' Q6=>hm e' (aip _ Q6)) h with h1|h1
   ·simp only at h1
    split at h1
    ·rename_i hb
     rw[Nat.testBit_or,Nat.testBit_or,ai6,ai6] at h1
     rcases h1 with(h1|h1)|h1
     ·exact .inl h1
     ·rw[Nat.testBit_two_pow] at h1
      exact .inr (.XM k o e ho (hm e aia) hb (by simpa using h1))
     ·cases hj:acc[e.on]? with
      |none=>simp[List.getD,hj] at h1
      |some m'=>
       simp only[List.getD,hj,aiP] at h1
       exact .inr (.step k o e ho (hm e aia) hb (Q5 _ _ _ hj h1))
    ·exact .inl h1
   ·exact .inr h1
 rcases key o.after.toList 0 (fun e he=>by simpa using he) h with h1|h1
 ·simp at h1
 ·exact h1
theorem mT:∀(l:List Oper) (acc:List Nat),(∀(j:Nat),l[j]?=ops[acc.length+j]?)→(∀(j:Nat) m i,acc[j]?=some m→m.testBit i=true→Reach ops i j)→∀(j:Nat) m i,(mS l acc)[j]?=some m→m.testBit i=true→Reach ops i j:=by
 intro l
 induction l with
 |nil=>intro acc _ h;exact h
 |cons o l ih=>
  intro acc hl Q5
  refine ih (acc++[I0 acc o]) (fun j=>?_) (fun j m i hj hm=>?_)
  ·have:=hl (j+1)
   simp only[aiB] at this
   rw[this];congr 1;simp;omega
  ·rcases dP hj with h1|⟨rfl,rfl⟩
   ·exact Q5 j m i h1 hm
   ·exact Hr (by have:=hl 0;simpa using this.symm) Q5 hm
def yz (l:List Oper):Bool:=
 let m:=mS l []
 (List.range l.length).all fun k=>match l[k]? with
  |none=>false
  |some ok=>ok.after.toList.all (fun e=>!Region.binds .any e||decide (e.on<k)) &&
    (List.range l.length).all fun j=>decide (j≤k)||(m.getD j 0).testBit k||match l[j]? with
     |none=>true
     |some oj=>!cF ok.op&&!cF oj.op&&ok.apart l.toArray oj
def uU (Γ:Env G) (ops:Array Oper) (K:AS G→Prop):List Oper→AS G→Prop
 | [],s=>K s
 |o::rest,s=>if cF o.op=true then dB Γ.nt o.dst∧o.guard=none∧∃r hp',gR Γ o s r hp'∧uU Γ ops K rest (AS.put { s with hp:=hp' } o.dst r)
  else ∃x,Yields Γ ops o s x∧uU Γ ops K rest (s.put o.dst x)
theorem uU.any {Q:AS G→Prop} {l0:List Oper} (hd:yz l0=true):∀(l:List Oper) (k:Nat) (listed:Array Bool) (s:AS G),(∀(j:Nat),l[j]?=l0[k+j]?)→listed.size=l0.length→(∀(j:Nat),j<l0.length→listed.getD j true=decide (j<k))→k+l.length=l0.length→
  uU Γ l0.toArray Q l s→rA Γ l0.toArray Q l.length listed s:=by
 intro l
 induction l with
 |nil=>
  intro k listed s _ cJ eX hk h
  refine⟨?_,h⟩
  apply ajp.2
  intro j hj
  obtain⟨h1,o,ho,_⟩:=mem_ready.1 hj
  have ay:j<l0.length:=by have:=(ail.1 ho).1;simpa using this
  rw[eX j ay] at h1
  simp at h1
  simp at hk
  omega
 |cons o l ih=>
  intro k listed s hl cJ eX hk h
  have aD:l0[k]?=some o:=by have:=hl 0;simpa using this.symm
  have D8:l0.toArray[k]?=some o:=by simpa using aD
  have DE:k<l0.length:=(ahY.1 aD).1
  have eG:=hd
  simp only[yz,ah4,aja] at eG
  have oT:=eG k DE
  rw[aD] at oT
  simp only[ahZ,ah4,aja] at oT
  obtain⟨Qz,VR⟩:=oT
  have Hs:listed.getD k true=false:=by rw[eX k DE];simp
  have k7:∀j,j<l0.length→listed.getD j false=decide (j<k):=by
   intro j hj
   have:=eX j hj
   simp only[aiu,aiT (show j<listed.size by omega),aiP] at this ⊢
   exact this
  have qM:k∈Region.ready .any l0.toArray listed:=by
   refine mem_ready.2 ⟨Hs,o,D8,fun e he hb=>?_⟩
   have:=Qz e (by simpa using he)
   rw[hb] at this
   simp at this
   rw[k7 e.on (by omega)];simp;exact this
  have cZ:pY l0.toArray listed:=by
   intro q oq hq MS e he hb
   have D9:q<l0.length:=by have:=(ail.1 MS).1;simpa using this
   rw[k7 q D9] at hq
   have MT:q<k:=by simpa using hq
   have h2:=eG q D9
   have Ht:l0[q]?=some oq:=by simpa using MS
   rw[Ht] at h2
   simp only[ahZ,ah4] at h2
   have h3:=h2.1 e (by simpa using he)
   rw[hb] at h3
   simp at h3
   rw[k7 e.on (by omega)];simp;omega
  have nQ:∀(j:Nat),(List.getD (mS l0 []) j 0).testBit k=true→Reach l0.toArray k j:=by
   intro j hj
   cases hm:(mS l0 [])[j]? with
   |none=>simp[List.getD,hm] at hj
   |some m=>
    simp only[List.getD,hm,aiP] at hj
    exact mT (ops:=l0.toArray) l0 [] (fun j=>by simp) (fun j m i hj=>by simp at hj) j m k hm hj
  have mU:∀(j:Nat) oj,l0.toArray[j]?=some oj→j≠k→listed.getD j true=false→Reach l0.toArray k j∨(cF o.op=false∧cF oj.op=false∧o.apart l0.toArray oj=true):=by
   intro j oj jN kQ kE
   have s7:j<l0.length:=by have:=(ail.1 jN).1;simpa using this
   rw[eX j s7] at kE
   have Hu:l0[j]?=some oj:=by simpa using jN
   have h2:=VR j s7
   rw[Hu] at h2
   simp only[ai6,decide_eq_true_eq,ahZ,aiA] at h2
   rcases h2 with(h2|h2)|h2
   ·simp at kE;omega
   ·exact .inl (nQ j h2)
   ·exact .inr ⟨h2.1.1,h2.1.2,h2.2⟩
  have aV:∀s',uU Γ l0.toArray Q l s'→rA Γ l0.toArray Q l.length (listed.setIfInBounds k true) s':=by
   intro s' h'
   refine ih (k+1) _ s' (fun j=>by have:=hl (j+1);simp only[aiB] at this;rw[this];congr 1;omega) (by simpa using cJ) (fun j hj=>?_) (by simp at hk;omega) h'
   by_cases kQ:j=k
   ·subst kQ
    have:j<listed.size:=by omega
    simp[this]
   ·rw[getD_set_ne true (ajz kQ),eX j hj]
    simp;omega
  simp only[uU] at h
  split at h
  ·rename_i he
   obtain⟨h1,h2,r,hp',h3,h4⟩:=h
   refine rA.iR cZ (fun j oj jN kQ kE=>?_) qM ?_
   ·rcases mU j oj jN kQ kE with h5|h5
    ·exact h5
    ·rw[he] at h5;cases h5.1
   ·unfold rO
    rw[D8]
    simp only[he,if_true]
    exact⟨h1,h2,r,hp',h3,aV _ h4⟩
  ·rename_i he
   obtain⟨x,h1,h2⟩:=h
   exact rA.first D8 (by simpa using he) l.length listed s cZ (fun j oj jN kQ kE=>(mU j oj jN kQ kE).imp id fun h=>⟨h.2.1,h.2.2⟩) qM h1 (aV _ h2)
end Go.Proofs.YtjhanogfpkbamaaGreatDoor
