/- Lemmas. -/
import Derived.Lib.Strings
import Derived.Shelf.Small.Strs
import Derived.KernelRfl
import Derived.Tactics
import Derived.Tactics2
import Derived.Defers
import Derived.Laws.Pointers
import Derived.Laws.LoneSync
import Derived.RegionTactic
import Derived.RegionCalls
import Derived.ChangeAlike
import Derived.TacticsInMore
import Derived.RegionIn
import Derived.LoopNIn
import Derived.RecoverIn
import Derived.Test.YtnkjkpmbgoehkaaGreatQ39
namespace Go.Proofs.YtnkjkpmbgoehkaaGreat
open Go
open _root_.List renaming length->ab,getD->ae
open _root_.Int renaming toNat->af
open Go.IntKind renaming wrap->ag
open _root_.ByteArray renaming size->ah
open _root_.True renaming intro->ai
open Go.Proofs.Tryz renaming prog->aj
set_option linter.unusedSimpArgs false
set_option linter.unusedVariables false
set_option maxRecDepth 100000
open Go Go.Shelf
theorem ba {n:Int} (h1 : -9223372036854775808<=n) (h2:n<9223372036854775808):ag .i64 n=n:=IntWalk.i64_in _ (by omega)
theorem bk {k:Nat} (h:k<=4000000000):ag .i64 ((k:Int)+1)=((k+1:Nat):Int):=OW (by omega)
theorem ir {d:TD} {n:Nat} {els aJ:List AV} (h1:∀x:AV,x∈els->x.cells.length=d.size) (h2:∀x:AV,x∈aJ->x.cells.length=d.size) (hn:n<=4000000000) (hb:d.bytes<=1000):bw d n els aJ:=by
 refine⟨h1,h2,?_,?_⟩
 ·simp only[maxLen];omega
 ·have:=arT hn hb;omega
theorem ov {d:TD} {n:Nat} {aJ:List AV} (h2:∀x:AV,x∈aJ->x.cells.length=d.size) (hn:n<=4000000000) (hb:d.bytes<=1000):bw d n [] aJ:=
 ir (fun x hx=>by cases hx) h2 hn hb
theorem bJ {d:TD} {n:Nat} {x:AV} (h2:x.cells.length=d.size) (hn:n<=4000000000) (hb:d.bytes<=1000):bw d n [] [x]:=
 ov (fun y hy=>by rw[aqJ.1 hy];exact h2) hn hb
theorem getD_map {α:Type} {f:α->AV} {l:List α} {k:Nat} (h:k<l.length):ae (l.map f) (af (k:Int)) .top=f l[k]:=by simp[ae,h]
def cM (l:List Int):List AV:=l.map nI
theorem gD (l:List Int):(cM l).length=l.length:=by simp[cM]
theorem pD {l:List Int} {k:Nat} (h:k<l.length):ae (cM l) (af (k:Int)) .top=nI l[k]:=getD_map h
theorem pE (l:List Int) (i:Int):cM l++[nI i]=cM (l++[i]):=by simp[cM]
theorem nA {l:List Int}:∀x:AV,x∈cM l->x.cells.length=1:=by
 intro x hx;obtain⟨t,_,rfl⟩:=arx.1 hx;rfl
def ah1:List Int->List Int->Bool
 | [],[]=>true
 |a::l,b::m=>(a==b)&&ah1 l m
 |_,_=>false
inductive Ty where
 |mk (args:List Ty) (base:Int)
mutual
def Ty.enc:Ty->AV
 | .mk l b=>.agg [.sl (Ty.pF l),nI b]
def Ty.pF:List Ty->List AV
 | []=>[]
 |t::l=>Ty.enc t::Ty.pF l
end
mutual
def Ty.size:Ty->Nat
 | .mk l _=>1+Ty.sizes l
def Ty.sizes:List Ty->Nat
 | []=>0
 |t::l=>Ty.size t+Ty.sizes l
end
def Ty.args:Ty->List Ty | .mk l _=>l
def Ty.base:Ty->Int | .mk _ b=>b
theorem Ty.gn (a:List Ty) (b:Int):(Ty.mk a b).args=a:=rfl
theorem Ty.Ez (a:List Ty) (b:Int):(Ty.mk a b).base=b:=rfl
theorem Ty.eta (t:Ty):Ty.mk t.args t.base=t:=by cases t;rfl
theorem Ty.pG (l:List Ty):Ty.pF l=l.map Ty.enc:=by
 induction l with
 |nil=>rfl
 |cons t l ih=>simp[Ty.pF,ih]
theorem Ty.aG (t:Ty):t.enc=.agg [.sl (t.args.map Ty.enc),nI t.base]:=by cases t;simp[Ty.enc,Ty.pG,Ty.args,Ty.base]
theorem Ty.ia (l:List Ty) (b:Int):(Ty.mk l b).enc=.agg [.sl (l.map Ty.enc),nI b]:=Ty.aG _
theorem Ty.bh {l:List Ty} {k:Nat} (h:k<l.length):ae (l.map Ty.enc) (af (k:Int)) .top=.agg [.sl (l[k].args.map Ty.enc),nI l[k].base]:=by rw[getD_map h,Ty.aG]
theorem Ty.size_eq (t:Ty):t.size=1+Ty.sizes t.args:=by cases t;rfl
theorem Ty.size_pos (t:Ty):1<=t.size:=by rw[t.size_eq];omega
theorem Ty.aO (l:List Ty):l.length<=Ty.sizes l:=by
 induction l with
 |nil=>simp[Ty.sizes]
 |cons t l ih=>have:=t.size_pos;simp[Ty.sizes];omega
theorem Ty.bW (l m:List Ty):Ty.sizes (l++m)=Ty.sizes l+Ty.sizes m:=by
 induction l with
 |nil=>simp[Ty.sizes]
 |cons t l ih=>simp[Ty.sizes,ih];omega
theorem Ty.cV {l:List Ty} {t:Ty} (h:t∈l):t.size<=Ty.sizes l:=by
 induction l with
 |nil=>cases h
 |cons u l ih=>
  simp only[Ty.sizes];rcases aqZ.1 h with rfl|h1
  ·omega
  ·have:=ih h1;omega
theorem Ty.eK {t:Ty} {k:Nat} (h:k<t.args.length):t.args[k].size<t.size:=by
 have:=Ty.cV (aqL h);rw[t.size_eq];omega
theorem Ty.Nz (t:Ty):t.enc.cells.length=2:=by cases t;rfl
theorem Ty.lN {l:List Ty}:∀x:AV,x∈l.map Ty.enc->x.cells.length=2:=by
 intro x h;obtain⟨t,_,rfl⟩:=arx.1 h;exact t.Nz
theorem Ty.iu (l:List Ty) (t:Ty):l.map Ty.enc++[.agg [.sl (t.args.map Ty.enc),nI t.base]]=(l++[t]).map Ty.enc:=by rw[<-Ty.aG];simp
mutual
def Ty.same:Ty->Ty->Bool
 | .mk l a,.mk m b=>(a==b)&&Ty.cv l m
def Ty.cv:List Ty->List Ty->Bool
 | [],[]=>true
 |t::l,u::m=>Ty.same t u&&Ty.cv l m
 |_,_=>false
end
theorem Ty.EA (t u:Ty):Ty.same t u=((t.base==u.base)&&Ty.cv t.args u.args):=by cases t;cases u;simp[Ty.same,Ty.base,Ty.args]
theorem Ty.tq {l m:List Ty} {k:Nat} (h1:k<l.length) (h2:k<m.length):Ty.cv (l.drop k) (m.drop k)=(Ty.same l[k] m[k]&&Ty.cv (l.drop (k+1)) (m.drop (k+1))):=by
 rw[aqB h1,aqB h2,Ty.cv]
theorem Ty.wb {l m:List Ty} (h:¬l.length=m.length):Ty.cv l m=false:=by
 induction l generalizing m with
 |nil=>cases m with
  |nil=>exact(h rfl).elim
  |cons=>simp[Ty.cv]
 |cons t l ih=>cases m with
  |nil=>simp[Ty.cv]
  |cons u m=>simp[Ty.cv,ih (m:=m) (by simpa using h)]
mutual
theorem Ty.ow:∀(t u:Ty),Ty.same t u=true↔t=u
 | .mk l a,.mk m b=>by rw[Ty.same,aqv,beq_iff_eq,Ty.jT l m];simp only[Ty.mk.injEq];exact⟨fun h=>⟨h.2,h.1⟩,fun h=>⟨h.2,h.1⟩⟩
theorem Ty.jT:∀(l m:List Ty),Ty.cv l m=true↔l=m
 | [],[]=>by simp[Ty.cv]
 | [],_::_=>by simp[Ty.cv]
 |_::_,[]=>by simp[Ty.cv]
 |t::l,u::m=>by rw[Ty.cv,aqv,Ty.ow t u,Ty.jT l m];simp
end
inductive Tm where
 |mk (binds:List Ty) (kind index:Int) (args:List Tm)
mutual
def Tm.enc:Tm->AV
 | .mk b k i a=>.agg [.sl (b.map Ty.enc),nI k,nI i,.sl (Tm.pF a)]
def Tm.pF:List Tm->List AV
 | []=>[]
 |t::l=>Tm.enc t::Tm.pF l
end
mutual
def Tm.size:Tm->Nat
 | .mk b _ _ a=>1+Ty.sizes b+Tm.sizes a
def Tm.sizes:List Tm->Nat
 | []=>0
 |t::l=>Tm.size t+Tm.sizes l
end
def Tm.binds:Tm->List Ty | .mk b _ _ _=>b
def Tm.kind:Tm->Int | .mk _ k _ _=>k
def Tm.index:Tm->Int | .mk _ _ i _=>i
def Tm.args:Tm->List Tm | .mk _ _ _ a=>a
theorem Tm.ox (b:List Ty) (k i:Int) (a:List Tm):(Tm.mk b k i a).binds=b:=rfl
theorem Tm.uX (b:List Ty) (k i:Int) (a:List Tm):(Tm.mk b k i a).kind=k:=rfl
theorem Tm.rj (b:List Ty) (k i:Int) (a:List Tm):(Tm.mk b k i a).index=i:=rfl
theorem Tm.gn (b:List Ty) (k i:Int) (a:List Tm):(Tm.mk b k i a).args=a:=rfl
theorem Tm.pG (l:List Tm):Tm.pF l=l.map Tm.enc:=by
 induction l with
 |nil=>rfl
 |cons t l ih=>simp[Tm.pF,ih]
theorem Tm.aG (t:Tm):t.enc=.agg [.sl (t.binds.map Ty.enc),nI t.kind,nI t.index,.sl (t.args.map Tm.enc)]:=by cases t;simp[Tm.enc,Tm.pG,Tm.binds,Tm.kind,Tm.index,Tm.args]
theorem Tm.ia (b:List Ty) (k i:Int) (a:List Tm):(Tm.mk b k i a).enc=.agg [.sl (b.map Ty.enc),nI k,nI i,.sl (a.map Tm.enc)]:=Tm.aG _
theorem Tm.bh {l:List Tm} {k:Nat} (h:k<l.length):ae (l.map Tm.enc) (af (k:Int)) .top=.agg [.sl (l[k].binds.map Ty.enc),nI l[k].kind,nI l[k].index,.sl (l[k].args.map Tm.enc)]:=by rw[getD_map h,Tm.aG]
theorem Tm.size_eq (t:Tm):t.size=1+Ty.sizes t.binds+Tm.sizes t.args:=by cases t;rfl
theorem Tm.size_pos (t:Tm):1<=t.size:=by rw[t.size_eq];omega
theorem Tm.aO (l:List Tm):l.length<=Tm.sizes l:=by
 induction l with
 |nil=>simp[Tm.sizes]
 |cons t l ih=>have:=t.size_pos;simp[Tm.sizes];omega
theorem Tm.bW (l m:List Tm):Tm.sizes (l++m)=Tm.sizes l+Tm.sizes m:=by
 induction l with
 |nil=>simp[Tm.sizes]
 |cons t l ih=>simp[Tm.sizes,ih];omega
theorem Tm.cV {l:List Tm} {t:Tm} (h:t∈l):t.size<=Tm.sizes l:=by
 induction l with
 |nil=>cases h
 |cons u l ih=>
  simp only[Tm.sizes];rcases aqZ.1 h with rfl|h1
  ·omega
  ·have:=ih h1;omega
theorem Tm.eK {t:Tm} {k:Nat} (h:k<t.args.length):t.args[k].size<t.size:=by
 have:=Tm.cV (aqL h);rw[t.size_eq];omega
theorem Tm.iu (l:List Tm) (t:Tm):l.map Tm.enc++[.agg [.sl (t.binds.map Ty.enc),nI t.kind,nI t.index,.sl (t.args.map Tm.enc)]]=(l++[t]).map Tm.enc:=by rw[<-Tm.aG];simp
theorem cO {α:Type} {l:List α} {k:Nat} (h:k<l.length):l.take k++[l[k]]=l.take (k+1):=by rw[ary h]
theorem Aj {κ:Type} [DecidableEq κ] {l:List (κ×Value)} {i v:κ} {x:Value}:aL (cH l v x) i=if i=v then some x else aL l i:=by
 induction l with
 |nil=>simp only[cH,aL]
 |cons p l ih=>
  obtain⟨k,u⟩:=p;simp only[cH]
  by_cases h:v=k
  ·subst h;simp only[if_pos,aL]
   by_cases h2:i=v<;>simp[h2]
  ·rw[if_neg h,aL,ih,aL]
   by_cases h2:i=k
   ·subst h2;simp[ar1 h]
   ·simp[h2]
def bo (l:List (Int×Int)):List AV:=l.map fun p=>.agg [nI p.1,nI p.2]
theorem Ak {l:List (Int×Int)} {k:Nat} (h:k<l.length):ae (bo l) (af (k:Int)) .top=.agg [nI l[k].1,nI l[k].2]:=getD_map h
theorem iM (l:List (Int×Int)):(bo l).length=l.length:=by simp[bo]
inductive eL (ps:List (Int×Int)):Int->Int->Prop where
 |one {a b:Int} (h:(a,b)∈ps):eL ps a b
 |more {a c b:Int} (h1:eL ps a c) (h2:(c,b)∈ps):eL ps a b
theorem eL.trans {ps:List (Int×Int)} {a c b:Int} (h1:eL ps a c) (h2:eL ps c b):eL ps a b:=by
 induction h2 with
 |one h=>exact .more h1 h
 |more _ h ih=>exact .more ih h
def qi (a:Int) (u:List Int) (p:Int×Int):List Int:=if((p.1==a)||u.contains p.1)&&!u.contains p.2 then u++[p.2] else u
def jU (a:Int) (l:List (Int×Int)) (u:List Int):List Int:=l.foldl (qi a) u
def dH (a:Int) (l:List (Int×Int)):Nat->List Int
 |0=>[]
 |k+1=>jU a l (dH a l k)
def kS (l:List (Int×Int)) (a b:Int):Bool:=(dH a l (l.length+1)).contains b
theorem Pz (a:Int) (u:List Int) (p:Int×Int):u.length<=(qi a u p).length/\((qi a u p).length=u.length->qi a u p=u):=by
 unfold qi;split
 ·simp
 ·exact⟨aqw _,fun _=>rfl⟩
theorem tr (a:Int):∀(l:List (Int×Int)) (u:List Int),u.length<=(jU a l u).length/\((jU a l u).length=u.length->jU a l u=u/\∀p∈l,qi a u p=u)
 | [],u=>⟨aqw _,fun _=>⟨rfl,fun p h=>by cases h⟩⟩
 |p::l,u=>by
  have h1:=Pz a u p;have h2:=tr a l (qi a u p);have e:jU a (p::l) u=jU a l (qi a u p):=rfl;rw[e];refine⟨by omega,fun h=>?_⟩;have h3:=h1.2 (by omega);rw[h3] at h2 h ⊢;have h4:=h2.2 h;refine⟨h4.1,fun q hq=>?_⟩;rcases aqZ.1 hq with rfl|hq
  ·exact h3
  ·exact h4.2 q hq
structure qj (a:Int) (l:List (Int×Int)) (u:List Int):Prop where
 nd:u.Nodup
 sub:∀x∈u,x∈l.map Prod.snd
 reach:∀x∈u,eL l a x
theorem qj.step {a:Int} {l:List (Int×Int)} {u:List Int} (h:qj a l u) {p:Int×Int} (hp:p∈l):qj a l (qi a u p):=by
 unfold qi;split
 ·rename_i hc;simp only[aqv,arh,beq_iff_eq,asm,arc,List.contains_eq_mem,decide_eq_false_iff_not,decide_eq_true_eq] at hc;refine⟨List.nodup_append.2 ⟨h.nd,by simp,fun x hx y hy=>?_⟩,fun x hx=>?_,fun x hx=>?_⟩
  ·rw[aqJ] at hy;subst hy;exact fun e=>hc.2 (e▸hx)
  ·rcases aq7.1 hx with hx|hx
   ·exact h.sub x hx
   ·rw[aqJ] at hx;subst hx;exact arx.2 ⟨p,hp,rfl⟩
  ·rcases aq7.1 hx with hx|hx
   ·exact h.reach x hx
   ·rw[aqJ] at hx;subst hx;rcases hc.1 with h1|h1
    ·exact .one (by rw[<-h1];exact hp)
    ·exact .more (h.reach _ h1) hp
 ·exact h
theorem qj.round {a:Int} {l:List (Int×Int)}:∀(m:List (Int×Int)) (u:List Int),(∀p∈m,p∈l)->qj a l u->qj a l (jU a m u)
 | [],u,_,h=>h
 |p::m,u,hm,h=>qj.round m (qi a u p) (fun q hq=>hm q (aqI _ hq)) (h.step (hm p aqG))
theorem qj.rounds (a:Int) (l:List (Int×Int)):∀k,qj a l (dH a l k)
 |0=>⟨List.nodup_nil,fun x h=>(by cases h),fun x h=>(by cases h)⟩
 |k+1=>qj.round l _ (fun _ h=>h) (qj.rounds a l k)
theorem VE {u v:List Int} (h:u.Nodup) (hs:∀x∈u,x∈v):u.length<=v.length:=by
 induction u generalizing v with
 |nil=>exact aqC _
 |cons x u ih=>
  rw[List.nodup_cons] at h;have hx:=hs x aqG;have:=ih (v:=v.erase x) h.2 fun y hy=>by
   have cg:y≠x:=fun e=>h.1 (e▸hy);exact(List.mem_erase_of_ne cg).2 (hs y (aqI _ hy))
  rw[List.length_erase_of_mem hx] at this;have XF:=List.length_pos_of_mem hx;simp only[aqy];omega
theorem xf (a:Int) (l:List (Int×Int)):∀k,(∃j,j<k/\jU a l (dH a l j)=dH a l j)\/k<=(dH a l k).length
 |0=>.inr (aqC _)
 |k+1=>by
  rcases xf a l k with⟨j,h1,h2⟩|h
  ·exact .inl ⟨j,by omega,h2⟩
  ·have h1:=tr a l (dH a l k)
   by_cases e:(jU a l (dH a l k)).length=(dH a l k).length
   ·exact .inl ⟨k,by omega,(h1.2 e).1⟩
   ·exact .inr (by show k+1<=(jU a l (dH a l k)).length;omega)
theorem xg (a:Int) (l:List (Int×Int)) {j:Nat} (h:jU a l (dH a l j)=dH a l j):∀d,dH a l (j+d)=dH a l j
 |0=>rfl
 |d+1=>by show jU a l (dH a l (j+d))=_;rw[xg a l h d,h]
theorem pH (l:List (Int×Int)) (a b:Int):kS l a b=true↔eL l a b:=by
 have hg:=qj.rounds a l (l.length+1);rw[kS,asm];refine⟨fun h=>hg.reach b h,fun h=>?_⟩;have hle:(dH a l (l.length+1)).length<=l.length:=by
  have:=VE hg.nd hg.sub
  rwa [aqu] at this
 obtain⟨j,h1,h2⟩:∃j,j<l.length+1/\jU a l (dH a l j)=dH a l j:=by
  rcases xf a l (l.length+1) with h|h
  ·exact h
  ·omega
 have sS:=xg a l h2 (l.length+1-j);rw[show j+(l.length+1-j)=l.length+1 by omega] at sS;have dK:=((tr a l (dH a l j)).2 (by rw[h2])).2;rw[<-sS] at dK;have bz:∀p∈l,(p.1=a\/p.1∈dH a l (l.length+1))->p.2∈dH a l (l.length+1):=by
  intro p hp hc;have:=dK p hp;unfold qi at this;split at this
  ·have:=congrArg ab this;simp at this
  ·rename_i hn;refine ar9 fun h3=>hn ?_;simp only[aqv,arh,beq_iff_eq,asm,arc,List.contains_eq_mem,decide_eq_false_iff_not,decide_eq_true_eq];exact⟨hc,h3⟩
 induction h with
 |one h=>exact bz _ h (.inl rfl)
 |more _ h2 ih=>exact bz _ h2 (.inr ih)
theorem HQ {l:List Int} (cx:l.length<=1000000000):ay aj 271 [.sl (cM l)] (.sl (cM l)):=by
 refine SG fun b hb=>az.intro (fun h=>?_) fun h=>?_
 ·have:cM l=[]:=ar9 fun hn=>by rw[hb hn] at h;cases h
  rw[this]
 ·exact⟨fun _=>rfl,ov nA (by simp[gD];omega) (by decide),rfl,by simp⟩
theorem KV {l:List Int}:ay aj 272 [.sl (cM l)] (.clip (cM l)):=by
 refine Pure.of_heap (SH ⟨⟨by omega,by omega,rfl,by omega,nA⟩,rfl,?_⟩);simp
theorem Al (t:Tm):ay aj 269 [t.enc] (nB (t.kind==2)):=by
 rw[Tm.aG];exact SD rfl
theorem jl {l m:List Ty} (cx:l.length<=1000000000) (ih:∀(k:Nat) (h1:k<l.length) (h2:k<m.length),ay aj 45 [l[k].enc,m[k].enc] (nB (Ty.same l[k] m[k]))):
  ay aj 48 [.sl (l.map Ty.enc),.sl (m.map Ty.enc),.bz 45 []] (nB (Ty.cv l m)):=by
 refine Ym (az.intro (fun h=>?_) fun h=>?_)
 ·have:¬l.length=m.length:=by simp at h;omega
  rw[Ty.wb this]
 ·have hlm:l.length=m.length:=by simp at h;omega
  refine aI.intro (fun k:Nat=>((m.map Ty.enc,(),l.map Ty.enc,(l.length:Int),(k:Int),()),())) (fun k=>k<=l.length/\Ty.cv l m=Ty.cv (l.drop k) (m.drop k)) (fun k=>l.length-k) 0 (by rw[aqu];rfl) ⟨aqC _,rfl⟩ ?_;intro k ⟨hk,hs⟩ again cj;dsimp only;rw[aqu,aqu];refine az.intro (fun h=>?_) fun h=>?_
  ·have aH:k<l.length:=by simpa using h
   rw[Ty.tq aH (by omega)] at hs;have hi:=ih k aH (by omega);rw[Ty.aG,Ty.aG] at hi;refine⟨by omega,by omega,_,_,Ty.bh aH,by omega,by omega,_,_,Ty.bh (by omega),_,hi,az.intro (fun h=>?_) fun h=>?_⟩
   ·have:Ty.same l[k] m[k]=false:=by simpa using h
    rw[hs,this,arn]
   ·have he:Ty.same l[k] m[k]=true:=by simpa using h
    rw[he,arb] at hs;rw[bk (by omega)];exact cj (k+1) ⟨by omega,hs⟩ (by omega)
  ·have:l.length<=k:=by simpa using h
   rw[aqK this,aqK (by omega)] at hs;rw[hs];rfl
theorem kF:∀(n:Nat) (t u:Ty),t.size<=n->n<=1000000000->ay aj 45 [t.enc,u.enc] (nB (Ty.same t u)):=by
 intro n
 induction n with
 |zero=>intro t u h;have:=t.size_pos;omega
 |succ n ih=>
  intro t u h hn;have hq:=Ty.aO t.args;have CT:=t.size_eq;have he:=jl (l:=t.args) (m:=u.args) (by omega) (fun k h1 h2=>ih _ _ (by have:=Ty.eK h1;omega) (by omega));rw[Ty.aG,Ty.aG,Ty.EA];refine Yn (az.intro (fun h=>?_) fun h=>?_)
  ·exact⟨_,he,by rw[h,arb]⟩
  ·rw[h,arn]
theorem lA:∀(n:Nat) (t:Ty),t.size<=n->n<=1000000000->ay aj 105 [t.enc] t.enc:=by
 intro n
 induction n with
 |zero=>intro t h;have:=t.size_pos;omega
 |succ n ih=>
  intro t h hn;have hq:=Ty.aO t.args;have CT:=t.size_eq;rw[Ty.aG];refine SF ⟨rfl,?_⟩;refine aI.intro (fun k:Nat=>(((),(),t.args.map Ty.enc,(t.args.length:Int),(k:Int),()),((t.args.map Ty.enc,t.base,()),((),0,()),((),t.base,()),(t.args.take k).map Ty.enc,())))
   (fun k=>k<=t.args.length) (fun k=>t.args.length-k) 0 (by rw[aqu];rfl) (aqC _) ?_
  intro k hk again cj;dsimp only;rw[aqu];refine az.intro (fun h=>?_) fun h=>?_
  ·have aH:k<t.args.length:=by simpa using h
   have hi:=ih t.args[k] (by have:=Ty.eK aH;omega) (by omega);rw[Ty.aG] at hi;refine⟨by omega,by omega,_,_,Ty.bh aH,_,_,hi,rfl,bJ rfl (by simp;omega) (by decide),rfl,?_⟩;rw[bk (by omega),Ty.iu,cO aH];exact cj (k+1) (by omega) (by omega)
  ·have:t.args.length<=k:=by simpa using h
   refine⟨rfl,?_⟩;rw[aqP this]
theorem KW {n:Nat} (hn:n<=1000000000):
  aY aj 107 [.ax (.slice none 0 0),nI (n:Nat)] [] (fun r q=>if n=0 then r=.ax (.slice none 0 0)/\q=[] else r=.own 0 0/\q=[.row 66 2 []]):=by
 have e:ag .i64 ((n:Int)-ag .i64 (0-((ab ([]:List AV):Nat):Int)))=(n:Int):=by
  rw[show ag .i64 (0-((ab ([]:List AV):Nat):Int))=0 from by decide,Int.sub_zero,ba (by omega) (by omega)]
 refine SR (az.neg (decide_eq_false (by omega)) ?_);rw[e,arv];refine az.intro (fun h=>⟨⟨of_decide_eq_true h,by simp only[maxLen];omega,?_⟩,?_⟩) fun h=>?_
 ·have:TD.bytes sA<=1000:=by decide
  have h2:n*TD.bytes sA<=n*1000:=Nat.mul_le_mul_left _ this;omega
 ·have:=of_decide_eq_true h;dsimp only;rw[if_neg (by omega)];exact⟨rfl,rfl⟩
 ·have:=of_decide_eq_false h;dsimp only;rw[if_pos (by omega)];exact⟨rfl,rfl⟩
def ff (ll:List (List Ty)):List AV:=ll.map fun l=>.sl (l.map Ty.enc)
theorem uY {ll:List (List Ty)} {k:Nat} (h:k<ll.length):ae (ff ll) (af (k:Int)) .top=.sl (ll[k].map Ty.enc):=by
 simp[ff,ae,h]
theorem xh (ll:List (List Ty)):(ff ll).length=ll.length:=by simp[ff]
theorem CU {ll:List (List Ty)} {k:Nat} (h:k<ll.length):(ll.take (k+1)).flatten=(ll.take k).flatten++ll[k]:=by
 rw[ary h,List.flatten_append,List.flatten_singleton]
theorem pJ (ll:List (List Ty)) (k:Nat):(ll.take k).flatten.length<=ll.flatten.length:=by
 have h:ll.flatten=(ll.take k).flatten++(ll.drop k).flatten:=by rw[<-List.flatten_append,ars]
 rw[h,aqz];omega
theorem B3 {l:List Ty} {x:AV} (h:x∈l.map Ty.enc):x.cells.length=2:=by
 obtain⟨t,_,rfl⟩:=arx.1 h;exact t.Nz
theorem gO {ll:List (List Ty)} (h0:ll.length<=1000000000) (hn:ll.flatten.length<=1000000000):
  ay aj 57 [.sl (ff ll)] (.sl (ll.flatten.map Ty.enc)):=by
 refine Yq ?_;refine aI.intro (fun k:Nat=>((ff ll,((ll.take k).flatten.length:Nat),ff ll,((ff ll).length:Int),(k:Int),()),())) (fun k=>k<=ll.length) (fun k=>ll.length-k) 0 rfl (aqC _) ?_;intro k hk again cj;dsimp only;have hle:=pJ ll k;unfold MV;rw[xh] at *;refine az.intro (fun h=>?_) fun h=>?_
 ·have aH:k<ll.length:=by simpa using h
  have BA:=pJ ll (k+1);have cB:=cj (k+1) (by omega) (by omega);rw[CU aH,aqz] at BA cB;refine⟨by omega,by omega,_,uY aH,?_⟩;rw[aqu,ba (n:=(((ll.take k).flatten.length:Nat):Int)+_) (by omega) (by omega),bk (by omega)];exact az.neg (decide_eq_false (by omega)) cB
 ·have jM:ll.length<=k:=by simpa using h
  clear cj;rw[aqP jM]
  suffices hL:zS (((),ff ll,(ll.length:Int),0,()),([],())) (fun r=>r=.sl (ll.flatten.map Ty.enc)) from
   ⟨_,KW hn,fun r q hq=>by
    by_cases hz:ll.flatten.length=0
    ·rw[if_pos hz] at hq;exact .inr ⟨hq,rfl,hL⟩
    ·rw[if_neg hz] at hq;exact .inl ⟨[],hq,rfl,hL⟩⟩
  refine aI.intro (fun k:Nat=>(((),ff ll,(ll.length:Int),(k:Int),()),((ll.take k).flatten.map Ty.enc,()))) (fun k=>k<=ll.length) (fun k=>ll.length-k) 0 rfl (aqC _) ?_;intro j hj acV VF;dsimp only;have BA:=pJ ll (j+1);unfold G6;refine az.intro (fun h=>?_) fun h=>?_
  ·have aH:j<ll.length:=by simpa using h
   have cB:=VF (j+1) (by omega) (by omega);rw[CU aH] at BA cB;rw[arq] at cB;rw[aqz] at BA;refine⟨by omega,by rw[xh];omega,_,uY aH,rfl,ov (fun x hx=>B3 hx) (by rw[aqz,aqu,aqu];omega) (by decide),rfl,?_⟩;rw[bk (by omega)];exact cB
  ·have jM:ll.length<=j:=by simpa using h
   exact⟨rfl,by rw[aqP jM]⟩
def Ty.arrow (t:Ty) (l:List Ty):Ty:=.mk (l++t.args) t.base
theorem kG {t:Ty} {l:List Ty} (h:Ty.sizes l+t.size<=1000000000):ay aj 55 [t.enc,.sl (l.map Ty.enc)] (t.arrow l).enc:=by
 have hl:=Ty.aO l;have BA:=Ty.aO t.args;have hs:=t.size_eq;have JV:=gO (ll:=[l,t.args]) (by simp) (by simp;omega);have QE:=lA _ (.mk (l++t.args) t.base) (aqw _) (by simp only[Ty.size,Ty.bW];omega);simp only[ff,aqS,arl,asb,ash,aqR] at JV;rw[Ty.ia] at QE;rw[Ty.arrow,Ty.ia,Ty.aG t];exact Yk ⟨_,JV,_,_,QE,rfl⟩
mutual
def Tm.var:Tm->Option (Int×Int)
 | .mk b k i a=>if a.length=b.length/\¬(k=0/\i<b.length) then(if Tm.jm b.length 0 b a=true then some (k,if k=0 then ag .i64 (i-b.length) else i) else none) else none
def Tm.jm (n:Nat):Nat->List Ty->List Tm->Bool
 |k,t::b,a::l=>(match Tm.var a with
  |some (q,j)=>q==0&&j==(n:Int)-1-k&&Ty.cv a.binds t.args
  |none=>false)&&Tm.jm n (k+1) b l
 |_,_,_=>true
end
def Am:Option (Int×Int)->AV
 |some (k,i)=>.aK [.agg [nI k,nI i],nB true]
 |none=>.aK [.agg [nI 0,nI 0],nB false]
theorem Tm.var_eq (t:Tm):Tm.var t=if t.args.length=t.binds.length/\¬(t.kind=0/\t.index<t.binds.length) then(if Tm.jm t.binds.length 0 t.binds t.args=true then some (t.kind,if t.kind=0 then ag .i64 (t.index-t.binds.length) else t.index) else none) else none:=by
 cases t;rw[Tm.var];rfl
theorem Tm.EB {n:Nat} {b:List Ty} {a:List Tm} {k:Nat} (h1:k<b.length) (h2:k<a.length):Tm.jm n k (b.drop k) (a.drop k)=((match Tm.var a[k] with
  |some (q,j)=>q==0&&j==(n:Int)-1-k&&Ty.cv a[k].binds b[k].args
  |none=>false)&&Tm.jm n (k+1) (b.drop (k+1)) (a.drop (k+1))):=by
 rw[aqB h1,aqB h2,Tm.jm]
theorem PA:∀(n:Nat) (t:Tm),t.size<=n->n<=1000000000->ay aj 283 [t.enc] (Am t.var):=by
 intro n
 induction n with
 |zero=>intro t h;have:=t.size_pos;omega
 |succ n ih=>
  intro t h hn;have hq:=Tm.aO t.args;have hq2:=Ty.aO t.binds;have CT:=t.size_eq;rw[Tm.var_eq,Tm.aG];have loop:t.args.length=t.binds.length->¬(t.kind=0/\t.index<t.binds.length)->zR (((),(),((ab (t.binds.map Ty.enc):Nat):Int),(),t.args.map Tm.enc,((ab (t.args.map Tm.enc):Nat):Int),0,()),((t.binds.map Ty.enc,t.kind,t.index,t.args.map Tm.enc,()),(0,0,()),(t.kind,t.index,()),())) (fun x=>x=Am (if t.args.length=t.binds.length/\¬(t.kind=0/\t.index<t.binds.length) then(if Tm.jm t.binds.length 0 t.binds t.args=true then some (t.kind,if t.kind=0 then ag .i64 (t.index-t.binds.length) else t.index) else none) else none)):=by
   intro hlen hk;rw[if_pos ⟨hlen,hk⟩];refine aI.intro (fun k:Nat=>(((),(),(t.binds.length:Int),(),t.args.map Tm.enc,(t.args.length:Int),(k:Int),()),((t.binds.map Ty.enc,t.kind,t.index,t.args.map Tm.enc,()),(0,0,()),(t.kind,t.index,()),())))
    (fun k=>k<=t.args.length/\Tm.jm t.binds.length 0 t.binds t.args=Tm.jm t.binds.length k (t.binds.drop k) (t.args.drop k)) (fun k=>t.args.length-k) 0 (by rw[aqu,aqu];rfl) ⟨aqC _,rfl⟩ ?_
   intro k ⟨fq,hs⟩ again cj;dsimp only;refine az.intro (fun h=>?_) fun h=>?_
   ·have aH:k<t.args.length:=by simpa using h
    rw[Tm.EB (by omega) aH] at hs;have hi:=ih t.args[k] (by have:=Tm.eK aH;omega) (by omega);have hbs:=Ty.aO t.args[k].binds;have hbz:=t.args[k].size_eq;have kh:=Tm.eK aH;have he:=jl (l:=t.args[k].binds) (m:=(t.binds[k]'(by omega)).args) (by omega) (fun j h1 h2=>kF _ _ _ (aqw _) (by have:=Ty.cV (aqL h1);omega));rw[Tm.aG] at hi;refine⟨by omega,by rw[aqu];omega,_,_,_,_,Tm.bh aH,?_⟩
    cases hv:t.args[k].var with
    |none=>
     rw[hv] at hi hs;refine⟨_,_,_,hi,az.pos rfl ?_⟩;rw[hs];simp[Am]
    |some p=>
     obtain⟨q,j⟩:=p;rw[hv] at hi hs;refine⟨_,_,_,hi,az.neg rfl ?_⟩;rw[ba (n:=(t.binds.length:Int)-1) (by omega) (by omega),ba (by omega) (by omega)];dsimp only at hs;refine az.intro (fun h=>?_) fun h=>?_
     ·have:(q==0&&j==(t.binds.length:Int)-1-k)=false:=by rw[arc] at h;exact h
      rw[hs,this];simp[Am]
     ·have:(q==0&&j==(t.binds.length:Int)-1-k)=true:=by rw[Bool.not_eq_false'] at h;exact h
      rw[this,arb] at hs;refine⟨by omega,by rw[aqu];omega,_,_,Ty.bh (by omega),_,he,az.intro (fun h=>?_) fun h=>?_⟩
      ·have:Ty.cv t.args[k].binds (t.binds[k]'(by omega)).args=false:=by simpa using h
       rw[hs,this];simp[Am]
      ·have:Ty.cv t.args[k].binds (t.binds[k]'(by omega)).args=true:=by simpa using h
       rw[this,arb] at hs;rw[bk (by omega)];exact cj (k+1) ⟨by omega,hs⟩ (by omega)
   ·have:t.args.length<=k:=by simpa using h
    have X1:Tm.jm t.binds.length k [] []=true:=by simp[Tm.jm]
    rw[aqK this,aqK (by omega),X1] at hs;rw[if_pos hs];refine az.intro (fun h=>?_) fun h=>?_
    ·have h0:t.kind=0:=by simpa using h
     rw[if_pos h0];rfl
    ·have h0:¬t.kind=0:=by simpa using h
     rw[if_neg h0];rfl
  refine SI (az.intro (fun h=>?_) fun h=>?_)
  ·have:¬t.args.length=t.binds.length:=by simp at h;omega
   rw[if_neg (fun h=>this h.1)];rfl
  ·have hlen:t.args.length=t.binds.length:=by simp at h;omega
   refine az.intro (fun h=>?_) fun h=>?_
   ·have h0:t.kind=0:=by simpa using h
    refine az.intro (fun h=>?_) fun h=>?_
    ·have:t.index<t.binds.length:=by simpa using h
     rw[if_neg (fun h=>h.2 ⟨h0,this⟩)];rfl
    ·exact loop hlen fun h1=>by simp at h;omega
   ·exact loop hlen fun h1=>by simp at h;exact h h1.1
theorem HR (i:Int):ay aj 132 [nI i] (nI i):=SP rfl
def lO (i:Int):Prop := -9223372036854775808<=i/\i<9223372036854775808
theorem lO.wrap {i:Int} (h:lO i):ag .i64 i=i:=ba h.1 h.2
mutual
def Tm.Ok:Tm->Prop
 | .mk _ k i a=>lO k/\lO i/\Tm.JC a
def Tm.JC:List Tm->Prop
 | []=>True
 |t::l=>Tm.Ok t/\Tm.JC l
end
theorem Tm.NA {l:List Tm} (h:Tm.JC l) {t:Tm} (ht:t∈l):t.Ok:=by
 induction l with
 |nil=>cases ht
 |cons u l ih=>
  obtain⟨h1,h2⟩:=h;rcases aqZ.1 ht with rfl|h3
  ·exact h1
  ·exact ih h2 h3
theorem Tm.ok_eq {t:Tm} (h:t.Ok):lO t.kind/\lO t.index/\Tm.JC t.args:=by cases t;exact h
theorem B4:∀(n:Nat) (t:Tm) (a:Nat),t.size<=n->n<=1000000000->t.Ok->a+t.size<=2000000000->ay aj 131 [t.enc,nI a,.bz 132 []] t.enc:=by
 intro n
 induction n with
 |zero=>intro t a h;have:=t.size_pos;omega
 |succ n ih=>
  intro t a h hn hk ha;have hq:=Tm.aO t.args;have hq2:=Ty.aO t.binds;have CT:=t.size_eq;obtain⟨fq,JA,NB⟩:=Tm.ok_eq hk;have gY:=kG (t:=.mk [] 0) (l:=t.binds) (by simp[Ty.size,Ty.sizes];omega);rw[Ty.arrow,Ty.gn,Ty.Ez,aqR,Ty.ia,Ty.ia,arl] at gY;have hw:ag .i64 ((a:Int)+((ab (t.binds.map Ty.enc):Nat):Int))=((a+t.binds.length:Nat):Int):=by rw[aqu,ba (by omega) (by omega)];omega
  have loop:uJ ((((a+t.binds.length:Nat):Int),(),(),(),t.args.map Tm.enc,((ab (t.args.map Tm.enc):Nat):Int),0,()),((t.binds.map Ty.enc,t.kind,t.index,t.args.map Tm.enc,()),((),0,0,(),()),(t.binds.map Ty.enc,t.kind,t.index,(),()),[],())) (fun x=>x=t.enc):=by
   refine aI.intro (fun k:Nat=>((((a+t.binds.length:Nat):Int),(),(),(),t.args.map Tm.enc,(t.args.length:Int),(k:Int),()),((t.binds.map Ty.enc,t.kind,t.index,t.args.map Tm.enc,()),((),0,0,(),()),(t.binds.map Ty.enc,t.kind,t.index,(),()),(t.args.take k).map Tm.enc,())))
    (fun k=>k<=t.args.length) (fun k=>t.args.length-k) 0 (by rw[aqu];rfl) (aqC _) ?_
   intro k hk again cj;dsimp only;refine az.intro (fun h=>?_) fun h=>?_
   ·have aH:k<t.args.length:=by simpa using h
    have hz:=Tm.eK aH;have hi:=ih t.args[k] (a+t.binds.length) (by omega) (by omega) (Tm.NA NB (aqL aH)) (by have:=Tm.cV (aqL aH);omega);rw[Tm.aG] at hi;refine⟨by omega,by rw[aqu];omega,_,_,_,_,Tm.bh aH,_,_,_,_,hi,rfl,bJ rfl (by simp;omega) (by decide),rfl,?_⟩;rw[bk (by omega),Tm.iu,cO aH];exact cj (k+1) (by omega) (by omega)
   ·have:t.args.length<=k:=by simpa using h
    refine⟨rfl,?_⟩;rw[aqP this,<-Tm.aG]
  rw[Tm.aG];rw[Tm.aG] at loop;refine SN ⟨_,_,gY,?_⟩;rw[hw];refine az.intro (fun h=>?_) fun h=>⟨rfl,loop⟩;refine az.intro (fun h=>?_) fun h=>⟨rfl,loop⟩;have jM:((a+t.binds.length:Nat):Int)<=t.index:=by simpa using h
  refine⟨_,HR _,rfl,?_⟩;unfold lO at JA;rw[ba (n:=t.index-((a+t.binds.length:Nat):Int)) (by omega) (by omega),show ((a+t.binds.length:Nat):Int)+(t.index-((a+t.binds.length:Nat):Int))=t.index from by omega,ba JA.1 JA.2];exact loop
theorem KX {t:Tm} (h:t.size<=1000000000) (hk:t.Ok):ay aj 79 [t.enc] t.enc:=by
 have:=B4 _ t 0 (aqw _) h hk (by omega);rw[Tm.aG] at this ⊢;exact Yo ⟨_,_,_,_,this,rfl⟩
theorem HS {l:List (Int×Value)} {i v:Int} {x:Value} (h:aL l v=none):aL (cH l v x) i=if i=v then some x else aL l i:=by
 induction l with
 |nil=>rfl
 |cons p l ih=>
  obtain⟨k,u⟩:=p;simp only[aL] at h;split at h
  ·cases h
  ·rename_i hk;simp only[cH,if_neg hk,aL,ih h]
   by_cases h1:i=k
   ·subst h1;rw[if_pos rfl,if_neg (fun e=>hk e.symm),if_pos rfl]
   ·rw[if_neg h1,if_neg h1]
def oy (n:Int):List Int->List Tm->Option (List Int)
 |acc,[]=>some acc
 |acc,a::l=>match a.var with
  |some (k,i)=>if k=0/\i<n/\¬i∈acc then oy n (acc++[i]) l else none
  |none=>none
def Tm.vars (t:Tm) (n:Int):List Int×Int:=
 if t.kind=2/\0<=n then(match oy n [] t.args with
  |some l=>(l,0)
  |none=>([],6)) else([],1)
def ah3 (p:List Int×Int):AV:=.aK [.sl (cM p.1),nI p.2]
def EC (es:List (Int×Value)) (l:List Int):Prop:=∀i,aL es i=if i∈l then some (.bool true) else none
theorem EC.put {es:List (Int×Value)} {l:List Int} {i:Int} (h:EC es l) (hi:¬i∈l):EC (cH es i (.bool true)) (l++[i]):=by
 intro j;have hn:aL es i=none:=by rw[h i,if_neg hi]
 rw[HS hn,h j]
 by_cases h1:j=i
 ·subst h1;simp
 ·simp[h1]
theorem KY {t:Tm} {n:Int} (h:t.size<=1000000000):ay aj 270 [t.enc,nI n] (ah3 (t.vars n)):=by
 have hla:=Tm.aO t.args;have hs:=t.size_eq;have hfc:=Al t;rw[Tm.aG] at hfc ⊢;refine SJ ⟨_,hfc,az.intro (fun h=>?_) fun h=>?_⟩
 ·have:¬t.kind=2:=by simpa using h
  rw[Tm.vars,if_neg (fun h=>this h.1)];rfl
 have hk:t.kind=2:=by simpa using h
 refine az.intro (fun h=>?_) fun h=>⟨rfl,?_⟩
 ·have:n<0:=by simpa using h
  rw[Tm.vars,if_neg (fun h=>by omega)];rfl
 have hn:0<=n:=by simpa using h
 rw[Tm.vars,if_pos ⟨hk,hn⟩];unfold G4;refine aI.intro (fun p:Nat×List Int×List (Int×Value)=>((n,(),(),t.args.map Tm.enc,(t.args.length:Int),(p.1:Int),()),((t.binds.map Ty.enc,t.kind,t.index,t.args.map Tm.enc,()),p.2.2,cM p.2.1,())))
  (fun p=>p.1<=t.args.length/\p.2.1.length=p.1/\EC p.2.2 p.2.1/\oy n [] t.args=oy n p.2.1 (t.args.drop p.1)) (fun p=>t.args.length-p.1) (0,[],[]) (by rw[aqu];rfl) ⟨aqC _,rfl,fun i=>rfl,rfl⟩ ?_
 intro ⟨k,acc,es⟩ ⟨fq,hl,hse,hv⟩ again cj;dsimp only at fq hl hse hv ⊢;refine az.intro (fun h=>?_) fun h=>?_
 ·have aH:k<t.args.length:=by simpa using h
  rw[aqB aH,oy] at hv;have hz:=Tm.eK aH;have hc:=PA _ t.args[k] (aqw _) (by omega);rw[Tm.aG] at hc;refine⟨by omega,by rw[aqu];omega,_,_,_,_,Tm.bh aH,?_⟩
  cases ah5:t.args[k].var with
  |none=>
   rw[ah5] at hc hv;dsimp only at hv;refine⟨_,_,_,hc,az.pos rfl ?_⟩;rw[hv];rfl
  |some p=>
   obtain⟨q,i⟩:=p;rw[ah5] at hc hv;dsimp only at hv;refine⟨_,_,_,hc,az.neg rfl ?_⟩;refine az.intro (fun h=>?_) fun h=>?_
   ·have:¬q=0:=by simpa using h
    rw[hv,if_neg (fun h=>this h.1)];rfl
   have hq:q=0:=by simpa using h
   refine az.intro (fun h=>?_) fun h=>?_
   ·have:n<=i:=by simpa using h
    rw[hv,if_neg (fun h=>by omega)];rfl
   have hi:i<n:=by simpa using h
   have hg:=hse i
   by_cases hm:i∈acc
   ·rw[if_pos hm] at hg;rw[hg];refine⟨rfl,az.pos rfl ?_⟩;rw[hv,if_neg (fun h=>h.2.2 hm)];rfl
   ·rw[if_neg hm] at hg;rw[hg];refine⟨rfl,az.neg rfl ⟨rfl,bJ rfl (by simp[gD];omega) (by decide),rfl,?_⟩⟩;rw[if_pos ⟨hq,hi,hm⟩] at hv;rw[bk (by omega),pE];exact cj (k+1,acc++[i],cH es i (.bool true)) ⟨by simp only;omega,by simp[hl],hse.put hm,hv⟩ (by simp only;omega)
 ·have:t.args.length<=k:=by simpa using h
  rw[aqK this,oy] at hv;refine⟨rfl,?_⟩;rw[hv];rfl
structure Us where
 ah6:Int
 vars:List Int
 binds:List Ty
 path:List Int
def Us.enc (u:Us):AV:=.agg [nI u.ah6,.sl (cM u.vars),.sl (u.binds.map Ty.enc),.sl (cM u.path)]
mutual
def Tm.uses (bY:List Ty) (path:List Int):Tm->Option (List Us)
 | .mk b k i a=>if k=2 then(match Tm.vars (.mk b k i a) (bY++b).length with
  |(v,e)=>if e=0 then some [⟨i,v,bY++b,path⟩] else none) else Tm.oz (bY++b) path 0 a
def Tm.oz (bY:List Ty) (path:List Int) (n:Nat):List Tm->Option (List Us)
 | []=>some []
 |t::l=>(match Tm.uses bY (path++[(n:Int)]) t with
  |some u=>(match Tm.oz bY path (n+1) l with
   |some us=>some (u++us)
   |none=>none)
  |none=>none)
end
theorem Tm.NC (bY:List Ty) (path:List Int) (t:Tm):Tm.uses bY path t=if t.kind=2 then(match t.vars (bY++t.binds).length with
  |(v,e)=>if e=0 then some [⟨t.index,v,bY++t.binds,path⟩] else none) else Tm.oz (bY++t.binds) path 0 t.args:=by
 cases t;rw[Tm.uses];rfl
theorem Tm.KZ {bY:List Ty} {path:List Int} {l:List Tm} {k:Nat} (h:k<l.length):Tm.oz bY path k (l.drop k)=(match Tm.uses bY (path++[(k:Int)]) l[k] with
  |some u=>(match Tm.oz bY path (k+1) (l.drop (k+1)) with
   |some us=>some (u++us)
   |none=>none)
  |none=>none):=by
 rw[aqB h,Tm.oz]
mutual
theorem Tm.HT:∀{t:Tm} {bY:List Ty} {path:List Int} {u:List Us},Tm.uses bY path t=some u->u.length<=t.size
 | .mk b k i a,bY,path,u,h=>by
  rw[Tm.uses] at h;split at h
  ·dsimp only at h;split at h
   ·cases h;simp[Tm.size];omega
   ·cases h
  ·have:=Tm.CV h;simp[Tm.size];omega
theorem Tm.CV:∀{l:List Tm} {bY:List Ty} {path:List Int} {n:Nat} {u:List Us},Tm.oz bY path n l=some u->u.length<=Tm.sizes l
 | [],_,_,_,u,h=>by rw[Tm.oz] at h;cases h;simp
 |t::l,bY,path,n,u,h=>by
  rw[Tm.oz] at h;split at h
  ·rename_i u1 h1;split at h
   ·rename_i u2 h2;cases h;have:=Tm.HT h1;have:=Tm.CV h2;simp[Tm.sizes];omega
   ·cases h
  ·cases h
end
theorem Tm.VG {t:Tm} {n:Int} (hk:t.kind=2) (hn:0<=n):(t.vars n).2=0\/t.vars n=([],6):=by
 rw[Tm.vars,if_pos ⟨hk,hn⟩];split
 ·exact .inl rfl
 ·exact .inr rfl
theorem K0:∀(d:Nat) (t:Tm) (us:List Us) (bY:List Ty) (path:List Int),t.size<=d->d<=400000000->us.length+t.size<=800000000->Ty.sizes bY+t.size<=800000000->path.length+t.size<=800000000->
  aY aj 256 [.own 0 (us.map Us.enc).length,t.enc,.sl (bY.map Ty.enc),.sl (cM path)] [.row 416 4 (us.map Us.enc)]
   (fun r h=>(∃u,Tm.uses bY path t=some u/\r=.aK [.own 0 ((us++u).map Us.enc).length,nI 0]/\h=[.row 416 4 ((us++u).map Us.enc)])\/(Tm.uses bY path t=none/\∃l,r=.aK [.ax (.slice none 0 0),nI 6]/\h=[.row 416 4 l])):=by
 intro d
 induction d with
 |zero=>intro t us bY path h;have:=t.size_pos;omega
 |succ d ih=>
  intro t us bY path hd OV h1 h2 h3;have hla:=Tm.aO t.args;have hlb:=Ty.aO t.binds;have hlc:=Ty.aO bY;have hs:=t.size_eq;have wP:=gO (ll:=[bY,t.binds]) (by simp) (by simp;omega);simp only[ff,aqS,arl,asb,ash,aqR] at wP;have hfc:=Al t;have hvc:=KY (t:=t) (n:=((bY++t.binds).length:Nat)) (by omega);have gY:=kG (t:=.mk [] 0) (l:=bY++t.binds) (by simp[Ty.size,Ty.sizes,Ty.bW];omega);rw[Ty.arrow,Ty.gn,Ty.Ez,aqR,Ty.ia,Ty.ia,arl] at gY;rw[Tm.aG] at hfc hvc ⊢;refine SK ⟨_,wP,_,hfc,az.intro (fun h=>?_) fun h=>⟨rfl,?_⟩⟩
  ·have hk:t.kind=2:=by simpa using h
   rw[Tm.NC,if_pos hk,aqu];refine⟨_,_,hvc,?_⟩;rcases Tm.VG hk (show (0:Int)<=(((bY++t.binds).length:Nat):Int) by omega) with h0|h0
   ·dsimp only;rw[h0];refine az.neg rfl ⟨_,_,gY,_,HQ (by omega),rfl,bJ rfl (by simp;omega) (by decide),.inl ⟨_,if_pos rfl,?_⟩⟩;simp[Us.enc]
   ·rw[h0];exact az.pos rfl (.inr ⟨by simp,_,rfl,rfl⟩)
  ·have hk:¬t.kind=2:=by simpa using h
   rw[Tm.NC,if_neg hk];unfold G5;refine aI.intro (fun p:Nat×List Us=>(((),(bY++t.binds).map Ty.enc,cM path,t.args.map Tm.enc,(t.args.length:Int),(p.1:Int),()),((us++p.2).map Us.enc,(t.binds.map Ty.enc,t.kind,t.index,t.args.map Tm.enc,()),())))
    (fun p=>p.1<=t.args.length/\p.2.length<=Tm.sizes (t.args.take p.1)/\Tm.oz (bY++t.binds) path 0 t.args=(match Tm.oz (bY++t.binds) path p.1 (t.args.drop p.1) with|some u=>some (p.2++u)|none=>none)) (fun p=>t.args.length-p.1) (0,[]) (by rw[aqu];simp) ⟨aqC _,by simp,by simp only[arX,arF];split<;>simp_all⟩ ?_
   intro ⟨k,u0⟩ ⟨fq,hl,hv⟩ again cj;dsimp only at fq hl hv ⊢;refine az.intro (fun h=>?_) fun h=>?_
   ·have aH:k<t.args.length:=by simpa using h
    have hz:=Tm.eK aH;have cx:Tm.sizes (t.args.take k)+t.args[k].size<=Tm.sizes t.args:=by
     have e:t.args=t.args.take k++t.args[k]::t.args.drop (k+1):=by rw[<-aqB aH,ars]
     have e2:Tm.sizes t.args=Tm.sizes (t.args.take k++t.args[k]::t.args.drop (k+1)):=by rw[<-e]
     rw[e2,Tm.bW,Tm.sizes];omega
    have htk:Tm.sizes (t.args.take (k+1))=Tm.sizes (t.args.take k)+t.args[k].size:=by
     rw[ary aH,Tm.bW];simp[Tm.sizes]
    rw[Tm.KZ aH] at hv;have hi:=ih t.args[k] (us++u0) (bY++t.binds) (path++[(k:Int)]) (by omega) (by omega) (by simp;omega) (by rw[Ty.bW];omega) (by simp;omega);rw[Tm.aG] at hi;refine⟨by omega,by rw[aqu];omega,_,_,_,_,Tm.bh aH,_,KV,fun h=>by simp at h,?_⟩;rw[pE];refine⟨ir nA (fun x hx=>by rw[aqJ.1 hx];rfl) (by rw[gD];simp;omega) (by decide),rfl,_,hi,?_⟩
    rintro r q (⟨u,hu,rfl,rfl⟩|⟨hu,l,rfl,rfl⟩)
    ·left;refine⟨_,⟨rfl,rfl⟩,rfl,?_⟩;have hul:=Tm.HT hu;rw[hu] at hv;rw[bk (by omega),aqT];refine cj (k+1,u0++u) ⟨by simp only;omega,by simp;omega,?_⟩ (by simp only;omega);rw[hv];dsimp only
     cases Tm.oz (bY++t.binds) path (k+1) (t.args.drop (k+1)) with
     |none=>rfl
     |some v=>simp
    ·right;rw[hu] at hv;exact⟨_,⟨rfl,rfl⟩,.inr ⟨hv,_,rfl,rfl⟩⟩
   ·have:t.args.length<=k:=by simpa using h
    rw[aqK this,Tm.oz] at hv;left;refine⟨u0,by rw[hv];simp,rfl,rfl⟩
def ED:Option (List Us)->AV
 |some u=>.aK [.sl (u.map Us.enc),nI 0]
 |none=>.aK [.sl [],nI 6]
theorem K1 {t:Tm} (h:t.size<=400000000):ay aj 221 [t.enc] (ED (t.uses [] [])):=by
 have hu:=K0 _ t [] [] [] (aqw _) h (by simp;omega) (by simp[Ty.sizes];omega) (by simp;omega);have hn:=Pure.of_nil (by decide) hu (by rw[Tm.aG];rfl);have ZM:Pure aj 256 [.ax (.slice none 0 0),t.enc,.ax (.slice none 0 0),.ax (.slice none 0 0)] (fun x=>x=ED (t.uses [] [])):=by
  refine Pure.ML (ys:=[.ax (.slice none 0 0),t.enc,.sl [],.sl []]) ⟨aS.refl _,aS.refl _,bR,bR,ai⟩ (hn.mono ?_)
  rintro x ⟨r,hp',(⟨u,e1,rfl,rfl⟩|⟨e1,l,rfl,rfl⟩),rfl⟩
  ·rw[e1];simp[ED,AV.bK,AV.fO,AV.eG,AV.iU]
  ·rw[e1];simp[ED,AV.bK,AV.fO,AV.eG]
 rw[Tm.aG] at ZM ⊢;refine SL ⟨_,ZM,?_⟩
 rintro r rfl
 cases t.uses [] [] with
 |none=>exact⟨_,_,rfl,rfl⟩
 |some u=>exact⟨_,_,rfl,rfl⟩
theorem VH {t:Tm} (h:t.size<=400000000):ay aj 153 [t.enc] (nB (t.uses [] []).isSome):=by
 have hu:=K1 h;rw[Tm.aG] at hu ⊢;refine SM ?_
 cases hq:t.uses [] [] with
 |none=>rw[hq] at hu;exact⟨_,_,hu,rfl⟩
 |some u=>rw[hq] at hu;exact⟨_,_,hu,rfl⟩
theorem Xa {l:List Int} {i:Int} {k:Nat} (h:k<l.length):(l.take (k+1)).contains i=((l.take k).contains i||(l[k]==i)):=by
 rw[<-cO h,ar2];simp only[asm,arh,aq7,aqJ,beq_iff_eq];exact or_congr ase eq_comm
mutual
def Tm.same:Tm->Tm->Bool
 | .mk b k i a,.mk b' k' i' a'=>(k==k'&&i==i')&&(Ty.cv b b'&&Tm.cv a a')
def Tm.cv:List Tm->List Tm->Bool
 | [],[]=>true
 |t::l,u::m=>Tm.same t u&&Tm.cv l m
 |_,_=>false
end
theorem Tm.EA (t u:Tm):Tm.same t u=((t.kind==u.kind&&t.index==u.index)&&(Ty.cv t.binds u.binds&&Tm.cv t.args u.args)):=by cases t;cases u;simp[Tm.same,Tm.kind,Tm.index,Tm.binds,Tm.args]
theorem Tm.tq {l m:List Tm} {k:Nat} (h1:k<l.length) (h2:k<m.length):Tm.cv (l.drop k) (m.drop k)=(Tm.same l[k] m[k]&&Tm.cv (l.drop (k+1)) (m.drop (k+1))):=by
 rw[aqB h1,aqB h2,Tm.cv]
theorem Tm.wb {l m:List Tm} (h:¬l.length=m.length):Tm.cv l m=false:=by
 induction l generalizing m with
 |nil=>cases m with
  |nil=>simp at h
  |cons u m=>rfl
 |cons t l ih=>cases m with
  |nil=>rfl
  |cons u m=>rw[Tm.cv,ih (by simpa using h),Bool.and_false]
mutual
theorem Tm.ow:∀(t u:Tm),Tm.same t u=true↔t=u
 | .mk b k i a,.mk b' k' i' a'=>by
  simp only[Tm.same,aqv,beq_iff_eq,Tm.mk.injEq,Ty.jT,Tm.jT a a'];constructor
  ·rintro⟨⟨h1,h2⟩,h3,h4⟩;exact⟨h3,h1,h2,h4⟩
  ·rintro⟨h3,h1,h2,h4⟩;exact⟨⟨h1,h2⟩,h3,h4⟩
theorem Tm.jT:∀(l m:List Tm),Tm.cv l m=true↔l=m
 | [],[]=>by simp[Tm.cv]
 | [],_::_=>by simp[Tm.cv]
 |_::_,[]=>by simp[Tm.cv]
 |t::l,u::m=>by simp only[Tm.cv,aqv,List.cons.injEq,Tm.ow t u,Tm.jT l m]
end
theorem Tm.PB (t:Tm):Tm.same t t=true:=(Tm.ow t t).2 rfl
inductive Nd where
 |mk (kind:Int) (word:ByteArray) (at_:Int) (kids:List Nd)
mutual
def Nd.enc:Nd->AV
 | .mk k w a l=>.agg [nI k,nS w,nI a,.sl (Nd.pF l)]
def Nd.pF:List Nd->List AV
 | []=>[]
 |t::l=>Nd.enc t::Nd.pF l
end
def Nd.kind:Nd->Int | .mk k _ _ _=>k
def Nd.word:Nd->ByteArray | .mk _ w _ _=>w
def Nd.at_:Nd->Int | .mk _ _ a _=>a
def Nd.kids:Nd->List Nd | .mk _ _ _ l=>l
theorem Nd.pG (l:List Nd):Nd.pF l=l.map Nd.enc:=by
 induction l with
 |nil=>rfl
 |cons t l ih=>simp[Nd.pF,ih]
theorem Nd.aG (t:Nd):t.enc=.agg [nI t.kind,nS t.word,nI t.at_,.sl (t.kids.map Nd.enc)]:=by cases t;simp[Nd.enc,Nd.pG,Nd.kind,Nd.word,Nd.at_,Nd.kids]
mutual
def Nd.size:Nd->Nat
 | .mk _ _ _ l=>1+Nd.sizes l
def Nd.sizes:List Nd->Nat
 | []=>0
 |t::l=>Nd.size t+Nd.sizes l
end
theorem Nd.size_eq (t:Nd):t.size=1+Nd.sizes t.kids:=by cases t;rfl
theorem Nd.size_pos (t:Nd):1<=t.size:=by rw[t.size_eq];omega
theorem my {a b:Bool} (h:a=true↔b=true):nB a=nB b:=congrArg nB (ar2.2 h)
def iv (c:Int):Bool:=decide (97<=c/\c<=122)||decide (65<=c/\c<=90)
def isDigit (c:Int):Bool:=decide (48<=c/\c<=57)
def iC (c:Int):Bool:=iv c||(isDigit c||(c==95||c==39))
def lB (c:Int):Bool:=c==32||(c==9||(c==10||(c==13||c==35)))
def aD (s:ByteArray):List Int:=s.data.toList.map fun b=>(b.toNat:Int)
theorem cA (s:ByteArray):(aD s).length=s.size:=by simp[aD]
theorem uZ {s:ByteArray} {k:Nat} (h:k<(aD s).length):dT s (k:Int)=(aD s)[k]:=by
 have h2:k<s.data.size:=by rw[cA] at h;exact h
 unfold dT;simp only[arv,aD,List.getElem_map,Array.getElem_toList];rw[arf h2];rfl
theorem u5 (s:ByteArray):∀c∈aD s,0<=c/\c<=255:=by
 intro c hc;simp only[aD,arx] at hc;obtain⟨b,_,rfl⟩:=hc;have:=b.toNat_lt;omega
theorem mz {s t:ByteArray} (h:aD s=aD t):s=t:=by
 obtain⟨s⟩:=s;obtain⟨t⟩:=t
 congr 1
 apply arL;exact(List.map_inj_right (fun a b (hab:(a.toNat:Int)=b.toNat)=>UInt8.toNat_inj.1 (by omega))).1 h
theorem eF (a b:ByteArray):ib a b=decide (a=b):=by
 obtain⟨a⟩:=a;obtain⟨b⟩:=b;simp only[ib]
 by_cases h:a=b
 ·subst h;simp
 ·have h1:¬(ByteArray.mk a=ByteArray.mk b):=fun e=>h (by injection e);rw[decide_eq_false h1,beq_eq_false_iff_ne];intro e;apply h1;have e1:=congrArg ab e;apply mz;rw[Lib.toList_data,Lib.toList_data] at e;exact congrArg (List.map fun b:UInt8=>(b.toNat:Int)) e
def isWord (s:ByteArray):Bool:=match aD s with
 | []=>false
 |c::l=>decide (l.length<=29)&&iv c&&l.all iC
theorem pK {c:Int}:ay aj 251 [.ax (.int .u8 c)] (nB (iv c)):=by
 refine SV ?_;have two:az (decide (c>=65)) (nB (decide (c<=90))=nB (decide (65<=c/\c<=90))) (nB false=nB (decide (65<=c/\c<=90))):=by
  refine az.intro (fun h=>?_) fun h=>?_
  ·have h:c>=65:=by simpa using h
   exact my (by simp;omega)
  ·have h:¬c>=65:=by simpa using h
   exact my (by simp;omega)
 refine az.intro (fun h=>az.intro (fun h1=>?_) fun h1=>?_) fun h=>?_
 ·have h:c>=97:=by simpa using h
  have h1:c<=122:=by simpa using h1
  simp[iv];omega
 ·have h1:¬c<=122:=by simpa using h1
  have:iv c=decide (65<=c/\c<=90):=by unfold iv;rw[decide_eq_false (by omega),arI]
  rw[this];exact two
 ·have h:¬c>=97:=by simpa using h
  have:iv c=decide (65<=c/\c<=90):=by unfold iv;rw[decide_eq_false (by omega),arI]
  rw[this];exact two
theorem rn {c:Int}:ay aj 254 [.ax (.int .u8 c)] (nB (isDigit c)):=by
 refine SW (az.intro (fun h=>?_) fun h=>?_)
 ·have h:c>=48:=by simpa using h
  exact my (by simp[isDigit];omega)
 ·have h:¬c>=48:=by simpa using h
  exact my (by simp[isDigit];omega)
theorem HU {c:Int}:ay aj 253 [.ax (.int .u8 c)] (nB (iC c)):=by
 refine SX ⟨_,pK,az.intro (fun h=>?_) fun h=>⟨_,rn,az.intro (fun h1=>?_) fun h1=>az.intro (fun h2=>?_) fun h2=>?_⟩⟩
 ·simp[iC,h]
 ·simp[iC,h,h1]
 ·simp[iC,h,h1,h2]
 ·simp[iC,h,h1,h2]
def runN (l:List Int):Nat:=(l.takeWhile iC).length
theorem wc (c:Int) (l:List Int):runN (c::l)=if iC c=true then runN l+1 else 0:=by
 unfold runN;rw[asq];split<;>simp
theorem VI (l:List Int):(runN l=l.length)↔l.all iC=true:=by
 induction l with
 |nil=>simp[runN]
 |cons c l ih=>
  simp only[runN,asq,arQ] at ih ⊢
  cases h:iC c<;>simp[ih]
theorem CW {s:ByteArray} (hs:s.size<=1000000000):ay aj 252 [nS s,.bz 253 []] (nI (runN (aD s):Nat)):=by
 refine SY ?_;unfold aa8 G7;have hl:=cA s;refine aI.intro (fun k:Nat=>((s,(),(k:Int),()),())) (fun k=>k<=s.size/\runN (aD s)=k+runN ((aD s).drop k)) (fun k=>s.size-k) 0 rfl ⟨aqC _,by simp⟩ ?_;intro k ⟨hk,hm⟩ again cj;dsimp only;refine az.intro (fun h=>?_) fun h=>?_
 ·have aH:k<s.size:=by simpa using h
  have vQ:k<(aD s).length:=by omega
  rw[aqB vQ] at hm;refine⟨⟨by omega,by omega⟩,_,HU,?_⟩;rw[uZ vQ];refine az.intro (fun h=>?_) fun h=>?_
  ·rw[bk (by omega)];refine cj (k+1) ⟨by omega,?_⟩ (by omega);rw[hm,wc,if_pos h];omega
  ·rw[hm,wc,if_neg (by rw[h];simp)];rfl
 ·have:s.size<=k:=by simpa using h
  rw[aqK (by omega)] at hm;rw[hm];simp[runN]
theorem EE {c:Int} (h:iv c=true):iC c=true:=by simp[iC,h]
theorem u6 {s:ByteArray}:ay aj 234 [nS s] (nB (isWord s)):=by
 have hl:=cA s;refine SU (az.intro (fun h=>az.intro (fun h1=>?_) fun h1=>?_) fun h=>?_)
 ·have h1:s.size<=30:=by(have:(s.size:Int)<=30:=by simpa using h1);omega
  cases hb:aD s with
  |nil=>
   exfalso;have:s=⟨#[]⟩:=mz hb;subst this;simp[ib] at h
  |cons c l=>
   rw[hb,aqy] at hl;have hc:dT s (0:Int)=c:=by
    have:=uZ (s:=s) (k:=0) (by rw[hb];simp);simp only[hb,List.getElem_cons_zero] at this;exact this
   refine⟨⟨by omega,by omega⟩,_,pK,?_⟩;rw[hc];have hd:decide (l.length<=29)=true:=by simp;omega
   refine az.intro (fun h2=>⟨_,CW (by omega),?_⟩) fun h2=>?_
   ·refine my ?_;have hr:=VI (aD s);rw[hb,arQ,EE h2,arb,aqy] at hr;simp only[isWord,hb,hd,h2,arb,beq_iff_eq];rw[<-hr,<-hl];omega
   ·simp[isWord,hb,hd,h2]
 ·have h1:¬s.size<=30:=by(have:¬(s.size:Int)<=30:=by simpa using h1);omega
  cases hb:aD s with
  |nil=>simp[isWord,hb]
  |cons c l=>
   rw[hb,aqy] at hl;simp[isWord,hb];omega
 ·have:s=⟨#[]⟩:=by
   rw[eF] at h;simpa using h
  subst this;rfl
def PC (s:ByteArray):Nat->Nat->Nat
 |0,n=>n
 |k+1,n=>if n<s.size/\isWord (s.extract 0 (n+1))=true then PC s k (n+1) else n
def EF (s:ByteArray):ByteArray:=s.extract 0 (if isWord (s.extract 0 1)=true then PC s 9 1 else 1)
theorem EG {s:ByteArray} (h1:1<=s.size) (h2:s.size<=1000000000):ay aj 235 [nS s] (nS (EF s)):=by
 refine S1 ⟨⟨by decide,by decide,by omega⟩,_,u6,az.intro (fun h=>?_) fun h=>⟨⟨by decide,by decide,by omega⟩,?_⟩⟩
 ·have h:isWord (s.extract 0 1)=true:=h;rw[EF,if_pos h];obtain⟨z,hz⟩:∃z,PC s 9 1=z:=⟨_,rfl⟩;rw[hz];refine aI.intro (fun n:Nat=>((s,(n:Int),()),())) (fun n=>1<=n/\n<=10/\n<=s.size/\z=PC s (10-n) n) (fun n=>10-n) 1 rfl ⟨by omega,by omega,h1,hz.symm⟩ ?_;intro n ⟨n1,n10,ns,he⟩ again cj;dsimp only;have last:z=n->(0<=(0:Int)/\(0:Int)<=(n:Int)/\(n:Int)<=ah s)/\nS (ByteArray.extract s (af 0) (af (n:Int)))=nS (s.extract 0 z):=fun e=>⟨⟨by decide,by omega,by omega⟩,by rw[e];rfl⟩;refine az.intro (fun h=>az.intro (fun h'=>?_) fun h'=>last ?_) fun h=>last ?_
  ·have g1:n<s.size:=by simpa using h
   have g2:n<10:=by have:=of_decide_eq_true h';omega
   rw[bk (by omega)];have e10:10-n=(10-(n+1))+1:=by omega
   rw[e10,PC] at he;refine⟨⟨by decide,by omega,by omega⟩,_,u6,az.intro (fun g=>?_) fun g=>last ?_⟩
   ·have g:isWord (s.extract 0 (n+1))=true:=g;rw[if_pos ⟨g1,g⟩] at he;exact cj (n+1) ⟨by omega,by omega,by omega,he⟩ (by omega)
   ·have g:isWord (s.extract 0 (n+1))=false:=g;rw[if_neg (fun e=>by rw[g] at e;simp at e)] at he;exact he
  ·have g2:n=10:=by have:=of_decide_eq_false h';omega
   subst g2;exact he
  ·have g1:¬n<s.size:=by simpa using h
   rw[he]
   cases 10-n with
   |zero=>rfl
   |succ k=>rw[PC,if_neg (fun e=>g1 e.1)]
 ·have h:isWord (s.extract 0 1)=false:=h;rw[EF,if_neg (by rw[h];decide)];rfl
section
def nh:Int×Int->List Int->Int×Int
 |m,[]=>m
 |m,c::l=>nh (if c==10 then(m.1+1,1) else(m.1,m.2+1)) l
theorem mA (s:ByteArray) (i j:Nat):aD (s.extract i j)=((aD s).drop i).take (j-i):=by
 simp only[aD,ByteArray.data_extract,Array.toList_extract,List.extract_eq_take_drop,List.map_take,List.map_drop]
abbrev Tk:=Int×ByteArray×Int
def cW (t:Tk):AV:=.agg [nI t.1,nS t.2.1,nI t.2.2]
theorem ZN (l:List Int):runN l<=l.length:=by
 induction l with
 |nil=>simp[runN]
 |cons c l ih=>rw[wc,aqy];split<;>omega
variable {s:ByteArray}
theorem ZO (l:List Tk) (t:Tk):l.map cW++[.agg [nI t.1,nS t.2.1,nI t.2.2]]=(l++[t]).map cW:=by simp[cW]
end
def fA (c:Int) (l:List Int):Nat:=(l.takeWhile (· != c)).length
def HV (c:Int) (l:List Int):Int:=if fA c l=l.length then -1 else(fA c l:Int)
theorem jV (c b:Int) (l:List Int):fA c (b::l)=if b=c then 0 else fA c l+1:=by
 unfold fA;rw[asq]
 by_cases h:b=c
 ·simp[h]
 ·rw[if_neg h,if_pos (by simpa using h)];rfl
theorem yz (c:Int) (l:List Int):fA c l<=l.length:=by
 induction l with
 |nil=>simp[fA]
 |cons b l ih=>rw[jV,aqy];split<;>omega
theorem ND {c:Int} {l:List Int} {n:Nat} (h:n<=fA c l):∀b∈l.take n,b≠c:=by
 induction l generalizing n with
 |nil=>simp
 |cons b l ih=>
  rw[jV] at h
  cases n with
  |zero=>simp
  |succ n=>
   split at h
   ·omega
   ·rename_i hb;intro x hx;rw[List.take_succ_cons] at hx;rcases aqZ.1 hx with rfl|hx
    ·exact hb
    ·exact ih (by omega) x hx
theorem ZP {c:Int} {l:List Int} (h:fA c l<l.length):l[fA c l]=c:=by
 induction l with
 |nil=>simp at h
 |cons b l ih=>
  simp only[jV,aqy] at h ⊢
  by_cases hb:b=c
  ·simp only[if_pos hb];simpa using hb
  ·simp only[if_neg hb] at h ⊢;simp only[List.getElem_cons_succ];exact ih (by omega)
theorem idx_eq (l:List UInt8) (c:UInt8):Lib.indexByte l c=HV (c.toNat:Int) (l.map fun b=>(b.toNat:Int)):=by
 induction l with
 |nil=>rfl
 |cons b l ih=>
  unfold Lib.indexByte HV;rw[ih,aqS,jV,aqy];have hle:=yz (c.toNat:Int) (l.map fun b=>(b.toNat:Int))
  by_cases h:b=c
  ·subst h;simp
  ·have h2:¬(b.toNat:Int)=(c.toNat:Int):=fun e=>h (UInt8.toNat_inj.1 (by omega));rw[if_neg (by simpa using h),if_neg h2];unfold HV
   by_cases hr:fA (c.toNat:Int) (l.map fun b=>(b.toNat:Int))=(l.map fun b=>(b.toNat:Int)).length
   ·rw[if_pos hr,hr,if_pos rfl];rfl
   ·have cg:((((fA (c.toNat:Int) (l.map fun b=>(b.toNat:Int)):Nat):Int)) == -1)=false:=beq_eq_false_iff_ne.2 (by omega);rw[if_neg hr,if_neg (by rw[cg];decide),if_neg (fun e=>hr (by omega))];omega
theorem kT {s:ByteArray} {c:Int} (h0:0<=c) (h1:c<=255):ay aj 250 [nS s,.ax (.int .u8 c)] (nI (HV c (aD s))):=by
 refine⟨⟨_,Tryz.func250,by kernel_rfl,by kernel_rfl⟩,fun w F bE hF hg hv=>?_⟩
 match bE,hv with
 | [v0,v1],⟨r0,r1,_⟩=>
  cases r0;cases r1
  refine callsIn_wide.2 ((Any.strings_IndexByte acQ s c w).mono ?_)
  rintro e w' ⟨rfl,rfl⟩
  refine⟨_,_,rfl,rfl,bV.refl _,?_⟩;have:(c.toNat.toUInt8.toNat:Int)=c:=by
   have:c.toNat.toUInt8.toNat=c.toNat % 256:=rfl;rw[this];omega
  rw[idx_eq,this];exact .ax _
def mB (s:ByteArray):Nat->Nat->List (Nat×ByteArray)
 |0,_=>[]
 |f+1,a=>(a,s.extract a (a+fA 10 ((aD s).drop a)))::(if a+fA 10 ((aD s).drop a)=s.size then[] else mB s f (a+fA 10 ((aD s).drop a)+1))
def ZQ (p:Nat×ByteArray):Int×ByteArray×Unit:=((p.1:Int),p.2,())
def VJ (p:Nat×ByteArray):List AV:=[nI (p.1:Int),nS p.2]
theorem jn {s:ByteArray} {a:Nat}:aD (s.extract a s.size)=(aD s).drop a:=by
 rw[mA,aqP];rw[aqY,cA];exact aqw _
theorem EH {s:ByteArray} (hs:s.size<=1000000000):vE aj 266 (fun v=>[v,.aW (nS s) 0]) ((mB s (s.size+1) 0).map VJ) false:=by
 have hl:=cA s;refine Tx fun yv more=>⟨rfl,?_⟩;refine aI.intro (fun p:Nat×Nat=>(((yv,(),(p.2:Int),()),()),some ((mB s p.1 p.2).map VJ++more))) (fun p=>p.2<=s.size/\s.size+1<=p.1+p.2) (fun p=>s.size+1-p.2) (s.size+1,0) rfl ⟨aqC _,by dsimp only;omega⟩ ?_;intro ⟨f,a⟩ ⟨ha,hf⟩ again cj;dsimp only at ha hf ⊢;obtain⟨f,rfl⟩:∃g,f=g+1:=⟨f-1,by omega⟩;have hr:=yz 10 ((aD s).drop a);rw[aqY,hl] at hr;have K2:=kT (s:=s.extract a s.size) (c:=10) (by decide) (by decide);rw[jn,HV,aqY,hl] at K2;refine⟨⟨by omega,by omega,by omega⟩,_,K2,?_⟩
 by_cases he:fA 10 ((aD s).drop a)=s.size-a
 ·rw[if_pos he];refine az.pos (by decide) ⟨⟨by omega,by omega,by omega⟩,rfl,more,?_,fun b=>⟨b,rfl⟩⟩;rw[mB,he,if_pos (by omega)];have:a+(s.size-a)=s.size:=by omega
  rw[this];rfl
 ·rw[if_neg he];have w1:ag .i64 ((a:Int)+((fA 10 ((aD s).drop a):Nat):Int))=((a+fA 10 ((aD s).drop a):Nat):Int):=by rw[ba (by omega) (by omega)];omega
  have w2:ag .i64 ((a:Int)+ag .i64 (((fA 10 ((aD s).drop a):Nat):Int)+1))=((a+fA 10 ((aD s).drop a)+1:Nat):Int):=by rw[bk (by omega),ba (by omega) (by omega)];omega
  rw[w1,w2];refine az.neg (decide_eq_false (by omega)) ⟨⟨by omega,by omega,by omega⟩,rfl,(mB s f (a+fA 10 ((aD s).drop a)+1)).map VJ++more,?_,fun b=>az.intro (fun h=>?_) fun h=>?_⟩
  ·rw[mB,if_neg (by omega)];rfl
  ·have:b=false:=by simpa using h
   subst this;exact⟨false,rfl⟩
  ·have:b=true:=by simpa using h
   subst this;exact⟨rfl,cj (f,_) ⟨by dsimp only;omega,by dsimp only;omega⟩ (by dsimp only;omega)⟩
theorem PD {s:ByteArray} (hs:s.size<=1000000000):ng aj 266 [.aW (nS s) 0] [.v (.c (.i .i64)),.v (.c (.s))] ((mB s (s.size+1) 0).map ZQ):=
 q8 (prm:=[.v (.c (.i .i64)),.v (.c (.s))]) ZQ (EH hs)
theorem we (m:Int×Int) (a b:List Int):nh m (a++b)=nh (nh m a) b:=by
 induction a generalizing m with
 |nil=>rfl
 |cons c a ih=>exact ih _
theorem HW {l:List Int} (m:Int×Int) (h:∀b∈l,b≠10):nh m l=(m.1,m.2+l.length):=by
 induction l generalizing m with
 |nil=>simp[nh]
 |cons c l ih=>
  have hc:(c==10)=false:=by simpa using h c aqG
  rw[nh,hc,ih _ fun b hb=>h b (aqI _ hb)];simp;omega
def An (s:ByteArray) (i:Nat):AV:=.agg [nI (nh (1,1) ((aD s).take i)).1,nI (nh (1,1) ((aD s).take i)).2]
theorem nC {s:ByteArray} {i:Nat} (hi:i<=s.size) (hs:s.size<=1000000000):ay aj 210 [nS s,nI (i:Int)] (.aK [An s i,nI 0]):=by
 have hl:=cA s;refine Tt (az.neg (decide_eq_false (by omega)) (az.neg (decide_eq_false (by omega)) ⟨Tu rfl,?_⟩));refine iD.v8 (fun n:Nat=>(((i:Int),()),(0,0,()),(0,()),((n:Int),()),())) ZQ (mB s (s.size+1) 0) (PD hs)
  (fun rest n=>∃f a,rest=mB s f a/\a<=i/\s.size+1<=f+a/\n<=a/\nh (1,1) ((aD s).take a)=(((n+1:Nat):Int),1)) 0 rfl ⟨_,_,rfl,aqC _,aqw _,aqw _,rfl⟩ (fun p rest n hI again cj=>?_) fun n hI=>?_
 ·obtain⟨f,a,he,ha,hf,hna,hm⟩:=hI;obtain⟨f,rfl⟩:∃g,f=g+1:=⟨f-1,by omega⟩;rw[mB] at he;obtain⟨rfl,rfl⟩:=List.cons.inj he;have hr:=yz 10 ((aD s).drop a);rw[aqY,hl] at hr;have hz:(s.extract a (a+fA 10 ((aD s).drop a))).size=fA 10 ((aD s).drop a):=by rw[<-cA,mA,arp,aqY,hl];omega
  dsimp only[ZQ];rw[bk (by omega)];have hw:ag .i64 ((a:Int)+(((s.extract a (a+fA 10 ((aD s).drop a))).size:Nat):Int))=(a:Int)+(fA 10 ((aD s).drop a):Nat):=by rw[hz,ba (by omega) (by omega)]
  refine az.intro (fun h=>?_) fun h=>?_
  ·have h:i<=a+fA 10 ((aD s).drop a):=by
    have:=of_decide_eq_true h;rw[hw] at this;omega
   rw[ba (n:=(i:Int)-a) (by omega) (by omega),ba (by omega) (by omega)];have e:(aD s).take i=(aD s).take a++((aD s).drop a).take (i-a):=by rw[<-List.take_add,show a+(i-a)=i by omega]
   have sq:nh (1,1) ((aD s).take i)=(((n+1:Nat):Int),1+((i-a:Nat):Int)):=by
    rw[e,we,hm,HW _ (ND (by omega)),arp,aqY,hl,Nat.min_eq_left (by omega)]
   show _=AV.aK [An s i,nI 0];rw[An,sq];have:(1:Int)+((i-a:Nat):Int)=(i:Int)-a+1:=by omega
   rw[this]
  ·have h:a+fA 10 ((aD s).drop a)<i:=by
    have:=of_decide_eq_false h;rw[hw] at this;omega
   refine cj (n+1) ⟨f,a+fA 10 ((aD s).drop a)+1,if_neg (by omega),by omega,by omega,by omega,?_⟩;have aH:a+fA 10 ((aD s).drop a)<(aD s).length:=by omega
   rw[ary aH,List.take_add,aqT,we,hm,we,HW _ (ND (aqw _))];have hc:(aD s)[a+fA 10 ((aD s).drop a)]=10:=by
    have:=ZP (c:=10) (l:=(aD s).drop a) (by rw[aqY];omega);rw[List.getElem_drop] at this;exact this
   rw[hc];simp[nh]
 ·obtain⟨f,a,he,ha,hf,hna,hm⟩:=hI;obtain⟨f,rfl⟩:∃g,f=g+1:=⟨f-1,by omega⟩;rw[mB] at he;cases he
def jI:Bool->List Int->Nat
 |_,[]=>0
 |r,c::l=>if r||lB c then jI (c != 10&&(r||c==35)) l+1 else 0
theorem Ao:∀(r:Bool) (l:List Int),jI r l<=l.length
 |_,[]=>aqw _
 |r,c::l=>by
  rw[jI,aqy];split
  ·have:=Ao (c != 10&&(r||c==35)) l;omega
  ·omega
theorem Ap:∀(l:List Int),jI true l=if fA 10 l=l.length then l.length else fA 10 l+jI false (l.drop (fA 10 l))
 | []=>rfl
 |c::l=>by
  rw[jI,jV,aqy]
  by_cases h:c=10
  ·subst h;rw[if_pos rfl,if_neg (Nat.ne_of_lt (Nat.succ_pos _)),arX,jI];simp[lB]
  ·have e:(c != 10&&(true||c==35))=true:=by simpa using h
   rw[Bool.true_or,if_pos rfl,e,Ap l,if_neg h]
   by_cases h2:fA 10 l=l.length
   ·rw[if_pos h2,if_pos (by omega)]
   ·rw[if_neg h2,if_neg (by omega),List.drop_succ_cons];omega
theorem K3 (l:List Int):jI false (35::l)=jI true (35::l):=rfl
theorem tt {s:ByteArray} {k:Nat} {c:Int} {l:List Int} (h:(aD s).drop k=c::l):dT s (k:Int)=c/\k<s.size/\(aD s).drop (k+1)=l:=by
 have aH:k<(aD s).length:=by
  rcases Nat.lt_or_ge k (aD s).length with h1|h1
  ·exact h1
  ·rw[aqK h1] at h;cases h
 rw[aqB aH] at h;obtain⟨h1,h2⟩:=List.cons.inj h;exact⟨by rw[uZ aH,h1],by rw[<-cA];exact aH,h2⟩
theorem K4 {s:ByteArray} (hs:s.size<=1000000000):ay aj 212 [nS s] (nI (jI false (aD s):Nat)):=by
 have hl:=cA s;refine Tc ?_;refine aI.intro (fun k:Nat=>((s,(k:Int),()),())) (fun k=>k<=s.size/\jI false (aD s)=k+jI false ((aD s).drop k)) (fun k=>(s.size-k)*2+(if(aD s).drop k=[] then 0 else if((aD s).drop k).head?=some 10 then 0 else 1)) 0 rfl ⟨aqC _,by simp⟩ ?_;intro k ⟨hk,hd⟩ again cj;dsimp only;refine az.intro (fun h=>?_) fun h=>?_
 ·have aH:k<s.size:=by have:=of_decide_eq_true h;omega
  obtain⟨c,l,dK⟩:∃c l,(aD s).drop k=c::l:=⟨_,_,aqB (by omega)⟩;obtain⟨NF,_,BA⟩:=tt dK;refine⟨⟨by omega,by omega⟩,?_⟩;rw[NF];have blank:(lB c=true/\c≠35)->again ((s,ag .i64 ((k:Int)+1),()),()):=fun⟨hb,hc⟩=>by
   rw[bk (by omega)];refine cj (k+1) ⟨by omega,?_⟩ (by split<;>split<;>(try split)<;>omega);have e:(c != 10&&(false||c==35))=false:=by simp[hc]
   rw[hd,dK,jI,arI,if_pos hb,e,<-BA];omega
  have stop:lB c=false->nI (k:Int)=nI ((jI false (aD s):Nat):Int):=fun hb=>by
   rw[hd,dK,jI,hb];simp
  have hash:c=35->0<=(k:Int)/\(k:Int)<=((s.size:Nat):Int)/\((s.size:Nat):Int)<=s.size:=fun _=>⟨by omega,by omega,by omega⟩;have K2:=kT (s:=s.extract k s.size) (c:=10) (by decide) (by decide);rw[jn,HV,aqY,hl] at K2;have hr:=yz 10 ((aD s).drop k);rw[aqY,hl] at hr;have rem:(c==35)=true->∃i53,pI 250 [nS (ByteArray.extract s (af k) (af ((ah s:Nat):Int))),.ax (.int .u8 10)] (nI i53)/\
    az (decide (i53<0)) ((fun r=>r=nI ((jI false (aD s):Nat):Int)) (nI ((ah s:Nat):Int))) (again ((s,ag .i64 ((k:Int)+i53),()),())):=fun hc=>by
   have hc:c=35:=by simpa using hc
   subst hc;refine⟨_,K2,?_⟩;have e:=Ap ((aD s).drop k);rw[aqY,hl] at e;rw[dK,K3,<-dK,e] at hd
   by_cases h1:fA 10 ((aD s).drop k)=s.size-k
   ·rw[if_pos h1] at hd;rw[if_pos h1];refine az.pos rfl ?_;show nI _=nI _;rw[hd];congr 1;congr 1;congr 1;omega
   ·rw[if_neg h1] at hd;rw[if_neg h1];refine az.neg (decide_eq_false (by omega)) ?_;rw[ba (n:=(k:Int)+_) (by omega) (by omega),show (k:Int)+(fA 10 ((aD s).drop k):Nat)=((k+fA 10 ((aD s).drop k):Nat):Int) by omega];have h0:0<fA 10 ((aD s).drop k):=by rw[dK,jV];simp
    refine cj _ ⟨by omega,?_⟩ (by split<;>split<;>(try split)<;>omega);rw[hd,List.drop_drop];omega
  refine az.intro (fun h1=>?_) fun h1=>az.intro (fun h2=>?_) fun h2=>az.intro (fun h3=>?_) fun h3=>az.intro (fun h4=>?_) fun h4=>az.intro (fun h5=>?_) fun h5=>?_
  ·exact az.pos h1 (blank ⟨by unfold lB;rw[h1];rfl,fun e=>by rw[e] at h1;cases h1⟩)
  ·exact az.pos h2 (blank ⟨by unfold lB;rw[h1,h2];rfl,fun e=>by rw[e] at h2;cases h2⟩)
  ·exact az.pos h3 (blank ⟨by unfold lB;rw[h1,h2,h3];rfl,fun e=>by rw[e] at h3;cases h3⟩)
  ·exact blank ⟨by unfold lB;rw[h1,h2,h3,h4];rfl,fun e=>by rw[e] at h4;cases h4⟩
  ·exact⟨hash (by simpa using h5),rem h5⟩
  ·exact stop (by unfold lB;rw[h1,h2,h3,h4,h5];rfl)
 ·have:s.size<=k:=by have:=of_decide_eq_false h;omega
  rw[aqK (by omega)] at hd;rw[hd];rfl
def rp (l:List Int):Nat:=(l.takeWhile isDigit).length
theorem r8 (c:Int) (l:List Int):rp (c::l)=if isDigit c=true then rp l+1 else 0:=by
 unfold rp;rw[asq];split<;>simp
theorem ZR (l:List Int):rp l<=l.length:=by
 induction l with
 |nil=>simp[rp]
 |cons c l ih=>rw[r8,aqy];split<;>omega
theorem Aq {s:ByteArray} (hs:s.size<=1000000000):ay aj 252 [nS s,.bz 254 []] (nI (rp (aD s):Nat)):=by
 refine KI ?_;have hl:=cA s;refine aI.intro (fun k:Nat=>((s,(),(k:Int),()),())) (fun k=>k<=s.size/\rp (aD s)=k+rp ((aD s).drop k)) (fun k=>s.size-k) 0 rfl ⟨aqC _,by simp⟩ ?_;intro k ⟨hk,hm⟩ again cj;dsimp only;refine az.intro (fun h=>?_) fun h=>?_
 ·have aH:k<s.size:=by simpa using h
  have vQ:k<(aD s).length:=by omega
  rw[aqB vQ] at hm;refine⟨⟨by omega,by omega⟩,_,rn,?_⟩;rw[uZ vQ];refine az.intro (fun h=>?_) fun h=>?_
  ·rw[bk (by omega)];refine cj (k+1) ⟨by omega,?_⟩ (by omega);rw[hm,r8,if_pos h];omega
  ·rw[hm,r8,if_neg (by rw[h];simp)];rfl
 ·have:s.size<=k:=by simpa using h
  rw[aqK (by omega)] at hm;rw[hm];simp[rp]
def HX:List Int:=[40,41,92,46,44,59,58,61,62,60,91,93,123,125,33,63,64]
def CX:List Int->Nat
 | []=>0
 |c::l=>if c=45/\l.head?=some 62 then 2 else if c∈HX then 1 else 0
def B5:List Int->Nat×Nat
 | []=>(3,0)
 |c::l=>if iv c=true then(1,runN (c::l)) else if isDigit c=true then(2,rp (c::l)) else(3,CX (c::l))
theorem x9 {s p:ByteArray}:ay aj 268 [nS s,nS p] (nB (decide ((aD s).take p.size=aD p))):=by
 have hl:=cA s;have hp:=cA p;refine Tz ⟨_,TB (R:=fun r=>r=nB (decide ((aD s).take p.size=aD p))) (az.intro (fun h=>?_) fun h=>?_),rfl⟩
 ·have h:p.size<=s.size:=by have:=of_decide_eq_true h;omega
  refine⟨⟨by decide,by omega,by omega⟩,?_⟩;show nB _=nB _;rw[eF];refine my ?_;rw[decide_eq_true_iff,decide_eq_true_iff];have e:aD (s.extract (af 0) (af ((p.size:Nat):Int)))=(aD s).take p.size:=by rw[mA];rfl
  rw[<-e];exact⟨fun h=>by rw[h],mz⟩
 ·have h:s.size<p.size:=by have:=of_decide_eq_false h;omega
  refine(my ?_).symm;rw[decide_eq_true_iff];refine⟨fun e=>?_,fun e=>by cases e⟩;have:=congrArg ab e;rw[arp] at this;omega
theorem K5 {s:ByteArray} (hs:s.size<=1000000000):ay aj 255 [nS s] (nI (CX (aD s):Nat)):=by
 refine Tg ⟨_,x9,?_⟩;have e1:aD (⟨#[45,62]⟩:ByteArray)=[45,62]:=rfl;have e2:(⟨#[45,62]⟩:ByteArray).size=2:=rfl;rw[e1,e2]
 cases hb:aD s with
 |nil=>
  obtain rfl:s=⟨#[]⟩:=mz hb;exact az.neg rfl (az.neg (by rw[eF];rfl) rfl)
 |cons c l=>
  have NF:dT s ((0:Nat):Int)=c/\0<s.size/\_:=tt (by rw[arX];exact hb);have K2:=kT (s:=(⟨#[40,41,92,46,44,59,58,61,62,60,91,93,123,125,33,63,64]⟩:ByteArray)) (c:=c)
   (by have:=u5 s c (by rw[hb];exact aqG);omega) (by have:=u5 s c (by rw[hb];exact aqG);omega)
  rw[<-show dT s (0:Int)=c from NF.1] at K2;have e3:aD (⟨#[40,41,92,46,44,59,58,61,62,60,91,93,123,125,33,63,64]⟩:ByteArray)=HX:=rfl;rw[e3] at K2;have alK:=K2;have Xg:dT s (0:Int)=c:=NF.1;have hsg:decide (HV c HX>=0)=decide (c∈HX):=by
   have key:∀L:List Int,(fA c L=L.length↔c∉L):=by
    intro L
    induction L with
    |nil=>simp[fA]
    |cons b L ih=>
     rw[jV,aqy,aqZ]
     by_cases h:b=c
     ·subst h;simp
     ·rw[if_neg h];have h':¬c=b:=fun e=>h e.symm;simp only[Nat.add_right_cancel_iff,ih,h',false_or]
   unfold HV
   by_cases h:c∈HX
   ·rw[if_neg (fun e=>(key _).1 e h),decide_eq_true h];exact decide_eq_true (by omega)
   ·rw[if_pos ((key _).2 h),decide_eq_false h];rfl
  have h2:decide ((c::l).take 2=[45,62])=decide (c=45/\l.head?=some 62):=by
   cases l with
   |nil=>simp
   |cons d l=>simp
  rw[h2];refine az.intro (fun h=>?_) fun h=>az.pos (by rw[eF,decide_eq_false];rfl;intro e;rw[e] at hb;cases hb) ⟨⟨by decide,by have:=NF.2.1;omega⟩,_,alK,?_⟩
  ·rw[CX,if_pos (of_decide_eq_true h)];rfl
  ·rw[Xg,hsg];refine az.intro (fun h3=>?_) fun h3=>?_
   ·rw[CX,if_neg (of_decide_eq_false h),if_pos (of_decide_eq_true h3)];rfl
   ·rw[CX,if_neg (of_decide_eq_false h),if_neg (of_decide_eq_false h3)];rfl
theorem HY {s:ByteArray} (hs:s.size<=1000000000) (cg:aD s≠[]):ay aj 213 [nS s] (.aK [nI ((B5 (aD s)).1:Nat),nI ((B5 (aD s)).2:Nat)]):=by
 cases hb:aD s with
 |nil=>exact(cg hb).elim
 |cons c l=>
  have NF:dT s ((0:Nat):Int)=c/\0<s.size/\_:=tt (by rw[arX];exact hb);have Xg:dT s (0:Int)=c:=NF.1;have hz:=NF.2.1;refine Td ⟨⟨by decide,by omega⟩,_,pK,?_⟩;rw[Xg];refine az.intro (fun h=>⟨_,CW hs,?_⟩) fun h=>⟨⟨by decide,by omega⟩,_,rn,az.intro (fun h2=>⟨_,Aq hs,?_⟩) fun h2=>⟨_,K5 hs,?_⟩⟩
  ·rw[B5,if_pos h,hb];rfl
  ·rw[B5,if_neg (by rw[h];decide),if_pos h2,hb];rfl
  ·rw[B5,if_neg (by rw[h];decide),if_neg (by rw[h2];decide),hb];rfl
def VK (c:Int):ByteArray:=if c<33\/c>126 then⟨#[]⟩ else strOfNums [c]
theorem B6 {c:Int}:ay aj 214 [.ax (.int .u8 c)] (nS (VK c)):=by
 refine Te (az.intro (fun h=>?_) fun h=>az.intro (fun h2=>?_) fun h2=>?_)
 ·rw[VK,if_pos (.inl (of_decide_eq_true h))]
 ·rw[VK,if_pos (.inr (of_decide_eq_true h2))]
 ·rw[VK,if_neg (by have:=of_decide_eq_false h;have:=of_decide_eq_false h2;omega)]
def CY (s:ByteArray):ByteArray:=s.extract 0 (if 10<s.size then 10 else s.size)
theorem xi {s:ByteArray}:ay aj 215 [nS s] (nS (CY s)):=by
 refine Tf ⟨⟨by decide,by split<;>omega,by split<;>omega⟩,?_⟩;rw[CY]
 by_cases h:10<s.size
 ·rw[if_pos h,if_pos (by omega)];rfl
 ·rw[if_neg h,if_neg (by omega)];rfl
abbrev Fa:=Int×Int×Int×ByteArray
abbrev K6 (f:Fa):List AV:=[nI f.1,nI f.2.1,nI f.2.2.1,nS f.2.2.2]
def pL:Fa:=(0,0,0,⟨#[]⟩)
def K7 (s:ByteArray) (code:Int) (i:Nat) (w:ByteArray):Fa:=(code,(nh (1,1) ((aD s).take i)).1,(nh (1,1) ((aD s).take i)).2,w)
def iQ (s:ByteArray) (i:Nat):Nat:=i+jI false ((aD s).drop i)
def sB (s:ByteArray) (i:Nat):Nat×Nat:=B5 ((aD s).drop i)
def EI (s:ByteArray):Nat->Nat->List Tk->List Tk×Int×Nat×ByteArray
 |0,_,acc=>(acc,0,0,⟨#[]⟩)
 |f+1,i,acc=>if iQ s i=s.size then(acc,0,0,⟨#[]⟩)
  else if(sB s (iQ s i)).2=0 then([],3,iQ s i,VK (dT s (iQ s i)))
  else if((sB s (iQ s i)).1=1/\30<(sB s (iQ s i)).2)\/((sB s (iQ s i)).1=2/\9<(sB s (iQ s i)).2) then([],2,iQ s i,CY (s.extract (iQ s i) (iQ s i+(sB s (iQ s i)).2)))
  else EI s f (iQ s i+(sB s (iQ s i)).2) (acc++[((((sB s (iQ s i)).1:Nat):Int),s.extract (iQ s i) (iQ s i+(sB s (iQ s i)).2),((iQ s i:Nat):Int))])
def VL (s:ByteArray) (r:List Tk×Int×Nat×ByteArray):List Tk×Fa:=if r.2.1=0 then(r.1,pL) else([],K7 s r.2.1 r.2.2.1 r.2.2.2)
def da (s:ByteArray):List Tk×Fa:=if s.size>20000 then([],(2,1,1,⟨#[]⟩)) else VL s (EI s (s.size+1) 0 [])
theorem NG:∀l:List Int,(B5 l).2<=l.length
 | []=>aqw _
 |c::l=>by
  have h1:=ZN (c::l);have h2:=ZR (c::l);rw[B5];split
  ·exact h1
  ·split
   ·exact h2
   ·rw[CX];split
    ·rename_i h;obtain⟨d,hd⟩:∃d,l.head?=some d:=⟨_,h.2⟩
     cases l with
     |nil=>cases hd
     |cons d l=>simp
    ·split<;>simp
theorem qk {s w:ByteArray} {f:Fa} {us:List AV} {i:Nat} {c:Int} (hi:i<=s.size) (hs:s.size<=1000000000):aY aj 209 [nI c,nS w,.ptr 0 0,.ptr 3 0] (CQ s f.1 f.2.1 f.2.2.1 f.2.2.2 us.length (i:Int) us)
  (fun r hp'=>r=.aK [.ax (.slice none 0 0),.agg (K6 (K7 s c i w))]/\hp'=CQ s f.1 f.2.1 f.2.2.1 f.2.2.2 us.length (i:Int) us):=
 S8 ⟨_,_,_,nC hi hs,rfl,rfl⟩
theorem Ar {s:ByteArray} {f:Fa} {us:List Tk} {i n:Nat} {k:Int} (hi:i+n<=s.size) (hs:s.size<=1000000000) (hu:us.length<=1000000000):aY aj 211 [nI k,nI (n:Int),.ptr 2 0,.ptr 0 0,.ptr 3 0] (CQ s f.1 f.2.1 f.2.2.1 f.2.2.2 (us.map cW).length (i:Int) (us.map cW))
  (fun r hp'=>r=.aK []/\hp'=CQ s f.1 f.2.1 f.2.2.1 f.2.2.2 ((us++[(k,s.extract i (i+n),(i:Int))]).map cW).length ((i+n:Nat):Int) ((us++[(k,s.extract i (i+n),(i:Int))]).map cW)):=by
 refine S9 ?_;have w:ag .i64 ((i:Int)+(n:Int))=((i+n:Nat):Int):=by rw[ba (by omega) (by omega)];omega
 unfold aa9;rw[w];have e:=ZO us (k,s.extract i (i+n),(i:Int));refine⟨⟨by omega,by omega,by omega⟩,rfl,bJ rfl (by simp;omega) (by decide),rfl,?_⟩;rw[<-e];rfl
theorem As {s:ByteArray} (hs:s.size<=1000000000):ay aj 136 [nS s] (.aK [.sl ((da s).1.map cW),.agg (K6 (da s).2)]):=by
 have hl:=cA s;refine S6 ?_;refine az.intro (fun h=>?_) fun h=>?_
 ·have h:s.size>20000:=by have:=of_decide_eq_true h;omega
  rw[da,if_pos h];rfl
 refine⟨rfl,?_⟩;have cx:¬s.size>20000:=by have:=of_decide_eq_false h;omega
 have hsp:da s=VL s (EI s (s.size+1) 0 []):=if_neg cx;refine aI.intro (fun p:Nat×Nat×List Tk=>(((),(),(),(),((),(),()),((),(),(),()),()),((s,()),(0,0,0,⟨#[]⟩,()),((),()),((p.2.1:Int),()),p.2.2.map cW,()))) (fun p=>p.2.1<=s.size/\s.size+1<=p.1+p.2.1/\p.2.2.length<=p.2.1/\da s=VL s (EI s p.1 p.2.1 p.2.2)) (fun p=>s.size-p.2.1)
  (s.size+1,0,[]) rfl ⟨aqC _,by dsimp only;omega,aqw _,hsp⟩ ?_
 intro ⟨f,i,acc⟩ ⟨hi,hf,hac,hd⟩ again cj;dsimp only at hi hf hac hd ⊢;obtain⟨f,rfl⟩:∃g,f=g+1:=⟨f-1,by omega⟩;have NH:=K4 (s:=s.extract i s.size) (by rw[ar3];omega);rw[jn] at NH;have hle:=Ao false ((aD s).drop i);rw[aqY,hl] at hle;have w1:ag .i64 ((i:Int)+((jI false ((aD s).drop i):Nat):Int))=((iQ s i:Nat):Int):=by rw[ba (by omega) (by omega),iQ];omega
 have ha:iQ s i<=s.size:=by rw[iQ];omega
 have hai:i<=iQ s i:=by rw[iQ];omega
 refine⟨⟨by omega,by omega,by omega⟩,_,NH,?_⟩;rw[w1];rw[EI] at hd;clear w1 NH hle;generalize hA:iQ s i=a at ha hai hd ⊢;refine az.intro (fun h1=>⟨rfl,?_⟩) fun h1=>?_
 ·have h1:a=s.size:=by have:=eq_of_beq h1;omega
  rw[if_pos h1] at hd;rw[hd];rfl
 have h1:¬a=s.size:=fun e=>by rw[e] at h1;simp at h1
 rw[if_neg h1] at hd;have hfi:=HY (s:=s.extract a s.size) (by rw[ar3];omega) (by rw[jn];intro e;have:=congrArg ab e;rw[aqY,hl] at this;simp at this;omega);rw[jn] at hfi;have Gt:=NG ((aD s).drop a);rw[aqY,hl] at Gt;change ay _ _ _ (.aK [nI ((sB s a).1:Nat),nI ((sB s a).2:Nat)]) at hfi;change (sB s a).2<=_ at Gt;refine⟨⟨by omega,by omega,by omega⟩,_,_,hfi,?_⟩;generalize hT:sB s a=t at Gt hd ⊢;obtain⟨k,n⟩:=t;dsimp only at Gt hd ⊢;have acX:(k=1/\30<n\/k=2/\9<n)->¬n=0->nI (0:Int)=nI 0->AV.aK [.sl [],.agg (K6 (K7 s 2 a (CY (s.extract a (a+n)))))]=AV.aK [.sl ((da s).1.map cW),.agg (K6 (da s).2)]:=fun h h0 _=>by
  rw[if_neg h0,if_pos h] at hd;rw[hd];rfl
 have w2:ag .i64 ((a:Int)+(n:Int))=((a+n:Nat):Int):=by rw[ba (by omega) (by omega)];omega
 have cut:¬(k=1/\30<n\/k=2/\9<n)->¬n=0->aF 211 [nI (k:Int),nI (n:Int),.ptr 2 0,.ptr 0 0,.ptr 3 0] (CQ s 0 0 0 ⟨#[]⟩ (acc.map cW).length (a:Int) (acc.map cW)) fun r q=>∃l s2 i1 i2 i3 w i,(r=.aK []/\q=CQ s2 i1 i2 i3 w (ab l) i l)/\ab l=ab l/\
   again (((),(),(),(),((),(),()),((),(),(),()),()),((s2,()),(i1,i2,i3,w,()),((),()),(i,()),l,())):=fun h h0=>by
  rw[if_neg h0,if_neg h] at hd;exact⟨_,Ar (f:=pL) (by omega) hs (by omega),fun r q ⟨e1,e2⟩=>⟨_,_,_,_,_,_,_,⟨e1,e2⟩,rfl,cj (f,a+n,acc++[((k:Int),s.extract a (a+n),(a:Int))]) ⟨by dsimp only;omega,by dsimp only;omega,by simp;omega,hd⟩ (by dsimp only;omega)⟩⟩
 have rest:∀b:Bool,(b=true->(k=1/\30<n\/k=2/\9<n))->(b=false->¬(k=1/\30<n\/k=2/\9<n))->¬n=0->
   r7 b (a:Int) (n:Int) s 0 0 0 ⟨#[]⟩ (acc.map cW).length (acc.map cW) (fun r=>r=.aK [.sl ((da s).1.map cW),.agg (K6 (da s).2)]) (k:Int) again:=fun b ui K8 h0=>by
  refine az.intro (fun h=>?_) fun h=>cut (K8 h) h0;rw[w2];exact⟨⟨by omega,by omega,by omega⟩,_,xi,_,qk (f:=pL) (by omega) hs,fun r q ⟨e1,e2⟩=>⟨_,_,_,_,_,_,_,_,_,_,_,⟨e1,e2⟩,acX (ui h) h0 rfl⟩⟩
 refine az.intro (fun h2=>?_) fun h2=>?_
 ·have h2:n=0:=by have:=eq_of_beq h2;omega
  rw[if_pos h2] at hd;refine⟨⟨by omega,by omega⟩,_,B6,_,qk (f:=pL) (by omega) hs,fun r q ⟨e1,e2⟩=>⟨_,_,_,_,_,_,_,_,_,_,_,⟨e1,e2⟩,?_⟩⟩;rw[hd];rfl
 have h0:¬n=0:=fun e=>by subst e;cases h2
 refine az.intro (fun h3=>az.intro (fun h4=>?_) fun h4=>az.intro (fun h5=>?_) fun h5=>?_) fun h3=>az.intro (fun h5=>?_) fun h5=>?_
 ·have h3:k=1:=by have:=eq_of_beq h3;omega
  have h4':30<n:=by have:=of_decide_eq_true h4;omega
  rw[h4];exact rest _ (fun _=>.inl ⟨h3,h4'⟩) (fun h=>by cases h) h0
 ·have h3:k=1:=by have:=eq_of_beq h3;omega
  have h5:k=2:=by have:=eq_of_beq h5;omega
  omega
 ·have h3:k=1:=by have:=eq_of_beq h3;omega
  have h4:¬30<n:=by have:=of_decide_eq_false h4;omega
  exact cut (by omega) h0
 ·have h5:k=2:=by have:=eq_of_beq h5;omega
  exact rest _ (fun h=>.inr ⟨h5,by have:=of_decide_eq_true h;omega⟩) (fun h=>by have:=of_decide_eq_false h;omega) h0
 ·have h3:¬k=1:=fun e=>by subst e;cases h3
  have h5:¬k=2:=fun e=>by subst e;cases h5
  exact cut (by omega) h0
theorem At {w:ByteArray}:ib w (⟨#[]⟩:ByteArray)=decide (w.size=0):=by
 rw[eF]
 by_cases h:w.size=0
 ·rw[decide_eq_true h,decide_eq_true (mz (aq4 (by rw[cA];exact h)))]
 ·rw[decide_eq_false h,decide_eq_false (fun e=>h (by rw[e];rfl))]
section
abbrev St:=Nat×Fa
structure PE (L:List Tk) (s:ByteArray):Prop where
 len:L.length<=1000000
 size:s.size<=1000000000
 at_:∀t∈L,0<=t.2.2/\t.2.2<(s.size:Int)
 kind:∀t∈L,t.1≠4
abbrev RO (L:List Tk) (s:ByteArray) (i:Nat):List aw:=iP (L.map cW) s (i:Int)
abbrev PO (L:List Tk) (s:ByteArray) (o:Int) (st:St):List aw:=bg (L.map cW) s (st.1:Int) o st.2.1 st.2.2.1 st.2.2.2.1 st.2.2.2.2
abbrev PQ (L:List Tk) (s:ByteArray) (o:Int) (st:St):List aw:=uH (L.map cW) s (st.1:Int) o st.2.1 st.2.2.1 st.2.2.2.1 st.2.2.2.2
def ZS (s:ByteArray):Tk:=(4,⟨#[]⟩,(s.size:Int))
def pk (L:List Tk) (s:ByteArray) (i:Nat):Tk:=L.getD i (ZS s)
def jz (st:St):Bool:=st.2.1==0
def jJ (L:List Tk) (s:ByteArray) (c:Int) (st:St):St:=if jz st=true then(st.1,K7 s c (pk L s st.1).2.2.toNat (CY (pk L s st.1).2.1)) else st
def FB (w:ByteArray) (t:Tk):Bool:=(t.1==1||t.1==3)&&decide (t.2.1=w)
def dE (L:List Tk) (s w:ByteArray) (st:St):Bool×St:=if(jz st&&FB w (pk L s st.1))=true then(true,(st.1+1,st.2)) else(false,st)
def dF (L:List Tk) (s w:ByteArray) (st:St):St:=if jz st=true then(if FB w (pk L s st.1)=true then(st.1+1,st.2) else jJ L s 3 st) else st
def mQ (L:List Tk) (s:ByteArray) (k:Int) (st:St):Tk×St:=if jz st=true then(if(pk L s st.1).1=k then(pk L s st.1,(st.1+1,st.2)) else((0,⟨#[]⟩,0),jJ L s 3 st)) else((0,⟨#[]⟩,0),st)
variable {L:List Tk} {s w:ByteArray} {o:Int} {st:St} {i n:Nat}
theorem VM (h:i<L.length):pk L s i=L[i]:=by simp[pk,ae,h]
theorem NI (h:L.length<=i):pk L s i=ZS s:=by simp[pk,ae,h]
theorem ah8 (h:PE L s):0<=(pk L s i).2.2/\(pk L s i).2.2<=(s.size:Int):=by
 rcases Nat.lt_or_ge i L.length with h1|h1
 ·rw[VM h1];exact(h.at_ _ (aqL h1)).imp id Int.le_of_lt
 ·rw[NI h1];exact⟨by simp[ZS],Int.le_refl _⟩
theorem u7 (h:PE L s) (hk:(pk L s i).1≠4):i<L.length:=by
 rcases Nat.lt_or_ge i L.length with h1|h1
 ·exact h1
 ·rw[NI h1] at hk;exact(hk rfl).elim
theorem EJ (h:FB w (pk L s i)=true):i<L.length:=by
 rcases Nat.lt_or_ge i L.length with h1|h1
 ·exact h1
 ·rw[NI h1] at h;simp[FB,ZS] at h
def nD (L:List Tk) (st st':St):Prop:=st.1<=st'.1/\(st.1<=L.length->st'.1<=L.length)
theorem nD.refl:nD L st st:=⟨aqw _,id⟩
theorem nD.trans {a b c:St} (h1:nD L a b) (h2:nD L b c):nD L a c:=⟨aqU h1.1 h2.1,fun h=>h2.2 (h1.2 h)⟩
theorem nD.succ (h:st.1<L.length) {f:Fa}:nD L st (st.1+1,f):=⟨by simp,fun _=>by simp;omega⟩
theorem oA {c:Int}:nD L st (jJ L s c st):=by
 unfold jJ;split
 ·exact⟨aqw _,id⟩
 ·exact nD.refl
theorem fU:nD L st (dE L s w st).2:=by
 unfold dE;split
 ·rename_i h;rw[aqv] at h;exact nD.succ (EJ h.2)
 ·exact nD.refl
theorem dx:nD L st (dF L s w st):=by
 unfold dF;split
 ·split
  ·rename_i h;exact nD.succ (EJ h)
  ·exact oA
 ·exact nD.refl
theorem Au (h:PE L s) {k:Int} (hk:k≠4):nD L st (mQ L s k st).2:=by
 unfold mQ;split
 ·split
  ·rename_i h1;exact nD.succ (u7 h (by rw[h1];exact hk))
  ·exact oA
 ·exact nD.refl
theorem dy (h:PE L s) (hi:i<=L.length):aY aj 85 [.ptr 0 0,nI 0] (RO L s i) (fun r q=>r=cW (pk L s i)/\q=RO L s i):=by
 have:=h.len;have hw:ag .i64 (((L.length:Nat):Int)-(i:Int))=(L.length:Int)-i:=ba (by omega) (by omega);have hw2:ag .i64 ((i:Int)+0)=(i:Int):=by rw[Int.add_zero,ba (by omega) (by omega)]
 refine YA (az.neg rfl ?_);rw[aqu];refine az.intro (fun h1=>?_) fun h1=>?_
 ·have h1:=of_decide_eq_true h1;rw[hw] at h1;rw[NI (by omega)];exact⟨rfl,rfl⟩
 ·have h1:=of_decide_eq_false h1;rw[hw] at h1;have aH:i<L.length:=by omega
  rw[hw2];exact⟨by omega,by omega,_,_,_,getD_map aH,by rw[VM aH];rfl,rfl⟩
theorem xj (h:PE L s) (hi:i<=L.length):aY aj 140 [.ptr 0 0] (RO L s i) (fun r q=>r=cW (pk L s i)/\q=RO L s (if i<L.length then i+1 else i)):=by
 have:=h.len;refine Ti ⟨_,dy h hi,fun r q ⟨e1,e2⟩=>⟨_,_,_,_,_,_,⟨e1,e2⟩,?_⟩⟩;rw[aqu];refine az.intro (fun h1=>⟨rfl,?_⟩) fun h1=>⟨rfl,?_⟩
 ·rw[if_pos (by have:=of_decide_eq_true h1;omega),bk (by omega)]
 ·rw[if_neg (by have:=of_decide_eq_false h1;omega)]
theorem Av (h:PE L s) (hi:i<=L.length):aY aj 220 [.ptr 0 0,.clip [nS w]] (RO L s i) (fun r q=>r=nB (FB w (pk L s i))/\q=RO L s (if FB w (pk L s i)=true then i+1 else i)):=by
 have:=h.len;refine aY.ML (ys:=[.ptr 0 0,.sl [nS w]]) ⟨aS.refl _,fT _,ai⟩ ?_;refine Tn ?_;refine aI.intro (fun k:Nat=>(((),[nS w],[nS w],1,(k:Int),()),((L.map cW,s,(i:Int),()),()))) (fun k=>k=0\/k=1/\FB w (pk L s i)=true) (fun k=>1-k) 0 rfl (.inl rfl) ?_;intro k hk again cj;dsimp only;rcases hk with rfl|⟨rfl,hk⟩
 ·refine az.pos rfl ⟨by decide,by show (0:Int)<1;decide,_,rfl,_,dy h hi,fun r q ⟨e1,e2⟩=>⟨_,_,_,_,_,_,⟨e1,e2⟩,?_⟩⟩;rw[eF];have fin:(pk L s i).1=1\/(pk L s i).1=3->az (!(decide ((pk L s i).2.1=w))) (nB false=nB (FB w (pk L s i))/\RO L s i=RO L s (if FB w (pk L s i)=true then i+1 else i)) (again (((),[nS w],[nS w],1,ag .i64 (((0:Nat):Int)+1),()),((L.map cW,s,(i:Int),()),()))):=fun hk=>by
   have hk:((pk L s i).1==1||(pk L s i).1==3)=true:=by simpa using hk
   refine az.intro (fun h1=>?_) fun h1=>?_
   ·have:FB w (pk L s i)=false:=by rw[FB,hk];simpa using h1
    rw[this];exact⟨rfl,rfl⟩
   ·refine cj 1 (.inr ⟨rfl,?_⟩) (by decide);rw[FB,hk];simpa using h1
  refine az.intro (fun h1=>az.intro (fun h2=>?_) fun h2=>fin (.inr (by simpa using h2))) fun h1=>fin (.inl (by simpa using h1));have:FB w (pk L s i)=false:=by
   have h1:¬(pk L s i).1=1:=by simpa using h1
   have h2:¬(pk L s i).1=3:=by simpa using h2
   simp[FB,h1,h2]
  rw[this];exact⟨rfl,rfl⟩
 ·refine az.neg rfl ⟨by rw[hk],?_⟩;have e:ag .i64 ((i:Int)+1)=((i+1:Nat):Int):=bk (by omega);show iP _ _ (ag .i64 ((i:Int)+1))=_;rw[if_pos hk,e]
theorem EK (h:PE L s) (hi:i<=L.length):aY aj 217 [.ptr 0 0] (RO L s i) (fun r q=>r=An s (pk L s i).2.2.toNat/\q=RO L s i):=by
 have ha:=ah8 (i:=i) h;have hp:ay aj 210 [nS s,nI (pk L s i).2.2] (.aK [An s (pk L s i).2.2.toNat,nI 0]):=by
  have:=nC (s:=s) (i:=(pk L s i).2.2.toNat) (by omega) h.size
  rwa [show (((pk L s i).2.2.toNat:Nat):Int)=(pk L s i).2.2 by omega] at this
 have key:uK (L.map cW) s (i:Int) (fun r q=>r=An s (pk L s i).2.2.toNat/\q=RO L s i):=
  ⟨_,dy h hi,fun r q ⟨e1,e2⟩=>⟨_,_,_,_,_,_,⟨e1,e2⟩,_,_,_,hp,az.pos rfl ⟨rfl,rfl⟩⟩⟩
 have aia:tn (L.map cW) s (i:Int) (fun r q=>r=An s (pk L s i).2.2.toNat/\q=RO L s i):=
  ⟨_,dy h hi,fun r q ⟨e1,e2⟩=>⟨_,_,_,_,_,_,⟨e1,e2⟩,_,_,_,hp,az.pos rfl ⟨rfl,rfl⟩⟩⟩
 exact Tp ⟨⟨key,key⟩,aia,key,aia⟩
theorem HZ (h:PE L s) (hi:i<=L.length) {c:Int}:aY aj 138 [.ptr 0 0,nI c] (RO L s i) (fun r q=>r=.agg (K6 (K7 s c (pk L s i).2.2.toNat (CY (pk L s i).2.1)))/\q=RO L s i):=
 Tq ⟨_,EK h hi,fun r q ⟨e1,e2⟩=>⟨_,_,_,_,_,⟨e1,e2⟩,_,dy h hi,fun r q ⟨e1,e2⟩=>⟨_,_,_,_,_,_,⟨e1,e2⟩,_,xi,rfl,rfl⟩⟩⟩
theorem ck:aY aj 84 [.ptr 1 0] (PO L s o st) (fun r q=>r=nB (jz st)/\q=PO L s o st):=YC ⟨rfl,rfl⟩
theorem fD (h:PE L s) (hi:st.1<=L.length) {c:Int}:aY aj 86 [.ptr 1 0,nI c] (PO L s o st) (fun r q=>r=.aK []/\q=PO L s o (jJ L s c st)):=by
 refine YB ⟨_,ck,fun r q ⟨e1,e2⟩=>⟨_,_,_,_,_,_,_,_,_,⟨e1,e2⟩,az.intro (fun h1=>⟨_,HZ h hi,fun r q ⟨e1,e2⟩=>⟨_,_,_,_,_,_,_,⟨e1,e2⟩,rfl,?_⟩⟩) fun h1=>⟨rfl,?_⟩⟩⟩
 ·rw[jJ,if_pos h1]
 ·rw[jJ,if_neg (by rw[h1];decide)]
theorem kH (h:PE L s) (hi:st.1<=L.length):aY aj 190 [.ptr 1 0,nS w] (PO L s o st) (fun r q=>r=nB (dE L s w st).1/\q=PO L s o (dE L s w st).2):=by
 refine TH ⟨_,ck,fun r q ⟨e1,e2⟩=>⟨_,_,_,_,_,_,_,_,_,⟨e1,e2⟩,az.intro (fun h1=>⟨_,Av h hi,fun r q ⟨e1,e2⟩=>⟨_,_,_,_,⟨e1,e2⟩,?_,?_⟩⟩) fun h1=>⟨?_,?_⟩⟩⟩
 ·rw[dE,h1,arb];split<;>simp_all
 ·rw[dE,h1,arb];split<;>rfl
 ·rw[dE,h1];rfl
 ·rw[dE,h1];rfl
theorem eM (h:PE L s) (hi:st.1<=L.length):aY aj 148 [.ptr 1 0,nS w] (PO L s o st) (fun r q=>r=.aK []/\q=PO L s o (dF L s w st)):=by
 refine TI ⟨_,ck,fun r q ⟨e1,e2⟩=>⟨_,_,_,_,_,_,_,_,_,⟨e1,e2⟩,az.intro (fun h1=>⟨_,Av h hi,fun r q ⟨e1,e2⟩=>⟨_,_,_,_,⟨e1,e2⟩,?_⟩⟩) fun h1=>⟨rfl,?_⟩⟩⟩
 ·cases ht:FB w (pk L s st.1)
  ·refine az.pos rfl ⟨_,fD (st:=st) h hi,fun r q ⟨e1,e2⟩=>⟨_,_,_,_,_,_,_,_,⟨e1,e2⟩,rfl,?_⟩⟩;rw[dF,if_pos h1,ht];rfl
  ·refine az.neg rfl ⟨rfl,?_⟩;rw[dF,if_pos h1,ht];rfl
 ·rw[dF,if_neg (by rw[h1];decide)]
theorem rq {c:Int} (hc:c≠0) (h:jz st=true):jz (jJ L s c st)=false:=by
 rw[jJ,if_pos h];simp[jz,K7,hc]
theorem pM (h:PE L s) (hi:st.1<=L.length) {k:Int} (hk:k≠4):aY aj 218 [.ptr 1 0,nI k] (PO L s o st) (fun r q=>r=cW (mQ L s k st).1/\q=PO L s o (mQ L s k st).2):=by
 have bad:∀{st1:St} {R:AV->List aw->Prop},jz st1=false->R (.agg [nI 0,nS ⟨#[]⟩,nI 0]) (PO L s o st1)->uO (L.map cW) s (st1.1:Int) o st1.2.1 st1.2.2.1 st1.2.2.2.1 st1.2.2.2.2 R:=fun h1 hR=>
  ⟨_,ck,fun r q ⟨e1,e2⟩=>⟨_,_,_,_,_,_,_,_,_,⟨e1,e2⟩,az.pos (by rw[h1];rfl) hR⟩⟩
 refine TJ ⟨_,ck,fun r q ⟨e1,e2⟩=>⟨_,_,_,_,_,_,_,_,_,⟨e1,e2⟩,az.intro (fun h1=>⟨_,dy h hi,fun r q ⟨e1,e2⟩=>⟨_,_,_,_,_,_,⟨e1,e2⟩,az.intro (fun h2=>?_) fun h2=>?_⟩⟩) fun h1=>?_⟩⟩
 ·have h2:¬(pk L s st.1).1=k:=by simpa using h2
  refine⟨_,fD (st:=st) h hi,fun r q ⟨e1,e2⟩=>⟨_,_,_,_,_,_,_,_,⟨e1,e2⟩,bad (rq (by decide) h1) ?_⟩⟩;rw[mQ,if_pos h1,if_neg h2];exact⟨rfl,rfl⟩
 ·have h2:(pk L s st.1).1=k:=by simpa using h2
  have aH:=u7 (L:=L) (s:=s) (i:=st.1) h (by rw[h2];exact hk);refine⟨_,ck (st:=st),fun r q ⟨e1,e2⟩=>⟨_,_,_,_,_,_,_,_,_,⟨e1,e2⟩,az.neg (by rw[h1];rfl) ⟨_,xj h hi,fun r q ⟨e1,e2⟩=>⟨_,_,_,_,_,_,⟨e1,e2⟩,?_,?_⟩⟩⟩⟩
  ·rw[mQ,if_pos h1,if_pos h2];rfl
  ·rw[mQ,if_pos h1,if_pos h2,if_pos aH]
 ·refine bad (st1:=st) h1 ?_;rw[mQ,if_neg (by rw[h1];decide)];exact⟨rfl,rfl⟩
def bM (L:List Tk) (s:ByteArray) (st:St):ByteArray×St:=((mQ L s 1 st).1.2.1,(mQ L s 1 st).2)
theorem cX (h:PE L s):nD L st (bM L s st).2:=Au h (by decide)
theorem dM (h:PE L s) (hi:st.1<=L.length):aY aj 145 [.ptr 1 0] (PO L s o st) (fun r q=>r=nS (bM L s st).1/\q=PO L s o (bM L s st).2):=
 TL ⟨_,pM h hi (by decide),fun r q ⟨e1,e2⟩=>⟨_,_,_,_,_,_,_,_,_,_,_,⟨e1,e2⟩,rfl,rfl⟩⟩
def PF:Int->List Int->Int
 |n,[]=>n
 |n,c::l=>PF (10*n+(c-48)) l
def VN (t:Tk):Int:=if t.1=2/\t.2.1.size≠0/\t.2.1.size<=9/\rp (aD t.2.1)=t.2.1.size then PF 0 (aD t.2.1) else 0
theorem VO (s:ByteArray):jB s=(aD s).map fun c=>.ax (.int .u8 c):=by simp[jB,aD]
theorem VP {l:List Int} (h:rp l=l.length):∀c∈l,48<=c/\c<=57:=by
 induction l with
 |nil=>simp
 |cons c l ih=>
  rw[r8,aqy] at h;split at h
  ·rename_i hc;intro d hd;rcases aqZ.1 hd with rfl|hd
   ·simpa [isDigit] using hc
   ·exact ih (by omega) d hd
  ·omega
theorem H3 {t:Tk}:ay aj 219 [cW t] (.aK [nI (VN t),nI (if t.1=2/\t.2.1.size≠0/\t.2.1.size<=9/\rp (aD t.2.1)=t.2.1.size then 0 else 1)]):=by
 have hl:=cA t.2.1;have no:¬(t.1=2/\t.2.1.size≠0/\t.2.1.size<=9/\rp (aD t.2.1)=t.2.1.size)->AV.aK [nI 0,nI 1]=.aK [nI (VN t),nI (if t.1=2/\t.2.1.size≠0/\t.2.1.size<=9/\rp (aD t.2.1)=t.2.1.size then 0 else 1)]:=fun h=>by rw[VN,if_neg h,if_neg h]
 refine TG (az.intro (fun h1=>no fun c=>?_) fun h1=>az.intro (fun h2=>no fun c=>?_) fun h2=>az.intro (fun h3=>no fun c=>?_) fun h3=>?_)
 ·rw[c.1] at h1;cases h1
 ·rw[At] at h2;exact c.2.1 (of_decide_eq_true h2)
 ·have:=of_decide_eq_true h3;omega
 have h1:t.1=2:=by simpa using h1
 have h2:¬t.2.1.size=0:=by rw[At] at h2;exact of_decide_eq_false h2
 have h3:t.2.1.size<=9:=by have:=of_decide_eq_false h3;omega
 refine⟨_,Aq (by omega),az.intro (fun h4=>no fun c=>?_) fun h4=>⟨by omega,?_⟩⟩
 ·rw[c.2.2.2] at h4;simp at h4
 have h4:rp (aD t.2.1)=t.2.1.size:=by
  have:((rp (aD t.2.1):Nat):Int)=(t.2.1.size:Int):=by simpa using h4
  omega
 have DO:=VP (by rw[hl];exact h4);rw[VO,aqu,hl];refine aI.intro (fun p:Nat×Int=>((p.2,(aD t.2.1).map (fun c=>.ax (.int .u8 c)),((t.2.1.size:Nat):Int),(p.1:Int),()),((t.1,t.2.1,t.2.2,()),()))) (fun p=>p.1<=t.2.1.size/\PF 0 (aD t.2.1)=PF p.2 ((aD t.2.1).drop p.1)/\0<=p.2/\p.2<(10 ^ p.1:Nat)) (fun p=>t.2.1.size-p.1) (0,0) rfl ⟨aqC _,rfl,Int.le_refl _,by decide⟩ ?_;intro ⟨k,n⟩ ⟨hk,hd,oY,XH⟩ again cj;dsimp only at hk hd oY XH ⊢;refine az.intro (fun h=>?_) fun h=>?_
 ·have aH:k<t.2.1.size:=by have:=of_decide_eq_true h;omega
  have vQ:k<(aD t.2.1).length:=by omega
  have hc:=DO _ (aqL vQ);rw[aqB vQ,PF] at hd;have hp:(10 ^ k:Nat)<=10 ^ 8:=Nat.pow_le_pow_right (by decide) (by omega);have hp9:(10 ^ 8:Nat)=100000000:=by decide
  have hw:ag .u8 ((aD t.2.1)[k]-48)=(aD t.2.1)[k]-48:=by
   have key:∀d:Fin 10,ag .u8 ((d.val:Nat):Int)=((d.val:Nat):Int):=by decide
   have:=key ⟨((aD t.2.1)[k]-48).toNat,by omega⟩
   rwa [show ((((aD t.2.1)[k]-48).toNat:Nat):Int)=(aD t.2.1)[k]-48 by omega] at this
  refine⟨by omega,by rw[aqu];omega,_,getD_map vQ,?_⟩;rw[hw,ba (n:=10*n) (by omega) (by omega),ba (n:=(aD t.2.1)[k]-48) (by omega) (by omega),ba (by omega) (by omega),bk (by omega)];refine cj (k+1,_) ⟨by dsimp only;omega,hd,by dsimp only;omega,?_⟩ (by dsimp only;omega);dsimp only;have:(10 ^ (k+1):Nat)=10*10 ^ k:=by rw[Nat.pow_succ];omega
  rw[this];omega
 ·have jM:t.2.1.size<=k:=by have:=of_decide_eq_false h;omega
  rw[aqK (by omega),PF] at hd;rw[VN,if_pos ⟨h1,h2,h3,h4⟩,if_pos ⟨h1,h2,h3,h4⟩,hd]
def Aw (L:List Tk) (s:ByteArray) (st:St):Int×St:=(VN (mQ L s 2 st).1,(mQ L s 2 st).2)
theorem Ax (h:PE L s):nD L st (Aw L s st).2:=Au h (by decide)
theorem Ay (h:PE L s) (hi:st.1<=L.length):aY aj 147 [.ptr 1 0] (PO L s o st) (fun r q=>r=nI (Aw L s st).1/\q=PO L s o (Aw L s st).2):=
 TQ ⟨_,pM h hi (by decide),fun r q ⟨e1,e2⟩=>⟨_,_,_,_,_,_,_,_,_,_,_,⟨e1,e2⟩,_,_,H3,rfl,rfl⟩⟩
def xk (L:List Tk) (s:ByteArray) (st:St):Bool:=jz st&&((pk L s st.1).1==1||((pk L s st.1).1==3&&decide ((pk L s st.1).2.1=(⟨#[40]⟩:ByteArray))))
theorem H4 (h:PE L s) (hi:st.1<=L.length):aY aj 201 [.ptr 1 0] (PO L s o st) (fun r q=>r=nB (xk L s st)/\q=PO L s o st):=by
 refine TX ⟨_,dy h hi,fun r q ⟨e1,e2⟩=>⟨_,_,_,_,_,_,⟨e1,e2⟩,_,ck (st:=st),fun r q ⟨e1,e2⟩=>⟨_,_,_,_,_,_,_,_,_,⟨e1,e2⟩,az.intro (fun h1=>az.intro (fun h2=>⟨?_,rfl⟩) fun h2=>az.intro (fun h3=>⟨?_,rfl⟩) fun h3=>⟨?_,rfl⟩) fun h1=>⟨?_,rfl⟩⟩⟩⟩
 ·rw[xk,h1,h2];rfl
 ·rw[xk,h1,h2,h3,eF];rfl
 ·rw[xk,h1,h2,h3];rfl
 ·rw[xk,h1];rfl
end
inductive Rw where
 |mk (kind:Int) (type:Ty) (index:Int) (kids:List Rw)
mutual
def Rw.enc:Rw->AV
 | .mk k t i l=>.agg [nI k,.sl (t.args.map Ty.enc),nI t.base,nI i,.sl (Rw.pF l)]
def Rw.pF:List Rw->List AV
 | []=>[]
 |t::l=>Rw.enc t::Rw.pF l
end
mutual
def Rw.total:Rw->Nat
 | .mk _ t _ l=>1+t.size+Rw.cJ l
def Rw.cJ:List Rw->Nat
 | []=>0
 |t::l=>Rw.total t+Rw.cJ l
end
mutual
def Rw.size:Rw->Nat
 | .mk _ _ _ l=>1+Rw.sizes l
def Rw.sizes:List Rw->Nat
 | []=>0
 |t::l=>Rw.size t+Rw.sizes l
end
def Rw.kind:Rw->Int | .mk k _ _ _=>k
def Rw.type:Rw->Ty | .mk _ t _ _=>t
def Rw.index:Rw->Int | .mk _ _ i _=>i
def Rw.kids:Rw->List Rw | .mk _ _ _ l=>l
theorem Rw.uX (k:Int) (t:Ty) (i:Int) (l:List Rw):(Rw.mk k t i l).kind=k:=rfl
theorem Rw.ZT (k:Int) (t:Ty) (i:Int) (l:List Rw):(Rw.mk k t i l).type=t:=rfl
theorem Rw.rj (k:Int) (t:Ty) (i:Int) (l:List Rw):(Rw.mk k t i l).index=i:=rfl
theorem Rw.EL (k:Int) (t:Ty) (i:Int) (l:List Rw):(Rw.mk k t i l).kids=l:=rfl
theorem Rw.pG (l:List Rw):Rw.pF l=l.map Rw.enc:=by
 induction l with
 |nil=>rfl
 |cons t l ih=>simp[Rw.pF,ih]
theorem Rw.aG (r:Rw):r.enc=.agg [nI r.kind,.sl (r.type.args.map Ty.enc),nI r.type.base,nI r.index,.sl (r.kids.map Rw.enc)]:=by cases r;simp[Rw.enc,Rw.pG,Rw.kind,Rw.type,Rw.index,Rw.kids]
theorem Rw.ia (k:Int) (t:Ty) (i:Int) (l:List Rw):(Rw.mk k t i l).enc=.agg [nI k,.sl (t.args.map Ty.enc),nI t.base,nI i,.sl (l.map Rw.enc)]:=Rw.aG _
theorem Rw.bh {l:List Rw} {k:Nat} (h:k<l.length):ae (l.map Rw.enc) (af (k:Int)) .top=.agg [nI l[k].kind,.sl (l[k].type.args.map Ty.enc),nI l[k].type.base,nI l[k].index,.sl (l[k].kids.map Rw.enc)]:=by rw[getD_map h,Rw.aG]
theorem Rw.mC (r:Rw):r.total=1+r.type.size+Rw.cJ r.kids:=by cases r;rfl
theorem Rw.gP (r:Rw):2<=r.total:=by have:=r.type.size_pos;rw[r.mC];omega
theorem Rw.pN (l:List Rw):l.length<=Rw.cJ l:=by
 induction l with
 |nil=>simp[Rw.cJ]
 |cons t l ih=>have:=t.gP;simp[Rw.cJ];omega
theorem Rw.K9 {l:List Rw} {t:Rw} (h:t∈l):t.total<=Rw.cJ l:=by
 induction l with
 |nil=>cases h
 |cons u l ih=>
  simp only[Rw.cJ];rcases aqZ.1 h with rfl|h1
  ·omega
  ·have:=ih h1;omega
theorem Rw.sa {t:Rw} {k:Nat} (h:k<t.kids.length):t.kids[k].total<t.total:=by
 have:=Rw.K9 (aqL h);rw[t.mC];omega
theorem Rw.size_eq (r:Rw):r.size=1+Rw.sizes r.kids:=by cases r;rfl
theorem Rw.bW (l m:List Rw):Rw.sizes (l++m)=Rw.sizes l+Rw.sizes m:=by
 induction l with
 |nil=>simp[Rw.sizes]
 |cons t l ih=>simp[Rw.sizes,ih];omega
mutual
theorem Rw.size_le:∀(r:Rw),r.size<=r.total
 | .mk k t i l=>by have:=Rw.Az l;simp only[Rw.size,Rw.total];omega
theorem Rw.Az:∀(l:List Rw),Rw.sizes l<=Rw.cJ l
 | []=>aqw _
 |t::l=>by have:=Rw.size_le t;have:=Rw.Az l;simp only[Rw.sizes,Rw.cJ];omega
end
theorem Rw.iu (l:List Rw) (t:Rw):l.map Rw.enc++[.agg [nI t.kind,.sl (t.type.args.map Ty.enc),nI t.type.base,nI t.index,.sl (t.kids.map Rw.enc)]]=(l++[t]).map Rw.enc:=by rw[<-Rw.aG];simp
theorem jW {t:Ty} (h:t.size<=900000000):ay aj 55 [.agg [.sl (t.args.map Ty.enc),nI t.base],.sl []] (.agg [.sl (t.args.map Ty.enc),nI t.base]):=by
 have:=kG (t:=t) (l:=[]) (by simp only[Ty.sizes];omega);rw[Ty.arrow,arF,Ty.eta,Ty.aG] at this;exact this
theorem Rw.Lb {l:List Rw} {k:Nat} (h:k<l.length):Rw.sizes (l.take (k+1))=Rw.sizes (l.take k)+l[k].size:=by
 rw[<-cO h,Rw.bW];simp[Rw.sizes]
theorem Rw.B7 (l:List Rw) (k:Nat):Rw.sizes (l.take k)<=Rw.sizes l:=by
 have e:=Rw.bW (l.take k) (l.drop k);rw[ars] at e;omega
theorem ZU:∀(n:Nat) (t:Rw),t.total<=n->n<=500000000->ay aj 241 [t.enc] (nI (t.size:Nat)):=by
 intro n
 induction n with
 |zero=>intro t h;have:=t.gP;omega
 |succ n ih=>
  intro t h hn;have hq:=Rw.pN t.kids;have CT:=t.mC;have XE:=Rw.Az t.kids;rw[Rw.aG];refine UC ?_;unfold abc;refine aI.intro (fun k:Nat=>(((),((1+Rw.sizes (t.kids.take k):Nat):Int),(k:Int),()),((t.kind,t.type.args.map Ty.enc,t.type.base,t.index,t.kids.map Rw.enc,()),())))
   (fun k=>k<=t.kids.length) (fun k=>t.kids.length-k) 0 (by simp[Rw.sizes]) (aqC _) ?_
  intro k hk again cj;dsimp only;rw[aqu];refine az.intro (fun h=>?_) fun h=>?_
  ·have aH:k<t.kids.length:=by simpa using h
   have hi:=ih t.kids[k] (by have:=Rw.sa aH;omega) (by omega);have hsn:=Rw.Lb aH;have hle:=Rw.B7 t.kids (k+1);rw[Rw.aG] at hi;refine⟨by omega,by omega,_,_,_,_,_,Rw.bh aH,_,hi,?_⟩;rw[bk (by omega),ba (n:=((1+Rw.sizes (t.kids.take k):Nat):Int)+(t.kids[k].size:Nat)) (by omega) (by omega),
    show ((1+Rw.sizes (t.kids.take k):Nat):Int)+(t.kids[k].size:Nat)=((1+Rw.sizes (t.kids.take (k+1)):Nat):Int) from by omega]
   exact cj (k+1) (by omega) (by omega)
  ·have:t.kids.length<=k:=by simpa using h
   rw[aqP this,<-t.size_eq]
def arity (k:Int):Int:=if k=0\/k=1\/k=2 then 0 else if k=3 then 1 else if k=4 then 2 else -1
theorem Lc (k:Int):ay aj 261 [nI k] (nI (arity k)):=by
 refine UK ?_;unfold abf arity
 by_cases h0:k=0
 ·subst h0;exact az.pos rfl (az.pos rfl rfl)
 refine az.neg (by simpa using h0) ?_
 by_cases h1:k=1
 ·subst h1;exact az.pos rfl (az.pos rfl rfl)
 refine az.neg (by simpa using h1) ?_
 by_cases h2:k=2
 ·subst h2;exact az.pos rfl rfl
 refine az.neg (by simpa using h2) ?_;rw[if_neg (by omega)]
 by_cases h3:k=3
 ·subst h3;exact az.pos rfl rfl
 refine az.neg (by simpa using h3) ?_;rw[if_neg h3]
 by_cases h4:k=4
 ·subst h4;exact az.pos rfl rfl
 refine az.neg (by simpa using h4) ?_;rw[if_neg h4]
mutual
def Rw.shaped:Rw->Bool
 | .mk k _ _ l=>decide (arity k=l.length)&&Rw.dI l
def Rw.dI:List Rw->Bool
 | []=>true
 |t::l=>Rw.shaped t&&Rw.dI l
end
theorem Rw.wg (t:Rw):Rw.shaped t=(decide (arity t.kind=t.kids.length)&&Rw.dI t.kids):=by cases t;rfl
theorem Rw.pO {l:List Rw} {k:Nat} (h:k<l.length):Rw.dI (l.drop k)=(Rw.shaped l[k]&&Rw.dI (l.drop (k+1))):=by
 rw[aqB h,Rw.dI]
mutual
def Rw.depth:Rw->Nat
 | .mk _ _ _ l=>Rw.jo 0 l+1
def Rw.jo:Nat->List Rw->Nat
 |n,[]=>n
 |n,t::l=>Rw.jo (if Rw.depth t>n then Rw.depth t else n) l
end
theorem Rw.H5 (t:Rw):t.depth=Rw.jo 0 t.kids+1:=by cases t;rfl
theorem Rw.H6 {n:Nat} {l:List Rw} {k:Nat} (h:k<l.length):Rw.jo n (l.drop k)=Rw.jo (if Rw.depth l[k]>n then Rw.depth l[k] else n) (l.drop (k+1)):=by
 rw[aqB h,Rw.jo]
mutual
theorem Rw.H7:∀(t:Rw),t.depth<=t.total
 | .mk k t i l=>by have:=Rw.CZ 0 l;simp only[Rw.depth,Rw.total];omega
theorem Rw.CZ:∀(n:Nat) (l:List Rw),Rw.jo n l<=n+Rw.cJ l
 |n,[]=>by simp[Rw.jo,Rw.cJ]
 |n,t::l=>by
  have h1:=Rw.H7 t;have h2:=Rw.CZ (if Rw.depth t>n then Rw.depth t else n) l;simp only[Rw.jo,Rw.cJ]
  by_cases hc:Rw.depth t>n
  ·rw[if_pos hc] at h2 ⊢;omega
  ·rw[if_neg hc] at h2 ⊢;omega
end
theorem Rw.tu {n m:Nat}:∀{l:List Rw},Rw.jo n l<=m↔n<=m/\∀t∈l,t.depth<=m
 | []=>by simp[Rw.jo]
 |t::l=>by
  rw[Rw.jo,Rw.tu (l:=l)];simp only[aqZ,forall_eq_or_imp]
  split<;>constructor
  ·rintro⟨h1,h2⟩;exact⟨by omega,h1,h2⟩
  ·rintro⟨h1,h2,h3⟩;exact⟨h2,h3⟩
  ·rintro⟨h1,h2⟩;exact⟨h1,by omega,h2⟩
  ·rintro⟨h1,h2,h3⟩;exact⟨h1,h3⟩
theorem abk:∀(n:Nat) (t:Rw),t.total<=n->n<=500000000->ay aj 242 [t.enc] (nI (t.depth:Nat)):=by
 intro n
 induction n with
 |zero=>intro t h;have:=t.gP;omega
 |succ n ih=>
  intro t h hn;have hq:=Rw.pN t.kids;have CT:=t.mC;rw[Rw.aG,Rw.H5];refine UJ ?_;unfold abe;refine aI.intro (fun p:Nat×Nat=>(((),(p.2:Int),(p.1:Int),()),((t.kind,t.type.args.map Ty.enc,t.type.base,t.index,t.kids.map Rw.enc,()),())))
   (fun p=>p.1<=t.kids.length/\p.2<=500000000/\Rw.jo 0 t.kids=Rw.jo p.2 (t.kids.drop p.1)) (fun p=>t.kids.length-p.1) (0,0) rfl ⟨aqC _,by dsimp only;omega,rfl⟩ ?_
  intro ⟨k,m⟩ ⟨hk,hm,hs⟩ again cj;dsimp only at hk hm hs ⊢;rw[aqu];refine az.intro (fun h=>?_) fun h=>?_
  ·have aH:k<t.kids.length:=by simpa using h
   have hz:=Rw.sa aH;have hd:=Rw.H7 t.kids[k];have hi:=ih t.kids[k] (by omega) (by omega);rw[Rw.aG] at hi;rw[Rw.H6 aH] at hs;refine⟨by omega,by omega,_,_,_,_,_,Rw.bh aH,_,hi,az.intro (fun h=>?_) fun h=>?_⟩
   ·have h':t.kids[k].depth>m:=by simpa using h
    rw[if_pos h'] at hs;rw[bk (by omega)];exact cj (k+1,t.kids[k].depth) ⟨by dsimp only;omega,by dsimp only;omega,hs⟩ (by dsimp only;omega)
   ·have h':¬t.kids[k].depth>m:=by simpa using h
    rw[if_neg h'] at hs;rw[bk (by omega)];exact cj (k+1,m) ⟨by dsimp only;omega,hm,hs⟩ (by dsimp only;omega)
  ·have:t.kids.length<=k:=by simpa using h
   rw[aqK this] at hs;rw[bk (by omega),hs];rfl
def Rw.bG (t:Rw):Bool:=t.shaped&&(decide (t.size<=5000)&&decide (t.depth<=60))
mutual
def Rw.sound (d left:Int):Rw->Bool×Int
 | .mk k _ _ l=>if left-1<0\/d>60\/¬arity k=l.length then(false,left-1) else Rw.gE (d+1) (left-1) l
def Rw.gE (d left:Int):List Rw->Bool×Int
 | []=>(true,left)
 |t::l=>if(Rw.sound d left t).1=true then Rw.gE d (Rw.sound d left t).2 l else(false,(Rw.sound d left t).2)
end
theorem Rw.VQ (d left:Int) (t:Rw):Rw.sound d left t=if left-1<0\/d>60\/¬arity t.kind=t.kids.length then(false,left-1) else Rw.gE (d+1) (left-1) t.kids:=by cases t;rfl
theorem Rw.H8 {d left:Int} {l:List Rw} {k:Nat} (h:k<l.length):Rw.gE d left (l.drop k)=if(Rw.sound d left l[k]).1=true then Rw.gE d (Rw.sound d left l[k]).2 (l.drop (k+1)) else(false,(Rw.sound d left l[k]).2):=by
 rw[aqB h,Rw.gE]
mutual
theorem Rw.AA:∀(t:Rw) (d left:Nat),1<=d->d<=61->((Rw.sound d left t).1=true↔(t.shaped=true/\t.size<=left/\t.depth+d<=61))/\((Rw.sound d left t).1=true->(Rw.sound d left t).2=(left:Int)-t.size) /\ -1<=(Rw.sound d left t).2/\(Rw.sound d left t).2<=left
 | .mk k ty i l,d,left,hd,OV=>by
  rw[Rw.sound,Rw.shaped,Rw.size,Rw.depth]
  by_cases hc:(left:Int)-1<0\/(d:Int)>60\/¬arity k=l.length
  ·rw[if_pos hc];refine⟨⟨fun h=>(by cases h),fun⟨h1,h2,h3⟩=>?_⟩,fun h=>(by cases h),by dsimp only;omega,by dsimp only;omega⟩;rw[aqv,decide_eq_true_eq] at h1;rcases hc with hc|hc|hc
   ·omega
   ·omega
   ·exact(hc h1.1).elim
  ·rw[if_neg hc];simp only[not_or,Int.not_lt,ar4] at hc;obtain⟨c1,c2,c3⟩:=hc;have e1:(left:Int)-1=((left-1:Nat):Int):=by omega
   have e2:(d:Int)+1=((d+1:Nat):Int):=by omega
   rw[e1,e2];obtain⟨g1,g2,g3,g4⟩:=Rw.C0 l (d+1) (left-1) (by omega) (by omega);refine⟨?_,?_,g3,by omega⟩
   ·rw[g1,c3];simp only[decide_true,arb];have:=Rw.tu (n:=0) (m:=60-d) (l:=l);constructor
    ·rintro⟨h1,h2,h3⟩
     refine⟨h1,by omega,?_⟩;have:=this.2 ⟨aqC _,fun t ht=>by have:=h3 t ht;omega⟩;omega
    ·rintro⟨h1,h2,h3⟩
     exact⟨h1,by omega,fun t ht=>by have:=(this.1 (by omega)).2 t ht;omega⟩
   ·intro h;rw[g2 h];omega
theorem Rw.C0:∀(l:List Rw) (d left:Nat),1<=d->d<=61->((Rw.gE d left l).1=true↔(Rw.dI l=true/\Rw.sizes l<=left/\∀t∈l,t.depth+d<=61))/\((Rw.gE d left l).1=true->(Rw.gE d left l).2=(left:Int)-Rw.sizes l) /\ -1<=(Rw.gE d left l).2/\(Rw.gE d left l).2<=left
 | [],d,left,_,_=>by
  refine⟨⟨fun _=>⟨rfl,aqC _,fun t ht=>(by cases ht)⟩,fun _=>rfl⟩,fun _=>?_,?_,?_⟩
  ·simp[Rw.gE,Rw.sizes]
  ·simp only[Rw.gE];omega
  ·simp only[Rw.gE];omega
 |t::l,d,left,hd,OV=>by
  obtain⟨g1,g2,g3,g4⟩:=Rw.AA t d left hd OV;rw[Rw.gE,Rw.dI,Rw.sizes]
  by_cases hc:(Rw.sound d left t).1=true
  ·rw[if_pos hc];obtain⟨c1,c2,c3⟩:=g1.1 hc;have e:(Rw.sound d left t).2=((left-t.size:Nat):Int):=by rw[g2 hc];omega
   rw[e];obtain⟨k1,k2,k3,k4⟩:=Rw.C0 l d (left-t.size) hd OV;refine⟨?_,?_,k3,by omega⟩
   ·rw[k1,aqv];simp only[aqZ,forall_eq_or_imp];constructor
    ·rintro⟨h1,h2,h3⟩;exact⟨⟨c1,h1⟩,by omega,c3,h3⟩
    ·rintro⟨⟨_,h1⟩,h2,_,h3⟩;exact⟨h1,by omega,h3⟩
   ·intro h;rw[k2 h];omega
  ·rw[if_neg hc];refine⟨⟨fun h=>(by cases h),fun⟨h1,h2,h3⟩=>(hc (g1.2 ?_)).elim⟩,fun h=>(by cases h),g3,g4⟩;rw[aqv] at h1;exact⟨h1.1,by omega,h3 t aqG⟩
end
theorem H9:∀(n:Nat) (t:Rw) (d left:Nat) (h0:Int) (h1:List AV) (h2 h3:Int) (h4:List AV),t.total<=n->n<=500000000->1<=d->d<=61->left<=5000->
  aY aj 238 [t.enc,nI d,.ptr 1 0] [.box [nI h0,.sl h1,nI h2,nI h3,.sl h4],.box [nI left]] (fun r q=>r=nB (Rw.sound d left t).1/\q=[.box [nI h0,.sl h1,nI h2,nI h3,.sl h4],.box [nI (Rw.sound d left t).2]]):=by
 intro n
 induction n with
 |zero=>intro t d left h0 h1 h2 h3 h4 h;have:=t.gP;omega
 |succ n ih=>
  intro t d left h0 h1 h2 h3 h4 h hn hd OV hl;have hq:=Rw.pN t.kids;have CT:=t.mC;have hsd:=Rw.VQ d left t;rw[Rw.aG];refine UH ?_;unfold abd;rw[ba (n:=(left:Int)-1) (by omega) (by omega)];refine az.intro (fun h=>?_) fun h=>?_
  ·have:(left:Int)-1<0:=by simpa using h
   rw[if_pos (.inl this)] at hsd;rw[hsd];exact⟨rfl,rfl⟩
  have c1:¬(left:Int)-1<0:=by simpa using h
  refine az.intro (fun h=>?_) fun h=>?_
  ·have:(d:Int)>60:=by simpa using h
   rw[if_pos (.inr (.inl this))] at hsd;rw[hsd];exact⟨rfl,rfl⟩
  have c2:¬(d:Int)>60:=by simpa using h
  refine⟨_,Lc _,az.intro (fun h=>?_) fun h=>?_⟩
  ·have:¬arity t.kind=t.kids.length:=by simpa using h
   rw[if_pos (.inr (.inr this))] at hsd;rw[hsd];exact⟨rfl,rfl⟩
  have c3:arity t.kind=t.kids.length:=by simpa using h
  rw[if_neg (by simp only[not_or,ar4];exact⟨c1,c2,c3⟩)] at hsd;rw[hsd,show (d:Int)+1=((d+1:Nat):Int) from by omega,show (left:Int)-1=((left-1:Nat):Int) from by omega];refine aI.intro (fun p:Nat×Nat=>(((d:Int),(),t.kids.map Rw.enc,(t.kids.length:Int),(p.1:Int),()),((h0,h1,h2,h3,h4,()),((p.2:Int),()),(t.kind,t.type.args.map Ty.enc,t.type.base,t.index,t.kids.map Rw.enc,()),())))
   (fun p=>p.1<=t.kids.length/\p.2<=5000/\Rw.gE ((d+1:Nat):Int) ((left-1:Nat):Int) t.kids=Rw.gE ((d+1:Nat):Int) (p.2:Int) (t.kids.drop p.1)) (fun p=>t.kids.length-p.1) (0,left-1) (by rw[aqu];rfl) ⟨aqC _,by dsimp only;omega,rfl⟩ ?_
  intro ⟨k,m⟩ ⟨hk,hm,hs⟩ again cj;dsimp only at hk hm hs ⊢;rw[aqu];refine az.intro (fun h=>?_) fun h=>?_
  ·have aH:k<t.kids.length:=by simpa using h
   have hi:=ih t.kids[k] (d+1) m h0 h1 h2 h3 h4 (by have:=Rw.sa aH;omega) (by omega) (by omega) (by omega) hm;obtain⟨g1,g2,g3,g4⟩:=Rw.AA t.kids[k] (d+1) m (by omega) (by omega);rw[Rw.aG] at hi;rw[Rw.H8 aH] at hs;rw[bk (by omega)];refine⟨by omega,by omega,_,_,_,_,_,Rw.bh aH,_,hi,fun r q ⟨hr,hq⟩=>⟨_,_,_,_,_,_,_,⟨hr,hq⟩,az.intro (fun h=>?_) fun h=>?_⟩⟩
   ·have hf:(Rw.sound ((d+1:Nat):Int) m t.kids[k]).1=false:=by simpa using h
    rw[hf] at hs;simp only[aqH,if_false] at hs;rw[hs];exact⟨rfl,rfl⟩
   ·have hf:(Rw.sound ((d+1:Nat):Int) m t.kids[k]).1=true:=by simpa using h
    rw[if_pos hf] at hs;obtain⟨_,k2,_⟩:=g1.1 hf;have e:(Rw.sound ((d+1:Nat):Int) m t.kids[k]).2=((m-t.kids[k].size:Nat):Int):=by rw[g2 hf];omega
    rw[e] at hs ⊢;rw[bk (by omega)];exact cj (k+1,m-t.kids[k].size) ⟨by dsimp only;omega,by dsimp only;omega,hs⟩ (by dsimp only;omega)
  ·have:t.kids.length<=k:=by simpa using h
   rw[aqK this] at hs;rw[hs];exact⟨rfl,rfl⟩
theorem Ia {t:Rw} (h:t.total<=500000000):ay aj 204 [t.enc] (nB t.bG):=by
 have h1:=H9 _ t 1 5000 t.kind (t.type.args.map Ty.enc) t.type.base t.index (t.kids.map Rw.enc) (aqw _) h (by omega) (by omega) (by omega);have e:(Rw.sound ((1:Nat):Int) ((5000:Nat):Int) t).1=t.bG:=by
  have:=(Rw.AA t 1 5000 (by omega) (by omega)).1;rw[ar2,this,Rw.bG];simp only[aqv,decide_eq_true_eq];constructor
  ·rintro⟨h1,h2,h3⟩;exact⟨h1,h2,by omega⟩
  ·rintro⟨h1,h2,h3⟩;exact⟨h1,h2,by omega⟩
 rw[Rw.aG] at h1 ⊢;refine UA ⟨_,h1,fun r q ⟨hr,hq⟩=>⟨_,_,_,_,_,_,_,⟨hr,hq⟩,?_⟩⟩;rw[e]
mutual
def Ty.pre (d:Nat):Ty->List (Nat×Ty)
 | .mk l b=>(d,.mk l b)::Ty.jX (d+1) l
def Ty.jX (d:Nat):List Ty->List (Nat×Ty)
 | []=>[]
 |t::l=>Ty.pre d t++Ty.jX d l
end
theorem Ty.Ld (d:Nat) (t:Ty):t.pre d=(d,t)::Ty.jX (d+1) t.args:=by cases t;rfl
theorem Ty.wh {d:Nat} {l:List Ty} {k:Nat} (h:k<l.length):Ty.jX d (l.drop k)=l[k].pre d++Ty.jX d (l.drop (k+1)):=by
 rw[aqB h,Ty.jX]
mutual
theorem Ty.pP:∀(d:Nat) (t:Ty),(t.pre d).length=t.size
 |d,.mk l b=>by rw[Ty.pre,aqy,Ty.rr (d+1) l,Ty.size];omega
theorem Ty.rr:∀(d:Nat) (l:List Ty),(Ty.jX d l).length=Ty.sizes l
 |d,[]=>rfl
 |d,t::l=>by rw[Ty.jX,aqz,Ty.pP d t,Ty.rr d l,Ty.sizes]
end
def Ib (p:Nat×Ty):List AV:=[nI p.1,.agg [.sl (p.2.args.map Ty.enc),nI p.2.base]]
def EM (p:Nat×Ty):Int×(List AV×Int×Unit)×Unit:=(p.1,(p.2.args.map Ty.enc,p.2.base,()),())
theorem Ic:∀(n:Nat) (t:Ty) (d:Nat),t.size<=n->d+n<=1000000000->vE aj 178 (fun v=>[.agg [.sl (t.args.map Ty.enc),nI t.base],nI d,v]) ((t.pre d).map Ib) true:=by
 intro n
 induction n with
 |zero=>intro t d h;have:=t.size_pos;omega
 |succ n ih=>
  intro t d h hn;have hq:=Ty.aO t.args;have CT:=t.size_eq;refine Up fun yv more=>⟨rfl,(Ty.jX (d+1) t.args).map Ib++more,by rw[Ty.Ld];rfl,fun b=>az.intro (fun h=>?_) fun h=>?_⟩
  ·have:b=false:=by simpa using h
   subst this;rfl
  ·have:b=true:=by simpa using h
   subst this;refine aI.intro (fun k:Nat=>((((d:Int),yv,t.args.map Ty.enc,(t.args.length:Int),(k:Int),()),((t.args.map Ty.enc,t.base,()),())),some ((Ty.jX (d+1) (t.args.drop k)).map Ib++more))) (fun k=>k<=t.args.length) (fun k=>t.args.length-k) 0 (by rw[aqu];rfl) (aqC _) ?_;intro k hk again cj;dsimp only;rw[aqu];refine az.intro (fun h=>?_) fun h=>?_
   ·have aH:k<t.args.length:=by simpa using h
    have hi:=ih t.args[k] (d+1) (by have:=Ty.eK aH;omega) (by omega);refine⟨by omega,by omega,_,_,Ty.bh aH,_,_,(Ty.jX (d+1) (t.args.drop (k+1))).map Ib++more,?_,hi,?_,fun b=>az.intro (fun h=>?_) fun h=>?_⟩
    ·rw[bk (by omega)]
    ·rw[Ty.wh aH,arq,aqT]
    ·have:b=false:=by simpa using h
     subst this;rfl
    ·have:b=true:=by simpa using h
     subst this;rw[bk (by omega)];exact cj (k+1) (by omega) (by omega)
   ·have:t.args.length<=k:=by simpa using h
    rw[aqK this];rfl
theorem EN {t:Ty} (h:t.size<=500000000):vE aj 177 (fun v=>[v,.aW (.agg [.sl (t.args.map Ty.enc),nI t.base]) 0]) ((t.pre 1).map Ib) false:=
 Un fun yv more=>⟨_,_,more,rfl,Ic _ t 1 (aqw _) (by omega),rfl,fun b=>⟨b,rfl⟩⟩
theorem xn (t:Ty):ay aj 108 [.agg [.sl (t.args.map Ty.enc),nI t.base]] (.bz 177 [.aW (.agg [.sl (t.args.map Ty.enc),nI t.base]) 0]):=Uw rfl
theorem C1 {t:Ty} (h:t.size<=500000000):ng aj 177 [.aW (.agg [.sl (t.args.map Ty.enc),nI t.base]) 0] [.v (.c (.i .i64)),.v (.a [.l,.i .i64])] ((t.pre 1).map EM):=
 q8 (prm:=[.v (.c (.i .i64)),.v (.a [.l,.i .i64])]) EM (EN h)
theorem ru {t:Ty} (h:t.size<=500000000):ay aj 232 [.agg [.sl (t.args.map Ty.enc),nI t.base]] (nI (t.size:Nat)):=by
 refine Uz ⟨xn t,?_⟩;refine iD.v8 (fun n:Nat=>((t.args.map Ty.enc,t.base,()),((n:Int),()),())) EM (t.pre 1) (C1 h) (fun rest n=>n+rest.length=t.size) 0 rfl (by rw[Ty.pP];omega) (fun e rest n hI again cj=>?_) fun n hI=>?_
 ·rw[aqy] at hI;dsimp only;rw[bk (by omega)];exact cj (n+1) (by omega)
 ·have:n=t.size:=by simpa using hI
  rw[this]
def AB (aP:Int) (p:Nat×Ty):Bool:=decide (p.1<=60)&&(decide (0<=p.2.base)&&decide (p.2.base<aP))
def AD (aP:Int):Nat->List (Nat×Ty)->Bool
 |_,[]=>true
 |n,p::l=>if p.1>60\/n+1>1000\/p.2.base<0\/p.2.base>=aP then false else AD aP (n+1) l
theorem Ie (aP:Int):∀(l:List (Nat×Ty)) (n:Nat),n<=1000->AD aP n l=(decide (n+l.length<=1000)&&l.all (AB aP))
 | [],n,hn=>by simp[AD,hn]
 |p::l,n,hn=>by
  rw[AD];split
  ·rename_i hc;symm;rw[Bool.and_eq_false_iff]
   by_cases h1:n+1>1000
   ·left;rw[decide_eq_false];rw[aqy];omega
   ·right;rw[arQ];have:AB aP p=false:=by
     unfold AB;rw[Bool.and_eq_false_iff,Bool.and_eq_false_iff];rcases hc with hc|hc|hc|hc
     ·left;exact decide_eq_false (by omega)
     ·omega
     ·right;left;exact decide_eq_false (by omega)
     ·right;right;exact decide_eq_false (by omega)
    rw[this,arn]
  ·rename_i hc;simp only[not_or] at hc;obtain⟨h1,h2,h3,h4⟩:=hc;have hg:AB aP p=true:=by
    unfold AB;rw[decide_eq_true (by omega),decide_eq_true (by omega),decide_eq_true (by omega)];rfl
   rw[Ie aP l (n+1) (by omega),arQ,hg,arb,aqy,show n+1+l.length=n+(l.length+1) from by omega]
def Ty.bG (aP:Int) (t:Ty):Bool:=decide (t.size<=1000)&&(t.pre 1).all (AB aP)
theorem lC {t:Ty} {aP:Int} (h:t.size<=500000000):ay aj 59 [.agg [.sl (t.args.map Ty.enc),nI t.base],nI aP] (nB (t.bG aP)):=by
 refine YS ⟨xn t,?_⟩;have hr:t.bG aP=AD aP 0 (t.pre 1):=by rw[Ie aP _ 0 (by omega),Ty.pP,Ty.bG,aqV]
 refine iD.v8 (fun n:Nat=>((t.args.map Ty.enc,t.base,()),(aP,()),(false,()),((n:Int),()),())) EM (t.pre 1) (C1 h) (fun r n=>n+r.length=t.size/\t.bG aP=AD aP n r) 0 rfl ⟨by rw[Ty.pP];omega,hr⟩ (fun p r n ⟨hI,hk⟩ again cj=>?_) fun n ⟨hI,hk⟩=>?_
 ·rw[aqy] at hI;rw[AD] at hk;dsimp only[EM];rw[bk (by omega)];refine az.intro (fun h1=>?_) fun h1=>az.intro (fun h2=>?_) fun h2=>az.intro (fun h3=>?_) fun h3=>az.intro (fun h4=>?_) fun h4=>?_
  ·have:p.1>60:=by simp at h1;omega
   rw[if_pos (.inl this)] at hk;rw[hk]
  ·have:n+1>1000:=by simp at h2;omega
   rw[if_pos (.inr (.inl this))] at hk;rw[hk]
  ·have:p.2.base<0:=of_decide_eq_true h3;rw[if_pos (.inr (.inr (.inl this)))] at hk;rw[hk]
  ·have:p.2.base>=aP:=by simpa using h4
   rw[if_pos (.inr (.inr (.inr this)))] at hk;rw[hk]
  ·have g1:¬p.1>60:=by simp at h1;omega
   have g2:¬n+1>1000:=by simp at h2;omega
   have g3:¬p.2.base<0:=of_decide_eq_false h3;have g4:¬p.2.base>=aP:=by simpa using h4
   rw[if_neg (by simp only[not_or];exact⟨g1,g2,g3,g4⟩)] at hk;exact cj (n+1) ⟨by omega,hk⟩
 ·rw[hk];rfl
def bp (c m x:List Ty) (k i:Int):Option Ty:=
 if i<0 then none else if k=0 then(if i<x.length then x[x.length-1-i.toNat]? else none) else if k=1 then c[i.toNat]? else if k=2 then m[i.toNat]? else none
def aib:Option Ty->AV
 |some t=>.aK [.agg [.sl (t.args.map Ty.enc),nI t.base],nB true]
 |none=>.aK [.agg [.sl [],nI 0],nB false]
theorem tv {l:List Ty} {n:Nat} (h:n<l.length):ae (l.map Ty.enc) n .top=.agg [.sl (l[n].args.map Ty.enc),nI l[n].base]:=by
 have:=Ty.bh h;simpa using this
theorem mD {b:Int} {c m x:List Ty} {k i:Int} (hi:lO i) (hx:x.length<=1000000000):ay aj 60 [.agg [nI b,.sl (c.map Ty.enc),.sl (m.map Ty.enc)],.sl (x.map Ty.enc),.agg [nI k,nI i]] (aib (bp c m x k i)):=by
 unfold lO at hi;refine Y3 ?_;unfold ahk bp;simp only[aqu];refine az.intro (fun h1=>?_) fun h1=>?_
 ·have e1:k=1:=by simpa using h1
  refine az.intro (fun h=>?_) fun h2=>az.intro (fun h=>?_) fun h3=>?_
  ·have:i<0:=by simpa using h
   rw[if_pos this];rfl
  ·have Xb:¬i<0:=by simpa using h2
   have h3':(c.length:Int)<=i:=by simpa using h
   rw[if_neg Xb,if_neg (by omega),if_pos e1,aq6 (by omega)];rfl
  ·have Xb:¬i<0:=by simpa using h2
   have h3':i<(c.length:Int):=by simpa using h3
   have aH:i.toNat<c.length:=by omega
   refine⟨by omega,by omega,_,_,tv aH,?_⟩;rw[if_neg Xb,if_neg (by omega),if_pos e1,aqx aH];rfl
 have n1:¬k=1:=by simpa using h1
 refine az.intro (fun h4=>?_) fun h4=>?_
 ·have e2:k=2:=by simpa using h4
  refine az.intro (fun h=>?_) fun h2=>az.intro (fun h=>?_) fun h3=>?_
  ·have:i<0:=by simpa using h
   rw[if_pos this];rfl
  ·have Xb:¬i<0:=by simpa using h2
   have h3':(m.length:Int)<=i:=by simpa using h
   rw[if_neg Xb,if_neg (by omega),if_neg n1,if_pos e2,aq6 (by omega)];rfl
  ·have Xb:¬i<0:=by simpa using h2
   have h3':i<(m.length:Int):=by simpa using h3
   have aH:i.toNat<m.length:=by omega
   refine⟨by omega,by omega,_,_,tv aH,?_⟩;rw[if_neg Xb,if_neg (by omega),if_neg n1,if_pos e2,aqx aH];rfl
 have n2:¬k=2:=by simpa using h4
 refine az.intro (fun h5=>?_) fun h5=>?_
 ·have e0:k=0:=by simpa using h5
  refine az.intro (fun h=>?_) fun h2=>?_
  ·have:i<0:=by simpa using h
   rw[if_pos this];rfl
  have Xb:¬i<0:=by simpa using h2
  rw[ba (n:=(x.length:Int)-1) (by omega) (by omega),ba (by omega) (by omega)];refine az.intro (fun h=>?_) fun h3=>az.intro (fun h=>?_) fun h6=>?_
  ·have h3':(x.length:Int)-1-i<0:=by simpa using h
   rw[if_neg Xb,if_pos e0,if_neg (by omega)];rfl
  ·have h3':(x.length:Int)-1-i>=x.length:=by simpa using h
   omega
  ·have h3':¬(x.length:Int)-1-i<0:=by simpa using h3
   have aH:x.length-1-i.toNat<x.length:=by omega
   refine⟨by omega,by omega,_,_,by rw[show af ((x.length:Int)-1-i)=x.length-1-i.toNat from by omega];exact tv aH,?_⟩;rw[if_neg Xb,if_pos e0,if_pos (by omega),aqx aH];rfl
 ·have n0:¬k=0:=by simpa using h5
  rw[if_neg n0,if_neg n1,if_neg n2]
  split<;>rfl
theorem tw {c m x:List Ty} {k i:Int} {t:Ty} (h:bp c m x k i=some t):t∈x\/t∈c\/t∈m:=by
 unfold bp at h;split at h
 ·cases h
 split at h
 ·split at h
  ·exact .inl (aqA h)
  ·cases h
 split at h
 ·exact .inr (.inl (aqA h))
 split at h
 ·exact .inr (.inr (aqA h))
 ·cases h
def hTy:Option Ty->AV
 |some t=>.aK [.agg [.sl (t.args.map Ty.enc),nI t.base],nI 0]
 |none=>.aK [.agg [.sl [],nI 0],nI 10]
theorem rv {b:Int} {c m x:List Ty} {k i:Int} (hi:lO i) (hx:x.length<=1000000000) (hs:∀t,bp c m x k i=some t->t.size<=500000000):
  ay aj 230 [.agg [nI b,.sl (c.map Ty.enc),.sl (m.map Ty.enc)],.sl (x.map Ty.enc),.agg [nI k,nI i]] (hTy (bp c m x k i)):=by
 have h1:=mD (b:=b) (c:=c) (m:=m) (x:=x) (k:=k) (i:=i) hi hx
 cases ht:bp c m x k i with
 |none=>
  rw[ht] at h1;exact Hr ⟨_,_,_,h1,az.pos rfl rfl⟩
 |some t=>
  rw[ht] at h1;exact Hr ⟨_,_,_,h1,az.neg rfl ⟨_,_,jW (by have:=hs t ht;omega),rfl⟩⟩
mutual
def Rw.Ok:Rw->Prop
 | .mk k _ i l=>lO k/\lO i/\Rw.JC l
def Rw.JC:List Rw->Prop
 | []=>True
 |t::l=>Rw.Ok t/\Rw.JC l
end
theorem Rw.ok_eq {t:Rw} (h:t.Ok):lO t.kind/\lO t.index/\Rw.JC t.kids:=by cases t;exact h
theorem xo {l:List Ty}:ay aj 228 [.sl (l.map Ty.enc)] (.clip (l.map Ty.enc)):=by
 refine Pure.of_heap (UL ⟨⟨by omega,by omega,rfl,by omega,Ty.lN⟩,rfl,?_⟩);simp[aqP]
theorem Le {t:Ty} (h:t.size<=500000000) (h1:1<=t.args.length):ay aj 239 [.agg [.sl (t.args.map Ty.enc),nI t.base],nI 1] (.aK [.agg [.sl ((t.args.drop 1).map Ty.enc),nI t.base],nI 0]):=by
 have CT:=t.size_eq;have cx:Ty.sizes (t.args.drop 1)<=Ty.sizes t.args:=by
  have e:=Ty.bW (t.args.take 1) (t.args.drop 1);rw[ars] at e;omega
 have hc:=lA _ (.mk (t.args.drop 1) t.base) (aqw _) (by simp only[Ty.size];omega);rw[Ty.ia] at hc;have hd:List.drop (af 1) (List.take (af ((ab (t.args.map Ty.enc):Nat):Int)) (t.args.map Ty.enc))=(t.args.drop 1).map Ty.enc:=by simp[aqP]
 refine UM (az.neg rfl (az.neg (by simp;omega) ⟨⟨by omega,by rw[aqu];omega,by omega,Ty.lN⟩,_,_,by rw[hd];exact hc,rfl⟩))
abbrev jY:Ty:=.mk [] 0
def ry (t:Ty):List (Ty×Int)->Ty×Int
 |p::_=>if p.2≠0 then(jY,p.2) else if(p.1.arrow [t]).size>1000 then(jY,2) else(p.1.arrow [t],0)
 | []=>(jY,0)
def pQ:List (Ty×Int)->Ty×Int
 |p::q::_=>if p.2≠0 then(jY,p.2) else if q.2≠0 then(jY,q.2) else(match p.1.args with
  | []=>(jY,5)
  |u::us=>if Ty.same u q.1=true then(.mk us p.1.base,0) else(jY,5))
 |_=>(jY,0)
def ni:Option Ty->Ty×Int
 |some t=>if t.size>1000 then(jY,2) else(t,0)
 |none=>(jY,10)
mutual
def Rw.infer (b:Int) (c m:List Ty):List Ty->Rw->Ty×Int
 |x,.mk k t i l=>if k=3 then(if t.bG b=true then ry t (Rw.ek b c m (x++[t]) l) else(jY,2)) else if k=4 then pQ (Rw.ek b c m x l) else ni (bp c m x k i)
def Rw.ek (b:Int) (c m:List Ty):List Ty->List Rw->List (Ty×Int)
 |_,[]=>[]
 |x,r::l=>Rw.infer b c m x r::Rw.ek b c m x l
end
theorem Rw.VR (b:Int) (c m x:List Ty) (r:Rw):r.infer b c m x=if r.kind=3 then(if r.type.bG b=true then ry r.type (Rw.ek b c m (x++[r.type]) r.kids) else(jY,2)) else if r.kind=4 then pQ (Rw.ek b c m x r.kids) else ni (bp c m x r.kind r.index):=by
 cases r;rw[Rw.infer];rfl
mutual
theorem Rw.jZ (b:Int) (c m:List Ty):∀(r:Rw) (x:List Ty),(r.infer b c m x).1.size<=1000
 | .mk k t i l,x=>by
  rw[Rw.infer];split
  ·split
   ·have:=Rw.rz b c m l (x++[t]);generalize Rw.ek b c m (x++[t]) l=q at this
    cases q with
    |nil=>simp[ry,Ty.size,Ty.sizes]
    |cons p q=>
     simp only[ry];split
     ·simp[Ty.size,Ty.sizes]
     ·split
      ·simp[Ty.size,Ty.sizes]
      ·rename_i h;exact Nat.not_lt.1 h
   ·simp[Ty.size,Ty.sizes]
  split
  ·have:=Rw.rz b c m l x;generalize Rw.ek b c m x l=q at this
   match q,this with
   | [],_=>simp[pQ,Ty.size,Ty.sizes]
   | [p],_=>simp[pQ,Ty.size,Ty.sizes]
   |p::p2::q,h=>
    have hp:=h p aqG;simp only[pQ];split
    ·simp[Ty.size,Ty.sizes]
    split
    ·simp[Ty.size,Ty.sizes]
    split
    ·simp[Ty.size,Ty.sizes]
    ·rename_i u us hu;split
     ·have:=p.1.size_eq;rw[hu,Ty.sizes] at this;simp only[Ty.size];omega
     ·simp[Ty.size,Ty.sizes]
  ·cases bp c m x k i with
   |none=>simp[ni,Ty.size,Ty.sizes]
   |some u=>
    simp only[ni];split
    ·simp[Ty.size,Ty.sizes]
    ·rename_i h;exact Nat.not_lt.1 h
theorem Rw.rz (b:Int) (c m:List Ty):∀(l:List Rw) (x:List Ty),∀p∈Rw.ek b c m x l,p.1.size<=1000
 | [],x,p,hp=>by cases hp
 |r::l,x,p,hp=>by
  rw[Rw.ek] at hp;rcases aqZ.1 hp with rfl|hp
  ·exact Rw.jZ b c m r x
  ·exact Rw.rz b c m l x p hp
end
def Ig (p:Ty×Int):AV:=.aK [.agg [.sl (p.1.args.map Ty.enc),nI p.1.base],nI p.2]
theorem VS {l:List Rw} {k:Int} (hk:k=3) (h:arity k=l.length):∃a,l=[a]:=by
 subst hk;have:l.length=1:=by have:arity 3=1:=rfl;omega
 match l,this with
 | [a],_=>exact⟨a,rfl⟩
theorem VT {l:List Rw} {k:Int} (hk:k=4) (h:arity k=l.length):∃a b,l=[a,b]:=by
 subst hk;have:l.length=2:=by have:arity 4=2:=rfl;omega
 match l,this with
 | [a,b],_=>exact⟨a,b,rfl⟩
theorem Ty.wi (t:Ty):Ty.sizes [t]=t.size:=by simp[Ty.sizes]
theorem yA (t:Ty):[AV.agg [.sl (t.args.map Ty.enc),nI t.base]]=[t].map Ty.enc:=by rw[<-Ty.aG];rfl
theorem Ih {b:Int} {c m:List Ty} (hc:∀t∈c,t.size<=500000000) (hm:∀t∈m,t.size<=500000000):∀(n:Nat) (r:Rw) (x:List Ty),r.total<=n->r.shaped=true->r.Ok->Ty.sizes x+r.total<=400000000->
  ay aj 205 [.agg [nI b,.sl (c.map Ty.enc),.sl (m.map Ty.enc)],.sl (x.map Ty.enc),r.enc] (Ig (r.infer b c m x)):=by
 intro n
 induction n with
 |zero=>intro t x h;have:=t.gP;omega
 |succ n ih=>
  intro r x h tN aE hx;have CT:=r.mC;have hxl:=Ty.aO x;rw[Rw.wg,aqv,decide_eq_true_eq] at tN;obtain⟨ha,NH⟩:=tN;obtain⟨_,hi,aE⟩:=Rw.ok_eq aE;have ep:=Rw.VR b c m x r;rw[Rw.aG];refine UF (az.intro (fun h3=>?_) fun h3=>az.intro (fun h4=>?_) fun h4=>?_)
  ·have e3:r.kind=3:=by simpa using h3
   rw[if_pos e3] at ep;refine⟨_,lC (by omega),az.intro (fun h=>?_) fun h=>?_⟩
   ·have:¬r.type.bG b=true:=by simpa using h
    rw[if_neg this] at ep;rw[ep];rfl
   have hr:r.type.bG b=true:=by simpa using h
   rw[if_pos hr] at ep;obtain⟨a,hl⟩:=VS e3 ha;rw[hl] at ep NH aE CT;rw[Rw.dI,Rw.dI,Bool.and_true] at NH;simp only[Rw.cJ] at CT;have hx2:Ty.sizes (x++[r.type])=Ty.sizes x+r.type.size:=by rw[Ty.bW,Ty.wi]
   have fP:=ih a (x++[r.type]) (by omega) NH aE.1 (by omega);rw[Rw.aG,arq,<-yA] at fP;rw[Rw.ek,Rw.ek] at ep;generalize ha2:a.infer b c m (x++[r.type])=p at fP ep;have W8:p.1.size<=1000:=by rw[<-ha2];exact Rw.jZ ..
   have both:Ac (r.type.args.map Ty.enc) r.type.base (x.map Ty.enc) b (c.map Ty.enc) (m.map Ty.enc) a.kind (a.type.args.map Ty.enc) a.type.base a.index (a.kids.map Rw.enc) (fun y=>y=Ig (r.infer b c m x)):=by
    refine⟨fun h=>(by cases h),ir Ty.lN (by rw[yA];exact Ty.lN) (by simp;omega) (by decide),rfl,_,_,_,fP,az.intro (fun h=>?_) fun h=>?_⟩
    ·have he:p.2≠0:=by simpa using h
     rw[ep,ry,if_pos he];rfl
    have he:¬p.2≠0:=by simpa using h
    simp only[ry,if_neg he] at ep;have gY:=kG (t:=p.1) (l:=[r.type]) (by rw[Ty.wi];omega);rw[Ty.aG,<-yA,Ty.arrow,Ty.ia] at gY;have cx:(p.1.arrow [r.type]).size<=500000000:=by
     have:=p.1.size_eq;simp only[Ty.arrow,Ty.size,Ty.bW,Ty.wi];omega
    refine⟨_,_,gY,_,ru cx,az.intro (fun h=>?_) fun h=>?_⟩
    ·have hg:(p.1.arrow [r.type]).size>1000:=by
      have:=of_decide_eq_true h;omega
     rw[ep,if_pos hg];rfl
    ·have hg:¬(p.1.arrow [r.type]).size>1000:=by
      have:=of_decide_eq_false h;omega
     rw[ep,if_neg hg];rfl
   refine⟨_,xo,by omega,by rw[hl];simp,_,_,_,_,_,by rw[hl];exact Rw.bh (l:=[a]) (k:=0) (by simp),both,both⟩
  ·have e3:¬r.kind=3:=by simpa using h3
   have e4:r.kind=4:=by simpa using h4
   rw[if_neg e3,if_pos e4] at ep;obtain⟨f,a,hl⟩:=VT e4 ha;rw[hl] at ep NH aE CT;rw[Rw.dI,Rw.dI,Rw.dI,Bool.and_true,aqv] at NH;simp only[Rw.cJ] at CT;have hf:=ih f x (by omega) NH.1 aE.1 (by omega);have hac:=ih a x (by omega) NH.2 aE.2.1 (by omega);rw[Rw.aG] at hf hac;rw[Rw.ek,Rw.ek,Rw.ek] at ep;generalize hf2:f.infer b c m x=p at hf ep;generalize ha2:a.infer b c m x=q at hac ep;have W8:p.1.size<=1000:=by rw[<-hf2];exact Rw.jZ ..
   have hqs:q.1.size<=1000:=by rw[<-ha2];exact Rw.jZ ..
   refine⟨by omega,by rw[hl];simp,_,_,_,_,_,by rw[hl];exact Rw.bh (l:=[f,a]) (k:=0) (by simp),_,_,_,hf,az.intro (fun h=>?_) fun h=>?_⟩
   ·have he:p.2≠0:=by simpa using h
    rw[ep,pQ,if_pos he];rfl
   have he:¬p.2≠0:=by simpa using h
   simp only[pQ,if_neg he] at ep;refine⟨by omega,by rw[hl];simp,_,_,_,_,_,by rw[hl];exact Rw.bh (l:=[f,a]) (k:=1) (by simp),_,_,_,hac,az.intro (fun h=>?_) fun h=>?_⟩
   ·have Jz:q.2≠0:=by simpa using h
    rw[ep,if_pos Jz];rfl
   have Jz:¬q.2≠0:=by simpa using h
   rw[if_neg Jz] at ep;rw[aqu];have hpe:=p.1.size_eq
   cases sE:p.1.args with
   |nil=>
    rw[sE] at ep;refine az.pos rfl ?_;rw[ep];rfl
   |cons u us=>
    rw[sE] at ep hpe;rw[Ty.sizes] at hpe;have sW:=u.size_pos;have heq:=kF _ u q.1 (aqw _) (by omega);rw[Ty.aG,Ty.aG] at heq;refine az.neg (by simp;omega) ⟨by omega,by simp,_,_,Ty.bh (l:=u::us) (k:=0) (by simp),_,heq,az.intro (fun h=>?_) fun h=>?_⟩
    ·have hs:¬Ty.same u q.1=true:=by simpa using h
     rw[ep];simp only[if_neg hs];rfl
    ·have hs:Ty.same u q.1=true:=by simpa using h
     have hre:=Le (t:=p.1) (by omega) (by rw[sE];simp);rw[sE] at hre;refine⟨_,_,_,hre,?_⟩;rw[ep];simp only[if_pos hs];rfl
  ·have e3:¬r.kind=3:=by simpa using h3
   have e4:¬r.kind=4:=by simpa using h4
   rw[if_neg e3,if_neg e4] at ep;have hbd:∀t,bp c m x r.kind r.index=some t->t.size<=500000000:=by
    intro t ht;rcases tw ht with h1|h1|h1
    ·have:=Ty.cV h1;omega
    ·exact hc t h1
    ·exact hm t h1
   have hh:=rv (b:=b) (c:=c) (m:=m) (x:=x) (k:=r.kind) (i:=r.index) hi (by omega) hbd
   cases ht:bp c m x r.kind r.index with
   |none=>
    rw[ht] at hh ep;refine⟨_,_,_,hh,az.neg rfl ?_⟩;rw[ep];rfl
   |some t=>
    rw[ht] at hh ep;refine⟨_,_,_,hh,az.pos rfl ⟨_,ru (hbd t ht),az.intro (fun h=>?_) fun h=>?_⟩⟩
    ·have hg:t.size>1000:=by have:=of_decide_eq_true h;omega
     rw[ep,ni,if_pos hg];rfl
    ·have hg:¬t.size>1000:=by have:=of_decide_eq_false h;omega
     rw[ep,ni,if_neg hg];rfl
theorem Ii {b:Int} {c m x:List Ty} {r:Rw} (hc:∀t∈c,t.size<=500000000) (hm:∀t∈m,t.size<=500000000) (aE:r.Ok) (hx:Ty.sizes x+r.total<=400000000):
  ay aj 130 [.agg [nI b,.sl (c.map Ty.enc),.sl (m.map Ty.enc)],.sl (x.map Ty.enc),r.enc] (Ig (if r.bG=true then r.infer b c m x else(jY,1))):=by
 have h1:=Ia (t:=r) (by omega);rw[Rw.aG] at h1
 cases hr:r.bG with
 |false=>
  rw[hr] at h1;rw[Rw.aG];exact Ho ⟨_,h1,az.pos rfl rfl⟩
 |true=>
  have hs:r.shaped=true:=by
   rw[Rw.bG,aqv] at hr;exact hr.1
  have h2:=Ih (b:=b) hc hm _ r x (aqw _) hs aE hx;rw[hr] at h1;rw[Rw.aG] at h2 ⊢;exact Ho ⟨_,h1,az.neg rfl ⟨_,_,_,h2,rfl⟩⟩
theorem u9 {x l:List Ty} (h:x.length+l.length<=1000000000):ay aj 61 [.sl (x.map Ty.enc),.sl (l.map Ty.enc)] (.sl ((x++l).map Ty.enc)):=by
 have hc:=gO (ll:=[x,l]) (by simp) (by simp;omega);simp only[ff,aqS,arl,asb,ash,aqR] at hc;exact Y4 ⟨_,hc,rfl⟩
theorem va {b:Int} {l:List Ty} (h:Ty.sizes l<=500000000):ay aj 37 [nI b,.sl (l.map Ty.enc)] (.agg [.sl (l.map Ty.enc),nI b]):=by
 have hc:=lA _ (.mk l b) (aqw _) (by simp only[Ty.size];omega);rw[Ty.ia] at hc;exact MW ⟨_,_,hc,rfl⟩
def Tm.PG (c m x:List Ty) (t:Tm):Ty×Int:=match bp c m (x++t.binds) t.kind t.index with
 |some h=>(.mk t.binds h.base,0)
 |none=>(jY,10)
theorem EO {b:Int} {c m x:List Ty} {t:Tm} (aE:t.Ok) (hx:x.length+t.size<=500000000):ay aj 18 [.agg [nI b,.sl (c.map Ty.enc),.sl (m.map Ty.enc)],.sl (x.map Ty.enc),.agg [.sl (t.binds.map Ty.enc),nI t.kind,nI t.index,.sl (t.args.map Tm.enc)]] (Ig (t.PG c m x)):=by
 have CT:=t.size_eq;have hq:=Ty.aO t.binds;have hi:lO t.index:=by cases t;exact aE.2.1
 have hh:=mD (b:=b) (c:=c) (m:=m) (x:=x++t.binds) (k:=t.kind) hi (by rw[aqz];omega);refine YZ ⟨_,u9 (by omega),?_⟩;rw[Tm.PG]
 cases ht:bp c m (x++t.binds) t.kind t.index with
 |none=>
  rw[ht] at hh;exact⟨_,_,_,hh,az.pos rfl rfl⟩
 |some u=>
  rw[ht] at hh;exact⟨_,_,_,hh,az.neg rfl ⟨_,_,va (by omega),rfl⟩⟩
mutual
def Tm.QO (c m x:List Ty):Tm->Ty->Bool
 | .mk b k i l,of=>Ty.cv b of.args&&(match bp c m (x++b) k i with
  |some h=>(h.base==of.base)&&((h.args.length==l.length)&&Tm.AE c m (x++b) l h.args)
  |none=>false)
def Tm.AE (c m x:List Ty):List Tm->List Ty->Bool
 |t::l,u::us=>Tm.QO c m x t u&&Tm.AE c m x l us
 |_,_=>true
end
theorem Tm.acY (c m x:List Ty) (t:Tm) (of:Ty):t.QO c m x of=(Ty.cv t.binds of.args&&(match bp c m (x++t.binds) t.kind t.index with
  |some h=>(h.base==of.base)&&((h.args.length==t.args.length)&&Tm.AE c m (x++t.binds) t.args h.args)
  |none=>false)):=by cases t;rw[Tm.QO];rfl
theorem Tm.PH {c m x:List Ty} {l:List Tm} {us:List Ty} {k:Nat} (h1:k<l.length) (h2:k<us.length):Tm.AE c m x (l.drop k) (us.drop k)=(Tm.QO c m x l[k] us[k]&&Tm.AE c m x (l.drop (k+1)) (us.drop (k+1))):=by
 rw[aqB h1,aqB h2,Tm.AE]
theorem VU {b:Int} {c m:List Ty} (hc:∀t∈c,t.size<=200000000) (hm:∀t∈m,t.size<=200000000):∀(n:Nat) (t:Tm) (of:Ty) (x:List Ty),t.size<=n->t.Ok->(∀u∈x,u.size<=200000000)->x.length+t.size<=200000000->of.size<=200000000->
  ay aj 63 [.agg [nI b,.sl (c.map Ty.enc),.sl (m.map Ty.enc)],.sl (x.map Ty.enc),.agg [.sl (t.binds.map Ty.enc),nI t.kind,nI t.index,.sl (t.args.map Tm.enc)],.agg [.sl (of.args.map Ty.enc),nI of.base]] (nB (t.QO c m x of)):=by
 intro n
 induction n with
 |zero=>intro t of x h;have:=t.size_pos;omega
 |succ n ih=>
  intro t of x h aE hx hn hof;have CT:=t.size_eq;have hq:=Ty.aO t.binds;have hq2:=Tm.aO t.args;have hi:lO t.index:=by cases t;exact aE.2.1
  have hks:Tm.JC t.args:=by cases t;exact aE.2.2
  have heq:=jl (l:=t.binds) (m:=of.args) (by omega) (fun k h1 h2=>kF _ _ _ (aqw _) (by have:=Ty.cV (aqL h1);omega));have hx2:∀u∈x++t.binds,u.size<=200000000:=fun u hu=>by
   rcases aq7.1 hu with hu|hu
   ·exact hx u hu
   ·have:=Ty.cV hu;omega
  have hh:=mD (b:=b) (c:=c) (m:=m) (x:=x++t.binds) (k:=t.kind) hi (by rw[aqz];omega);have cx:∀u,bp c m (x++t.binds) t.kind t.index=some u->u.size<=200000000:=fun u hu=>by
   rcases tw hu with hu|hu|hu
   ·exact hx2 u hu
   ·exact hc u hu
   ·exact hm u hu
  have VV:=Tm.acY c m x t of;refine Y6 ⟨_,heq,az.intro (fun h=>?_) fun h=>?_⟩
  ·have h0:Ty.cv t.binds of.args=false:=by simpa using h
   rw[VV,h0,arn]
  have h0:Ty.cv t.binds of.args=true:=by simpa using h
  rw[h0,arb] at VV;refine⟨_,u9 (by omega),?_⟩
  cases ht:bp c m (x++t.binds) t.kind t.index with
  |none=>
   rw[ht] at hh VV;exact⟨_,_,_,hh,az.pos rfl (by rw[VV])⟩
  |some u=>
   rw[ht] at hh VV;dsimp only at VV;have hu:=cx u ht;have sW:=u.size_eq;have hul:=Ty.aO u.args;refine⟨_,_,_,hh,az.neg rfl (az.intro (fun h=>?_) fun h=>?_)⟩
   ·have:(u.base==of.base)=false:=by simpa using h
    rw[VV,this,arn]
   have h1:(u.base==of.base)=true:=by simpa using h
   rw[h1,arb] at VV;rw[aqu,aqu];refine az.intro (fun h=>?_) fun h=>?_
   ·have:¬u.args.length=t.args.length:=by simp at h;omega
    rw[VV,show (u.args.length==t.args.length)=false from by simpa using this,arn]
   have h2:u.args.length=t.args.length:=by simp at h;omega
   rw[show (u.args.length==t.args.length)=true from by simpa using h2,arb] at VV;refine aI.intro (fun k:Nat=>(((),(x++t.binds).map Ty.enc,(),t.args.map Tm.enc,(t.args.length:Int),(k:Int),()),((b,c.map Ty.enc,m.map Ty.enc,()),(t.binds.map Ty.enc,t.kind,t.index,t.args.map Tm.enc,()),(of.args.map Ty.enc,of.base,()),(u.args.map Ty.enc,u.base,()),())))
    (fun k=>k<=t.args.length/\t.QO c m x of=Tm.AE c m (x++t.binds) (t.args.drop k) (u.args.drop k)) (fun k=>t.args.length-k) 0 rfl ⟨aqC _,VV⟩ ?_
   intro k ⟨hk,hs⟩ again cj;dsimp only;refine az.intro (fun h=>?_) fun h=>?_
   ·have aH:k<t.args.length:=by simpa using h
    have hlu:k<u.args.length:=by omega
    rw[Tm.PH aH hlu] at hs;have wN:=Tm.cV (aqL aH);have hi:=ih t.args[k] u.args[k] (x++t.binds) (by omega) (Tm.NA hks (aqL aH)) hx2 (by rw[aqz];omega) (by have:=Ty.eK hlu;omega);refine⟨by omega,by rw[aqu];omega,_,_,_,_,Tm.bh aH,by omega,by rw[aqu];omega,_,_,Ty.bh hlu,_,hi,az.intro (fun h=>?_) fun h=>?_⟩
    ·have:Tm.QO c m (x++t.binds) t.args[k] u.args[k]=false:=by simpa using h
     rw[hs,this,arn]
    ·have:Tm.QO c m (x++t.binds) t.args[k] u.args[k]=true:=by simpa using h
     rw[this,arb] at hs;rw[bk (by omega)];exact cj (k+1) ⟨by omega,hs⟩ (by omega)
   ·have:t.args.length<=k:=by simpa using h
    rw[aqK this,Tm.AE] at hs
    ·rw[hs]
    ·intro _ _ _ _ h;cases h
mutual
def Tm.pre (a d:Nat):Tm->List ((Nat×Nat)×Tm)
 | .mk b k i l=>((a+b.length,d),.mk b k i l)::Tm.jX (a+b.length) (d+1) l
def Tm.jX (a d:Nat):List Tm->List ((Nat×Nat)×Tm)
 | []=>[]
 |t::l=>Tm.pre a d t++Tm.jX a d l
end
theorem Tm.Ld (a d:Nat) (t:Tm):t.pre a d=((a+t.binds.length,d),t)::Tm.jX (a+t.binds.length) (d+1) t.args:=by cases t;rfl
theorem Tm.wh {a d:Nat} {l:List Tm} {k:Nat} (h:k<l.length):Tm.jX a d (l.drop k)=l[k].pre a d++Tm.jX a d (l.drop (k+1)):=by
 rw[aqB h,Tm.jX]
def VW (p:(Nat×Nat)×Tm):List AV:=[.agg [nI p.1.1,nI p.1.2],.agg [.sl (p.2.binds.map Ty.enc),nI p.2.kind,nI p.2.index,.sl (p.2.args.map Tm.enc)]]
def NJ (p:(Nat×Nat)×Tm):(Int×Int×Unit)×(List AV×Int×Int×List AV×Unit)×Unit:=((p.1.1,p.1.2,()),(p.2.binds.map Ty.enc,p.2.kind,p.2.index,p.2.args.map Tm.enc,()),())
theorem Ij:∀(n:Nat) (t:Tm) (a d:Nat),t.size<=n->a+t.size<=1000000000->d+t.size<=1000000000->vE aj 180 (fun v=>[.agg [.sl (t.binds.map Ty.enc),nI t.kind,nI t.index,.sl (t.args.map Tm.enc)],.agg [nI a,nI d],v]) ((t.pre a d).map VW) true:=by
 intro n
 induction n with
 |zero=>intro t a d h;have:=t.size_pos;omega
 |succ n ih=>
  intro t a d h ha hd;have hq:=Tm.aO t.args;have hq2:=Ty.aO t.binds;have CT:=t.size_eq;have hw:ag .i64 ((a:Int)+((ab (t.binds.map Ty.enc):Nat):Int))=((a+t.binds.length:Nat):Int):=by
   rw[aqu,ba (by omega) (by omega)];omega
  refine Ut fun yv more=>?_;unfold abb;rw[hw,bk (by omega)];refine⟨rfl,(Tm.jX (a+t.binds.length) (d+1) t.args).map VW++more,by rw[Tm.Ld];rfl,fun b=>az.intro (fun h=>?_) fun h=>?_⟩
  ·have:b=false:=by simpa using h
   subst this;rfl
  ·have:b=true:=by simpa using h
   subst this;refine aI.intro (fun k:Nat=>(((yv,(),t.args.map Tm.enc,(t.args.length:Int),(k:Int),()),((t.binds.map Ty.enc,t.kind,t.index,t.args.map Tm.enc,()),(((a+t.binds.length:Nat):Int),((d+1:Nat):Int),()),())),some ((Tm.jX (a+t.binds.length) (d+1) (t.args.drop k)).map VW++more))) (fun k=>k<=t.args.length) (fun k=>t.args.length-k) 0 (by rw[aqu];rfl) (aqC _) ?_;intro k hk again cj;dsimp only;rw[aqu];refine az.intro (fun h=>?_) fun h=>?_
   ·have aH:k<t.args.length:=by simpa using h
    have wN:=Tm.cV (aqL aH);have hi:=ih t.args[k] (a+t.binds.length) (d+1) (by omega) (by omega) (by omega);refine⟨by omega,by omega,_,_,_,_,Tm.bh aH,_,_,(Tm.jX (a+t.binds.length) (d+1) (t.args.drop (k+1))).map VW++more,rfl,hi,?_,fun b=>az.intro (fun h=>?_) fun h=>?_⟩
    ·rw[Tm.wh aH,arq,aqT]
    ·have:b=false:=by simpa using h
     subst this;rfl
    ·have:b=true:=by simpa using h
     subst this;rw[bk (by omega)];exact cj (k+1) (by omega) (by omega)
   ·have:t.args.length<=k:=by simpa using h
    rw[aqK this];rfl
theorem EP {t:Tm} (h:t.size<=500000000):vE aj 179 (fun v=>[v,.aW (.agg [.sl (t.binds.map Ty.enc),nI t.kind,nI t.index,.sl (t.args.map Tm.enc)]) 0]) ((t.pre 0 1).map VW) false:=
 Uq fun yv more=>⟨_,_,more,rfl,Ij _ t 0 1 (aqw _) (by omega) (by omega),rfl,fun b=>⟨b,rfl⟩⟩
theorem Ik (t:Tm):ay aj 109 [.agg [.sl (t.binds.map Ty.enc),nI t.kind,nI t.index,.sl (t.args.map Tm.enc)]] (.bz 179 [.aW (.agg [.sl (t.binds.map Ty.enc),nI t.kind,nI t.index,.sl (t.args.map Tm.enc)]) 0]):=Uy rfl
theorem PI {t:Tm} (h:t.size<=500000000):ng aj 179 [.aW (.agg [.sl (t.binds.map Ty.enc),nI t.kind,nI t.index,.sl (t.args.map Tm.enc)]) 0] [.v (.a [.i .i64,.i .i64]),.v (.a [.l,.i .i64,.i .i64,.l])] ((t.pre 0 1).map NJ):=
 q8 (prm:=[.v (.a [.i .i64,.i .i64]),.v (.a [.l,.i .i64,.i .i64,.l])]) NJ (EP h)
def jK:Nat->List ((Nat×Nat)×Tm)->Bool
 |_,[]=>true
 |n,p::l=>if n+1>5000 then false else if p.1.2>60 then false else jK (n+1) l
theorem vb {t:Tm} (h:t.size<=500000000):ay aj 62 [.agg [.sl (t.binds.map Ty.enc),nI t.kind,nI t.index,.sl (t.args.map Tm.enc)]] (nB (jK 0 (t.pre 0 1))):=by
 refine YT ⟨Ik t,?_⟩;refine iD.v8 (fun n:Nat=>((t.binds.map Ty.enc,t.kind,t.index,t.args.map Tm.enc,()),(false,()),((n:Int),()),())) NJ (t.pre 0 1) (PI h) (fun r n=>n<=5000/\jK 0 (t.pre 0 1)=jK n r) 0 rfl ⟨by omega,rfl⟩ (fun p r n ⟨hI,hk⟩ again cj=>?_) fun n ⟨hI,hk⟩=>?_
 ·rw[jK] at hk;dsimp only[NJ];rw[bk (by omega)];refine az.intro (fun h1=>?_) fun h1=>az.intro (fun h2=>?_) fun h2=>?_
  ·have:n+1>5000:=by have:=of_decide_eq_true h1;omega
   rw[hk,if_pos this]
  ·have g:¬n+1>5000:=by have:=of_decide_eq_false h1;omega
   have:p.1.2>60:=by have:=of_decide_eq_true h2;omega
   rw[hk,if_neg g,if_pos this]
  ·have g:¬n+1>5000:=by have:=of_decide_eq_false h1;omega
   have g2:¬p.1.2>60:=by have:=of_decide_eq_false h2;omega
   rw[if_neg g,if_neg g2] at hk;exact cj (n+1) ⟨by omega,hk⟩
 ·rw[hk];rfl
theorem xp {b:Int} {c m x:List Ty} {t:Tm} {of:Ty} (hc:∀t∈c,t.size<=200000000) (hm:∀t∈m,t.size<=200000000) (aE:t.Ok) (hx:∀u∈x,u.size<=200000000) (hn:x.length+t.size<=200000000) (hof:of.size<=200000000):
  ay aj 19 [.agg [nI b,.sl (c.map Ty.enc),.sl (m.map Ty.enc)],.sl (x.map Ty.enc),.agg [.sl (t.binds.map Ty.enc),nI t.kind,nI t.index,.sl (t.args.map Tm.enc)],.agg [.sl (of.args.map Ty.enc),nI of.base]] (nI (if jK 0 (t.pre 0 1)=true then(if t.QO c m x of=true then 0 else 5) else 2)):=by
 have h1:=vb (t:=t) (by omega);have h2:=VU (b:=b) hc hm _ t of x (aqw _) aE hx hn hof;refine Y1 ⟨_,h1,az.intro (fun h=>?_) fun h=>⟨_,h2,az.intro (fun h3=>?_) fun h3=>?_⟩⟩
 ·rw[if_neg (by simpa using h)]
 ·rw[if_pos (by simpa using h),if_neg (by simpa using h3)]
 ·rw[if_pos (by simpa using h),if_pos (by simpa using h3)]
theorem PJ {b:Int} {c m:List Ty} {t:Ty} (h:t.size<=500000000):ay aj 58 [.agg [.sl (t.args.map Ty.enc),nI t.base],.aW (.agg [nI b,.sl (c.map Ty.enc),.sl (m.map Ty.enc)]) 0] (nB (!(t.bG b))):=
 Y8 ⟨_,lC h,rfl⟩
def eN (b:Int):Nat->List Ty->Int
 |_,[] => -1
 |k,t::l=>if t.bG b=true then eN b (k+1) l else k
theorem AF {b:Int} {c m l:List Ty} (h:Ty.sizes l<=500000000):ay aj 106 [.sl (l.map Ty.enc),.bz 58 [.aW (.agg [nI b,.sl (c.map Ty.enc),.sl (m.map Ty.enc)]) 0]] (nI (eN b 0 l)):=by
 have hl:=Ty.aO l;refine UO ⟨rfl,?_⟩;refine aI.intro (fun k:Nat=>((l.map Ty.enc,((),()),(l.length:Int),(k:Int),()),())) (fun k=>k<=l.length/\eN b 0 l=eN b k (l.drop k)) (fun k=>l.length-k) 0 (by rw[aqu];rfl) ⟨aqC _,rfl⟩ ?_;intro k ⟨hk,hs⟩ again cj;dsimp only;rw[aqu];refine az.intro (fun h=>?_) fun h=>?_
 ·have aH:k<l.length:=by simpa using h
  rw[aqB aH,eN] at hs;refine⟨by omega,by omega,_,_,Ty.bh aH,_,PJ (by have:=Ty.cV (aqL aH);omega),az.intro (fun h=>?_) fun h=>⟨rfl,?_⟩⟩
  ·rw[hs,if_neg (by simpa using h)]
  ·rw[if_pos (by simpa using h)] at hs;rw[bk (by omega)];exact cj (k+1) ⟨by omega,hs⟩ (by omega)
 ·have:l.length<=k:=by simpa using h
  rw[aqK this] at hs;rw[hs];rfl
theorem oB {b:Int} {c m:List Ty} (hc:c.length<=500) (hm:m.length<=500) (h:Ty.sizes (c++m)<=500000000):ay aj 17 [.agg [nI b,.sl (c.map Ty.enc),.sl (m.map Ty.enc)]] (nB (!(decide (eN b 0 (c++m)>=0)))):=by
 have wP:=gO (ll:=[c,m]) (by simp) (by simp;omega);simp only[ff,aqS,arl,asb,ash,aqR] at wP;have hi:=AF (b:=b) (c:=c) (m:=m) (l:=c++m) h;refine Y2 ?_;unfold ahh;rw[aqu,aqu,ba (by omega) (by omega)];refine az.neg (decide_eq_false (by omega)) (az.neg (decide_eq_false (by omega)) ⟨_,wP,_,Y7 ⟨_,hi,rfl⟩,rfl⟩)
mutual
def Rw.Fit:Rw->Prop
 | .mk _ t _ l=>t.size<=500000000/\l.length<=500000000/\Rw.Fits l
def Rw.Fits:List Rw->Prop
 | []=>True
 |t::l=>Rw.Fit t/\Rw.Fits l
end
theorem Rw.acZ {t:Rw}:t.Fit↔t.type.size<=500000000/\t.kids.length<=500000000/\Rw.Fits t.kids:=by cases t;exact ase
theorem Rw.Il {l:List Rw}:Rw.Fits l↔∀t∈l,t.Fit:=by
 induction l with
 |nil=>simp[Rw.Fits]
 |cons u l ih=>simp[Rw.Fits,ih]
mutual
theorem Rw.Lf:∀(t:Rw),t.total<=500000000->t.Fit
 | .mk k t i l,h=>by
  simp only[Rw.total] at h;have:=Rw.pN l;exact⟨by omega,by omega,Rw.ER l (by omega)⟩
theorem Rw.ER:∀(l:List Rw),Rw.cJ l<=500000000->Rw.Fits l
 | [],_=>ai
 |t::l,h=>by
  simp only[Rw.cJ] at h;exact⟨Rw.Lf t (by omega),Rw.ER l (by omega)⟩
end
theorem Rw.PK {t:Rw} {k:Nat} (h:k<t.kids.length):t.kids[k].depth<t.depth:=by
 have h1:=t.H5;have:=(Rw.tu (n:=0) (m:=t.depth-1) (l:=t.kids)).1 (by omega);have:=this.2 _ (aqL h);omega
theorem nE:∀(n:Nat) (t:Rw),t.total<=n->t.Fit->ay aj 112 [t.enc] t.enc:=by
 intro n
 induction n with
 |zero=>intro t h;have:=t.gP;omega
 |succ n ih=>
  intro t h hf;obtain⟨f1,f2,f3⟩:=Rw.acZ.1 hf;rw[Rw.aG];refine UE ⟨_,_,jW (by omega),rfl,?_⟩;refine aI.intro (fun k:Nat=>(((),(),t.kids.map Rw.enc,(t.kids.length:Int),(k:Int),()),((t.kind,t.type.args.map Ty.enc,t.type.base,t.index,t.kids.map Rw.enc,()),(0,(),0,0,(),()),(t.kind,t.type.args.map Ty.enc,t.type.base,t.index,(),()),(t.kids.take k).map Rw.enc,())))
   (fun k=>k<=t.kids.length) (fun k=>t.kids.length-k) 0 (by rw[aqu];rfl) (aqC _) ?_
  intro k hk again cj;dsimp only;rw[aqu];refine az.intro (fun h=>?_) fun h=>?_
  ·have aH:k<t.kids.length:=by simpa using h
   have hi:=ih t.kids[k] (by have:=Rw.sa aH;omega) (Rw.Il.1 f3 _ (aqL aH));rw[Rw.aG] at hi;refine⟨by omega,by omega,_,_,_,_,_,Rw.bh aH,_,_,_,_,_,hi,rfl,bJ rfl (by simp;omega) (by decide),rfl,?_⟩;rw[bk (by omega),Rw.iu,cO aH];exact cj (k+1) (by omega) (by omega)
  ·have:t.kids.length<=k:=by simpa using h
   refine⟨rfl,?_⟩;rw[aqP this]
abbrev fY (k i:Int):Rw:=.mk k jY i []
theorem pR (k i:Int):ay aj 66 [nI k,nI i] (.agg [nI k,.sl [],nI 0,nI i,.sl []]):=YW rfl
theorem Lg (k i:Int):(fY k i).enc=.agg [nI k,.sl [],nI 0,nI i,.sl []]:=by rw[Rw.ia];rfl
theorem ac0 (r:Rw):[AV.agg [nI r.kind,.sl (r.type.args.map Ty.enc),nI r.type.base,nI r.index,.sl (r.kids.map Rw.enc)]]=[r].map Rw.enc:=by rw[<-Rw.aG];rfl
theorem ac1 (r s:Rw):[AV.agg [nI r.kind,.sl (r.type.args.map Ty.enc),nI r.type.base,nI r.index,.sl (r.kids.map Rw.enc)],AV.agg [nI s.kind,.sl (s.type.args.map Ty.enc),nI s.type.base,nI s.index,.sl (s.kids.map Rw.enc)]]=[r,s].map Rw.enc:=by rw[<-Rw.aG,<-Rw.aG];rfl
def ZV (l:List Ty):Nat->List (Nat×Ty)
 |0=>[]
 |k+1=>(k,l.getD k jY)::ZV l k
theorem NK {l:List Ty} {k:Nat} (h:k<l.length):l.getD k jY=l[k]:=by simp[ae,h]
theorem AG (l:List Ty):ay aj 113 [.sl (l.map Ty.enc)] (.bz 185 [.aW (.sl (l.map Ty.enc)) 0]):=Ux rfl
theorem ya {l:List Ty} (h:l.length<=1000000000):vE aj 185 (fun v=>[v,.aW (.sl (l.map Ty.enc)) 0]) ((ZV l l.length).map Ib) false:=by
 refine Uv fun yv more=>⟨rfl,?_⟩;refine aI.intro (fun k:Nat=>(((yv,(),(k:Int)-1,()),()),some ((ZV l k).map Ib++more))) (fun k=>k<=l.length) (fun k=>k) l.length (by rw[aqu,ba (by omega) (by omega)]) (aqw _) ?_;intro k hk again cj;dsimp only;rw[aqu];refine az.intro (fun h=>?_) fun h=>?_
 ·have h':(k:Int)-1>=0:=of_decide_eq_true h;obtain⟨j,rfl⟩:∃j,k=j+1:=⟨k-1,by omega⟩;have aH:j<l.length:=by omega
  have e:((j+1:Nat):Int)-1=(j:Int):=by omega
  rw[e];refine⟨by omega,by omega,_,_,Ty.bh aH,rfl,(ZV l j).map Ib++more,by rw[ZV,NK aH];rfl,fun b=>az.intro (fun h=>?_) fun h=>?_⟩
  ·have:b=false:=by simpa using h
   subst this;exact⟨false,rfl⟩
  ·have:b=true:=by simpa using h
   subst this;refine⟨rfl,?_⟩;rw[ba (n:=(j:Int)-1) (by omega) (by omega)];exact cj j (by omega) (by omega)
 ·have h':¬(k:Int)-1>=0:=of_decide_eq_false h;have:k=0:=by omega
  subst this;exact⟨true,rfl⟩
theorem ES {l:List Ty} (h:l.length<=1000000000):ng aj 185 [.aW (.sl (l.map Ty.enc)) 0] [.v (.c (.i .i64)),.v (.a [.l,.i .i64])] ((ZV l l.length).map EM):=
 q8 (prm:=[.v (.c (.i .i64)),.v (.a [.l,.i .i64])]) EM (ya h)
def Rw.bind (r:Rw) (l:List Ty):Rw:=l.foldr (fun t r=>.mk 3 t 0 [r]) r
theorem PL {r:Rw} {l:List Ty} {k:Nat} (h:k<l.length):r.bind (l.drop k)=.mk 3 l[k] 0 [r.bind (l.drop (k+1))]:=by
 rw[aqB h];rfl
theorem Lh {r:Rw} {l:List Ty} (hr:r.Fit) (hl:∀t∈l,t.size<=500000000) (hn:l.length<=1000000000):ay aj 67 [r.enc,.sl (l.map Ty.enc)] (r.bind l).enc:=by
 have hc:=nE _ r (aqw _) hr;rw[Rw.aG] at hc ⊢;refine YQ ⟨_,_,_,_,_,hc,AG l,?_⟩;refine iD.v8 (fun s:Rw=>((r.kind,r.type.args.map Ty.enc,r.type.base,r.index,r.kids.map Rw.enc,()),(0,(),0,0,(),()),(s.kind,s.type.args.map Ty.enc,s.type.base,s.index,s.kids.map Rw.enc,()),())) EM (ZV l l.length) (ES hn)
  (fun rest s=>∃k,k<=l.length/\rest=ZV l k/\s=r.bind (l.drop k)) r rfl ⟨l.length,aqw _,rfl,by rw[ar0];rfl⟩ (fun g rest s ⟨k,hk,he,hs⟩ again cj=>?_) fun s ⟨k,hk,he,hs⟩=>?_
 ·cases k with
  |zero=>cases he
  |succ k=>
   simp only[ZV,List.cons.injEq] at he;obtain⟨rfl,rfl⟩:=he;have aH:k<l.length:=by omega
   rw[NK aH];dsimp only[EM];refine⟨_,_,jW (by have:=hl _ (aqL aH);omega),?_⟩;rw[ac0];exact cj (.mk 3 l[k] 0 [s]) ⟨k,by omega,rfl,by rw[PL aH,hs]⟩
 ·cases k with
  |zero=>rw[hs,arX,Rw.aG]
  |succ k=>cases he
def Rw.call (r:Rw) (l:List Rw):Rw:=l.foldl (fun r a=>.mk 4 jY 0 [r,a]) r
theorem PM {r:Rw} {l:List Rw} {k:Nat} (h:k<l.length):r.call (l.take (k+1))=.mk 4 jY 0 [r.call (l.take k),l[k]]:=by
 rw[<-cO h,Rw.call,List.foldl_append];rfl
theorem Li {r:Rw} {l:List Rw} (hr:r.Fit) (hl:Rw.Fits l) (hn:l.length<=1000000000):ay aj 68 [r.enc,.sl (l.map Rw.enc)] (r.call l).enc:=by
 have hc:=nE _ r (aqw _) hr;rw[Rw.aG] at hc ⊢;refine YV ⟨_,_,_,_,_,hc,?_⟩;refine aI.intro (fun k:Nat=>(((),(),l.map Rw.enc,(l.length:Int),(k:Int),()),((r.kind,r.type.args.map Ty.enc,r.type.base,r.index,r.kids.map Rw.enc,()),(0,(),0,0,(),()),
  ((r.call (l.take k)).kind,(r.call (l.take k)).type.args.map Ty.enc,(r.call (l.take k)).type.base,(r.call (l.take k)).index,(r.call (l.take k)).kids.map Rw.enc,()),()))) (fun k=>k<=l.length) (fun k=>l.length-k) 0 (by rw[aqu];rfl) (aqC _) ?_
 intro k hk again cj;dsimp only;rw[aqu];refine az.intro (fun h=>?_) fun h=>?_
 ·have aH:k<l.length:=by simpa using h
  have hi:=nE _ l[k] (aqw _) (Rw.Il.1 hl _ (aqL aH));rw[Rw.aG] at hi;refine⟨by omega,by omega,_,_,_,_,_,Rw.bh aH,_,_,_,_,_,hi,?_⟩;rw[bk (by omega),ac1];have:=cj (k+1) (by omega) (by omega);rw[PM aH] at this;exact this
 ·have:l.length<=k:=by simpa using h
  rw[aqP this,Rw.aG]
theorem pS (b:Int):ay aj 37 [nI b,.sl []] (.agg [.sl [],nI b]):=by
 have hc:=lA _ (.mk [] b) (aqw _) (by simp[Ty.size,Ty.sizes]);rw[Ty.ia] at hc;exact MW ⟨_,_,hc,rfl⟩
mutual
def oC:Int->Int->Ty->Tm
 |k,i,.mk l _=>.mk l k (if k=0 then ag .i64 (i+(l.length:Nat)) else i) (iw l.length 0 l)
def iw (n:Nat):Nat->List Ty->List Tm
 |_,[]=>[]
 |j,t::r=>oC 0 ((n:Int)-1-j) t::iw n (j+1) r
end
theorem yB (k i:Int) (t:Ty):oC k i t=.mk t.args k (if k=0 then ag .i64 (i+(t.args.length:Nat)) else i) (iw t.args.length 0 t.args):=by cases t;rw[oC];rfl
theorem oD (n:Nat):∀(l:List Ty) (j:Nat),(iw n j l).length=l.length
 | [],_=>rfl
 |t::l,j=>by rw[iw,aqy,aqy,oD n l]
theorem C2 (n:Nat):∀(l:List Ty) (j k:Nat) (h:k<l.length),(iw n j l)[k]?=some (oC 0 ((n:Int)-1-(j+k:Nat)) l[k])
 |t::l,j,0,_=>by rw[iw];rfl
 |t::l,j,k+1,h=>by
  rw[iw,aq2,C2 n l (j+1) k (by simpa using h),List.getElem_cons_succ,show j+1+k=j+(k+1) by omega]
theorem AH {n:Nat} {l:List Ty} {k:Nat} (h:k<l.length):(iw n 0 l).take (k+1)=(iw n 0 l).take k++[oC 0 ((n:Int)-1-(k:Nat)) l[k]]:=by
 have hk:k<(iw n 0 l).length:=by rw[oD];exact h
 have hg:=C2 n l 0 k h;rw[aqx hk,aqV] at hg;rw[<-cO hk,aqs hg]
theorem adK:∀(d:Nat) (t:Ty) (k i:Int),t.size<=d->d<=1000000000->ay aj 257 [.agg [nI k,nI i],t.enc] (oC k i t).enc:=by
 intro d
 induction d with
 |zero=>intro t k i h;have:=t.size_pos;omega
 |succ d ih=>
  intro t k i h hd;have hq:=Ty.aO t.args;have CT:=t.size_eq;have loop:∀ix:Int,ix=(if k=0 then ag .i64 (i+(t.args.length:Nat)) else i)->zT (((),(),((ab (t.args.map Ty.enc):Nat):Int),(),0,()),((k,i,()),(t.args.map Ty.enc,t.base,()),((),0,0,(),()),(t.args.map Ty.enc,k,ix,(),()),[],())) (fun x=>x=(oC k i t).enc):=by
   intro ix K2;refine aI.intro (fun j:Nat=>(((),(),(t.args.length:Int),(),(j:Int),()),((k,i,()),(t.args.map Ty.enc,t.base,()),((),0,0,(),()),(t.args.map Ty.enc,k,ix,(),()),((iw t.args.length 0 t.args).take j).map Tm.enc,())))
    (fun j=>j<=t.args.length) (fun j=>t.args.length-j) 0 (by rw[aqu];rfl) (aqC _) ?_
   intro j hj again cj;dsimp only;rw[aqu];refine az.intro (fun h=>?_) fun h=>?_
   ·have aH:j<t.args.length:=by simpa using h
    have hi:=ih t.args[j] 0 ((t.args.length:Int)-1-(j:Nat)) (by have:=Ty.eK aH;omega) (by omega);rw[Ty.aG,Tm.aG] at hi;have hw:ag .i64 (ag .i64 ((t.args.length:Int)-1)-(j:Int))=(t.args.length:Int)-1-(j:Nat):=by
     rw[ba (n:=(t.args.length:Int)-1) (by omega) (by omega),ba (by omega) (by omega)]
    rw[hw];refine⟨by omega,by omega,_,_,Ty.bh aH,_,_,_,_,hi,rfl,bJ rfl (by simp;omega) (by decide),rfl,?_⟩;rw[bk (by omega),Tm.iu,<-AH aH];exact cj (j+1) (by omega) (by omega)
   ·have hle:t.args.length<=j:=by simpa using h
    refine⟨rfl,?_⟩;rw[aqP (by rw[oD];exact hle),yB,Tm.ia,K2]
  rw[Ty.aG];refine SS (az.intro (fun h=>⟨rfl,?_⟩) fun h=>⟨rfl,?_⟩)
  ·have hk:k=0:=by simpa using h
   refine loop _ ?_;rw[if_pos hk,aqu]
  ·have hk:¬k=0:=by simpa using h
   exact loop _ (by rw[if_neg hk])
theorem Lj:∀(d:Nat) (t:Ty) (k i:Int),t.size<=d->d<=1000->(k=0->0<=i/\i<=1000)->ay aj 233 [.agg [nI k,nI i],t.enc] (oC k i t).enc:=by
 intro d
 induction d with
 |zero=>intro t k i h;have:=t.size_pos;omega
 |succ d ih=>
  intro t k i h hd h0;have hq:=Ty.aO t.args;have CT:=t.size_eq;have gY:=kG (t:=t) (l:=[]) (by simp[Ty.sizes];omega);rw[Ty.arrow,arF,Ty.ia,Ty.aG,arl] at gY;have loop:∀ix:Int,ix=(if k=0 then ag .i64 (i+(t.args.length:Nat)) else i)->q6 (((),((ab (t.args.map Ty.enc):Nat):Int),(),t.args.map Ty.enc,((ab (t.args.map Ty.enc):Nat):Int),0,()),((k,i,()),(t.args.map Ty.enc,t.base,()),((),0,0,(),()),(t.args.map Ty.enc,k,ix,(),()),[],())) (fun x=>x=(oC k i t).enc):=by
   intro ix K2;refine aI.intro (fun j:Nat=>(((),(t.args.length:Int),(),t.args.map Ty.enc,(t.args.length:Int),(j:Int),()),((k,i,()),(t.args.map Ty.enc,t.base,()),((),0,0,(),()),(t.args.map Ty.enc,k,ix,(),()),((iw t.args.length 0 t.args).take j).map Tm.enc,())))
    (fun j=>j<=t.args.length) (fun j=>t.args.length-j) 0 (by rw[aqu];rfl) (aqC _) ?_
   intro j hj again cj;dsimp only;rw[aqu];refine az.intro (fun h=>?_) fun h=>?_
   ·have aH:j<t.args.length:=by simpa using h
    have hi:=ih t.args[j] 0 ((t.args.length:Int)-1-(j:Nat)) (by have:=Ty.eK aH;omega) (by omega) (fun _=>⟨by omega,by omega⟩);rw[Ty.aG,Tm.aG] at hi;have hw:ag .i64 (ag .i64 ((t.args.length:Int)-1)-(j:Int))=(t.args.length:Int)-1-(j:Nat):=by
     rw[ba (n:=(t.args.length:Int)-1) (by omega) (by omega),ba (by omega) (by omega)]
    rw[hw];refine⟨by omega,by omega,_,_,Ty.bh aH,_,_,_,_,hi,rfl,bJ rfl (by simp;omega) (by decide),rfl,?_⟩;rw[bk (by omega),Tm.iu,<-AH aH];exact cj (j+1) (by omega) (by omega)
   ·have hle:t.args.length<=j:=by simpa using h
    refine⟨rfl,?_⟩;rw[aqP (by rw[oD];exact hle),yB,Tm.ia,K2]
  rw[Ty.aG];refine SQ (az.intro (fun h=>?_) fun h=>?_)
  ·have hk:k=0:=by simpa using h
   have:=h0 hk;refine az.neg (decide_eq_false (by omega)) (az.neg (decide_eq_false (by omega)) ⟨_,_,gY,az.pos h ⟨rfl,loop _ ?_⟩⟩);rw[if_pos hk,aqu]
  ·have hk:¬k=0:=by simpa using h
   exact⟨_,_,gY,az.neg h ⟨rfl,loop _ (by rw[if_neg hk])⟩⟩
abbrev iE (n:Nd):AV:=.agg [nI n.kind,nS n.word,nI n.at_,.sl (n.kids.map Nd.enc)]
abbrev B8:Nd:=.mk 0 ⟨#[]⟩ 0 []
abbrev wj (l:List ByteArray):AV:=.sl (l.map nS)
section
abbrev Lk:ByteArray:=⟨#[40]⟩
abbrev rpW:ByteArray:=⟨#[41]⟩
abbrev arW:ByteArray:=⟨#[45,62]⟩
abbrev bsW:ByteArray:=⟨#[92]⟩
abbrev Xc:ByteArray:=⟨#[58]⟩
abbrev doW:ByteArray:=⟨#[46]⟩
section
variable (L:List Tk) (s:ByteArray)
def cC (f:St->Nd×St) (st:St):Nd×St:=
 match dE L s Lk st with
 |(true,st1)=>((f st1).1,dF L s rpW (f st1).2)
 |(false,st1)=>(.mk 1 (mQ L s 1 st1).1.2.1 (mQ L s 1 st1).1.2.2 [],(mQ L s 1 st1).2)
def PN (f:St->Nd×St) (st:St):Nd×St:=
 match dE L s arW (cC L s f st).2 with
 |(true,st2)=>(.mk 2 ⟨#[]⟩ (cC L s f st).1.at_ [(cC L s f st).1,(f st2).1],(f st2).2)
 |(false,st2)=>((cC L s f st).1,st2)
def gS (full:Bool) (f:St->Nd×St) (st:St):Nd×St:=
 if jz st=true then(if full=true then(B8,jJ L s 2 st) else f st) else(B8,st)
def rA:Nat->St->Nd×St
 |0=>gS L s true fun st=>(B8,st)
 |n+1=>gS L s false (PN L s (rA n))
def VX (f g:St->Nd×St) (a:Int) (st:St):Nd×St:=
 (.mk 3 (bM L s st).1 a [(f (dF L s Xc (bM L s st).2)).1,(g (dF L s doW (f (dF L s Xc (bM L s st).2)).2)).1],(g (dF L s doW (f (dF L s Xc (bM L s st).2)).2)).2)
def mE (g:St->Nd×St):Nat->Nd->St->Nd×St
 |0,a,st=>(a,st)
 |n+1,a,st=>if xk L s st=true then mE g n (.mk 4 ⟨#[]⟩ a.at_ [a,(cC L s g st).1]) (cC L s g st).2 else(a,st)
def C3 (f g:St->Nd×St) (st:St):Nd×St:=
 match dE L s bsW st with
 |(true,st1)=>VX L s f g (pk L s st.1).2.2 st1
 |(false,st1)=>mE L s g (L.length+1) (cC L s g st1).1 (cC L s g st1).2
def jq:Nat->St->Nd×St
 |0=>gS L s true fun st=>(B8,st)
 |n+1=>gS L s false (C3 L s (rA L s n) (jq n))
end
variable {L:List Tk} {s w:ByteArray} {o:Int} {st:St} {i n:Nat}
def AI (L:List Tk) (f:St->Nd×St):Prop:=∀st,nD L st (f st).2
theorem lP (h:PE L s) {f:St->Nd×St} (hf:AI L f):AI L (cC L s f):=by
 intro st;have h1:=fU (L:=L) (s:=s) (w:=Lk) (st:=st);unfold cC;rcases hx:dE L s Lk st with⟨b,st1⟩;rw[hx] at h1;cases b
 ·exact h1.trans (Au h (by decide))
 ·exact h1.trans ((hf st1).trans dx)
theorem sc {f:St->Nd×St} {b:Bool} (hf:AI L f):AI L (gS L s b f):=by
 intro st;unfold gS;split
 ·split
  ·exact oA
  ·exact hf st
 ·exact nD.refl
theorem VY (h:PE L s) {f:St->Nd×St} (hf:AI L f):AI L (PN L s f):=by
 intro st;have h0:=lP h hf st;have h1:=fU (L:=L) (s:=s) (w:=arW) (st:=(cC L s f st).2);unfold PN;rcases hx:dE L s arW (cC L s f st).2 with⟨b,st1⟩;rw[hx] at h1;cases b
 ·exact h0.trans h1
 ·exact h0.trans (h1.trans (hf st1))
theorem rB (h:PE L s):∀n,AI L (rA L s n)
 |0=>sc fun _=>nD.refl
 |n+1=>sc (VY h (rB h n))
theorem VZ (h:PE L s) {f g:St->Nd×St} (hf:AI L f) (hg:AI L g) {a:Int}:AI L (VX L s f g a):=fun st=>
 (cX h).trans (dx.trans ((hf _).trans (dx.trans (hg _))))
theorem C4 (h:PE L s) {g:St->Nd×St} (hg:AI L g):∀(n:Nat) (a:Nd),AI L (mE L s g n a)
 |0,a,st=>nD.refl
 |n+1,a,st=>by
  rw[mE];split
  ·exact(lP h hg st).trans (C4 h hg n _ _)
  ·exact nD.refl
theorem PR (h:PE L s) {f g:St->Nd×St} (hf:AI L f) (hg:AI L g):AI L (C3 L s f g):=by
 intro st;have h1:=fU (L:=L) (s:=s) (w:=bsW) (st:=st);unfold C3;rcases hx:dE L s bsW st with⟨b,st1⟩;rw[hx] at h1;cases b
 ·exact h1.trans ((lP h hg st1).trans (C4 h hg _ _ _))
 ·exact h1.trans (VZ h hf hg st1)
theorem lQ (h:PE L s):∀n,AI L (jq L s n)
 |0=>sc fun _=>nD.refl
 |n+1=>sc (PR h (rB h n) (lQ h n))
def V0 (x:AV) (H:List aw):AV->List aw->Prop:=fun r q=>aS r x/\q=H
theorem aY.Ll {P:Program} {f:FuncId} {args:List AV} {hp H:List aw} {x:AV} (h:aY P f args hp (V0 x H)):aY P f args hp (fun r q=>r=x/\q=H):=h.res fun r q ⟨h1,h2⟩=>⟨_,h1,rfl,h2⟩
theorem ndW {a b c x y:AV} (h:aS x y):aS (.agg [a,b,c,x]) (.agg [a,b,c,y]):=aS.agg ⟨aS.refl _,aS.refl _,aS.refl _,h,ai⟩
theorem V1 (a b:Nd):[iE a,iE b]=[a,b].map Nd.enc:=by simp[Nd.aG]
theorem aic {k a:Int} {w:ByteArray} {x y:Nd}:aS (.agg [nI k,nS w,nI a,.clip [iE x,iE y]]) (iE (.mk k w a [x,y])):=by
 have:iE (.mk k w a [x,y])=.agg [nI k,nS w,nI a,.sl [iE x,iE y]]:=by rw[V1];rfl
 rw[this];exact ndW (fT _)
theorem wm {k a:Int} {w:ByteArray}:aS (.agg [nI k,nS w,nI a,.ax (.slice none 0 0)]) (iE (.mk k w a [])):=ndW bR
def PS (L:List Tk) (s:ByteArray) (f:Nat) (o:Int) (F:St->Nd×St):Prop:=∀st:St,st.1<=L.length->aY aj f [.ptr 1 0] (PO L s o st) (fun r q=>r=iE (F st).1/\q=PO L s o (F st).2)
def NdQ (L:List Tk) (s:ByteArray) (f:Nat) (o:Int) (F:St->Nd×St):Prop:=∀st:St,st.1<=L.length->aY aj f [.ptr 2 0] (PQ L s o st) (fun r q=>r=iE (F st).1/\q=PQ L s o (F st).2)
theorem Im (h:PE L s) {F:St->Nd×St} (hF:PS L s 116 o F) (ha:AI L F) (hi:st.1<=L.length):
  aY aj 189 [.ptr 1 0,.dm 116 [.ptr 1 0]] (PO L s o st) (fun r q=>r=iE (cC L s F st).1/\q=PO L s o (cC L s F st).2):=by
 have hn:=kH (o:=o) (w:=Lk) h hi;have h1:=fU (L:=L) (s:=s) (w:=Lk) (st:=st);unfold cC;rcases hx:dE L s Lk st with⟨b,st1⟩;rw[hx] at hn h1;have jN:=h1.2 hi;refine aY.Ll (Hi ⟨_,hn,fun r q ⟨e1,e2⟩=>⟨_,_,_,_,_,_,_,_,_,⟨e1,e2⟩,?_⟩⟩);cases b
 ·exact az.neg rfl ⟨_,pM h jN (by decide),fun r q ⟨e1,e2⟩=>⟨_,_,_,_,_,_,_,_,_,_,_,⟨e1,e2⟩,wm,rfl⟩⟩
 ·exact az.pos rfl ⟨_,hF st1 jN,fun r q ⟨e1,e2⟩=>⟨_,_,_,_,_,_,_,_,_,_,_,_,⟨e1,e2⟩,_,eM h ((ha st1).2 jN),fun r q ⟨e1,e2⟩=>⟨_,_,_,_,_,_,_,_,⟨e1,e2⟩,aS.refl _,rfl⟩⟩⟩
theorem B9 (h:PE L s) {F:St->Nd×St} (ho:0<=o/\o<=60) (hF:o≠60->NdQ L s 188 (o+1) F) (hi:st.1<=L.length):
  aY aj 187 [.ptr 1 0,.bz 188 [.ptr 2 0]] (PQ L s o st) (fun r q=>r=iE (gS L s (o==60) F st).1/\q=PQ L s o (gS L s (o==60) F st).2):=by
 refine aY.Ll (BV ⟨_,ck (st:=st),fun r q ⟨e1,e2⟩=>⟨_,_,_,_,_,_,_,_,_,⟨e1,e2⟩,az.intro (fun h1=>az.intro (fun h2=>?_) fun h2=>?_) fun h1=>?_⟩⟩)
 ·refine⟨_,fD (st:=st) h hi,fun r q ⟨e1,e2⟩=>⟨_,_,_,_,_,_,_,_,⟨e1,e2⟩,_,ck (st:=jJ L s 2 st),fun r q ⟨e1,e2⟩=>⟨_,_,_,_,_,_,_,_,_,⟨e1,e2⟩,az.pos (by rw[rq (by decide) h1];rfl) ?_⟩⟩⟩;rw[gS,if_pos h1,if_pos h2];exact⟨wm,rfl⟩
 ·have h3:o≠60:=by simpa using h2
  have hb:=hF h3 st hi;rw[gS,if_pos h1,if_neg (by rw[h2];decide)];refine⟨_,ck (st:=st),fun r q ⟨e1,e2⟩=>⟨_,_,_,_,_,_,_,_,_,⟨e1,e2⟩,az.neg (by rw[h1];rfl) ?_⟩⟩;rw[ba (n:=o+1) (by omega) (by omega)];refine⟨_,hb,fun r q ⟨e1,e2⟩=>⟨_,_,_,_,_,_,_,_,_,_,_,_,⟨e1,e2⟩,aS.refl _,?_⟩⟩;rw[ba (n:=o+1-1) (by omega) (by omega),Int.add_sub_cancel]
 ·rw[gS,if_neg (by rw[h1];decide)];exact⟨_,ck (st:=st),fun r q ⟨e1,e2⟩=>⟨_,_,_,_,_,_,_,_,_,⟨e1,e2⟩,az.pos (by rw[h1];rfl) ⟨wm,rfl⟩⟩⟩
theorem xq (h:PE L s) {F:St->Nd×St} (ho:0<=o/\o<=60) (hF:o≠60->NdQ L s 188 (o+1) F):PS L s 116 o (gS L s (o==60) F):=fun st hi=>
 TU ⟨_,B9 h ho hF hi,fun r q ⟨e1,e2⟩=>⟨_,_,_,_,_,_,_,_,_,_,_,_,⟨e1,e2⟩,rfl,rfl⟩⟩
theorem xr (h:PE L s) {F:St->Nd×St} (hF:PS L s 128 o F) (ha:AI L F) (hi:st.1<=L.length):
  aY aj 189 [.ptr 1 0,.dm 128 [.ptr 1 0]] (PO L s o st) (fun r q=>r=iE (cC L s F st).1/\q=PO L s o (cC L s F st).2):=by
 have hn:=kH (o:=o) (w:=Lk) h hi;have h1:=fU (L:=L) (s:=s) (w:=Lk) (st:=st);unfold cC;rcases hx:dE L s Lk st with⟨b,st1⟩;rw[hx] at hn h1;have jN:=h1.2 hi;refine aY.Ll (Hj ⟨_,hn,fun r q ⟨e1,e2⟩=>⟨_,_,_,_,_,_,_,_,_,⟨e1,e2⟩,?_⟩⟩);cases b
 ·exact az.neg rfl ⟨_,pM h jN (by decide),fun r q ⟨e1,e2⟩=>⟨_,_,_,_,_,_,_,_,_,_,_,⟨e1,e2⟩,wm,rfl⟩⟩
 ·exact az.pos rfl ⟨_,hF st1 jN,fun r q ⟨e1,e2⟩=>⟨_,_,_,_,_,_,_,_,_,_,_,_,⟨e1,e2⟩,_,eM h ((ha st1).2 jN),fun r q ⟨e1,e2⟩=>⟨_,_,_,_,_,_,_,_,⟨e1,e2⟩,aS.refl _,rfl⟩⟩⟩
theorem Ca (h:PE L s) {F:St->Nd×St} (ho:0<=o/\o<=60) (hF:o≠60->NdQ L s 199 (o+1) F) (hi:st.1<=L.length):
  aY aj 187 [.ptr 1 0,.bz 199 [.ptr 2 0]] (PQ L s o st) (fun r q=>r=iE (gS L s (o==60) F st).1/\q=PQ L s o (gS L s (o==60) F st).2):=by
 refine aY.Ll (BX ⟨_,ck (st:=st),fun r q ⟨e1,e2⟩=>⟨_,_,_,_,_,_,_,_,_,⟨e1,e2⟩,az.intro (fun h1=>az.intro (fun h2=>?_) fun h2=>?_) fun h1=>?_⟩⟩)
 ·refine⟨_,fD (st:=st) h hi,fun r q ⟨e1,e2⟩=>⟨_,_,_,_,_,_,_,_,⟨e1,e2⟩,_,ck (st:=jJ L s 2 st),fun r q ⟨e1,e2⟩=>⟨_,_,_,_,_,_,_,_,_,⟨e1,e2⟩,az.pos (by rw[rq (by decide) h1];rfl) ?_⟩⟩⟩;rw[gS,if_pos h1,if_pos h2];exact⟨wm,rfl⟩
 ·have h3:o≠60:=by simpa using h2
  have hb:=hF h3 st hi;rw[gS,if_pos h1,if_neg (by rw[h2];decide)];refine⟨_,ck (st:=st),fun r q ⟨e1,e2⟩=>⟨_,_,_,_,_,_,_,_,_,⟨e1,e2⟩,az.neg (by rw[h1];rfl) ?_⟩⟩;rw[ba (n:=o+1) (by omega) (by omega)];refine⟨_,hb,fun r q ⟨e1,e2⟩=>⟨_,_,_,_,_,_,_,_,_,_,_,_,⟨e1,e2⟩,aS.refl _,?_⟩⟩;rw[ba (n:=o+1-1) (by omega) (by omega),Int.add_sub_cancel]
 ·rw[gS,if_neg (by rw[h1];decide)];exact⟨_,ck (st:=st),fun r q ⟨e1,e2⟩=>⟨_,_,_,_,_,_,_,_,_,⟨e1,e2⟩,az.pos (by rw[h1];rfl) ⟨wm,rfl⟩⟩⟩
theorem vc (h:PE L s) {F:St->Nd×St} (ho:0<=o/\o<=60) (hF:o≠60->NdQ L s 199 (o+1) F):PS L s 128 o (gS L s (o==60) F):=fun st hi=>
 TY ⟨_,Ca h ho hF hi,fun r q ⟨e1,e2⟩=>⟨_,_,_,_,_,_,_,_,_,_,_,_,⟨e1,e2⟩,rfl,rfl⟩⟩
theorem Lm (h:PE L s) {F:St->Nd×St} (hF:PS L s 116 o F) (ha:AI L F):NdQ L s 188 o (PN L s F):=by
 intro st hi;have h0:=lP h ha st;have hn:=kH (o:=o) (w:=arW) (st:=(cC L s F st).2) h (h0.2 hi);have h1:=fU (L:=L) (s:=s) (w:=arW) (st:=(cC L s F st).2);unfold PN;rcases hx:dE L s arW (cC L s F st).2 with⟨b,st1⟩;rw[hx] at hn h1;have jN:=h1.2 (h0.2 hi);refine aY.Ll (TV ⟨_,Im h hF ha hi,fun r q ⟨e1,e2⟩=>⟨_,_,_,_,_,_,_,_,_,_,_,_,⟨e1,e2⟩,_,hn,fun r q ⟨e1,e2⟩=>⟨_,_,_,_,_,_,_,_,_,⟨e1,e2⟩,?_⟩⟩⟩);cases b
 ·exact az.pos rfl ⟨aS.refl _,rfl⟩
 ·have key:z6 (L.map cW) s (st1.1:Int) o st1.2.1 st1.2.2.1 st1.2.2.2.1 st1.2.2.2.2 (V0 (iE (.mk 2 ⟨#[]⟩ (cC L s F st).1.at_ [(cC L s F st).1,(F st1).1])) (PQ L s o (F st1).2)) (cC L s F st).1.at_ (cC L s F st).1.kind (cC L s F st).1.word ((cC L s F st).1.kids.map Nd.enc):=
   ⟨_,hF st1 jN,fun r q ⟨e1,e2⟩=>⟨_,_,_,_,_,_,_,_,_,_,_,_,⟨e1,e2⟩,aic,rfl⟩⟩
  exact az.neg rfl ⟨key,key⟩
theorem tx (h:PE L s):∀n:Nat,n<=60->PS L s 116 ((60:Int)-n) (rA L s n)
 |0,_=>xq (o:=(60:Int)-(0:Nat)) h (by omega) fun h=>(h rfl).elim
 |n+1,hn=>by
  have:=xq (o:=(60:Int)-((n+1:Nat):Int)) h (by omega) fun _=>Lm (F:=rA L s n) h (by
   rw[show (60:Int)-((n+1:Nat):Int)+1=(60:Int)-(n:Nat) by omega];exact tx h n (by omega)) (rB h n)
  rw[show ((60:Int)-((n+1:Nat):Int)==60)=false from beq_eq_false_iff_ne.2 (by omega)] at this;exact this
theorem PT (h:PE L s) {F G:St->Nd×St} (hF:PS L s 116 o F) (ha:AI L F) (hG:PS L s 128 o G) (hi:st.1<=L.length) {a:Int}:
  aY aj 200 [.ptr 1 0,nI a] (PO L s o st) (fun r q=>r=iE (VX L s F G a st).1/\q=PO L s o (VX L s F G a st).2):=by
 have i1:=(cX (s:=s) h).2 hi;have i2:=(dx (L:=L) (s:=s) (w:=Xc) (st:=(bM L s st).2)).2 i1;have i3:=(ha (dF L s Xc (bM L s st).2)).2 i2;have i4:=(dx (L:=L) (s:=s) (w:=doW) (st:=(F (dF L s Xc (bM L s st).2)).2)).2 i3;exact aY.Ll (TW ⟨_,dM h hi,fun r q ⟨e1,e2⟩=>⟨_,_,_,_,_,_,_,_,_,⟨e1,e2⟩,_,eM h i1,fun r q ⟨e1,e2⟩=>⟨_,_,_,_,_,_,_,_,⟨e1,e2⟩,_,hF _ i2,fun r q ⟨e1,e2⟩=>
  ⟨_,_,_,_,_,_,_,_,_,_,_,_,⟨e1,e2⟩,_,eM h i3,fun r q ⟨e1,e2⟩=>⟨_,_,_,_,_,_,_,_,⟨e1,e2⟩,_,hG _ i4,fun r q ⟨e1,e2⟩=>⟨_,_,_,_,_,_,_,_,_,_,_,_,⟨e1,e2⟩,aic,rfl⟩⟩⟩⟩⟩⟩)
theorem V2 (h:PE L s) {g:St->Nd×St} (hg:AI L g) (hp:xk L s st=true):st.1<(cC L s g st).2.1/\st.1<L.length:=by
 simp only[xk,aqv,arh,beq_iff_eq,decide_eq_true_eq] at hp;obtain⟨h1,h2⟩:=hp;have aH:st.1<L.length:=by
  refine u7 (L:=L) (s:=s) h ?_;rcases h2 with h2|⟨h2,_⟩<;>rw[h2]<;>decide
 refine⟨?_,aH⟩;unfold cC;rcases h2 with h2|⟨h2,h3⟩
 ·cases ht:FB Lk (pk L s st.1)
  ·have:dE L s Lk st=(false,st):=by rw[dE,h1,ht];rfl
   rw[this];dsimp only;rw[mQ,if_pos h1,if_pos h2];exact arR _
  ·have:dE L s Lk st=(true,(st.1+1,st.2)):=by rw[dE,h1,ht];rfl
   rw[this];exact aqX (arR _) ((hg (st.1+1,st.2)).trans (dx (L:=L) (s:=s) (w:=rpW))).1
 ·have ht:FB Lk (pk L s st.1)=true:=by simp[FB,h2,h3]
  have:dE L s Lk st=(true,(st.1+1,st.2)):=by rw[dE,h1,ht];rfl
  rw[this];exact aqX (arR _) ((hg (st.1+1,st.2)).trans (dx (L:=L) (s:=s) (w:=rpW))).1
theorem Io (h:PE L s) {F G:St->Nd×St} (hF:PS L s 116 o F) (ha:AI L F) (hG:PS L s 128 o G) (hb:AI L G):NdQ L s 199 o (C3 L s F G):=by
 intro st hi;have hn:=kH (o:=o) (w:=bsW) h hi;have h1:=fU (L:=L) (s:=s) (w:=bsW) (st:=st);unfold C3;rcases hx:dE L s bsW st with⟨b,st1⟩;rw[hx] at hn h1;have jN:=h1.2 hi;refine aY.Ll (T5 ⟨_,dy h hi,fun r q ⟨e1,e2⟩=>⟨_,_,_,_,_,_,⟨e1,e2⟩,_,hn,fun r q ⟨e1,e2⟩=>⟨_,_,_,_,_,_,_,_,_,⟨e1,e2⟩,?_⟩⟩⟩);cases b
 ·refine az.neg rfl ⟨_,xr h hG hb jN,fun r q ⟨e1,e2⟩=>⟨_,_,_,_,_,_,_,_,_,_,_,_,⟨e1,e2⟩,?_⟩⟩;clear e1 e2;have sD:=(lP h hb st1).2 jN;dsimp only;generalize hX:mE L s G (L.length+1) (cC L s G st1).1 (cC L s G st1).2=X;refine aI.intro (fun p:Nd×St=>(((),(),(),()),((L.map cW,s,(p.2.1:Int),()),((),o,p.2.2.1,p.2.2.2.1,p.2.2.2.2.1,p.2.2.2.2.2,()),((),()),(0,⟨#[]⟩,0,(),()),(p.1.kind,p.1.word,p.1.at_,p.1.kids.map Nd.enc,()),())))
   (fun p=>p.2.1<=L.length/\∃n,L.length+1<=n+p.2.1/\X=mE L s G n p.1 p.2) (fun p=>L.length-p.2.1) (cC L s G st1) rfl ⟨sD,_,by omega,hX.symm⟩ ?_
  intro ⟨a,u⟩ ⟨hu,n,XH,ZM⟩ again cj;dsimp only at hu XH ZM ⊢;obtain⟨n,rfl⟩:∃m,n=m+1:=⟨n-1,by omega⟩;rw[mE] at ZM;refine⟨_,H4 (st:=u) h hu,fun r q ⟨e1,e2⟩=>⟨_,_,_,_,_,_,_,_,_,⟨e1,e2⟩,az.intro (fun h2=>?_) fun h2=>?_⟩⟩
  ·rw[if_pos h2] at ZM;have aH:=V2 h hb h2;have BN:=(lP h hb u).2 hu;have key:z8 (L.map cW) s (u.1:Int) o u.2.1 u.2.2.1 u.2.2.2.1 u.2.2.2.2 again 0 ⟨#[]⟩ 0 a.at_ a.kind a.word (a.kids.map Nd.enc):=by
    refine⟨_,xr h hG hb hu,fun r q ⟨e1,e2⟩=>⟨_,_,_,_,_,_,_,_,_,_,_,_,⟨e1,e2⟩,?_⟩⟩;have e:[iE a,iE (cC L s G u).1]=[a,(cC L s G u).1].map Nd.enc:=V1 _ _;rw[e];exact cj (.mk 4 ⟨#[]⟩ a.at_ [a,(cC L s G u).1],(cC L s G u).2) ⟨BN,n,by dsimp only;omega,ZM⟩ (by dsimp only;omega)
   exact⟨key,key⟩
  ·rw[if_neg (by rw[h2];decide)] at ZM;rw[ZM];exact⟨aS.refl _,rfl⟩
 ·exact az.pos rfl ⟨_,PT h hF ha hG jN,fun r q ⟨e1,e2⟩=>⟨_,_,_,_,_,_,_,_,_,_,_,_,⟨e1,e2⟩,aS.refl _,rfl⟩⟩
theorem xt (h:PE L s):∀n:Nat,n<=60->PS L s 128 ((60:Int)-n) (jq L s n)
 |0,_=>vc (o:=(60:Int)-(0:Nat)) h (by omega) fun h=>(h rfl).elim
 |n+1,hn=>by
  have e:(60:Int)-((n+1:Nat):Int)+1=(60:Int)-(n:Nat):=by omega
  have:=vc (o:=(60:Int)-((n+1:Nat):Int)) h (by omega) fun _=>Io (F:=rA L s n) (G:=jq L s n) h (by rw[e];exact tx h n (by omega)) (rB h n) (by rw[e];exact xt h n (by omega)) (lQ h n);rw[show ((60:Int)-((n+1:Nat):Int)==60)=false from beq_eq_false_iff_ne.2 (by omega)] at this;exact this
end
abbrev wd (w:ByteArray):Nd:=.mk 1 w 0 []
structure It where
 kind:Int
 words:List ByteArray
 nodes:List Nd
 num:Int
 at_:Int
abbrev itC (x:It):List AV:=[nI x.kind,wj x.words,.sl (x.nodes.map Nd.enc),nI x.num,nI x.at_]
abbrev iR (x:It):AV:=.agg (itC x)
section
abbrev scW:ByteArray:=⟨#[59]⟩
abbrev Cb:ByteArray:=⟨#[62]⟩
abbrev eqW:ByteArray:=⟨#[61]⟩
def alQ:It:=⟨0,[],[],0,0⟩
def NL:List ByteArray:=[⟨#[115,111,114,116]⟩,⟨#[99,111,110,115,116]⟩,⟨#[118,97,114]⟩,⟨#[101,113]⟩,⟨#[114,117,108,101]⟩,⟨#[112,114,101,99]⟩,⟨#[115,116,97,116,117,115]⟩,⟨#[99,111,109,112,108,101,116,101]⟩,⟨#[110,111,114,109,97,108]⟩,⟨#[100,101,99,105,100,101]⟩,⟨#[99,111,110,102,108,117,101,110,116]⟩,⟨#[99,101,114,116,105,102,121]⟩]
def wo (w:ByteArray):List ByteArray->Nat->Int
 | [],_ => -1
 |x::l,k=>if w=x then(k:Int) else wo w l (k+1)
def AJ (w:ByteArray):Int:=wo w NL 0+1
section
variable (L:List Tk) (s:ByteArray)
def FC:Nat->List ByteArray->St->List ByteArray×St
 |0,l,st=>(l,st)
 |n+1,l,st=>if(jz st&&(pk L s st.1).1==1)=true then FC n (l++[(bM L s st).1]) (bM L s st).2 else(l,st)
def pT (st:St):List ByteArray×St:=FC L s (L.length+1) [(bM L s st).1] (bM L s st).2
def NM:Nat->List ByteArray->St->List ByteArray×St
 |0,l,st=>(l,st)
 |n+1,l,st=>if(dE L s Cb st).1=true then NM n (l++[(bM L s (dE L s Cb st).2).1]) (bM L s (dE L s Cb st).2).2 else(l,(dE L s Cb st).2)
def rC (st:St):List ByteArray×St:=
 NM L s (L.length+1) [(bM L s st).1,(bM L s (dF L s Cb (bM L s st).2)).1] (bM L s (dF L s Cb (bM L s st).2)).2
def fI (w:ByteArray) (st:St):List Nd×St:=
 ([(jq L s 60 st).1,(jq L s 60 (dF L s w (jq L s 60 st).2)).1],(jq L s 60 (dF L s w (jq L s 60 st).2)).2)
def eB (st:St):List ByteArray×St:=([(bM L s st).1],dF L s Xc (bM L s st).2)
def dV (st:St):Int×St:=((Aw L s st).1,dF L s Xc (Aw L s st).2)
def ZW (f:St->Nd×St) (st:St):List Nd×St:=([(f st).1],(f st).2)
def cY (k:Int) (st:St):(List ByteArray×List Nd×Int)×St:=
 if k=1 then(((pT L s st).1,[],0),(pT L s st).2)
 else if k=2\/k=3 then(((eB L s st).1,(ZW (rA L s 60) (eB L s st).2).1,0),(ZW (rA L s 60) (eB L s st).2).2)
 else if k=4 then(((eB L s st).1,(fI L s eqW (eB L s st).2).1,0),(fI L s eqW (eB L s st).2).2)
 else if k=5 then(((eB L s st).1,(fI L s Cb (eB L s st).2).1,0),(fI L s Cb (eB L s st).2).2)
 else if k=6 then(((rC L s st).1,[],0),(rC L s st).2)
 else if k=7 then(([(bM L s st).1,(bM L s (bM L s st).2).1],[],0),(bM L s (bM L s st).2).2)
 else if k=9 then(([],(ZW (jq L s 60) (dV L s st).2).1,(dV L s st).1),(ZW (jq L s 60) (dV L s st).2).2)
 else if k=10 then(([],(fI L s eqW (dV L s st).2).1,(dV L s st).1),(fI L s eqW (dV L s st).2).2)
 else if k=12 then(([(bM L s st).1],[],0),(bM L s st).2)
 else(([],[],(Aw L s st).1),(Aw L s st).2)
def fS (st:St):It×St:=
 if(pk L s st.1).1=1/\AJ (pk L s st.1).2.1≠0 then
  (⟨AJ (pk L s st.1).2.1,(cY L s (AJ (pk L s st.1).2.1) (st.1+1,st.2)).1.1,(cY L s (AJ (pk L s st.1).2.1) (st.1+1,st.2)).1.2.1,(cY L s (AJ (pk L s st.1).2.1) (st.1+1,st.2)).1.2.2,(pk L s st.1).2.2⟩,dF L s scW (cY L s (AJ (pk L s st.1).2.1) (st.1+1,st.2)).2)
 else(alQ,jJ L s 3 st)
def oE:Nat->List It->St->List It×St
 |0,l,st=>(l,st)
 |n+1,l,st=>if(jz st&&(pk L s st.1).1 != 4)=true then(if l.length=1000 then(l,jJ L s 2 st) else oE n (l++[(fS L s st).1]) (fS L s st).2) else(l,st)
def tz (st:St):St:=if(pk L s st.1).1=4 then st else jJ L s 3 st
end
def dN (s:ByteArray):List It×Fa:=
 if(da s).2.1=0 then
  (if jz (tz (da s).1 s (oE (da s).1 s ((da s).1.length+2) [] (0,pL)).2)=true then((oE (da s).1 s ((da s).1.length+2) [] (0,pL)).1,pL)
   else([],(tz (da s).1 s (oE (da s).1 s ((da s).1.length+2) [] (0,pL)).2).2))
 else([],(da s).2)
variable {L:List Tk} {s w:ByteArray} {o:Int} {st:St} {i n:Nat}
theorem NN (h:PE L s):∀(n:Nat) (l:List ByteArray) (st:St),nD L st (FC L s n l st).2
 |0,_,_=>nD.refl
 |n+1,l,st=>by
  rw[FC];split
  ·exact(cX h).trans (NN h n _ _)
  ·exact nD.refl
theorem Ln (h:PE L s):nD L st (pT L s st).2:=(cX h).trans (NN h _ _ _)
theorem NP (h:PE L s):∀(n:Nat) (l:List ByteArray) (st:St),nD L st (NM L s n l st).2
 |0,_,_=>nD.refl
 |n+1,l,st=>by
  rw[NM];split
  ·exact fU.trans ((cX h).trans (NP h n _ _))
  ·exact fU
theorem Lp (h:PE L s):nD L st (rC L s st).2:=(cX h).trans (dx.trans ((cX h).trans (NP h _ _ _)))
theorem tA (h:PE L s):nD L st (fI L s w st).2:=(lQ h 60 st).trans (dx.trans (lQ h 60 _))
theorem ka (h:PE L s):nD L st (eB L s st).2:=(cX h).trans dx
theorem lD (h:PE L s):nD L st (dV L s st).2:=(Ax h).trans dx
theorem wq (h:PE L s) {k:Int}:nD L st (cY L s k st).2:=by
 unfold cY;split
 ·exact Ln h
 split
 ·exact(ka h).trans (rB h 60 _)
 split
 ·exact(ka h).trans (tA h)
 split
 ·exact(ka h).trans (tA h)
 split
 ·exact Lp h
 split
 ·exact(cX h).trans (cX h)
 split
 ·exact(lD h).trans (lQ h 60 _)
 split
 ·exact(lD h).trans (tA h)
 split
 ·exact cX h
 ·exact Ax h
theorem C5 (h:PE L s):nD L st (fS L s st).2:=by
 unfold fS;split
 ·rename_i hk;have aH:=u7 (L:=L) (s:=s) (i:=st.1) h (by rw[hk.1];decide);exact(nD.succ aH).trans ((wq h).trans dx)
 ·exact oA
theorem V3 (h:PE L s) (ho:jz st=true):st.1<(fS L s st).2.1\/jz (fS L s st).2=false:=by
 unfold fS;split
 ·exact .inl (aqX (arR _) ((wq (st:=(st.1+1,st.2)) h).trans dx).1)
 ·exact .inr (rq (by decide) ho)
theorem vd {l:List ByteArray} (hl:l.length<=1000000):ay aj 159 [wj l,nS w] (nI (wo w l 0)):=by
 refine Ul ?_;refine aI.intro (fun k:Nat=>((l.map nS,w,((l.length:Nat):Int),(k:Int),()),())) (fun k=>k<=l.length/\wo w l 0=wo w (l.drop k) k) (fun k=>l.length-k) 0 (by rw[aqu];rfl) ⟨aqC _,rfl⟩ ?_;intro k ⟨hk,hd⟩ again cj;dsimp only;refine az.intro (fun h=>?_) fun h=>?_
 ·have aH:k<l.length:=by have:=of_decide_eq_true h;omega
  rw[aqB aH,wo] at hd;refine⟨by omega,by rw[aqu];omega,_,getD_map aH,?_⟩;rw[eF];refine az.intro (fun h1=>?_) fun h1=>?_
  ·rw[hd,if_pos (of_decide_eq_true h1)]
  ·rw[bk (by omega)];exact cj (k+1) ⟨by omega,by rw[hd,if_neg (of_decide_eq_false h1)]⟩ (by omega)
 ·have jM:l.length<=k:=by have:=of_decide_eq_false h;omega
  rw[hd,aqK jM];rfl
theorem NQ:∀(l:List ByteArray) (k:Nat),-1<=wo w l k/\wo w l k<=k+l.length
 | [],k=>by rw[wo];simp
 |x::l,k=>by
  have:=NQ l (k+1);rw[wo,aqy]
  split<;>omega
theorem ET:ay aj 139 [nS w] (nI (AJ w)):=by
 have hb:=NQ (w:=w) NL 0;have:NL.length=12:=rfl;refine Uc ⟨_,vd (l:=NL) (by decide),?_⟩;rw[ba (by omega) (by omega)];rfl
theorem aid {x:ByteArray} {l:List ByteArray}:l.map nS++[nS x]=(l++[x]).map nS:=by simp
theorem EU (h:PE L s) (hi:st.1<=L.length):aY aj 141 [.ptr 1 0] (PO L s o st) (fun r q=>r=wj (pT L s st).1/\q=PO L s o (pT L s st).2):=by
 have hlen:=h.len;have i1:=(cX (s:=s) h).2 hi;generalize hX:pT L s st=X;rw[pT] at hX;have loop:∀(l:List ByteArray) (u:St) (m:Nat),u.1<=L.length->L.length<=m+u.1->l.length<=u.1+2->FC L s m l u=X->
   Hh (((),(),()),((L.map cW,s,(u.1:Int),()),((),o,u.2.1,u.2.2.1,u.2.2.2.1,u.2.2.2.2,()),l.map nS,())) (V0 (wj X.1) (PO L s o X.2)):=by
  intro l u m hu hm hl he;refine aI.intro (fun p:Nat×List ByteArray×St=>(((),(),()),((L.map cW,s,(p.2.2.1:Int),()),((),o,p.2.2.2.1,p.2.2.2.2.1,p.2.2.2.2.2.1,p.2.2.2.2.2.2,()),p.2.1.map nS,())))
   (fun p=>p.2.2.1<=L.length/\L.length<=p.1+p.2.2.1/\p.2.1.length<=p.2.2.1+2/\FC L s p.1 p.2.1 p.2.2=X) (fun p=>L.length-p.2.2.1) (m,l,u) rfl ⟨hu,hm,hl,he⟩ ?_
  intro ⟨m,l,u⟩ ⟨hu,hm,hl,he⟩ again cj;dsimp only at hu hm hl he ⊢;have stop:(jz u&&(pk L s u.1).1==1)=false->(l.map nS).length=(l.map nS).length/\V0 (wj X.1) (PO L s o X.2) (.sl (l.map nS)) (PO L s o u):=fun h1=>by
   have:FC L s m l u=(l,u):=by
    cases m with
    |zero=>rfl
    |succ m=>rw[FC,if_neg (by rw[h1];decide)]
   rw[<-he,this];exact⟨rfl,aS.refl _,rfl⟩
  refine⟨_,ck (st:=u),fun r q ⟨e1,e2⟩=>⟨_,_,_,_,_,_,_,_,_,⟨e1,e2⟩,az.intro (fun h1=>⟨_,dy h hu,fun r q ⟨e1,e2⟩=>⟨_,_,_,_,_,_,⟨e1,e2⟩,az.intro (fun h2=>?_) fun h2=>stop (by rw[h1,h2];rfl)⟩⟩) fun h1=>stop (by rw[h1];rfl)⟩⟩;have hk:(pk L s u.1).1=1:=by simpa using h2
  have aH:=u7 (L:=L) (s:=s) (i:=u.1) h (by rw[hk];decide);have hw:(bM L s u).2.1=u.1+1:=by rw[bM,mQ,if_pos h1,if_pos hk]
  obtain⟨m,rfl⟩:∃j,m=j+1:=⟨m-1,by omega⟩;rw[FC,if_pos (by rw[h1,h2];rfl)] at he;refine⟨_,dM (st:=u) h hu,fun r q ⟨e1,e2⟩=>⟨_,_,_,_,_,_,_,_,_,⟨e1,e2⟩,rfl,bJ rfl (by simp;omega) (by decide),rfl,?_⟩⟩;rw[aid];exact cj (m,l++[(bM L s u).1],(bM L s u).2) ⟨by dsimp only;omega,by dsimp only;omega,by simp;omega,he⟩ (by dsimp only;omega)
 refine aY.Ll (TP ⟨_,dM h hi,fun r q ⟨e1,e2⟩=>⟨_,_,_,_,_,_,_,_,_,⟨e1,e2⟩,?_⟩⟩);clear e1 e2;generalize hu:(bM L s st).2=u at i1 hX;generalize (bM L s st).1=x0 at hX;have stop:(jz u&&(pk L s u.1).1==1)=false->V0 (wj X.1) (PO L s o X.2) (.clip [nS x0]) (PO L s o u):=fun h1=>by
  rw[FC,if_neg (by rw[h1];decide)] at hX;rw[<-hX];exact⟨fT _,rfl⟩
 refine⟨_,ck (st:=u),fun r q ⟨e1,e2⟩=>⟨_,_,_,_,_,_,_,_,_,⟨e1,e2⟩,az.intro (fun h1=>⟨_,dy h i1,fun r q ⟨e1,e2⟩=>⟨_,_,_,_,_,_,⟨e1,e2⟩,az.intro (fun h2=>?_) fun h2=>stop (by rw[h1,h2];rfl)⟩⟩) fun h1=>stop (by rw[h1];rfl)⟩⟩;have hk:(pk L s u.1).1=1:=by simpa using h2
 have aH:=u7 (L:=L) (s:=s) (i:=u.1) h (by rw[hk];decide);have hw:(bM L s u).2.1=u.1+1:=by rw[bM,mQ,if_pos h1,if_pos hk]
 rw[FC,if_pos (by rw[h1,h2];rfl)] at hX;refine⟨_,dM (st:=u) h i1,fun r q ⟨e1,e2⟩=>⟨_,_,_,_,_,_,_,_,_,⟨e1,e2⟩,(fun e=>by cases e),ir (fun x hx=>by rw[aqJ.1 hx];rfl) (fun x hx=>by rw[aqJ.1 hx];rfl) (by show 2<=4000000000;decide) (by decide),rfl,?_⟩⟩;exact loop ([x0]++[(bM L s u).1]) (bM L s u).2 L.length (by omega) (by omega) (by show 2<=_;omega) hX
theorem EV (h:PE L s) (hi:st.1<=L.length):aY aj 144 [.ptr 1 0] (PO L s o st) (fun r q=>r=wj (rC L s st).1/\q=PO L s o (rC L s st).2):=by
 have hlen:=h.len;have i1:=(cX (s:=s) h).2 hi;have i2:=(dx (L:=L) (s:=s) (w:=Cb) (st:=(bM L s st).2)).2 i1;have i3:=(cX (st:=dF L s Cb (bM L s st).2) (s:=s) h).2 i2;refine Ub ⟨_,dM h hi,fun r q ⟨e1,e2⟩=>⟨_,_,_,_,_,_,_,_,_,⟨e1,e2⟩,_,eM h i1,fun r q ⟨e1,e2⟩=>⟨_,_,_,_,_,_,_,_,⟨e1,e2⟩,_,dM h i2,fun r q ⟨e1,e2⟩=>⟨_,_,_,_,_,_,_,_,_,⟨e1,e2⟩,(fun e=>by cases e),
  ir (fun x hx=>by rw[aqJ.1 hx];rfl) (fun x hx=>by rw[aqJ.1 hx];rfl) (by show 2<=4000000000;decide) (by decide),rfl,?_⟩⟩⟩⟩
 clear e1 e2;rw[rC];generalize hX:NM L s (L.length+1) [(bM L s st).1,(bM L s (dF L s Cb (bM L s st).2)).1] (bM L s (dF L s Cb (bM L s st).2)).2=X;refine aI.intro (fun p:Nat×List ByteArray×St=>(((),(),()),((L.map cW,s,(p.2.2.1:Int),()),((),o,p.2.2.2.1,p.2.2.2.2.1,p.2.2.2.2.2.1,p.2.2.2.2.2.2,()),p.2.1.map nS,())))
  (fun p=>p.2.2.1<=L.length/\L.length+1<=p.1+p.2.2.1/\p.2.1.length<=p.2.2.1+2/\NM L s p.1 p.2.1 p.2.2=X) (fun p=>L.length-p.2.2.1) (L.length+1,[(bM L s st).1,(bM L s (dF L s Cb (bM L s st).2)).1],(bM L s (dF L s Cb (bM L s st).2)).2) rfl ⟨i3,by dsimp only;omega,by show 2<=_;omega,hX⟩ ?_
 intro ⟨m,l,u⟩ ⟨hu,hm,hl,he⟩ again cj;dsimp only at hu hm hl he ⊢;obtain⟨m,rfl⟩:∃j,m=j+1:=⟨m-1,by omega⟩;rw[NM] at he;have hn:=fU (L:=L) (s:=s) (w:=Cb) (st:=u);have Re:=hn.2 hu;refine⟨_,kH h hu,fun r q ⟨e1,e2⟩=>⟨_,_,_,_,_,_,_,_,_,⟨e1,e2⟩,az.intro (fun h1=>?_) fun h1=>?_⟩⟩
 ·rw[if_pos h1] at he;have aH:u.1<(dE L s Cb u).2.1:=by
   unfold dE at h1 ⊢;split
   ·exact arR _
   ·rename_i hc;rw[if_neg hc] at h1;cases h1
  have hwa:=cX (st:=(dE L s Cb u).2) (s:=s) h;refine⟨_,dM h Re,fun r q ⟨e1,e2⟩=>⟨_,_,_,_,_,_,_,_,_,⟨e1,e2⟩,rfl,bJ rfl (by simp;omega) (by decide),rfl,?_⟩⟩;rw[aid];have h3:=hwa.1;have h4:=hwa.2 Re;exact cj (m,l++[(bM L s (dE L s Cb u).2).1],(bM L s (dE L s Cb u).2).2) ⟨h4,by dsimp only;omega,by simp;omega,he⟩ (by dsimp only;omega)
 ·rw[if_neg (by rw[h1];decide)] at he;rw[<-he];exact⟨rfl,rfl,rfl⟩
theorem nF (h:PE L s):PS L s 128 0 (jq L s 60):=xt h 60 (aqw _)
theorem EW (h:PE L s):PS L s 116 0 (rA L s 60):=tx h 60 (aqw _)
theorem pU (h:PE L s) (hi:st.1<=L.length):aY aj 143 [.ptr 1 0,nS w] (PO L s 0 st) (fun r q=>r=.sl ((fI L s w st).1.map Nd.enc)/\q=PO L s 0 (fI L s w st).2):=by
 have i1:=(lQ h 60 st).2 hi;have i2:=(dx (L:=L) (s:=s) (w:=w) (st:=(jq L s 60 st).2)).2 i1;refine aY.Ll (T6 ⟨_,nF h _ hi,fun r q ⟨e1,e2⟩=>⟨_,_,_,_,_,_,_,_,_,_,_,_,⟨e1,e2⟩,_,eM h i1,fun r q ⟨e1,e2⟩=>⟨_,_,_,_,_,_,_,_,⟨e1,e2⟩,_,nF h _ i2,fun r q ⟨e1,e2⟩=>⟨_,_,_,_,_,_,_,_,_,_,_,_,⟨e1,e2⟩,?_,rfl⟩⟩⟩⟩);rw[fI,<-V1];exact fT _
theorem pV (h:PE L s) (hi:st.1<=L.length):aY aj 142 [.ptr 1 0] (PO L s o st) (fun r q=>r=wj (eB L s st).1/\q=PO L s o (eB L s st).2):=
 aY.Ll (T7 ⟨_,dM h hi,fun r q ⟨e1,e2⟩=>⟨_,_,_,_,_,_,_,_,_,⟨e1,e2⟩,_,eM h ((cX h).2 hi),fun r q ⟨e1,e2⟩=>⟨_,_,_,_,_,_,_,_,⟨e1,e2⟩,fT _,rfl⟩⟩⟩)
theorem rD (h:PE L s) (hi:st.1<=L.length):aY aj 146 [.ptr 1 0] (PO L s o st) (fun r q=>r=nI (dV L s st).1/\q=PO L s o (dV L s st).2):=
 T8 ⟨_,Ay h hi,fun r q ⟨e1,e2⟩=>⟨_,_,_,_,_,_,_,_,_,⟨e1,e2⟩,_,eM h ((Ax h).2 hi),fun r q ⟨e1,e2⟩=>⟨_,_,_,_,_,_,_,_,⟨e1,e2⟩,rfl,rfl⟩⟩⟩
end
section
variable {L:List Tk} {s w:ByteArray} {o:Int} {st:St} {i n:Nat}
theorem ac5 {k n a:Int} {x y:AV} {t:It} (hx:aS x (wj t.words)) (hy:aS y (.sl (t.nodes.map Nd.enc))) (h1:k=t.kind) (h2:n=t.num) (h3:a=t.at_):aS (.agg [nI k,x,y,nI n,nI a]) (iR t):=by
 subst h1 h2 h3;exact aS.agg ⟨aS.refl _,hx,hy,aS.refl _,aS.refl _,ai⟩
theorem alR {w:ByteArray}:aS (.clip [nS w]) (wj [w]):=fT _
theorem aie (t:Nd):aS (.clip [iE t]) (.sl ([t].map Nd.enc)):=by
 have:[t].map Nd.enc=[iE t]:=by simp[Nd.aG]
 rw[this];exact fT _
theorem Ip (h:PE L s) (hi:st.1<=L.length):aY aj 87 [.ptr 1 0] (PO L s 0 st) (fun r q=>r=iR (fS L s st).1/\q=PO L s 0 (fS L s st).2):=by
 have hlen:=h.len;refine aY.Ll (YE ⟨_,dy h hi,fun r q ⟨e1,e2⟩=>⟨_,_,_,_,_,_,⟨e1,e2⟩,_,ET,az.intro (fun h1=>?_) fun h1=>az.intro (fun h2=>?_) fun h2=>?_⟩⟩)
 ·have h1:¬(pk L s st.1).1=1:=by simpa using h1
  rw[fS,if_neg fun c=>h1 c.1];exact⟨_,fD (st:=st) h hi,fun r q ⟨e1,e2⟩=>⟨_,_,_,_,_,_,_,_,⟨e1,e2⟩,ac5 bR bR rfl rfl rfl,rfl⟩⟩
 ·have h2:AJ (pk L s st.1).2.1=0:=by simpa using h2
  rw[fS,if_neg fun c=>c.2 h2];exact⟨_,fD (st:=st) h hi,fun r q ⟨e1,e2⟩=>⟨_,_,_,_,_,_,_,_,⟨e1,e2⟩,ac5 bR bR rfl rfl rfl,rfl⟩⟩
 have h1:(pk L s st.1).1=1:=by simpa using h1
 have h2:AJ (pk L s st.1).2.1≠0:=by simpa using h2
 have aH:=u7 (L:=L) (s:=s) (i:=st.1) h (by rw[h1];decide);rw[fS,if_pos ⟨h1,h2⟩];refine⟨_,xj h hi,fun r q ⟨e1,e2⟩=>⟨_,_,_,_,_,_,⟨e1,by rw[if_pos aH] at e2;exact e2⟩,?_⟩⟩;clear e1 e2;generalize AJ (pk L s st.1).2.1=k at h2 ⊢;generalize (pk L s st.1).2.2=a;have jN:st.1+1<=L.length:=aH;have hu:((st.1+1,st.2):St).1<=L.length:=jN;generalize hU:((st.1+1,st.2):St)=u at hu ⊢;have eu1:((st.1+1:Nat):Int)=(u.1:Int):=by rw[<-hU]
 have eu2:st.2=u.2:=by rw[<-hU]
 rw[eu1,eu2];clear hU eu1 eu2 jN aH h1 hi;have fin:∀{B:(List ByteArray×List Nd×Int)×St} {x y:AV} {m:Int},cY L s k u=B->aS x (wj B.1.1)->aS y (.sl (B.1.2.1.map Nd.enc))->m=B.1.2.2->
   aF 148 [.ptr 1 0,nS scW] (PO L s 0 B.2) fun r q=>∃l s2 i1 i2 i3 i4 i5 w,(r=.aK []/\q=bg l s2 i1 i2 i3 i4 i5 w)/\
    V0 (iR ⟨k,(cY L s k u).1.1,(cY L s k u).1.2.1,(cY L s k u).1.2.2,a⟩) (PO L s 0 (dF L s scW (cY L s k u).2)) (.agg [nI k,x,y,nI m,nI a]) (bg l s2 i1 i2 i3 i4 i5 w):=by
  intro B x y m hB hx hy hm;subst hB;exact⟨_,eM h ((wq h).2 hu),fun r q ⟨e1,e2⟩=>⟨_,_,_,_,_,_,_,_,⟨e1,e2⟩,ac5 hx hy rfl hm rfl,rfl⟩⟩
 have r12:=fun(hk:k≠1/\¬(k=2\/k=3)/\k≠4/\k≠5/\k≠6/\k≠7/\k≠9/\k≠10)=>(show Hl (k==12) (L.map cW) s (u.1:Int) 0 u.2.1 u.2.2.1 u.2.2.2.1 u.2.2.2.2 (V0 (iR ⟨k,(cY L s k u).1.1,(cY L s k u).1.2.1,(cY L s k u).1.2.2,a⟩) (PO L s 0 (dF L s scW (cY L s k u).2))) k a from by
  obtain⟨g1,g2,g4,g5,g6,g7,g9,g10⟩:=hk;refine az.intro (fun c=>⟨_,dM (st:=u) h hu,fun r q ⟨e1,e2⟩=>⟨_,_,_,_,_,_,_,_,_,⟨e1,e2⟩,?_⟩⟩) fun c=>⟨_,Ay (st:=u) h hu,fun r q ⟨e1,e2⟩=>⟨_,_,_,_,_,_,_,_,_,⟨e1,e2⟩,?_⟩⟩
  ·have c:k=12:=by simpa using c
   exact fin (by rw[cY,if_neg g1,if_neg g2,if_neg g4,if_neg g5,if_neg g6,if_neg g7,if_neg g9,if_neg g10,if_pos c]) alR bR rfl
  ·have c:¬k=12:=by simpa using c
   exact fin (by rw[cY,if_neg g1,if_neg g2,if_neg g4,if_neg g5,if_neg g6,if_neg g7,if_neg g9,if_neg g10,if_neg c]) bR bR rfl)
 have r9:=fun(hk:k≠1/\¬(k=2\/k=3)/\k≠4/\k≠5/\k≠6/\k≠7)=>(show Hm (k==9) (L.map cW) s (u.1:Int) 0 u.2.1 u.2.2.1 u.2.2.2.1 u.2.2.2.2 (V0 (iR ⟨k,(cY L s k u).1.1,(cY L s k u).1.2.1,(cY L s k u).1.2.2,a⟩) (PO L s 0 (dF L s scW (cY L s k u).2))) k a from by
  obtain⟨g1,g2,g4,g5,g6,g7⟩:=hk;refine az.intro (fun c=>⟨_,rD (st:=u) h hu,fun r q ⟨e1,e2⟩=>⟨_,_,_,_,_,_,_,_,_,⟨e1,e2⟩,_,nF h _ ((lD h).2 hu),fun r q ⟨e1,e2⟩=>⟨_,_,_,_,_,_,_,_,_,_,_,_,⟨e1,e2⟩,?_⟩⟩⟩) fun c=>
   az.intro (fun c2=>⟨_,rD (st:=u) h hu,fun r q ⟨e1,e2⟩=>⟨_,_,_,_,_,_,_,_,_,⟨e1,e2⟩,_,pU h ((lD h).2 hu),fun r q ⟨e1,e2⟩=>⟨_,_,_,_,_,_,_,_,_,⟨e1,e2⟩,?_⟩⟩⟩) fun c2=>?_
  ·have c:k=9:=by simpa using c
   exact fin (by rw[cY,if_neg g1,if_neg g2,if_neg g4,if_neg g5,if_neg g6,if_neg g7,if_pos c]) bR (aie _) rfl
  ·have c:¬k=9:=by simpa using c
   have c2:k=10:=by simpa using c2
   exact fin (by rw[cY,if_neg g1,if_neg g2,if_neg g4,if_neg g5,if_neg g6,if_neg g7,if_neg c,if_pos c2]) bR (aS.refl _) rfl
  ·exact r12 ⟨g1,g2,g4,g5,g6,g7,by simpa using c,by simpa using c2⟩)
 have r4:=fun(hk:k≠1/\¬(k=2\/k=3))=>(show Ab (k==4) (L.map cW) s (u.1:Int) 0 u.2.1 u.2.2.1 u.2.2.2.1 u.2.2.2.2 (V0 (iR ⟨k,(cY L s k u).1.1,(cY L s k u).1.2.1,(cY L s k u).1.2.2,a⟩) (PO L s 0 (dF L s scW (cY L s k u).2))) k a from by
  obtain⟨g1,g2⟩:=hk;refine az.intro (fun c=>⟨_,pV (st:=u) h hu,fun r q ⟨e1,e2⟩=>⟨_,_,_,_,_,_,_,_,_,⟨e1,e2⟩,_,pU h ((ka h).2 hu),fun r q ⟨e1,e2⟩=>⟨_,_,_,_,_,_,_,_,_,⟨e1,e2⟩,?_⟩⟩⟩) fun c4=>
   az.intro (fun c=>⟨_,pV (st:=u) h hu,fun r q ⟨e1,e2⟩=>⟨_,_,_,_,_,_,_,_,_,⟨e1,e2⟩,_,pU h ((ka h).2 hu),fun r q ⟨e1,e2⟩=>⟨_,_,_,_,_,_,_,_,_,⟨e1,e2⟩,?_⟩⟩⟩) fun c5=>
   az.intro (fun c=>⟨_,EV (st:=u) h hu,fun r q ⟨e1,e2⟩=>⟨_,_,_,_,_,_,_,_,_,⟨e1,e2⟩,?_⟩⟩) fun c6=>
   az.intro (fun c=>⟨_,dM (st:=u) h hu,fun r q ⟨e1,e2⟩=>⟨_,_,_,_,_,_,_,_,_,⟨e1,e2⟩,_,dM h ((cX h).2 hu),fun r q ⟨e1,e2⟩=>⟨_,_,_,_,_,_,_,_,_,⟨e1,e2⟩,?_⟩⟩⟩) fun c7=>?_
  ·have c:k=4:=by simpa using c
   exact fin (by rw[cY,if_neg g1,if_neg g2,if_pos c]) (aS.refl _) (aS.refl _) rfl
  ·have c4:¬k=4:=by simpa using c4
   have c:k=5:=by simpa using c
   exact fin (by rw[cY,if_neg g1,if_neg g2,if_neg c4,if_pos c]) (aS.refl _) (aS.refl _) rfl
  ·have c4:¬k=4:=by simpa using c4
   have c5:¬k=5:=by simpa using c5
   have c:k=6:=by simpa using c
   exact fin (by rw[cY,if_neg g1,if_neg g2,if_neg c4,if_neg c5,if_pos c]) (aS.refl _) bR rfl
  ·have c4:¬k=4:=by simpa using c4
   have c5:¬k=5:=by simpa using c5
   have c6:¬k=6:=by simpa using c6
   have c:k=7:=by simpa using c
   exact fin (by rw[cY,if_neg g1,if_neg g2,if_neg c4,if_neg c5,if_neg c6,if_pos c]) (fT _) bR rfl
  ·exact r9 ⟨g1,g2,by simpa using c4,by simpa using c5,by simpa using c6,by simpa using c7⟩)
 have t23:k≠1->(k=2\/k=3)->aF 142 [.ptr 1 0] (PO L s 0 u) fun r q=>∃l s2 i1 i2 i3 i4 i5 w l2,(r=.sl l2/\q=bg l s2 i1 i2 i3 i4 i5 w)/\
   Aa l s2 i1 i2 i3 i4 i5 w (V0 (iR ⟨k,(cY L s k u).1.1,(cY L s k u).1.2.1,(cY L s k u).1.2.2,a⟩) (PO L s 0 (dF L s scW (cY L s k u).2))) k l2 a:=fun g1 g2=>
  ⟨_,pV (st:=u) h hu,fun r q ⟨e1,e2⟩=>⟨_,_,_,_,_,_,_,_,_,⟨e1,e2⟩,_,EW h _ ((ka h).2 hu),fun r q ⟨e1,e2⟩=>⟨_,_,_,_,_,_,_,_,_,_,_,_,⟨e1,e2⟩,fin (by rw[cY,if_neg g1,if_pos g2]) (aS.refl _) (aie _) rfl⟩⟩⟩
 refine az.intro (fun c=>⟨_,EU (st:=u) h hu,fun r q ⟨e1,e2⟩=>⟨_,_,_,_,_,_,_,_,_,⟨e1,e2⟩,?_⟩⟩) fun c1=>az.intro (fun c2=>az.pos c2 (t23 (by simpa using c1) (.inl (by simpa using c2)))) fun c2=>az.intro (fun c3=>t23 (by simpa using c1) (.inr (by simpa using c3))) fun c3=>r4 ⟨by simpa using c1,?_⟩
 ·have c:k=1:=by simpa using c
  exact fin (by rw[cY,if_pos c]) (aS.refl _) bR rfl
 ·have c2:¬k=2:=by simpa using c2
  have c3:¬k=3:=by simpa using c3
  omega
theorem EX (h:PE L s) (hi:st.1<=L.length):aY aj 83 [.ptr 1 0] (PO L s 0 st) (fun r q=>r=.sl ((oE L s (L.length+2) [] st).1.map iR)/\q=PO L s 0 (oE L s (L.length+2) [] st).2):=by
 have hlen:=h.len;generalize hX:oE L s (L.length+2) [] st=X;refine YK ⟨rfl,?_⟩;refine aI.intro (fun p:Nat×List It×St=>(((),(),()),((L.map cW,s,(p.2.2.1:Int),()),((),0,p.2.2.2.1,p.2.2.2.2.1,p.2.2.2.2.2.1,p.2.2.2.2.2.2,()),p.2.1.map iR,())))
  (fun p=>p.2.2.1<=L.length/\L.length+1+(if jz p.2.2=true then 1 else 0)<=p.1+p.2.2.1/\p.2.1.length<=1000/\oE L s p.1 p.2.1 p.2.2=X) (fun p=>2*(L.length-p.2.2.1)+(if jz p.2.2=true then 1 else 0)) (L.length+2,[],st) rfl ⟨hi,by dsimp only;split<;>omega,aqC _,hX⟩ ?_
 intro ⟨m,l,u⟩ ⟨hu,hm,hl,he⟩ again cj;dsimp only at hu hm hl he ⊢;obtain⟨m,rfl⟩:∃j,m=j+1:=⟨m-1,by split at hm<;>omega⟩;have stop:(jz u&&(pk L s u.1).1 != 4)=false->(l.map iR).length=(l.map iR).length/\(AV.sl (l.map iR)=.sl (X.1.map iR)/\PO L s 0 u=PO L s 0 X.2):=fun h1=>by
  rw[oE,if_neg (by rw[h1];decide)] at he;rw[<-he];exact⟨rfl,rfl,rfl⟩
 refine⟨_,ck (st:=u),fun r q ⟨e1,e2⟩=>⟨_,_,_,_,_,_,_,_,_,⟨e1,e2⟩,az.intro (fun h1=>⟨_,dy h hu,fun r q ⟨e1,e2⟩=>⟨_,_,_,_,_,_,⟨e1,e2⟩,az.intro (fun h2=>⟨rfl,?_⟩) fun h2=>stop (by rw[h1,h2];rfl)⟩⟩) fun h1=>stop (by rw[h1];rfl)⟩⟩;rw[oE,if_pos (by rw[h1,h2];rfl)] at he;rw[if_pos h1] at hm;rw[aqu];refine az.intro (fun h3=>⟨_,fD (st:=u) h hu,fun r q ⟨e1,e2⟩=>⟨_,_,_,_,_,_,_,_,⟨e1,e2⟩,?_⟩⟩) fun h3=>⟨_,Ip (st:=u) h hu,fun r q ⟨e1,e2⟩=>⟨_,_,_,_,_,_,_,_,_,_,_,_,_,⟨e1,e2⟩,?_⟩⟩
 ·have h3:l.length=1000:=by have:=eq_of_beq h3;omega
  rw[if_pos h3] at he;rw[<-he];exact⟨rfl,rfl,rfl⟩
 ·have h3:¬l.length=1000:=fun e=>by rw[e] at h3;cases h3
  rw[if_neg h3] at he;have ha:=C5 (st:=u) h;have hon:=V3 (st:=u) h h1;have h4:=ha.1;have h5:=ha.2 hu;refine⟨rfl,bJ rfl (by simp;omega) (by decide),rfl,?_⟩;have e:l.map iR++[iR (fS L s u).1]=(l++[(fS L s u).1]).map iR:=by simp
  rw[e];refine cj (m,l++[(fS L s u).1],(fS L s u).2) ⟨h5,?_,by simp;omega,he⟩ ?_
  ·dsimp only;rcases hon with h6|h6
   ·split<;>omega
   ·rw[if_neg (by rw[h6];decide)];omega
  ·dsimp only;rw[if_pos h1];rcases hon with h6|h6
   ·split<;>omega
   ·rw[if_neg (by rw[h6];decide)];omega
theorem EY {s:ByteArray}:∀(f i:Nat) (acc:List Tk),i<=s.size->acc.length<=i->(∀t∈acc,(0<=t.2.2/\t.2.2<(s.size:Int))/\t.1≠4)->
  (EI s f i acc).1.length<=s.size/\∀t∈(EI s f i acc).1,(0<=t.2.2/\t.2.2<(s.size:Int))/\t.1≠4
 |0,i,acc,hi,ha,h=>⟨by rw[EI];dsimp only;omega,h⟩
 |f+1,i,acc,hi,ha,h=>by
  have hl:=cA s;have hle:=Ao false ((aD s).drop i);rw[aqY,hl] at hle;have hA:i<=iQ s i/\iQ s i<=s.size:=by rw[iQ];omega
  rw[EI];generalize iQ s i=a at hA;split
  ·exact⟨by dsimp only;omega,h⟩
  split
  ·exact⟨aqC _,fun t ht=>by cases ht⟩
  split
  ·exact⟨aqC _,fun t ht=>by cases ht⟩
  rename_i cg h0 _;have Gt:=NG ((aD s).drop a);rw[aqY,hl] at Gt;have hk:∀l:List Int,(B5 l).1<=3:=fun l=>by
   cases l with
   |nil=>decide
   |cons c l=>
    rw[B5];split
    ·show 1<=3;decide
    ·split
     ·show 2<=3;decide
     ·show 3<=3;decide
  have hk:=hk ((aD s).drop a);change (sB s a).2<=_ at Gt;change (sB s a).1<=_ at hk;refine EY f _ _ (by omega) (by simp;omega) fun t ht=>?_;rcases aq7.1 ht with ht|ht
  ·exact h t ht
  ·obtain rfl:=aqJ.1 ht;exact⟨⟨by simp,by simp;omega⟩,by show ¬(((sB s a).1:Nat):Int)=4;omega⟩
theorem Iq {s:ByteArray}:PE (da s).1 s\/20000<s.size/\da s=([],(2,1,1,⟨#[]⟩)):=by
 by_cases h:s.size>20000
 ·exact .inr ⟨h,if_pos h⟩
 ·refine .inl ?_;have hp:=EY (s:=s) (s.size+1) 0 [] (aqC _) (aqw _) fun t ht=>by cases ht
  rw[da,if_neg h,VL];split
  ·exact⟨by dsimp only;omega,by omega,fun t ht=>(hp.2 t ht).1,fun t ht=>(hp.2 t ht).2⟩
  ·exact⟨aqC _,by omega,fun t ht=>(by cases ht),fun t ht=>by cases ht⟩
theorem V4 {l:List Tk} (hl:l.length<=1000000):ay aj 216 [.sl (l.map cW)] (.sl (l.map cW)):=by
 refine Tr fun b hb=>az.intro (fun h=>?_) fun h=>⟨fun _=>rfl,ir (fun x hx=>by cases hx) (fun x hx=>by obtain⟨t,_,rfl⟩:=arx.1 hx;rfl) (by simp;omega) (by decide),rfl,rfl⟩;have:l.map cW=[]:=asa fun c=>by
  have:=hb c;rw[h] at this;cases this
 rw[this]
theorem Lq {l:List Tk} (hl:l.length<=1000000):aY aj 137 [.sl (l.map cW),nS s] [] (fun r q=>r=.ptr 0 0/\q=RO l s 0):=Th ⟨_,V4 hl,rfl,rfl⟩
theorem EZ {s:ByteArray} (hs:s.size<=1000000000):ay aj 82 [nS s,.bz 83 []] (.aK [.sl ((dN s).1.map iR),.agg (K6 (dN s).2)]):=by
 refine YF ⟨_,_,_,_,_,As hs,az.intro (fun h1=>?_) fun h1=>?_⟩
 ·have h1:¬(da s).2.1=0:=by simpa using h1
  rw[dN,if_neg h1];rfl
 have h1:(da s).2.1=0:=by simpa using h1
 have hp:PE (da s).1 s:=by
  rcases Iq (s:=s) with h|⟨_,h⟩
  ·exact h
  ·rw[h] at h1;cases h1
 rw[dN,if_pos h1];generalize (da s).1=L at hp ⊢;have alS:∀(n:Nat) (l:List It) (u:St),nD L u (oE L s n l u).2:=by
  intro n
  induction n with
  |zero=>intro l u;exact nD.refl
  |succ n ih=>
   intro l u;rw[oE];split
   ·split
    ·exact oA
    ·exact(C5 hp).trans (ih _ _)
   ·exact nD.refl
 have jN:=(alS (L.length+2) [] (0,pL)).2 (aqC _);generalize hX:oE L s (L.length+2) [] (0,pL)=X at jN ⊢;obtain⟨l,st1⟩:=X;have aif:=EX (st:=(0,pL)) hp (aqC _);rw[hX] at aif;have fin:∀u:St,u=tz L s st1->az (!(jz u)) (AV.aK [.sl [],.agg (K6 u.2)]=.aK [.sl ((if jz (tz L s st1)=true then(l,pL) else([],(tz L s st1).2)).1.map iR),.agg (K6 (if jz (tz L s st1)=true then(l,pL) else([],(tz L s st1).2)).2)])
   (AV.aK [.sl (l.map iR),.agg [nI 0,nI 0,nI 0,nS ⟨#[]⟩]]=.aK [.sl ((if jz (tz L s st1)=true then(l,pL) else([],(tz L s st1).2)).1.map iR),.agg (K6 (if jz (tz L s st1)=true then(l,pL) else([],(tz L s st1).2)).2)]):=by
  intro u hu;subst hu
  cases ho:jz (tz L s st1)
  ·exact az.pos rfl rfl
  ·exact az.neg rfl rfl
 refine⟨_,Lq hp.len,fun r q ⟨e1,e2⟩=>⟨_,_,_,⟨e1,e2⟩,_,aif,fun r q ⟨e1,e2⟩=>⟨_,_,_,_,_,_,_,_,_,⟨e1,e2⟩,_,dy hp jN,fun r q ⟨e1,e2⟩=>⟨_,_,_,_,_,_,⟨e1,e2⟩,az.intro (fun h2=>?_) fun h2=>?_⟩⟩⟩⟩
 ·have h2:¬(pk L s st1.1).1=4:=by simpa using h2
  exact⟨_,fD (st:=st1) hp jN,fun r q ⟨e1,e2⟩=>⟨_,_,_,_,_,_,_,_,⟨e1,e2⟩,_,ck (st:=jJ L s 3 st1),fun r q ⟨e1,e2⟩=>⟨_,_,_,_,_,_,_,_,_,⟨e1,e2⟩,fin _ (by rw[tz,if_neg h2])⟩⟩⟩
 ·have h2:(pk L s st1.1).1=4:=by simpa using h2
  exact⟨_,ck (st:=st1),fun r q ⟨e1,e2⟩=>⟨_,_,_,_,_,_,_,_,_,⟨e1,e2⟩,fin _ (by rw[tz,if_pos h2])⟩⟩
theorem yb {s:ByteArray} (hs:s.size<=1000000000):ay aj 31 [nS s] (.aK [.sl ((dN s).1.map iR),.agg (K6 (dN s).2)]):=
 YG ⟨_,_,_,_,_,EZ hs,rfl⟩
theorem PU {a b:List ByteArray} (ha:a.length<=1000000):ay aj 46 [wj a,wj b] (nB (decide (a=b))):=by
 refine YN (az.intro (fun h=>?_) fun h=>?_)
 ·have h:¬a.length=b.length:=fun e=>by simp[e] at h
  rw[decide_eq_false fun e=>h (by rw[e])]
 ·have h:a.length=b.length:=by
   have:(((a.map nS).length:Nat):Int)=((b.map nS).length:Nat):=by simpa using h
   simp only[aqu] at this;omega
  refine aI.intro (fun k:Nat=>((a.map nS,b.map nS,((a.length:Nat):Int),(k:Int),()),())) (fun k=>k<=a.length/\a.take k=b.take k) (fun k=>a.length-k) 0 (by rw[aqu];rfl) ⟨aqC _,rfl⟩ ?_;intro k ⟨hk,hd⟩ again cj;dsimp only;refine az.intro (fun h1=>?_) fun h1=>?_
  ·have aH:k<a.length:=by have:=of_decide_eq_true h1;omega
   have ZX:k<b.length:=by omega
   refine⟨by omega,by rw[aqu];omega,_,getD_map aH,by omega,by rw[aqu];omega,_,getD_map ZX,?_⟩;rw[eF];refine az.intro (fun h2=>?_) fun h2=>?_
   ·have h2:¬a[k]=b[k]:=by simpa using h2
    rw[decide_eq_false fun e=>h2 (by subst e;rfl)]
   ·have h2:a[k]=b[k]:=by simpa using h2
    rw[bk (by omega)];exact cj (k+1) ⟨by omega,by rw[ary aH,ary ZX,hd,h2]⟩ (by omega)
  ·have jM:a.length<=k:=by have:=of_decide_eq_false h1;omega
   rw[aqP jM,aqP (by omega)] at hd;rw[decide_eq_true hd]
end
@[simp] theorem ai7 (f:FuncId):Fence.wide.fn f=True:=rfl
@[simp] theorem ac6:Fence.wide.depth=none:=rfl
set_option maxHeartbeats 1600000
theorem ve (w:World):(callFunc 304 #[]).run aj w=.ok (.value (.tuple #[])) w:=run_call_mark0 Tryz.func304 (by kernel_rfl) (by kernel_rfl) (by kernel_rfl) .disable (by kernel_rfl) w
theorem xv (w:World):(callFunc 306 #[]).run aj w=.ok (.value (.tuple #[])) w:=run_call_mark0 Tryz.func306 (by kernel_rfl) (by kernel_rfl) (by kernel_rfl) .enable (by kernel_rfl) w
theorem E0 (a:Addr) (w:World):(callFunc 307 #[.pointer (some a)]).run aj w=.ok (.value (.tuple #[])) w:=run_call_marked Tryz.func307 (by kernel_rfl) (by kernel_rfl) (by kernel_rfl) .acquire (by kernel_rfl) a w
theorem E1 (a:Addr) (w:World):(callFunc 309 #[.pointer (some a)]).run aj w=.ok (.value (.tuple #[])) w:=run_call_marked Tryz.func309 (by kernel_rfl) (by kernel_rfl) (by kernel_rfl) .releaseMerge (by kernel_rfl) a w
theorem AK (a:Addr) (x:Value) (u:FrameMode) (w:World) (hc:w.cell? a=some x) (hz:w.frozen? a=false):
  CallsDIn Fence.wide 0 aj 290 #[.pointer (some a),.bool true] u w fun e u' w'=>u'=u/\(e=.returned (.tuple #[])/\w'=w.drew.setCell a (.int .u32 1)):=by
 have LW:w.drew.cell? a=some x:=by go_simp
 have W0:w.drew.frozen? a=false:=by go_simp
 have sS:=run_call_store (P:=aj) Tryz.func297 (by kernel_rfl) (by kernel_rfl) (by kernel_rfl) (by kernel_rfl) (k:=.u32) (y:=1) LW W0
 gi_enter_d Tryz.func290,Tryz.ntmps290
 gi_wp2
 gi_region
 all_goals (go_end0;exact⟨rfl,rfl⟩)
theorem Lr (a:Addr) (w:World) (hc:w.cell? a=some (.int .i32 0)) (hz:w.frozen? a=false):
  CallsIn Fence.wide 0 aj 302 #[.pointer (some a)] w fun e w'=>e=.returned (.tuple #[])/\w'=w.setCell a (.int .i32 1):=by
 have hd:=ve;have he:=xv;have ha:=E0;have ao6:=run_call_cas_hit (P:=aj) Tryz.func305 (by kernel_rfl) (by kernel_rfl) (by kernel_rfl) .i32 (by kernel_rfl) (y:=1) hc hz;have LW:(w.setCell a (.int .i32 1)).cell? a=some (.int .i32 1):=World.cell?_setCell_same w a _ hc;have hcv:=run_convert_to_unsafe (P:=aj) (src:=438) (dst:=442) Tryz.underlying438 Tryz.underlying442 (by kernel_rfl) LW
 gi_enter Tryz.func302,Tryz.ntmps302
 gi_wp2
 first|go_end0|(simp only[Exit.inBlock,Exit.then];refine bodyPost_ret (results_none rfl _ _ _) rfl ?_)|refine bodyPost_ret (results_none rfl _ _ _) rfl ?_
 all_goals (first|exact⟨rfl,rfl⟩|(gi_wp2;go_end0;exact⟨rfl,rfl⟩))
theorem PV (a:Addr) (w:World) (hc:w.cell? a=some (.int .i32 0)) (hz:w.frozen? a=false):
  CallsIn Fence.wide 0 aj 300 #[.pointer (some a)] w fun e w'=>e=.returned (.tuple #[])/\w'=w.setCell a (.int .i32 1):=by
 gi_enter Tryz.func300,Tryz.ntmps300
 gi_wp2_with (gi_at_call 302;refine(Lr a _ hc hz).mono ?_;rintro e w' ⟨rfl,rfl⟩)
 go_end0
 exact⟨rfl,rfl⟩
theorem E2 (a:Addr) (w:World) (hc:w.cell? a=some (.int .i32 1)) (hz:w.frozen? a=false):
  CallsIn Fence.wide 0 aj 303 #[.pointer (some a)] w fun e w'=>e=.returned (.tuple #[])/\w'=w.setCell a (.int .i32 0):=by
 have hd:=ve;have he:=xv;have hr:=E1;have ao8:=run_call_add (P:=aj) Tryz.func310 (by kernel_rfl) (by kernel_rfl) (by kernel_rfl) .i32 (by kernel_rfl) (y := -1) (s:=0) hc hz (by simp[go_sem];rfl);have hcv:=run_convert_to_unsafe (P:=aj) (src:=438) (dst:=442) Tryz.underlying438 Tryz.underlying442 (by kernel_rfl) hc
 gi_enter Tryz.func303,Tryz.ntmps303
 gi_wp2
 all_goals (first|exact⟨rfl,rfl⟩|(go_end0;exact⟨rfl,rfl⟩))
theorem yc (a:Addr) (u:FrameMode) (w:World) (hc:w.cell? a=some (.int .i32 1)) (hz:w.frozen? a=false):
  CallsDIn Fence.wide 0 aj 301 #[.pointer (some a)] u w fun e u' w'=>u'=u/\(e=.returned (.tuple #[])/\w'=w.setCell a (.int .i32 0)):=by
 gi_enter_d Tryz.func301,Tryz.ntmps301
 gi_wp2_with (gi_at_call 303;refine(E2 a _ hc hz).mono ?_;rintro e w' ⟨rfl,rfl⟩)
 go_end0
 exact⟨rfl,rfl⟩
theorem PW (a:Addr) (x:Value) (w:World) (hc:w.cell? a=some x) (hz:w.frozen? a=false):
  CallsIn Fence.wide 0 aj 290 #[.pointer (some a),.bool true] w fun e w'=>e=.returned (.tuple #[])/\w'=w.drew.setCell a (.int .u32 1):=by
 have LW:w.drew.cell? a=some x:=by go_simp
 have W0:w.drew.frozen? a=false:=by go_simp
 have sS:=run_call_store (P:=aj) Tryz.func297 (by kernel_rfl) (by kernel_rfl) (by kernel_rfl) (by kernel_rfl) (k:=.u32) (y:=1) LW W0
 gi_enter Tryz.func290,Tryz.ntmps290
 gi_wp2
 gi_region
 all_goals (go_end0;exact⟨rfl,rfl⟩)
theorem V5 (b off:Nat) (pl:Addr) (x5:Value) (w:World) (hp:w.cell? pl=some (.pointer (some ⟨b,off,none⟩)))
  (h5:w.cell? ⟨b,off+5,none⟩=some x5) (f5:w.frozen? ⟨b,off+5,none⟩=false):
  CallsIn Fence.wide 0 aj 289 #[.pointer (some pl)] w fun e w'=>e=.returned (.tuple #[])/\w'=w.drew.setCell ⟨b,off+5,none⟩ (.int .u32 1):=by
 gi_enter Tryz.func289,Tryz.ntmps289
 gi_wp2_with (gi_at_call 290;refine(PW ⟨b,off+5,none⟩ x5 _ h5 f5).mono ?_;rintro e w' ⟨rfl,rfl⟩)
 go_end0
 exact⟨rfl,rfl⟩
theorem wu (a:Addr) (d:Int) (w:World) (hc:w.cell? a=some (.int .u32 d)):
  CallsIn Fence.wide 0 aj 285 #[.pointer (some a)] w fun e w'=>e=.returned (.bool (d != 0))/\w'=w:=by
 have hl:=run_call_load (P:=aj) Tryz.func293 (by kernel_rfl) (by kernel_rfl) (by kernel_rfl) .u32 (by kernel_rfl) hc
 gi_enter Tryz.func285,Tryz.ntmps285
 gi_wp2
 go_ret
 exact⟨rfl,rfl⟩
theorem V6 (b off:Nat) (pl:Addr) (hpb:¬b=pl.block) (x5:Value) (w:World) (hp:w.cell? pl=some (.pointer (some ⟨b,off,none⟩)))
  (h2:w.cell? ⟨b,off+2,none⟩=some (.int .u32 0)) (h3:w.cell? ⟨b,off+3,none⟩=some (.int .i32 0)) (h5:w.cell? ⟨b,off+5,none⟩=some x5)
  (f2:w.frozen? ⟨b,off+2,none⟩=false) (f3:w.frozen? ⟨b,off+3,none⟩=false) (f5:w.frozen? ⟨b,off+5,none⟩=false):
  CallsIn Fence.wide 0 aj 296 #[.pointer (some ⟨b,off+2,none⟩),.func (.func 289) #[] #[.pointer (some pl)]] w fun e w'=>e=.returned (.tuple #[])/\
   w'=(((w.setCell ⟨b,off+3,none⟩ (.int .i32 1)).drew.setCell ⟨b,off+5,none⟩ (.int .u32 1)).drew.setCell ⟨b,off+2,none⟩ (.int .u32 1)).setCell ⟨b,off+3,none⟩ (.int .i32 0):=by
 have h21:(w.setCell ⟨b,off+3,none⟩ (.int .i32 1)).cell? ⟨b,off+2,none⟩=some (.int .u32 0):=((World.cell?_setCell_other _ ⟨b,off+3,none⟩ ⟨b,off+2,none⟩ _ (by simp)).trans h2);have jC:(w.setCell ⟨b,off+3,none⟩ (.int .i32 1)).cell? pl=some (.pointer (some ⟨b,off,none⟩)):=(World.cell?_setCell_other _ ⟨b,off+3,none⟩ pl _ (fun h=>hpb (by rw[<-h]))).trans hp;have h51:(w.setCell ⟨b,off+3,none⟩ (.int .i32 1)).cell? ⟨b,off+5,none⟩=some x5:=(World.cell?_setCell_other _ ⟨b,off+3,none⟩ ⟨b,off+5,none⟩ _ (by simp)).trans h5;have f51:(w.setCell ⟨b,off+3,none⟩ (.int .i32 1)).frozen? ⟨b,off+5,none⟩=false:=by simp[f5]
 have aih:∀(x:Bool) (w:World),(Op.unary .not (.bool x)).run aj w=.ok (.bool (!x)) w:=fun _ _=>rfl
 gi_enter_defers Tryz.func296,Tryz.ntmps296
 gi_wp2_with (first|(gi_at_call 285;refine(wu ⟨b,off+2,none⟩ 0 _ h21).mono ?_;rintro e w' ⟨rfl,rfl⟩)|(gi_at_call 300;refine(PV ⟨b,off+3,none⟩ _ (by go_simp) (by go_simp)).mono ?_;rintro e w' ⟨rfl,rfl⟩)|(gi_at_call 289;refine(V5 b off pl x5 _ jC h51 f51).mono ?_;rintro e w' ⟨rfl,rfl⟩))
 refine leavesIn_cons (f:=290) (args:=#[.pointer (some ⟨b,off+2,none⟩),.bool true]) (by simp) (by simp) (by simp[go_sem]) (by simp[Target.leads]) ?_;refine(AK ⟨b,off+2,none⟩ (.int .u32 0) .returning _ ?_ (by simp[f2])).mono ?_
 ·rw[World.cell?_drew];exact(World.cell?_setCell_other _ ⟨b,off+5,none⟩ ⟨b,off+2,none⟩ _ (by simp)).trans ((World.cell?_setCell_other _ ⟨b,off+3,none⟩ ⟨b,off+2,none⟩ _ (by simp)).trans h2)
 rintro e u' w'' ⟨rfl,rfl,rfl⟩
 refine leavesIn_cons (f:=301) (args:=#[.pointer (some ⟨b,off+3,none⟩)]) (by simp[settle]) (by simp) (by simp[go_sem]) (by simp[Target.leads]) ?_;refine(yc ⟨b,off+3,none⟩ _ _ ?_ (by simp[f3])).mono ?_
 ·refine(World.cell?_setCell_other _ ⟨b,off+2,none⟩ ⟨b,off+3,none⟩ _ (by simp)).trans ?_;rw[World.cell?_drew,World.cell?_drew];refine(World.cell?_setCell_other _ ⟨b,off+5,none⟩ ⟨b,off+3,none⟩ _ (by simp)).trans ?_;exact World.cell?_setCell_same w _ _ h3
 rintro e u' w'' ⟨rfl,rfl,rfl⟩
 simp[LeavesIn,settle,results,Tryz.results296]
 go_simp
set_option maxRecDepth 100000 in
set_option maxHeartbeats 1600000 in
theorem Lt (b off:Nat) (pl:Addr) (hpb:¬b=pl.block) (x5:Value) (w:World) (hp:w.cell? pl=some (.pointer (some ⟨b,off,none⟩)))
  (h2:w.cell? ⟨b,off+2,none⟩=some (.int .u32 0)) (h3:w.cell? ⟨b,off+3,none⟩=some (.int .i32 0)) (h5:w.cell? ⟨b,off+5,none⟩=some x5)
  (f2:w.frozen? ⟨b,off+2,none⟩=false) (f3:w.frozen? ⟨b,off+3,none⟩=false) (f5:w.frozen? ⟨b,off+5,none⟩=false):
  CallsIn Fence.wide 0 aj 288 #[.pointer (some ⟨b,off+2,none⟩),.func (.func 289) #[] #[.pointer (some pl)]] w fun e w'=>e=.returned (.tuple #[])/\
   w'=(((w.setCell ⟨b,off+3,none⟩ (.int .i32 1)).drew.setCell ⟨b,off+5,none⟩ (.int .u32 1)).drew.setCell ⟨b,off+2,none⟩ (.int .u32 1)).setCell ⟨b,off+3,none⟩ (.int .i32 0):=by
 have aih:∀(x:Bool) (w:World),(Op.unary .not (.bool x)).run aj w=.ok (.bool (!x)) w:=fun _ _=>rfl
 gi_enter Tryz.func288,Tryz.ntmps288
 gi_wp2_with (first|(gi_at_call 285;refine(wu ⟨b,off+2,none⟩ 0 _ h2).mono ?_;rintro e w' ⟨rfl,rfl⟩)|(gi_at_call 296;refine(V6 b off pl hpb x5 _ hp h2 h3 h5 f2 f3 f5).mono ?_;rintro e w' ⟨rfl,rfl⟩))
 go_end0
 exact⟨rfl,rfl⟩
theorem Lu (a:Addr) (d:Int) (hd:¬d=0) (fv:Value) (w:World) (h0:w.cell? a=some (.int .u32 d)):
  CallsIn Fence.wide 0 aj 288 #[.pointer (some a),fv] w fun e w'=>e=.returned (.tuple #[])/\w'=w:=by
 have aih:∀(x:Bool) (w:World),(Op.unary .not (.bool x)).run aj w=.ok (.bool (!x)) w:=fun _ _=>rfl;have ef:(d != 0)=true:=by simp[hd]
 gi_enter Tryz.func288,Tryz.ntmps288
 gi_wp2_with (gi_at_call 285;refine(wu a d _ h0).mono ?_;rintro e w' ⟨rfl,rfl⟩)
 go_end0
 exact⟨rfl,rfl⟩
def yd (l u d m s y:Int):Array Value:=#[.int .i64 l,.int .i64 u,.int .u32 d,.int .i32 m,.int .u32 s,.int .u32 y]
theorem aC {w:World} {F:Nat->Nat->Prop} {η:List Value} {hp:List aw} {u v:Value} (h:bB w F η hp (.ax u) v):v=u:=by cases h;rfl
theorem E3 {w:World} {F:Nat->Nat->Prop} {η:List Value} {hp:List aw} {r o:Nat} {v:Value} (h:bB w F η hp (.ptr r o) v):∃b,v=.pointer (some ⟨b,o,none⟩)/\η[r]?=some (.pointer (some ⟨b,0,none⟩)):=by
 cases h with|ptr _ _ b h1=>exact⟨b,rfl,h1⟩
theorem V7 {w:World} {F:Nat->Nat->Prop} {η:List Value} {hp:List aw} {l u d m s y:Int} {b:Nat} (h:lT w F η hp (.box (aQ l u d m s y)) (.pointer (some ⟨b,0,none⟩))):
  ∃T,w.heap[b]?=some (.cells (yd l u d m s y) T (0,0)):=by
 obtain⟨b',vs,T,e1,e2,e3,e4⟩:=h;cases e1;refine⟨T,?_⟩;rw[e2]
 congr 2
 refine Array.ext (by rw[e3];rfl) fun i h1 h2=>?_;have hs:i<6:=h2;have hu:vs[i]?=some vs[i]:=arf h1
 match i,hs with
 |0,_=>exact aC (e4 0 _ _ rfl hu).1
 |1,_=>exact aC (e4 1 _ _ rfl hu).1
 |2,_=>exact aC (e4 2 _ _ rfl hu).1
 |3,_=>exact aC (e4 3 _ _ rfl hu).1
 |4,_=>exact aC (e4 4 _ _ rfl hu).1
 |5,_=>exact aC (e4 5 _ _ rfl hu).1
theorem E4 {w:World} {F:Nat->Nat->Prop} {η:List Value} {hp:List aw} {l u d m s y:Int} (j:Nat) (x:AV) (v:Value) (h1:(aQ l u d m s y)[j]?=some x) (h2:(yd l u d m s y)[j]?=some v):
  bB w F η hp x v/\v.oneCell'=true:=by
 have hs:j<6:=(aqr.1 h1).1
 match j,hs with
 |0,_=>cases h1;cases h2;exact⟨.ax _,rfl⟩
 |1,_=>cases h1;cases h2;exact⟨.ax _,rfl⟩
 |2,_=>cases h1;cases h2;exact⟨.ax _,rfl⟩
 |3,_=>cases h1;cases h2;exact⟨.ax _,rfl⟩
 |4,_=>cases h1;cases h2;exact⟨.ax _,rfl⟩
 |5,_=>cases h1;cases h2;exact⟨.ax _,rfl⟩
theorem ZY (l u d s y:Int):aY aj 288 [.ptr 0 2,.bz 289 [.ptr 1 0]] [.box (aQ l u d 0 s y),.box [.ptr 0 0]]
  (fun r hp'=>r=.aK []/\hp'=[.box (aQ l u (if d=0 then 1 else d) 0 s (if d=0 then 1 else y)),.box [.ptr 0 0]]):=by
 refine⟨⟨_,Tryz.func288,by kernel_rfl,by kernel_rfl⟩,fun w F η bE bQ hv=>?_⟩
 match bE,hv with
 | [v0,v1],⟨r0,r1,_⟩=>
  obtain⟨b,rfl,h0⟩:=E3 r0
  cases r1 with
  |bz _ _ caps hl hc=>
   obtain⟨c0,rfl⟩:∃c0,caps=#[c0]:=by
    match caps,hl with
    |⟨[c0]⟩,_=>exact⟨c0,rfl⟩
   obtain⟨b1,rfl,h1⟩:=E3 (hc 0 _ _ rfl rfl);obtain⟨T,hb⟩:=V7 (bQ.heap.obj 0 _ _ rfl h0);obtain⟨b1',vs1,T1,e1,e2,e3,e4⟩:=bQ.heap.obj 1 _ _ rfl h1;cases e1;have cg:¬b=b1:=fun h=>bQ.heap.sep 0 1 _ _ _ _ b (by omega) rfl rfl ai ai h0 h1 rfl (by rw[h];rfl);obtain⟨p0,rfl⟩:∃p0,vs1=#[p0]:=by
    match vs1,e3 with
    |⟨[c0]⟩,_=>exact⟨c0,rfl⟩
   obtain⟨b',rfl,h0'⟩:=E3 (e4 0 _ _ rfl rfl).1;rw[h0] at h0'
   cases h0'
   have cell:∀(k:Nat) (x:Value),(yd l u d 0 s y)[k]?=some x->w.cell? ⟨b,k,none⟩=some x:=fun k x hx=>by simp only[World.cell?,hb];exact hx
   have ac8:∀k,w.frozen? ⟨b,k,none⟩=false:=fun k=>by simp[World.frozen?,hb]
   by_cases hd:d=0
   ·subst hd;refine(Lt b 0 ⟨b1,0,none⟩ cg (.int .u32 y) w (by simp only[World.cell?,e2];rfl) (cell 2 _ rfl) (cell 3 _ rfl) (cell 5 _ rfl) (ac8 2) (ac8 3) (ac8 5)).mono ?_
    rintro e w' ⟨rfl,rfl⟩
    refine⟨_,.aK [],_,η,rfl,⟨rfl,rfl⟩,?_⟩;have g1:=heap_setCell_same w b 3 _ T (.int .i32 1) hb;have g2:=heap_setCell_same (w.setCell ⟨b,3,none⟩ (.int .i32 1)).drew b 5 _ T (.int .u32 1) g1;have g3:=heap_setCell_same ((w.setCell ⟨b,3,none⟩ (.int .i32 1)).drew.setCell ⟨b,5,none⟩ (.int .u32 1)).drew b 2 _ T (.int .u32 1) g2;have g4:=heap_setCell_same _ b 3 _ T (.int .i32 0) g3;refine CR (q:=0) (b:=b) (vs':=yd l u 1 0 s 1) (T:=T) bQ rfl h0 ⟨rfl,rfl,rfl,by simp[World.drew],fun k _ hk=>?_⟩ (by simp[World.drew]) g4 rfl E4 (.aK [] #[] rfl fun j y u hy _=>by cases hy);rw[heap_setCell_other _ _ _ _ hk,heap_setCell_other _ _ _ _ hk];show ((w.setCell _ _).drew.setCell _ _).heap[k]?=_;rw[heap_setCell_other _ _ _ _ hk];show (w.setCell _ _).heap[k]?=_;rw[heap_setCell_other _ _ _ _ hk]
   ·refine(Lu ⟨b,2,none⟩ d hd _ w (cell 2 _ rfl)).mono ?_
    rintro e w' ⟨rfl,rfl⟩
    refine⟨_,.aK [],_,η,rfl,⟨rfl,rfl⟩,?_⟩;simp only[hd,if_false];exact CR (q:=0) (b:=b) (vs':=yd l u d 0 s y) (T:=T) bQ rfl h0 ⟨rfl,rfl,rfl,aqw _,fun _ _ _=>rfl⟩ rfl hb rfl E4 (.aK [] #[] rfl fun j y u hy _=>by cases hy)
section
variable {l u d m s y:Int}
theorem AL:aY aj 275 [.ptr 0 0] [.box (aQ l u d m s y)] (fun r hp'=>r=nI l/\hp'=[.box (aQ l u d m s y)]):=
 U2 ⟨_,Ag (R:=fun r hp'=>r=nI l/\hp'=[.box (aQ l u d m s y)]) ⟨rfl,rfl⟩,fun r q ⟨e1,e2⟩=>⟨l,u,d,m,s,y,l,⟨e1,e2⟩,rfl,rfl⟩⟩
theorem ZZ:aY aj 274 [.ptr 0 0] [.box (aQ l u d m s y)] (fun r hp'=>r=nB (y != 0)/\hp'=[.box (aQ l u d m s y)]):=
 U3 ⟨_,BZ (R:=fun r hp'=>r=nB (y != 0)/\hp'=[.box (aQ l u d m s y)]) ⟨rfl,rfl⟩,fun r q ⟨e1,e2⟩=>⟨l,u,d,m,s,y,y != 0,⟨e1,e2⟩,rfl,rfl⟩⟩
def rE (l n:Int):Int:=ag .i64 (l+ag .i64 (0-n))
def vf (u n:Int):Int:=ag .i64 (u+n)
theorem AM (n:Int):aY aj 276 [.ptr 0 0,nI n] [.box (aQ l u d m s y)] (fun r hp'=>r=.aK []/\hp'=[.box (aQ (rE l n) (vf u n) d m s y)]):=
 U4 ⟨_,B0 (R:=fun r hp'=>r=nI (rE l n)/\hp'=[.box (aQ (rE l n) u d m s y)]) ⟨rfl,rfl⟩,fun r q ⟨e1,e2⟩=>⟨rE l n,u,d,m,s,y,rE l n,⟨e1,e2⟩,
  _,B1 (R:=fun r hp'=>r=nI (vf u n)/\hp'=[.box (aQ (rE l n) (vf u n) d m s y)]) ⟨rfl,rfl⟩,fun r q ⟨e1,e2⟩=>⟨rE l n,vf u n,d,m,s,y,vf u n,⟨e1,e2⟩,rfl,rfl⟩⟩⟩
theorem C6:aY aj 277 [.ptr 0 0] [.box (aQ l u d 0 s y)] (fun r hp'=>r=.aK []/\hp'=[.box (aQ l u (if d=0 then 1 else d) 0 s (if d=0 then 1 else y))]):=
 U5 ⟨_,ZY l u d s y,fun r q ⟨e1,e2⟩=>⟨l,u,_,0,s,_,⟨e1,e2⟩,rfl,rfl⟩⟩
def tB (l u d s y n:Int):List AV:=if y≠0\/n>l then aQ (rE l l) (vf u l) (if d=0 then 1 else d) 0 s (if d=0 then 1 else y) else aQ (rE l n) (vf u n) d 0 s y
theorem PX (n:Int) (hn:0<=n):aY aj 259 [.ptr 0 0,nI n] [.box (aQ l u d 0 s y)]
  (fun r hp'=>r=nB (decide (¬(y≠0\/n>l)))/\hp'=[.box (tB l u d s y n)]):=by
 refine U6 ?_;unfold abj;rw[show decide (n<0)=false from decide_eq_false (by omega)];refine⟨_,ZZ,fun r q ⟨e1,e2⟩=>⟨l,u,d,0,s,y,y != 0,⟨e1,e2⟩,?_⟩⟩
 by_cases hy:y=0
 ·subst hy;refine⟨_,AL,fun r q ⟨e1,e2⟩=>⟨l,u,d,0,s,0,l,⟨e1,e2⟩,?_⟩⟩
  by_cases h:n>l
  ·rw[show decide (n>l)=true from decide_eq_true h];refine⟨_,AL,fun r q ⟨e1,e2⟩=>⟨l,u,d,0,s,0,l,⟨e1,e2⟩,_,AM l,fun r q ⟨e1,e2⟩=>⟨_,_,d,0,s,0,⟨e1,e2⟩,_,C6,fun r q ⟨e1,e2⟩=>⟨_,_,_,0,s,_,⟨e1,e2⟩,?_⟩⟩⟩⟩;exact⟨by simp[h],by simp only[tB,h,or_true,if_true]⟩
  ·rw[show decide (n>l)=false from decide_eq_false h];refine⟨_,AM n,fun r q ⟨e1,e2⟩=>⟨_,_,d,0,s,0,⟨e1,e2⟩,?_⟩⟩;exact⟨by simp[h],by simp only[tB,h,ne_eq,not_true_eq_false,or_self,if_false]⟩
 ·rw[show (y != 0)=true from by simp[hy]];refine⟨_,AL,fun r q ⟨e1,e2⟩=>⟨l,u,d,0,s,y,l,⟨e1,e2⟩,_,AM l,fun r q ⟨e1,e2⟩=>⟨_,_,d,0,s,y,⟨e1,e2⟩,_,C6,fun r q ⟨e1,e2⟩=>⟨_,_,_,0,s,_,⟨e1,e2⟩,?_⟩⟩⟩⟩;exact⟨by simp[hy],by simp only[tB,ne_eq,hy,not_false_eq_true,true_or,if_true]⟩
end
set_option maxHeartbeats 1600000
theorem PY (a:Addr) (x:Value) (n:Int) (w:World) (hc:w.cell? a=some x) (hz:w.frozen? a=false):
  CallsIn Fence.wide 0 aj 111 #[.pointer (some a),.int .i64 n] w fun e w'=>e=.returned (.tuple #[])/\w'=w.setCell a (.int .i64 n):=by
 have sS:=run_call_store (P:=aj) Tryz.func184 (by kernel_rfl) (by kernel_rfl) (by kernel_rfl) (by kernel_rfl) (k:=.i64) (y:=n) hc hz
 gi_enter Tryz.func111,Tryz.ntmps111
 gi_wp2
 go_end0
 exact⟨rfl,rfl⟩
theorem V8 (n:Int) (w:World):
  CallsIn Fence.wide 0 aj 65 #[.int .i64 n] w fun e w'=>e=.returned (.pointer (some ⟨w.heap.size,0,none⟩))/\
   w'=(w.alloc (.cells (yd 0 0 0 0 0 0) 262)).setCell ⟨w.heap.size,0,none⟩ (.int .i64 (if n<0 then 0 else n)):=by
 have hc:(w.alloc (.cells (yd 0 0 0 0 0 0) 262)).cell? ⟨w.heap.size,0,none⟩=some (.int .i64 0):=by simp[yd]
 have hz:(w.alloc (.cells (yd 0 0 0 0 0 0) 262)).frozen? ⟨w.heap.size,0,none⟩=false:=by simp
 gi_enter Tryz.func65,Tryz.ntmps65
 gi_wp2_with (gi_at_call 111;refine(PY ⟨w.heap.size,0,none⟩ (.int .i64 0) _ _ hc hz).mono ?_;rintro e w' ⟨rfl,rfl⟩)
 all_goals (go_ret;first|exact⟨rfl,rfl⟩|exact⟨rfl,by congr 4;omega⟩)
theorem Z0 (n:Int) (hp:List aw):aY aj 65 [nI n] hp (fun r hp'=>r=.ptr hp.length 0/\hp'=hp++[.box (aQ (if n<0 then 0 else n) 0 0 0 0 0)]):=by
 refine⟨⟨_,Tryz.func65,by kernel_rfl,by kernel_rfl⟩,fun w F η bE bQ hv=>?_⟩
 match bE,hv with
 | [v0],⟨r0,_⟩=>
  obtain rfl:=aC r0;refine(V8 n w).mono ?_
  rintro e w' ⟨rfl,rfl⟩
  have g0:(w.alloc (.cells (yd 0 0 0 0 0 0) 262)).heap[w.heap.size]?=some (.cells (yd 0 0 0 0 0 0) 262 (0,0)):=heap_alloc_new w _;have g1:=heap_setCell_same _ w.heap.size 0 _ _ (.int .i64 (if n<0 then 0 else n)) g0;refine⟨_,.ptr hp.length 0,_,_,rfl,⟨rfl,rfl⟩,Pp (vs:=yd (if n<0 then 0 else n) 0 0 0 0 0) bQ ⟨rfl,rfl,rfl,by simp,fun k hk _=>?_⟩ (by simp) g1 rfl E4⟩;rw[heap_setCell_other _ _ _ _ (Nat.ne_of_lt hk)];exact(bV.alloc w _).block k hk
section
variable {l u d s y n:Int}
theorem Ir (h0:0<=n) (h1:n<=l) (h2:l<=9223372036854775807):rE l n=l-n:=by
 unfold rE;rw[IntWalk.i64_in (0-n) (by omega),IntWalk.i64_in _ (by omega)];omega
theorem Iu (h0:0<=n) (h1:0<=u) (h2:u+n<=9223372036854775807):vf u n=u+n:=by
 unfold vf;rw[IntWalk.i64_in _ (by omega)]
theorem PZ (h1:1<=l) (h2:0<=u) (h3:l+u<=9223372036854775807):tB l u 0 s 0 1=aQ (l-1) (u+1) 0 0 s 0:=by
 unfold tB;rw[if_neg (by omega),Ir (by omega) (by omega) (by omega),Iu (by omega) (by omega) (by omega)]
end
theorem AN (r:Rw) (l:List Ty):(r.bind l).total=r.total+l.length+Ty.sizes l:=by
 induction l with
 |nil=>simp[Rw.bind,Ty.sizes]
 |cons t l ih=>
  show (Rw.mk 3 t 0 [r.bind l]).total=_;simp only[Rw.total,Rw.cJ,ih,aqy,Ty.sizes];omega
theorem AO:∀(l:List Rw) (r:Rw),(r.call l).total=r.total+2*l.length+Rw.cJ l
 | [],r=>by simp[Rw.call,Rw.cJ]
 |a::l,r=>by
  show (Rw.call (.mk 4 jY 0 [r,a]) l).total=_;rw[AO l];simp only[Rw.total,Rw.cJ,aqy,Ty.size,Ty.sizes];omega
mutual
def Tm.raw:Tm->Rw
 | .mk b k i l=>((fY k i).call (Tm.AP l)).bind b
def Tm.AP:List Tm->List Rw
 | []=>[]
 |t::l=>Tm.raw t::Tm.AP l
end
theorem Tm.E5 (l:List Tm):Tm.AP l=l.map Tm.raw:=by
 induction l with
 |nil=>rfl
 |cons t l ih=>rw[Tm.AP,ih];rfl
theorem Tm.ac9 (t:Tm):t.raw=((fY t.kind t.index).call (t.args.map Tm.raw)).bind t.binds:=by cases t;rw[Tm.raw,Tm.E5];rfl
mutual
theorem Tm.wv:∀(t:Tm),t.raw.total+2<=4*t.size
 | .mk b k i l=>by
  have h:=Tm.tC l;have hb:=Ty.aO b;rw[Tm.raw,AN,AO,Tm.size];have hl:(Tm.AP l).length=l.length:=by rw[Tm.E5,aqu]
  simp only[Rw.total,Rw.cJ,Ty.size,Ty.sizes];omega
theorem Tm.tC:∀(l:List Tm),Rw.cJ (Tm.AP l)+2*l.length<=4*Tm.sizes l
 | []=>aqw _
 |t::l=>by
  have:=Tm.wv t;have:=Tm.tC l;simp only[Tm.AP,Rw.cJ,Tm.sizes,aqy];omega
end
theorem Rw.NR:∀(l:List Rw) (r:Rw),r.Ok->Rw.JC l->(r.call l).Ok
 | [],r,h,_=>h
 |a::l,r,h,hl=>Rw.NR l _ ⟨⟨by decide,by decide⟩,⟨by decide,by decide⟩,h,hl.1,ai⟩ hl.2
theorem Rw.NS:∀(l:List Ty) (r:Rw),r.Ok->(r.bind l).Ok
 | [],r,h=>h
 |t::l,r,h=>⟨⟨by decide,by decide⟩,⟨by decide,by decide⟩,Rw.NS l r h,ai⟩
mutual
theorem Tm.V9:∀(t:Tm),t.Ok->t.raw.Ok
 | .mk b k i l,h=>by
  rw[Tm.raw];exact Rw.NS _ _ (Rw.NR _ _ ⟨h.1,h.2.1,ai⟩ (Tm.NT l h.2.2))
theorem Tm.NT:∀(l:List Tm),Tm.JC l->Rw.JC (Tm.AP l)
 | [],_=>ai
 |t::l,h=>⟨Tm.V9 t h.1,Tm.NT l h.2⟩
end
theorem Lv:∀(n:Nat) (t:Tm),t.size<=n->n<=100000000->ay aj 21 [t.enc] t.raw.enc:=by
 intro n
 induction n with
 |zero=>intro t h;have:=t.size_pos;omega
 |succ n ih=>
  intro t h hn;have hq:=Tm.aO t.args;have CT:=t.size_eq;rw[Tm.aG];refine YY ⟨_,_,_,_,_,pR _ _,rfl,?_⟩;refine aI.intro (fun j:Nat=>(((),(),(),(),t.args.map Tm.enc,(t.args.length:Int),(j:Int),()),((t.binds.map Ty.enc,t.kind,t.index,t.args.map Tm.enc,()),(0,(),0,0,(),()),(t.kind,[],0,t.index,[],()),((t.args.take j).map Tm.raw).map Rw.enc,())))
   (fun j=>j<=t.args.length) (fun j=>t.args.length-j) 0 (by rw[aqu];rfl) (aqC _) ?_
  intro j hj again cj;dsimp only;rw[aqu];refine az.intro (fun h=>?_) fun h=>?_
  ·have aH:j<t.args.length:=by simpa using h
   have hi:=ih t.args[j] (by have:=Tm.eK aH;omega) (by omega);rw[Tm.aG,Rw.aG] at hi;refine⟨by omega,by omega,_,_,_,_,Tm.bh aH,_,_,_,_,_,hi,rfl,bJ rfl (by simp;omega) (by decide),rfl,?_⟩;have:=cj (j+1) (by omega) (by omega);rw[<-cO aH,arq,List.map_singleton,<-Rw.iu] at this;rw[bk (by omega)];exact this
  ·have hle:t.args.length<=j:=by simpa using h
   rw[aqP hle];have ht:=Tm.wv t;have hrt:=Tm.ac9 t;have ha:=Tm.tC t.args;rw[Tm.E5] at ha;have hbt:=AN ((fY t.kind t.index).call (t.args.map Tm.raw)) t.binds;rw[<-hrt] at hbt;have hq2:=Ty.aO t.binds;have hc:=Li (r:=fY t.kind t.index) (l:=t.args.map Tm.raw) (Rw.Lf _ (by simp[Rw.total,Rw.cJ,Ty.size,Ty.sizes])) (Rw.ER _ (by omega)) (by rw[aqu];omega);have hb:=Lh (r:=(fY t.kind t.index).call (t.args.map Tm.raw)) (l:=t.binds) (Rw.Lf _ (by omega)) (fun u hu=>by have:=Ty.cV hu;omega) (by omega);rw[Lg,Rw.aG] at hc;rw[<-hrt,Rw.aG,Rw.aG t.raw] at hb;refine⟨rfl,_,_,_,_,_,hc,_,_,_,_,_,hb,?_⟩;rw[Rw.aG t.raw]
theorem xw {c m x:List Ty} {k i:Int} {t:Ty} (h:bp c m x k i=some t):k=0\/k=1\/k=2:=by
 by_cases h0:k=0
 ·exact .inl h0
 by_cases h1:k=1
 ·exact .inr (.inl h1)
 by_cases h2:k=2
 ·exact .inr (.inr h2)
 rw[bp,if_neg h0,if_neg h1,if_neg h2] at h
 split at h<;>cases h
theorem Rw.P0 {r t:Rw} (ht:t∈r.kids):t.depth<r.depth:=by
 obtain⟨k,hk,rfl⟩:=List.getElem_of_mem ht;exact Rw.PK hk
theorem Iv (n:Int):lO (ag .i64 n):=by unfold lO;rw[IntKind.wrap_i64];omega
mutual
def Rw.Typ (c m:List Ty):List Ty->Rw->Ty->Prop
 |x,.mk k t i l,u=>if k=3 then ∃v:Ty,u=v.arrow [t]/\Rw.Wa c m (x++[t]) l [v] else if k=4 then ∃v:Ty,Rw.Wa c m x l [.mk (v::u.args) u.base,v] else bp c m x k i=some u/\l=[]
def Rw.Wa (c m:List Ty):List Ty->List Rw->List Ty->Prop
 |_,[],[]=>True
 |x,r::l,u::us=>Rw.Typ c m x r u/\Rw.Wa c m x l us
 |_,_,_=>False
end
mutual
def Rw.oF (S:Nat) (c m:List Ty):List Ty->Rw->Ty->Prop
 |x,.mk k t i l,u=>u.size<=S/\if k=3 then t.size<=S/\∃v:Ty,u=v.arrow [t]/\Rw.oG S c m (x++[t]) l [v] else if k=4 then ∃v:Ty,Rw.oG S c m x l [.mk (v::u.args) u.base,v] else bp c m x k i=some u/\l=[]
def Rw.oG (S:Nat) (c m:List Ty):List Ty->List Rw->List Ty->Prop
 |_,[],[]=>True
 |x,r::l,u::us=>Rw.oF S c m x r u/\Rw.oG S c m x l us
 |_,_,_=>False
end
mutual
theorem Rw.oF.PG {S:Nat} {c m:List Ty}:∀{r:Rw} {x:List Ty} {u:Ty},Rw.oF S c m x r u->Rw.Typ c m x r u
 | .mk k t i l,x,u,h=>by
  rw[Rw.oF] at h;obtain⟨_,h⟩:=h;rw[Rw.Typ]
  by_cases h3:k=3
  ·rw[if_pos h3] at h ⊢;obtain⟨_,v,hv,hl⟩:=h;exact⟨v,hv,Rw.oG.PG hl⟩
  ·rw[if_neg h3] at h ⊢
   by_cases h4:k=4
   ·rw[if_pos h4] at h ⊢;obtain⟨v,hl⟩:=h;exact⟨v,Rw.oG.PG hl⟩
   ·rw[if_neg h4] at h ⊢;exact h
theorem Rw.oG.PG {S:Nat} {c m:List Ty}:∀{l:List Rw} {x us:List Ty},Rw.oG S c m x l us->Rw.Wa c m x l us
 | [],x,[],_=>by rw[Rw.Wa];exact ai
 |r::l,x,u::us,h=>⟨h.1.PG,h.2.PG⟩
 | [],_,_::_,h=>h.elim
 |_::_,_,[],h=>h.elim
end
theorem wx {S:Nat} {c m x:List Ty} {l:List Rw} {u:Ty} (h:Rw.oG S c m x l [u]):∃r,l=[r]/\Rw.oF S c m x r u:=by
 match l,h with
 | [r],h=>exact⟨r,rfl,h.1⟩
 |r::s::l,h=>exact h.2.elim
theorem wy {S:Nat} {c m x:List Ty} {l:List Rw} {u v:Ty} (h:Rw.oG S c m x l [u,v]):∃r s,l=[r,s]/\Rw.oF S c m x r u/\Rw.oF S c m x s v:=by
 match l,h with
 | [r,s],h=>exact⟨r,s,rfl,h.1,h.2.1⟩
 | [r],h=>exact h.2.elim
 |r::s::t::l,h=>exact h.2.2.elim
mutual
theorem pW (b:Int) (c m:List Ty):∀(r:Rw) (x:List Ty) (u:Ty),r.shaped=true->r.infer b c m x=(u,0)->Rw.oF 1000 c m x r u
 | .mk k t i l,x,u,hs,h=>by
  rw[Rw.shaped,aqv,decide_eq_true_eq] at hs;have cx:=Rw.jZ b c m (.mk k t i l) x;rw[h] at cx;rw[Rw.infer] at h;rw[Rw.oF];refine⟨cx,?_⟩
  by_cases h3:k=3
  ·rw[if_pos h3] at h ⊢;obtain⟨a,ha⟩:=VS h3 hs.1;split at h
   ·have hi:Rw.ek b c m (x++[t]) l=[a.infer b c m (x++[t])]:=by rw[ha];rfl
    rw[hi,ry] at h;generalize a.infer b c m (x++[t])=p at h hi;split at h
    ·rename_i hp;simp only[aqt] at h;exact(hp h.2).elim
    ·rename_i hp;split at h
     ·cases h
     ·simp only[aqt,and_true] at h;refine⟨by rw[<-h,Ty.arrow,Ty.size,Ty.bW,Ty.sizes,Ty.sizes] at cx;omega,p.1,h.symm,rF b c m l (x++[t]) [p.1] hs.2 ?_⟩;rw[hi,aqS,arl,<-ar4.1 hp]
   ·cases h
  ·rw[if_neg h3] at h ⊢
   by_cases h4:k=4
   ·rw[if_pos h4] at h ⊢;obtain⟨f,a,ha⟩:=VT h4 hs.1;have hi:Rw.ek b c m x l=[f.infer b c m x,a.infer b c m x]:=by rw[ha];rfl
    rw[hi,pQ] at h;generalize f.infer b c m x=p at h hi;generalize a.infer b c m x=q at h hi;split at h
    ·rename_i hp;simp only[aqt] at h;exact(hp h.2).elim
    rename_i hp;split at h
    ·rename_i hq;simp only[aqt] at h;exact(hq h.2).elim
    rename_i hq;split at h
    ·cases h
    ·rename_i v vs hv;split at h
     ·rename_i wN;simp only[aqt,and_true] at h;refine⟨q.1,rF b c m l x _ hs.2 ?_⟩;have e1:=(Ty.ow _ _).1 wN;rw[hi,<-h,Ty.gn,Ty.Ez,<-e1,<-hv,Ty.eta,aqS,aqS,arl,e1,<-ar4.1 hp]
      congr 1
      rw[ar4.1 hp,<-ar4.1 hq]
     ·cases h
   ·rw[if_neg h4] at h ⊢
    cases ht:bp c m x k i with
    |none=>rw[ht] at h;cases h
    |some v=>
     rw[ht,ni] at h;split at h
     ·cases h
     ·simp only[aqt,and_true] at h;refine⟨by rw[h],?_⟩;have hk:=xw ht;have ha:arity k=0:=by unfold arity;rw[if_pos hk]
      rw[ha] at hs;exact List.length_eq_zero_iff.1 (by have:=hs.1;omega)
theorem rF (b:Int) (c m:List Ty):∀(l:List Rw) (x us:List Ty),Rw.dI l=true->Rw.ek b c m x l=us.map (fun u=>(u,0))->Rw.oG 1000 c m x l us
 | [],x,[],_,_=>by rw[Rw.oG];exact ai
 | [],x,u::us,_,h=>by cases h
 |r::l,x,[],_,h=>by cases h
 |r::l,x,u::us,hs,h=>by
  rw[Rw.dI,aqv] at hs;rw[Rw.ek,aqS,List.cons.injEq] at h;exact⟨pW b c m r x u hs.1 h.1,rF b c m l x us hs.2 h.2⟩
end
theorem Rw.AQ {k i:Int} {t:Ty} {l:List Rw} {r:Rw} (h:r∈l):r.depth<(Rw.mk k t i l).depth:=Rw.P0 (r:=.mk k t i l) h
mutual
def Tm.nodes:Tm->Nat
 | .mk _ _ _ l=>1+Tm.dA l
def Tm.dA:List Tm->Nat
 | []=>0
 |t::l=>Tm.nodes t+Tm.dA l
end
theorem Tm.ft (t:Tm):t.nodes=1+Tm.dA t.args:=by cases t;rfl
theorem Tm.C7 (t:Tm):1<=t.nodes:=by rw[t.ft];omega
theorem Tm.pX {l:List Tm} {t:Tm} (h:t∈l):t.nodes<=Tm.dA l:=by
 induction l with
 |nil=>cases h
 |cons u l ih=>
  simp only[Tm.dA];rcases aqZ.1 h with rfl|h
  ·omega
  ·have:=ih h;omega
mutual
def Tm.deep:Tm->Nat
 | .mk _ _ _ l=>Tm.C8 0 l+1
def Tm.C8:Nat->List Tm->Nat
 |n,[]=>n
 |n,t::l=>Tm.C8 (if Tm.deep t>n then Tm.deep t else n) l
end
def Tm.bG (t:Tm):Bool:=decide (t.nodes<=5000)&&decide (t.deep<=60)
theorem C9:∀(l r:List ((Nat×Nat)×Tm)) (n:Nat),jK n (l++r)=if n+l.length>5000/\0<l.length\/(∃p∈l,p.1.2>60) then false else jK (n+l.length) r
 | [],r,n=>by simp
 |p::l,r,n=>by
  rw[arK,jK,C9 l r (n+1)]
  by_cases h1:n+1>5000
  ·rw[if_pos h1,if_pos (.inl ⟨by simp;omega,by simp⟩)]
  ·rw[if_neg h1]
   by_cases h2:p.1.2>60
   ·rw[if_pos h2,if_pos (.inr ⟨p,aqG,h2⟩)]
   ·rw[if_neg h2]
    by_cases h3:n+1+l.length>5000/\0<l.length\/∃q∈l,q.1.2>60
    ·rw[if_pos h3,if_pos];rcases h3 with h3|⟨q,hq,h3⟩
     ·exact .inl ⟨by simp;omega,by simp⟩
     ·exact .inr ⟨q,aqI _ hq,h3⟩
    ·rw[if_neg h3,if_neg]
     ·congr 1;simp;omega
     ·rintro(h4|⟨q,hq,h4⟩)
      ·have:=h4.1;simp only[aqy] at this
       by_cases hl:0<l.length
       ·exact h3 (.inl ⟨by omega,hl⟩)
       ·omega
      ·rcases aqZ.1 hq with rfl|hq
       ·exact h2 h4
       ·exact h3 (.inr ⟨q,hq,h4⟩)
mutual
theorem Tm.pP:∀(t:Tm) (a d:Nat),(t.pre a d).length=t.nodes
 | .mk _ _ _ l,a,d=>by rw[Tm.pre,aqy,Tm.nodes,Tm.rr l];omega
theorem Tm.rr:∀(l:List Tm) (a d:Nat),(Tm.jX a d l).length=Tm.dA l
 | [],a,d=>by simp[Tm.jX,Tm.dA]
 |t::l,a,d=>by rw[Tm.jX,aqz,Tm.dA,Tm.pP t,Tm.rr l]
end
theorem Tm.AR {m:Nat}:∀(l:List Tm) (n:Nat),Tm.C8 n l>m↔n>m\/∃t∈l,t.deep>m
 | [],n=>by simp[Tm.C8]
 |t::l,n=>by
  rw[Tm.C8,Tm.AR l];constructor
  ·rintro(h|⟨u,hu,h⟩)
   ·split at h
    ·exact .inr ⟨t,aqG,h⟩
    ·exact .inl h
   ·exact .inr ⟨u,aqI _ hu,h⟩
  ·rintro(h|⟨u,hu,h⟩)
   ·left;split<;>omega
   ·rcases aqZ.1 hu with rfl|hu
    ·left;split<;>omega
    ·exact .inr ⟨u,hu,h⟩
mutual
theorem Tm.Iw {m:Nat}:∀(t:Tm) (a d:Nat),d<=m+1->((∃p∈t.pre a d,p.1.2>m)↔t.deep+d>m+1)
 | .mk bs k i l,a,d,hd=>by
  rw[Tm.pre,Tm.deep];have hl:=Tm.Da (m:=m) l (a+bs.length) (d+1);constructor
  ·rintro⟨p,hp,h⟩
   rcases aqZ.1 hp with rfl|hp
   ·simp only at h;omega
   ·by_cases hdm:d<=m
    ·have:=(hl (by omega)).1 ⟨p,hp,h⟩;obtain⟨t,ht,h2⟩:=this;have:=(Tm.AR (m:=m-d) l 0).2 (.inr ⟨t,ht,by omega⟩);omega
    ·omega
  ·intro h
   by_cases hdm:d<=m
   ·have h1:Tm.C8 0 l>m-d:=by omega
    rcases (Tm.AR l 0).1 h1 with h2|⟨t,ht,h2⟩
    ·omega
    ·obtain⟨p,hp,h3⟩:=(hl (by omega)).2 ⟨t,ht,by omega⟩;exact⟨p,aqI _ hp,h3⟩
   ·exact⟨_,aqG,by simp only;omega⟩
theorem Tm.Da {m:Nat}:∀(l:List Tm) (a d:Nat),d<=m+1->((∃p∈Tm.jX a d l,p.1.2>m)↔∃t∈l,t.deep+d>m+1)
 | [],a,d,hd=>by simp[Tm.jX]
 |t::l,a,d,hd=>by
  have i1:=Tm.Iw t a d hd;have i2:=Tm.Da l a d hd;rw[Tm.jX];constructor
  ·rintro⟨p,hp,h⟩
   rcases aq7.1 hp with hp|hp
   ·exact⟨t,aqG,i1.1 ⟨p,hp,h⟩⟩
   ·obtain⟨u,hu,h2⟩:=i2.1 ⟨p,hp,h⟩;exact⟨u,aqI _ hu,h2⟩
  ·rintro⟨u,hu,h⟩
   rcases aqZ.1 hu with hu|hu
   ·rw[hu] at h;obtain⟨p,hp,h2⟩:=i1.2 h;exact⟨p,ar7 _ hp,h2⟩
   ·obtain⟨p,hp,h2⟩:=i2.2 ⟨u,hu,h⟩;exact⟨p,List.mem_append_right _ hp,h2⟩
end
theorem Ix (t:Tm):jK 0 (t.pre 0 1)=t.bG:=by
 have h:=C9 (t.pre 0 1) [] 0;rw[aqR,aqV,jK,Tm.pP] at h;rw[h,Tm.bG];have hd:=Tm.Iw (m:=60) t 0 1 (by omega);have hp:=t.C7
 by_cases h1:t.nodes<=5000
 ·by_cases h2:t.deep<=60
  ·rw[if_neg,decide_eq_true h1,decide_eq_true h2];rfl
   rintro(h3|h3)
   ·omega
   ·have:=hd.1 h3;omega
  ·rw[if_pos (.inr (hd.2 (by omega))),decide_eq_false h2,Bool.and_false]
 ·rw[if_pos (.inl ⟨by omega,by omega⟩),decide_eq_false h1,arn]
mutual
def Tm.lift (b:Nat):Nat->Tm->Tm
 |d,.mk bs k i l=>.mk bs k (if k=0/\((d+bs.length:Nat):Int)<=i then ag .i64 (i+b) else i) (Tm.rG b (d+bs.length) l)
def Tm.rG (b:Nat):Nat->List Tm->List Tm
 |_,[]=>[]
 |d,t::l=>Tm.lift b d t::Tm.rG b d l
end
theorem Tm.Iy (b d:Nat) (l:List Tm):Tm.rG b d l=l.map (Tm.lift b d):=by
 induction l with
 |nil=>rfl
 |cons t l ih=>rw[Tm.rG,ih];rfl
theorem Tm.yC (b d:Nat) (t:Tm):t.lift b d=.mk t.binds t.kind (if t.kind=0/\((d+t.binds.length:Nat):Int)<=t.index then ag .i64 (t.index+b) else t.index) (t.args.map (Tm.lift b (d+t.binds.length))):=by
 cases t;rw[Tm.lift,Tm.Iy];rfl
theorem Tm.Lw (b d:Nat) (t:Tm):(t.lift b d).binds=t.binds:=by rw[Tm.yC];rfl
theorem Tm.P3 (b d:Nat) (t:Tm):(t.lift b d).kind=t.kind:=by rw[Tm.yC];rfl
theorem Tm.P4 (b d:Nat) (t:Tm):(t.lift b d).args=t.args.map (Tm.lift b (d+t.binds.length)):=by rw[Tm.yC];rfl
mutual
def Tm.Lo (B:Nat):Tm->Prop
 | .mk bs k i l=>(Ty.sizes bs<=B/\l.length<=B)/\(lO k/\lO i)/\Tm.tD B l
def Tm.tD (B:Nat):List Tm->Prop
 | []=>True
 |t::l=>Tm.Lo B t/\Tm.tD B l
end
theorem Tm.fu {B:Nat} {t:Tm}:t.Lo B↔(Ty.sizes t.binds<=B/\t.args.length<=B)/\(lO t.kind/\lO t.index)/\Tm.tD B t.args:=by cases t;exact ase
theorem Tm.gp {B:Nat} {l:List Tm}:Tm.tD B l↔∀t∈l,t.Lo B:=by
 induction l with
 |nil=>exact⟨fun _ t h=>(by cases h),fun _=>ai⟩
 |cons u l ih=>
  rw[Tm.tD,ih];exact⟨fun⟨h1,h2⟩ t ht=>(aqZ.1 ht).elim (fun h=>h▸h1) (h2 t),fun h=>⟨h u aqG,fun t ht=>h t (aqI _ ht)⟩⟩
mutual
theorem Tm.E6 {B B':Nat} (h:B<=B'):∀{t:Tm},t.Lo B->t.Lo B'
 | .mk bs k i l,h1=>by
  obtain⟨⟨h1,h2⟩,h3,h4⟩:=h1;exact⟨⟨by omega,by omega⟩,h3,Tm.Iz h h4⟩
theorem Tm.Iz {B B':Nat} (h:B<=B'):∀{l:List Tm},Tm.tD B l->Tm.tD B' l
 | [],_=>ai
 |t::l,h1=>⟨Tm.E6 h h1.1,Tm.Iz h h1.2⟩
end
mutual
theorem Tm.E7 {B b:Nat}:∀(d:Nat) {t:Tm},t.Lo B->(t.lift b d).Lo B
 |d,.mk bs k i l,h1=>by
  obtain⟨⟨h1,h2⟩,⟨h3,h4⟩,h5⟩:=h1;rw[Tm.lift];refine⟨⟨h1,by rw[Tm.Iy,aqu];exact h2⟩,⟨h3,?_⟩,Tm.IA _ h5⟩;split
  ·exact Iv _
  ·exact h4
theorem Tm.IA {B b:Nat}:∀(d:Nat) {l:List Tm},Tm.tD B l->Tm.tD B (Tm.rG b d l)
 |_,[],_=>ai
 |d,t::l,h1=>⟨Tm.E7 d h1.1,Tm.IA d h1.2⟩
end
mutual
theorem Tm.AU {B:Nat}:∀{t:Tm},t.Lo B->t.Ok
 | .mk bs k i l,h=>⟨h.2.1.1,h.2.1.2,Tm.NU h.2.2⟩
theorem Tm.NU {B:Nat}:∀{l:List Tm},Tm.tD B l->Tm.JC l
 | [],_=>ai
 |t::l,h=>⟨Tm.AU h.1,Tm.NU h.2⟩
end
mutual
theorem Tm.yD {B:Nat}:∀{t:Tm},t.Lo B->t.size<=t.nodes*(1+B)
 | .mk bs k i l,h=>by
  have:=Tm.IB h.2.2;have h1:Ty.sizes bs<=B:=h.1.1;rw[Tm.size,Tm.nodes,arz];omega
theorem Tm.IB {B:Nat}:∀{l:List Tm},Tm.tD B l->Tm.sizes l<=Tm.dA l*(1+B)
 | [],_=>by simp[Tm.sizes]
 |t::l,h=>by
  have h1:=Tm.yD h.1;have h2:=Tm.IB h.2;rw[Tm.sizes,Tm.dA,arz];omega
end
structure Mt where
 left:Nat
 count:Nat
 err:Int
def Mt.one (m:Mt):Mt×Bool:=
 if m.err≠0 then(m,false) else if m.count=100000 then(⟨m.left,m.count,2⟩,false) else if m.left=0 then(⟨m.left,m.count,11⟩,false) else(⟨m.left-1,m.count+1,m.err⟩,true)
def Mt.ee:Nat->Mt->Mt×Bool
 |0,m=>(m,decide (m.err=0))
 |n+1,m=>if m.one.2=true then Mt.ee n m.one.1 else(m.one.1,false)
def di:Tm:=.mk [] 0 0 []
def cd (g:Mt->Tm->Mt×Tm):Mt->List Tm->Mt×List Tm
 |m,[]=>(m,[])
 |m,t::l=>((cd g (g m t).1 l).1,(g m t).2::(cd g (g m t).1 l).2)
def ct (b:Mt->Int->Int->List Tm->List Tm->Nat->Nat->Mt×Tm) (us:List Tm) (n d:Nat) (m:Mt) (t:Tm):Mt×Tm:=
 ((b m t.kind t.index t.args us n (d+t.binds.length)).1,.mk t.binds (b m t.kind t.index t.args us n (d+t.binds.length)).2.kind (b m t.kind t.index t.args us n (d+t.binds.length)).2.index (b m t.kind t.index t.args us n (d+t.binds.length)).2.args)
def bN (us:List Tm) (i:Int) (n d:Nat):Tm:=(us.getD (n-1-(i-d).toNat) di).lift (d+n-us.length) 0
def AW (b:Mt->Int->Int->List Tm->List Tm->Nat->Nat->Mt×Tm) (r:Mt×List Tm) (k i:Int) (us:List Tm) (n d:Nat):Mt×Tm:=
 if r.1.err≠0 then(r.1,di) else if ¬k=0\/i<d then(r.1,.mk [] k i r.2) else if(d:Int)+n<=i then(r.1,.mk [] k (i-us.length) r.2)
 else if(i-d).toNat+us.length<n then(r.1,.mk [] k i r.2)
 else if(bN us i n d).binds.length≠r.2.length then(⟨r.1.left,r.1.count,1⟩,di)
 else b r.1 (bN us i n d).kind (bN us i n d).index (bN us i n d).args r.2 (bN us i n d).binds.length 0
def bC:Nat->Mt->Int->Int->List Tm->List Tm->Nat->Nat->Mt×Tm
 |0,m,_,_,_,_,_,_=>(⟨m.left,m.count,if m.err=0 then 99 else m.err⟩,di)
 |f+1,m,k,i,args,us,n,d=>if m.one.2=false then(m.one.1,di) else AW (bC f) (cd (ct (bC f) us n d) m.one.1 args) k i us n d
def gF (f:Nat) (m:Mt) (t:Tm) (us:List Tm):Mt×Tm:=
 if m.err≠0 then(m,di) else if t.binds.length<us.length then(⟨m.left,m.count,1⟩,di) else
 ((bC f m t.kind t.index t.args us t.binds.length 0).1,.mk (t.binds.drop us.length) (bC f m t.kind t.index t.args us t.binds.length 0).2.kind (bC f m t.kind t.index t.args us t.binds.length 0).2.index (bC f m t.kind t.index t.args us t.binds.length 0).2.args)
def Db (c m x:List Ty) (st:Mt) (k i:Int):Mt×Tm:=
 if(st.ee ((bp c m x k i).getD jY).size).2=false then((st.ee ((bp c m x k i).getD jY).size).1,di) else((st.ee ((bp c m x k i).getD jY).size).1,oC k i ((bp c m x k i).getD jY))
def Cc (t:Ty) (r:Mt×List Tm):Mt×Tm:=
 if r.1.err≠0 then(r.1,di) else(r.1,.mk (t::(r.2.getD 0 di).binds) (r.2.getD 0 di).kind (r.2.getD 0 di).index (r.2.getD 0 di).args)
def wz (r:Mt×List Tm):Mt×Tm:=
 if r.1.err≠0 then(r.1,di) else gF 100001 r.1 (r.2.getD 0 di) [r.2.getD 1 di]
mutual
def Rw.dB (c m:List Ty):Mt->List Ty->Rw->Mt×Tm
 |st,x,.mk k t i l=>if st.err≠0 then(st,di) else if k=3 then Cc t (Rw.cK c m st (x++[t]) l) else if k=4 then wz (Rw.cK c m st x l) else Db c m x st k i
def Rw.cK (c m:List Ty):Mt->List Ty->List Rw->Mt×List Tm
 |st,_,[]=>(st,[])
 |st,x,r::l=>((Rw.cK c m (Rw.dB c m st x r).1 x l).1,(Rw.dB c m st x r).2::(Rw.cK c m (Rw.dB c m st x r).1 x l).2)
end
def gU (r:Mt×Tm):Mt×Tm:=
 if r.1.err≠0 then(r.1,di) else if jK 0 (r.2.pre 0 1)=true then r else(⟨r.1.left,r.1.count,2⟩,di)
theorem mF {m:Mt} (h:m.one.2=true):m.err=0/\m.count≠100000/\m.left≠0/\m.one.1=⟨m.left-1,m.count+1,0⟩:=by
 unfold Mt.one at h ⊢;split at h
 ·cases h
 ·rename_i h0;have h0:m.err=0:=by simpa using h0
  split at h
  ·cases h
  ·split at h
   ·cases h
   ·rename_i h1 h2;exact⟨h0,h1,h2,by rw[if_neg (by simp[h0]),if_neg h1,if_neg h2,h0]⟩
theorem kb {m:Mt} (h:m.one.2=false):m.one.1.err≠0/\m.one.1.left=m.left/\m.one.1.count=m.count/\(m.err≠0->m.one.1=m)/\(m.one.1.err=11->m.err=11\/m.left=0/\m.count≠100000):=by
 unfold Mt.one at h ⊢;split at h
 ·rename_i h0;rw[if_pos h0];exact⟨h0,rfl,rfl,fun _=>rfl,fun h=>.inl h⟩
 ·rename_i h0;rw[if_neg h0];split at h
  ·rename_i h1;rw[if_pos h1];exact⟨by simp,rfl,rfl,fun h=>(h0 h).elim,fun h=>by simp at h⟩
  ·rename_i h1;rw[if_neg h1];split at h
   ·rename_i h2;rw[if_pos h2];exact⟨by simp,rfl,rfl,fun h=>(h0 h).elim,fun h=>.inr ⟨h2,h1⟩⟩
   ·cases h
structure Mt.To (m m':Mt):Prop where
 stop:m.err≠0->m'=m
 sum:m'.left+m'.count=m.left+m.count
 more:m.count<=m'.count
 pY:m.count<=100000->m'.count<=100000
 fuel:m'.err=11->m.err≠11->m'.left=0/\m'.count≠100000
theorem Mt.To.refl (m:Mt):m.To m:=⟨fun _=>rfl,rfl,aqw _,fun h=>h,fun h1 h2=>(h2 h1).elim⟩
theorem Mt.To.trans {a b c:Mt} (h1:a.To b) (h2:b.To c):a.To c:=
 ⟨fun h=>by have e:=h1.stop h;subst e;exact h2.stop h,by rw[h2.sum,h1.sum],aqU h1.more h2.more,fun h=>h2.pY (h1.pY h),fun h g=>by
  by_cases hb:b.err=11
  ·have:=h2.stop (by rw[hb];decide);rw[this];exact h1.fuel hb g
  ·exact h2.fuel h hb⟩
theorem Mt.To.ok {a b:Mt} (h:a.To b) (hb:b.err=0):a.err=0:=asa fun hc=>hc (by rw[<-h.stop hc];exact hb)
theorem Mt.To.fail {m:Mt} (h:m.err=0) {e:Int} (he:e≠11):m.To ⟨m.left,m.count,e⟩:=⟨fun h'=>(h' h).elim,rfl,aqw _,fun h=>h,fun h=>(he h).elim⟩
theorem Mt.wA (m:Mt):m.To m.one.1:=by
 cases h:m.one.2 with
 |true=>
  obtain⟨h0,h1,h2,h3⟩:=mF h;rw[h3];exact⟨fun h=>(h h0).elim,by simp only;omega,by simp only;omega,fun h=>by simp only;omega,fun h=>by simp at h⟩
 |false=>
  obtain⟨_,h1,h2,h3,h4⟩:=kb h;exact⟨h3,by omega,by omega,fun h=>by omega,fun h g=>by rw[h1,h2];exact(h4 h).resolve_left g⟩
theorem Mt.AX:∀(n:Nat) (m:Mt),m.To (m.ee n).1
 |0,m=>.refl m
 |n+1,m=>by
  rw[Mt.ee];split
  ·exact(Mt.wA m).trans (Mt.AX n _)
  ·exact Mt.wA m
theorem Mt.vg:∀(n:Nat) (m:Mt),((m.ee n).2=true↔(m.ee n).1.err=0)/\((m.ee n).2=true->(m.ee n).1.count=m.count+n)
 |0,m=>by simp[Mt.ee]
 |n+1,m=>by
  rw[Mt.ee];split
  ·rename_i h;obtain⟨h0,h1,h2,h3⟩:=mF h;have:=Mt.vg n m.one.1;refine⟨this.1,fun h=>?_⟩;rw[this.2 h,h3];simp only;omega
  ·rename_i h;have h:m.one.2=false:=by simpa using h
   have:=(kb h).1;exact⟨⟨fun h=>(by cases h),fun h=>(this h).elim⟩,fun h=>(by cases h)⟩
def AY (g:Mt->Tm->Mt×Tm):Prop:=∀(m:Mt) (t:Tm),m.To (g m t).1
theorem iN {g:Mt->Tm->Mt×Tm} (hg:AY g):∀(l:List Tm) (m:Mt),m.To (cd g m l).1
 | [],m=>.refl m
 |t::l,m=>(hg m t).trans (iN hg l _)
theorem mG {g:Mt->Tm->Mt×Tm}:∀(l:List Tm) (m:Mt),(cd g m l).2.length=l.length
 | [],m=>rfl
 |t::l,m=>by rw[cd,aqy,aqy,mG l]
theorem IC {g:Mt->Tm->Mt×Tm} {l:List Tm} {k:Nat} (h:k<l.length) (m:Mt):cd g m (l.drop k)=((cd g (g m l[k]).1 (l.drop (k+1))).1,(g m l[k]).2::(cd g (g m l[k]).1 (l.drop (k+1))).2):=by
 rw[aqB h,cd]
theorem rH:∀(f:Nat) (m:Mt) (k i:Int) (args us:List Tm) (n d:Nat),m.To (bC f m k i args us n d).1
 |0,m,k,i,args,us,n,d=>by
  rw[bC]
  by_cases h:m.err=0
  ·rw[if_pos h];exact .fail h (by decide)
  ·rw[if_neg h];exact⟨fun _=>by cases m;rfl,rfl,aqw _,fun h=>h,fun h1 h2=>(h2 h1).elim⟩
 |f+1,m,k,i,args,us,n,d=>by
  rw[bC];split
  ·exact Mt.wA m
  ·refine(Mt.wA m).trans ?_;have hg:=iN (g:=ct (bC f) us n d) (fun m t=>rH f m _ _ _ _ _ _) args m.one.1;refine hg.trans ?_;generalize cd (ct (bC f) us n d) m.one.1 args=r;unfold AW;split
   ·exact .refl _
   ·rename_i h0;have h0:r.1.err=0:=by simpa using h0
    split
    ·exact .refl _
    ·split
     ·exact .refl _
     ·split
      ·exact .refl _
      ·split
       ·exact .fail h0 (by decide)
       ·exact rH f _ _ _ _ _ _ _
theorem mH (f:Nat) (us:List Tm) (n d:Nat):AY (ct (bC f) us n d):=fun m t=>rH f m _ _ _ _ _ _
structure Form (B:Nat) (m m':Mt) (t:Tm):Prop where
 nodes:t.nodes+m.count<=m'.count
 lo:t.Lo B
theorem kI {B:Nat} {g:Mt->Tm->Mt×Tm} (hg:AY g):∀(l:List Tm) (m:Mt),(∀t∈l,∀m:Mt,m.To (g m t).1->(g m t).1.err=0->Form B m (g m t).1 (g m t).2)->(cd g m l).1.err=0->
  Tm.dA (cd g m l).2+m.count<=(cd g m l).1.count/\Tm.tD B (cd g m l).2
 | [],m,_,_=>⟨by simp[cd,Tm.dA],ai⟩
 |t::l,m,h,he=>by
  rw[cd] at he ⊢;simp only at he ⊢;have h1:=h t aqG m (hg m t) ((iN hg l _).ok he);have h2:=kI hg l (g m t).1 (fun u hu=>h u (aqI _ hu)) he;have:=h1.nodes;exact⟨by rw[Tm.dA];omega,h1.lo,h2.2⟩
theorem Z1 {B:Nat} {l:List Tm} (h:Tm.tD B l) (n:Nat):(l.getD n di).Lo B:=by
 rw[aru]
 by_cases hn:n<l.length
 ·rw[aqx hn];exact Tm.gp.1 h _ (aqL hn)
 ·rw[aq6 (by omega)];exact⟨⟨by simp[Ty.sizes],by simp⟩,⟨⟨by decide,by decide⟩,by decide,by decide⟩,ai⟩
theorem se {B:Nat} {us:List Tm} (h:Tm.tD B us) (i:Int) (n d:Nat):(bN us i n d).Lo B:=Tm.E7 0 (Z1 h _)
theorem gG {B:Nat}:∀(f:Nat) (m:Mt) (k i:Int) (args us:List Tm) (n d:Nat),lO k->lO i->args.length<=B->Tm.tD B args->Tm.tD B us->us.length<=n->(bC f m k i args us n d).1.err=0->
  Form B m (bC f m k i args us n d).1 (bC f m k i args us n d).2/\(bC f m k i args us n d).2.binds=[]
 |0,m,k,i,args,us,n,d,_,_,_,_,_,_,he=>by
  rw[bC] at he;simp only at he;split at he
  ·cases he
  ·rename_i h;exact(h he).elim
 |f+1,m,k,i,args,us,n,d,hk,hi,hla,ha,hu,hn,he=>by
  rw[bC] at he ⊢;split at he
  ·rename_i h1;exact((kb h1).1 he).elim
  ·rename_i h1;rw[if_neg h1];obtain⟨g0,g1,g2,g3⟩:=mF (by simpa using h1);have FD:=iN (mH f us n d) args m.one.1;have jr:=kI (B:=B) (mH f us n d) args m.one.1 (fun t ht m' ada Cs=>by
    have gW:=Tm.fu.1 (Tm.gp.1 ha t ht);have:=gG (B:=B) f m' t.kind t.index t.args us n (d+t.binds.length) gW.2.1.1 gW.2.1.2 gW.1.2 gW.2.2 hu hn Cs;have hq:=Tm.fu.1 this.1.lo;have NV:=this.1.nodes;rw[Tm.ft] at NV
    exact⟨by unfold ct;rw[Tm.ft,Tm.gn];exact NV,Tm.fu.2 ⟨⟨gW.1.1,hq.1.2⟩,hq.2⟩⟩)
   have hlen:=mG (g:=ct (bC f) us n d) args m.one.1;generalize cd (ct (bC f) us n d) m.one.1 args=r at he FD jr hlen;unfold AW at he ⊢;split at he
   ·rename_i h2;exact(h2 he).elim
   ·rename_i h2;have h2:r.1.err=0:=by simpa using h2
    obtain⟨q1,q2⟩:=jr h2;have q1':1+Tm.dA r.2+m.count<=r.1.count:=by rw[g3] at q1;simp only at q1;omega
    rw[if_neg (by simp[h2])];have mk:∀i':Int,lO i'->Form B m r.1 (.mk [] k i' r.2):=fun i' tR=>⟨by rw[Tm.nodes];exact q1',⟨by simp[Ty.sizes],by rw[hlen];exact hla⟩,⟨hk,tR⟩,q2⟩;split at he
    ·rename_i h3;rw[if_pos h3];exact⟨mk i hi,rfl⟩
    ·rename_i h3;rw[if_neg h3];split at he
     ·rename_i h4;rw[if_pos h4];refine⟨mk _ ?_,rfl⟩;unfold lO at hi ⊢;omega
     ·rename_i h4;rw[if_neg h4];split at he
      ·rename_i h5;rw[if_pos h5];exact⟨mk i hi,rfl⟩
      ·rename_i h5;rw[if_neg h5];split at he
       ·cases he
       ·rename_i h6;rw[if_neg h6];have gW:=Tm.fu.1 (se hu i n d);have:=gG (B:=B) f r.1 _ _ _ r.2 _ 0 gW.2.1.1 gW.2.1.2 gW.1.2 gW.2.2 q2 (by simp at h6;omega) he;exact⟨⟨by have:=this.1.nodes;omega,this.1.lo⟩,this.2⟩
theorem Z2 (f:Nat) (m:Mt) (t:Tm) (us:List Tm):m.To (gF f m t us).1:=by
 unfold gF;split
 ·exact .refl m
 ·rename_i h0;have h0:m.err=0:=by simpa using h0
  split
  ·exact .fail h0 (by decide)
  ·exact rH f _ _ _ _ _ _ _
theorem E8 (l:List Ty) (n:Nat):Ty.sizes (l.drop n)<=Ty.sizes l:=by
 have:=Ty.bW (l.take n) (l.drop n);rw[ars] at this;omega
theorem P5 {B f:Nat} {m:Mt} {t:Tm} {us:List Tm} (ht:t.Lo B) (hu:Tm.tD B us) (he:(gF f m t us).1.err=0):Form B m (gF f m t us).1 (gF f m t us).2:=by
 unfold gF at he ⊢;split at he
 ·rename_i h;exact(h he).elim
 ·rename_i h;rw[if_neg h];split at he
  ·cases he
  ·rename_i h2;rw[if_neg h2];have gW:=Tm.fu.1 ht;have:=gG (B:=B) f m _ _ _ us _ 0 gW.2.1.1 gW.2.1.2 gW.1.2 gW.2.2 hu (by omega) he;have hq:=Tm.fu.1 this.1.lo;have NV:=this.1.nodes;rw[Tm.ft] at NV;refine⟨by rw[Tm.ft,Tm.gn];exact NV,Tm.fu.2 ⟨⟨?_,hq.1.2⟩,hq.2⟩⟩;exact aqU (E8 _ _) gW.1.1
mutual
theorem AZ:∀(t:Ty) (k i:Int),(oC k i t).nodes=t.size
 | .mk l b,k,i=>by rw[oC,Tm.nodes,Ty.size,xx l l.length 0]
theorem xx:∀(l:List Ty) (n j:Nat),Tm.dA (iw n j l)=Ty.sizes l
 | [],n,j=>by simp[iw,Tm.dA,Ty.sizes]
 |t::l,n,j=>by rw[iw,Tm.dA,Ty.sizes,AZ t,xx l]
end
mutual
theorem NW {B:Nat}:∀(t:Ty) (k i:Int),lO k->lO i->t.size<=B->B<=1000000000->(oC k i t).Lo B
 | .mk l b,k,i,hk,hi,h,hB=>by
  have:=Ty.aO l;rw[Ty.size] at h;rw[oC];refine⟨⟨by omega,by rw[oD];omega⟩,⟨hk,?_⟩,ID l l.length 0 (by omega) (by omega) (by omega) hB⟩;split
  ·exact Iv _
  ·exact hi
theorem ID {B:Nat}:∀(l:List Ty) (n j:Nat),n<=B->Ty.sizes l<=B->j+l.length<=3000000000->B<=1000000000->Tm.tD B (iw n j l)
 | [],n,j,_,_,_,_=>ai
 |t::l,n,j,hn,h,hj,hB=>by
  rw[Ty.sizes] at h;rw[aqy] at hj;exact⟨NW t 0 _ ⟨by decide,by decide⟩ ⟨by omega,by omega⟩ (by omega) hB,ID l n (j+1) hn (by omega) (by omega) hB⟩
end
theorem Wb (c m x:List Ty) (st:Mt) (k i:Int):st.To (Db c m x st k i).1:=by
 unfold Db;split
 ·exact Mt.AX _ _
 ·exact Mt.AX _ _
theorem NY (t:Ty) (r:Mt×List Tm):r.1.To (Cc t r).1:=by
 unfold Cc;split<;>exact .refl _
theorem NZ (r:Mt×List Tm):r.1.To (wz r).1:=by
 unfold wz;split
 ·exact .refl _
 ·exact Z2 _ _ _ _
mutual
theorem Rw.vh (c m:List Ty):∀(r:Rw) (st:Mt) (x:List Ty),st.To (Rw.dB c m st x r).1
 | .mk k t i l,st,x=>by
  rw[Rw.dB];split
  ·exact .refl _
  ·split
   ·exact(Rw.oH c m l st _).trans (NY _ _)
   ·split
    ·exact(Rw.oH c m l st _).trans (NZ _)
    ·exact Wb _ _ _ _ _ _
theorem Rw.oH (c m:List Ty):∀(l:List Rw) (st:Mt) (x:List Ty),st.To (Rw.cK c m st x l).1
 | [],st,x=>.refl _
 |r::l,st,x=>by rw[Rw.cK];exact(Rw.vh c m r st x).trans (Rw.oH c m l _ x)
end
end Go.Proofs.YtnkjkpmbgoehkaaGreat
