/- Texts of ours laid together for a claim: P01 P8C P02 P03 P04 P05 P06 P08 P8D P70 P71 P8G P72 P90 P91 P92 P73 P93 P15 P16 P17 P18 P23 P19 P11 P77 P94 P82 P95 P96 P30 P31 P32 P33 P34 P24 P25 P26 P46 P35 P36 P37. -/
import Derived.Lib.Strings
import Derived.Shelf.Small.Strs
import Derived.Tactics
import Derived.Tactics2
import Derived.Defers
import Derived.Laws.Pointers
import Derived.Laws.LoneSync
import Derived.RegionTactic
import Derived.RegionCalls
import Derived.ChangeAlike
import Derived.TacticsInMore
import Derived.RegionIn
import Derived.LoopNIn
import Derived.RecoverIn
import Derived.Test.YtnkjkpmbgoehkaaGreatQ39
namespace Go.Proofs.YtnkjkpmbgoehkaaGreat
open Go
set_option linter.unusedSimpArgs false
set_option linter.unusedVariables false
set_option maxRecDepth 100000
open Go Go.Shelf
theorem aT {n:Int} (h1 : -9223372036854775808<=n) (h2:n<9223372036854775808):IntKind.wrap .i64 n=n:=IntWalk.i64_in _ (by omega)
theorem aV {k:Nat} (h:k<=4000000000):IntKind.wrap .i64 ((k:Int)+1)=((k+1:Nat):Int):=K0 (by omega)
theorem jm {d:TD} {n:Nat} {els ar:List AV} (h1:∀x:AV,x∈els->x.cells.length=d.size) (h2:∀x:AV,x∈ar->x.cells.length=d.size) (hn:n<=4000000000) (hb:d.bytes<=1000):aZ d n els ar:=by
 refine⟨h1,h2,?_,?_⟩
 ·simp only[maxLen];omega
 ·have:=amT hn hb;omega
theorem mQ {d:TD} {n:Nat} {ar:List AV} (h2:∀x:AV,x∈ar->x.cells.length=d.size) (hn:n<=4000000000) (hb:d.bytes<=1000):aZ d n [] ar:=
 jm (fun x hx=>by cases hx) h2 hn hb
theorem bp {d:TD} {n:Nat} {x:AV} (h2:x.cells.length=d.size) (hn:n<=4000000000) (hb:d.bytes<=1000):aZ d n [] [x]:=
 mQ (fun y hy=>by rw[alG.1 hy];exact h2) hn hb
theorem getD_map {α:Type} {f:α->AV} {l:List α} {k:Nat} (h:k<l.length):List.getD (l.map f) (Int.toNat (k:Int)) .top=f l[k]:=by simp[List.getD,h]
def bB (l:List Int):List AV:=l.map nI
theorem dV (l:List Int):(bB l).length=l.length:=by simp[bB]
theorem kb {l:List Int} {k:Nat} (h:k<l.length):List.getD (bB l) (Int.toNat (k:Int)) .top=nI l[k]:=getD_map h
theorem kc (l:List Int) (i:Int):bB l++[nI i]=bB (l++[i]):=by simp[bB]
theorem lT {l:List Int}:∀x:AV,x∈bB l->x.cells.length=1:=by
 intro x hx;obtain⟨t,_,rfl⟩:=amg.1 hx;rfl
def ac7:List Int->List Int->Bool
 | [],[]=>true
 |a::l,b::m=>(a==b)&&ac7 l m
 |_,_=>false
inductive Ty where
 |mk (args:List Ty) (base:Int)
mutual
def Ty.enc:Ty->AV
 | .mk l b=>.agg [.sl (Ty.nK l),nI b]
def Ty.nK:List Ty->List AV
 | []=>[]
 |t::l=>Ty.enc t::Ty.nK l
end
mutual
def Ty.size:Ty->Nat
 | .mk l _=>1+Ty.sizes l
def Ty.sizes:List Ty->Nat
 | []=>0
 |t::l=>Ty.size t+Ty.sizes l
end
def Ty.args:Ty->List Ty | .mk l _=>l
def Ty.base:Ty->Int | .mk _ b=>b
theorem Ty.jb (a:List Ty) (b:Int):(Ty.mk a b).args=a:=rfl
theorem Ty.B1 (a:List Ty) (b:Int):(Ty.mk a b).base=b:=rfl
theorem Ty.eta (t:Ty):Ty.mk t.args t.base=t:=by cases t;rfl
theorem Ty.nL (l:List Ty):Ty.nK l=l.map Ty.enc:=by
 induction l with
 |nil=>rfl
 |cons t l ih=>simp[Ty.nK,ih]
theorem Ty.ax (t:Ty):t.enc=.agg [.sl (t.args.map Ty.enc),nI t.base]:=by cases t;simp[Ty.enc,Ty.nL,Ty.args,Ty.base]
theorem Ty.il (l:List Ty) (b:Int):(Ty.mk l b).enc=.agg [.sl (l.map Ty.enc),nI b]:=Ty.ax _
theorem Ty.bb {l:List Ty} {k:Nat} (h:k<l.length):List.getD (l.map Ty.enc) (Int.toNat (k:Int)) .top=.agg [.sl (l[k].args.map Ty.enc),nI l[k].base]:=by rw[getD_map h,Ty.ax]
theorem Ty.size_eq (t:Ty):t.size=1+Ty.sizes t.args:=by cases t;rfl
theorem Ty.size_pos (t:Ty):1<=t.size:=by rw[t.size_eq];omega
theorem Ty.aY (l:List Ty):l.length<=Ty.sizes l:=by
 induction l with
 |nil=>simp[Ty.sizes]
 |cons t l ih=>have:=t.size_pos;simp[Ty.sizes];omega
theorem Ty.bE (l m:List Ty):Ty.sizes (l++m)=Ty.sizes l+Ty.sizes m:=by
 induction l with
 |nil=>simp[Ty.sizes]
 |cons t l ih=>simp[Ty.sizes,ih];omega
theorem Ty.dP {l:List Ty} {t:Ty} (h:t∈l):t.size<=Ty.sizes l:=by
 induction l with
 |nil=>cases h
 |cons u l ih=>
  simp only[Ty.sizes];rcases alW.1 h with rfl|h1
  ·omega
  ·have:=ih h1;omega
theorem Ty.fi {t:Ty} {k:Nat} (h:k<t.args.length):t.args[k].size<t.size:=by
 have:=Ty.dP (alH h);rw[t.size_eq];omega
theorem Ty.Kj (t:Ty):t.enc.cells.length=2:=by cases t;rfl
theorem Ty.kr {l:List Ty}:∀x:AV,x∈l.map Ty.enc->x.cells.length=2:=by
 intro x h;obtain⟨t,_,rfl⟩:=amg.1 h;exact t.Kj
theorem Ty.kS (l:List Ty) (t:Ty):l.map Ty.enc++[.agg [.sl (t.args.map Ty.enc),nI t.base]]=(l++[t]).map Ty.enc:=by rw[<-Ty.ax];simp
mutual
def Ty.same:Ty->Ty->Bool
 | .mk l a,.mk m b=>(a==b)&&Ty.eN l m
def Ty.eN:List Ty->List Ty->Bool
 | [],[]=>true
 |t::l,u::m=>Ty.same t u&&Ty.eN l m
 |_,_=>false
end
theorem Ty.Vp (t u:Ty):Ty.same t u=((t.base==u.base)&&Ty.eN t.args u.args):=by cases t;cases u;simp[Ty.same,Ty.base,Ty.args]
theorem Ty.HV {l m:List Ty} {k:Nat} (h1:k<l.length) (h2:k<m.length):Ty.eN (l.drop k) (m.drop k)=(Ty.same l[k] m[k]&&Ty.eN (l.drop (k+1)) (m.drop (k+1))):=by
 rw[alw h1,alw h2,Ty.eN]
theorem Ty.LG {l m:List Ty} (h:¬l.length=m.length):Ty.eN l m=false:=by
 induction l generalizing m with
 |nil=>cases m with
  |nil=>exact(h rfl).elim
  |cons=>simp[Ty.eN]
 |cons t l ih=>cases m with
  |nil=>simp[Ty.eN]
  |cons u m=>simp[Ty.eN,ih (m:=m) (by simpa using h)]
mutual
theorem Ty.Fb:∀(t u:Ty),Ty.same t u=true↔t=u
 | .mk l a,.mk m b=>by rw[Ty.same,aln,beq_iff_eq,Ty.Az l m];simp only[Ty.mk.injEq];exact⟨fun h=>⟨h.2,h.1⟩,fun h=>⟨h.2,h.1⟩⟩
theorem Ty.Az:∀(l m:List Ty),Ty.eN l m=true↔l=m
 | [],[]=>by simp[Ty.eN]
 | [],_::_=>by simp[Ty.eN]
 |_::_,[]=>by simp[Ty.eN]
 |t::l,u::m=>by rw[Ty.eN,aln,Ty.Fb t u,Ty.Az l m];simp
end
inductive Tm where
 |mk (binds:List Ty) (kind index:Int) (args:List Tm)
mutual
def Tm.enc:Tm->AV
 | .mk b k i a=>.agg [.sl (b.map Ty.enc),nI k,nI i,.sl (Tm.nK a)]
def Tm.nK:List Tm->List AV
 | []=>[]
 |t::l=>Tm.enc t::Tm.nK l
end
mutual
def Tm.size:Tm->Nat
 | .mk b _ _ a=>1+Ty.sizes b+Tm.sizes a
def Tm.sizes:List Tm->Nat
 | []=>0
 |t::l=>Tm.size t+Tm.sizes l
end
def Tm.binds:Tm->List Ty | .mk b _ _ _=>b
def Tm.kind:Tm->Int | .mk _ k _ _=>k
def Tm.index:Tm->Int | .mk _ _ i _=>i
def Tm.args:Tm->List Tm | .mk _ _ _ a=>a
theorem Tm.sX (b:List Ty) (k i:Int) (a:List Tm):(Tm.mk b k i a).binds=b:=rfl
theorem Tm.B2 (b:List Ty) (k i:Int) (a:List Tm):(Tm.mk b k i a).kind=k:=rfl
theorem Tm.xZ (b:List Ty) (k i:Int) (a:List Tm):(Tm.mk b k i a).index=i:=rfl
theorem Tm.jb (b:List Ty) (k i:Int) (a:List Tm):(Tm.mk b k i a).args=a:=rfl
theorem Tm.nL (l:List Tm):Tm.nK l=l.map Tm.enc:=by
 induction l with
 |nil=>rfl
 |cons t l ih=>simp[Tm.nK,ih]
theorem Tm.ax (t:Tm):t.enc=.agg [.sl (t.binds.map Ty.enc),nI t.kind,nI t.index,.sl (t.args.map Tm.enc)]:=by cases t;simp[Tm.enc,Tm.nL,Tm.binds,Tm.kind,Tm.index,Tm.args]
theorem Tm.il (b:List Ty) (k i:Int) (a:List Tm):(Tm.mk b k i a).enc=.agg [.sl (b.map Ty.enc),nI k,nI i,.sl (a.map Tm.enc)]:=Tm.ax _
theorem Tm.bb {l:List Tm} {k:Nat} (h:k<l.length):List.getD (l.map Tm.enc) (Int.toNat (k:Int)) .top=.agg [.sl (l[k].binds.map Ty.enc),nI l[k].kind,nI l[k].index,.sl (l[k].args.map Tm.enc)]:=by rw[getD_map h,Tm.ax]
theorem Tm.size_eq (t:Tm):t.size=1+Ty.sizes t.binds+Tm.sizes t.args:=by cases t;rfl
theorem Tm.size_pos (t:Tm):1<=t.size:=by rw[t.size_eq];omega
theorem Tm.aY (l:List Tm):l.length<=Tm.sizes l:=by
 induction l with
 |nil=>simp[Tm.sizes]
 |cons t l ih=>have:=t.size_pos;simp[Tm.sizes];omega
theorem Tm.bE (l m:List Tm):Tm.sizes (l++m)=Tm.sizes l+Tm.sizes m:=by
 induction l with
 |nil=>simp[Tm.sizes]
 |cons t l ih=>simp[Tm.sizes,ih];omega
theorem Tm.dP {l:List Tm} {t:Tm} (h:t∈l):t.size<=Tm.sizes l:=by
 induction l with
 |nil=>cases h
 |cons u l ih=>
  simp only[Tm.sizes];rcases alW.1 h with rfl|h1
  ·omega
  ·have:=ih h1;omega
theorem Tm.fi {t:Tm} {k:Nat} (h:k<t.args.length):t.args[k].size<t.size:=by
 have:=Tm.dP (alH h);rw[t.size_eq];omega
theorem Tm.kS (l:List Tm) (t:Tm):l.map Tm.enc++[.agg [.sl (t.binds.map Ty.enc),nI t.kind,nI t.index,.sl (t.args.map Tm.enc)]]=(l++[t]).map Tm.enc:=by rw[<-Tm.ax];simp
theorem dh {α:Type} {l:List α} {k:Nat} (h:k<l.length):l.take k++[l[k]]=l.take (k+1):=by rw[amq h]
theorem x6 {κ:Type} [DecidableEq κ] {l:List (κ×Value)} {i v:κ} {x:Value}:au (cd l v x) i=if i=v then some x else au l i:=by
 induction l with
 |nil=>simp only[cd,au]
 |cons p l ih=>
  obtain⟨k,u⟩:=p;simp only[cd]
  by_cases h:v=k
  ·subst h;simp only[if_pos,au]
   by_cases h2:i=v<;>simp[h2]
  ·rw[if_neg h,au,ih,au]
   by_cases h2:i=k
   ·subst h2;simp[amK h]
   ·simp[h2]
def aD (l:List (Int×Int)):List AV:=l.map fun p=>.agg [nI p.1,nI p.2]
theorem fN {l:List (Int×Int)} {k:Nat} (h:k<l.length):List.getD (aD l) (Int.toNat (k:Int)) .top=.agg [nI l[k].1,nI l[k].2]:=getD_map h
theorem dc (l:List (Int×Int)):(aD l).length=l.length:=by simp[aD]
theorem Fc {l:List (Int×Int)}:∀y:AV,y∈aD l->List.length (AV.cells y)=2:=by
 intro y h;obtain⟨p,_,rfl⟩:=amg.1 h;rfl
inductive kT (ps:List (Int×Int)):Int->Int->Prop where
 |one {a b:Int} (h:(a,b)∈ps):kT ps a b
 |more {a c b:Int} (h1:kT ps a c) (h2:(c,b)∈ps):kT ps a b
def gF (a:Int) (u:List Int) (p:Int×Int):List Int:=if((p.1==a)||u.contains p.1)&&!u.contains p.2 then u++[p.2] else u
def eF (a:Int) (l:List (Int×Int)) (u:List Int):List Int:=l.foldl (gF a) u
def bQ (a:Int) (l:List (Int×Int)):Nat->List Int
 |0=>[]
 |k+1=>eF a l (bQ a l k)
def kU (l:List (Int×Int)) (a b:Int):Bool:=(bQ a l (l.length+1)).contains b
theorem LH (a:Int) (u:List Int) (p:Int×Int):u.length<=(gF a u p).length/\((gF a u p).length=u.length->gF a u p=u):=by
 unfold gF;split
 ·simp
 ·exact⟨alp _,fun _=>rfl⟩
theorem ru (a:Int):∀(l:List (Int×Int)) (u:List Int),u.length<=(eF a l u).length/\((eF a l u).length=u.length->eF a l u=u/\∀p∈l,gF a u p=u)
 | [],u=>⟨alp _,fun _=>⟨rfl,fun p h=>by cases h⟩⟩
 |p::l,u=>by
  have h1:=LH a u p;have h2:=ru a l (gF a u p);have e:eF a (p::l) u=eF a l (gF a u p):=rfl;rw[e];refine⟨by omega,fun h=>?_⟩;have h3:=h1.2 (by omega);rw[h3] at h2 h ⊢;have h4:=h2.2 h;refine⟨h4.1,fun q hq=>?_⟩;rcases alW.1 hq with rfl|hq
  ·exact h3
  ·exact h4.2 q hq
structure jH (a:Int) (l:List (Int×Int)) (u:List Int):Prop where
 nd:u.Nodup
 sub:∀x∈u,x∈l.map Prod.snd
 reach:∀x∈u,kT l a x
theorem jH.step {a:Int} {l:List (Int×Int)} {u:List Int} (h:jH a l u) {p:Int×Int} (hp:p∈l):jH a l (gF a u p):=by
 unfold gF;split
 ·rename_i hc;simp only[aln,al7,beq_iff_eq,amQ,al0,List.contains_eq_mem,decide_eq_false_iff_not,decide_eq_true_eq] at hc;refine⟨List.nodup_append.2 ⟨h.nd,by simp,fun x hx y hy=>?_⟩,fun x hx=>?_,fun x hx=>?_⟩
  ·rw[alG] at hy;subst hy;exact fun e=>hc.2 (e▸hx)
  ·rcases amc.1 hx with hx|hx
   ·exact h.sub x hx
   ·rw[alG] at hx;subst hx;exact amg.2 ⟨p,hp,rfl⟩
  ·rcases amc.1 hx with hx|hx
   ·exact h.reach x hx
   ·rw[alG] at hx;subst hx;rcases hc.1 with h1|h1
    ·exact .one (by rw[<-h1];exact hp)
    ·exact .more (h.reach _ h1) hp
 ·exact h
theorem jH.round {a:Int} {l:List (Int×Int)}:∀(m:List (Int×Int)) (u:List Int),(∀p∈m,p∈l)->jH a l u->jH a l (eF a m u)
 | [],u,_,h=>h
 |p::m,u,hm,h=>jH.round m (gF a u p) (fun q hq=>hm q (alK _ hq)) (h.step (hm p alD))
theorem jH.rounds (a:Int) (l:List (Int×Int)):∀k,jH a l (bQ a l k)
 |0=>⟨List.nodup_nil,fun x h=>(by cases h),fun x h=>(by cases h)⟩
 |k+1=>jH.round l _ (fun _ h=>h) (jH.rounds a l k)
theorem x7 {u v:List Int} (h:u.Nodup) (hs:∀x∈u,x∈v):u.length<=v.length:=by
 induction u generalizing v with
 |nil=>exact aly _
 |cons x u ih=>
  rw[List.nodup_cons] at h;have hx:=hs x alD;have:=ih (v:=v.erase x) h.2 fun y hy=>by
   have bL:y≠x:=fun e=>h.1 (e▸hy);exact(List.mem_erase_of_ne bL).2 (hs y (alK _ hy))
  rw[List.length_erase_of_mem hx] at this;have Tx:=List.length_pos_of_mem hx;simp only[als];omega
theorem u7 (a:Int) (l:List (Int×Int)):∀k,(∃j,j<k/\eF a l (bQ a l j)=bQ a l j)\/k<=(bQ a l k).length
 |0=>.inr (aly _)
 |k+1=>by
  rcases u7 a l k with⟨j,h1,h2⟩|h
  ·exact .inl ⟨j,by omega,h2⟩
  ·have h1:=ru a l (bQ a l k)
   by_cases e:(eF a l (bQ a l k)).length=(bQ a l k).length
   ·exact .inl ⟨k,by omega,(h1.2 e).1⟩
   ·exact .inr (by show k+1<=(eF a l (bQ a l k)).length;omega)
theorem u9 (a:Int) (l:List (Int×Int)) {j:Nat} (h:eF a l (bQ a l j)=bQ a l j):∀d,bQ a l (j+d)=bQ a l j
 |0=>rfl
 |d+1=>by show eF a l (bQ a l (j+d))=_;rw[u9 a l h d,h]
theorem x8 (l:List (Int×Int)) (a b:Int):kU l a b=true↔kT l a b:=by
 have hg:=jH.rounds a l (l.length+1);rw[kU,amQ];refine⟨fun h=>hg.reach b h,fun h=>?_⟩;have hle:(bQ a l (l.length+1)).length<=l.length:=by
  have:=x7 hg.nd hg.sub
  rwa [alm] at this
 obtain⟨j,h1,h2⟩:∃j,j<l.length+1/\eF a l (bQ a l j)=bQ a l j:=by
  rcases u7 a l (l.length+1) with h|h
  ·exact h
  ·omega
 have CV:=u9 a l h2 (l.length+1-j);rw[show j+(l.length+1-j)=l.length+1 by omega] at CV;have cY:=((ru a l (bQ a l j)).2 (by rw[h2])).2;rw[<-CV] at cY;have bf:∀p∈l,(p.1=a\/p.1∈bQ a l (l.length+1))->p.2∈bQ a l (l.length+1):=by
  intro p hp hc;have:=cY p hp;unfold gF at this;split at this
  ·have:=congrArg List.length this;simp at this
  ·rename_i hn;refine amS fun h3=>hn ?_;simp only[aln,al7,beq_iff_eq,amQ,al0,List.contains_eq_mem,decide_eq_false_iff_not,decide_eq_true_eq];exact⟨hc,h3⟩
 induction h with
 |one h=>exact bf _ h (.inl rfl)
 |more _ h2 ih=>exact bf _ h2 (.inr ih)
theorem Fe {l:List Int} (bO:l.length<=1000000000):af Tryz.prog 271 [.sl (bB l)] (.sl (bB l)):=by
 refine O0 fun b hb=>ag.intro (fun h=>?_) fun h=>?_
 ·have:bB l=[]:=amS fun hn=>by rw[hb hn] at h;cases h
  rw[this]
 ·exact⟨fun _=>rfl,mQ lT (by simp[dV];omega) (by decide),rfl,by simp⟩
theorem HW {l:List Int}:af Tryz.prog 272 [.sl (bB l)] (.clip (bB l)):=by
 refine Pure.of_heap (O1 ⟨⟨by omega,by omega,rfl,by omega,lT⟩,rfl,?_⟩);simp
theorem x9 (t:Tm):af Tryz.prog 269 [t.enc] (nB (t.kind==2)):=by
 rw[Tm.ax];exact OX rfl
theorem nM {l m:List Ty} (bO:l.length<=1000000000) (ih:∀(k:Nat) (h1:k<l.length) (h2:k<m.length),af Tryz.prog 45 [l[k].enc,m[k].enc] (nB (Ty.same l[k] m[k]))):
  af Tryz.prog 48 [.sl (l.map Ty.enc),.sl (m.map Ty.enc),.bf 45 []] (nB (Ty.eN l m)):=by
 refine Uo (ag.intro (fun h=>?_) fun h=>?_)
 ·have:¬l.length=m.length:=by simp at h;omega
  rw[Ty.LG this]
 ·have hlm:l.length=m.length:=by simp at h;omega
  refine ay.intro (fun k:Nat=>((m.map Ty.enc,(),l.map Ty.enc,(l.length:Int),(k:Int),()),())) (fun k=>k<=l.length/\Ty.eN l m=Ty.eN (l.drop k) (m.drop k)) (fun k=>l.length-k) 0 (by rw[alm];rfl) ⟨aly _,rfl⟩ ?_;intro k ⟨hk,hs⟩ again bY;dsimp only;rw[alm,alm];refine ag.intro (fun h=>?_) fun h=>?_
  ·have aq:k<l.length:=by simpa using h
   rw[Ty.HV aq (by omega)] at hs;have hi:=ih k aq (by omega);rw[Ty.ax,Ty.ax] at hi;refine⟨by omega,by omega,_,_,Ty.bb aq,by omega,by omega,_,_,Ty.bb (by omega),_,hi,ag.intro (fun h=>?_) fun h=>?_⟩
   ·have:Ty.same l[k] m[k]=false:=by simpa using h
    rw[hs,this,amn]
   ·have he:Ty.same l[k] m[k]=true:=by simpa using h
    rw[he,al2] at hs;rw[aV (by omega)];exact bY (k+1) ⟨by omega,hs⟩ (by omega)
  ·have:l.length<=k:=by simpa using h
   rw[alC this,alC (by omega)] at hs;rw[hs];rfl
theorem lH:∀(n:Nat) (t u:Ty),t.size<=n->n<=1000000000->af Tryz.prog 45 [t.enc,u.enc] (nB (Ty.same t u)):=by
 intro n
 induction n with
 |zero=>intro t u h;have:=t.size_pos;omega
 |succ n ih=>
  intro t u h hn;have hq:=Ty.aY t.args;have Ff:=t.size_eq;have he:=nM (l:=t.args) (m:=u.args) (by omega) (fun k h1 h2=>ih _ _ (by have:=Ty.fi h1;omega) (by omega));rw[Ty.ax,Ty.ax,Ty.Vp];refine Up (ag.intro (fun h=>?_) fun h=>?_)
  ·exact⟨_,he,by rw[h,al2]⟩
  ·rw[h,amn]
theorem kd:∀(n:Nat) (t:Ty),t.size<=n->n<=1000000000->af Tryz.prog 105 [t.enc] t.enc:=by
 intro n
 induction n with
 |zero=>intro t h;have:=t.size_pos;omega
 |succ n ih=>
  intro t h hn;have hq:=Ty.aY t.args;have Ff:=t.size_eq;rw[Ty.ax];refine OZ ⟨rfl,?_⟩;refine ay.intro (fun k:Nat=>(((),(),t.args.map Ty.enc,(t.args.length:Int),(k:Int),()),((t.args.map Ty.enc,t.base,()),((),0,()),((),t.base,()),(t.args.take k).map Ty.enc,())))
   (fun k=>k<=t.args.length) (fun k=>t.args.length-k) 0 (by rw[alm];rfl) (aly _) ?_
  intro k hk again bY;dsimp only;rw[alm];refine ag.intro (fun h=>?_) fun h=>?_
  ·have aq:k<t.args.length:=by simpa using h
   have hi:=ih t.args[k] (by have:=Ty.fi aq;omega) (by omega);rw[Ty.ax] at hi;refine⟨by omega,by omega,_,_,Ty.bb aq,_,_,hi,rfl,bp rfl (by simp;omega) (by decide),rfl,?_⟩;rw[aV (by omega),Ty.kS,dh aq];exact bY (k+1) (by omega) (by omega)
  ·have:t.args.length<=k:=by simpa using h
   refine⟨rfl,?_⟩;rw[alI this]
theorem HX {n:Nat} (hn:n<=1000000000):
  aG Tryz.prog 107 [.ae (.slice none 0 0),nI (n:Nat)] [] (fun r q=>if n=0 then r=.ae (.slice none 0 0)/\q=[] else r=.own 0 0/\q=[.row 66 2 []]):=by
 have e:IntKind.wrap .i64 ((n:Int)-IntKind.wrap .i64 (0-((List.length ([]:List AV):Nat):Int)))=(n:Int):=by
  rw[show IntKind.wrap .i64 (0-((List.length ([]:List AV):Nat):Int))=0 from by decide,Int.sub_zero,aT (by omega) (by omega)]
 refine Pa (ag.neg (decide_eq_false (by omega)) ?_);rw[e,ams];refine ag.intro (fun h=>⟨⟨of_decide_eq_true h,by simp only[maxLen];omega,?_⟩,?_⟩) fun h=>?_
 ·have:TD.bytes qy<=1000:=by decide
  have h2:n*TD.bytes qy<=n*1000:=Nat.mul_le_mul_left _ this;omega
 ·have:=of_decide_eq_true h;dsimp only;rw[if_neg (by omega)];exact⟨rfl,rfl⟩
 ·have:=of_decide_eq_false h;dsimp only;rw[if_pos (by omega)];exact⟨rfl,rfl⟩
def er (ll:List (List Ty)):List AV:=ll.map fun l=>.sl (l.map Ty.enc)
theorem sY {ll:List (List Ty)} {k:Nat} (h:k<ll.length):List.getD (er ll) (Int.toNat (k:Int)) .top=.sl (ll[k].map Ty.enc):=by
 simp[er,List.getD,h]
theorem va (ll:List (List Ty)):(er ll).length=ll.length:=by simp[er]
theorem AA {ll:List (List Ty)} {k:Nat} (h:k<ll.length):(ll.take (k+1)).flatten=(ll.take k).flatten++ll[k]:=by
 rw[amq h,List.flatten_append,List.flatten_singleton]
theorem nN (ll:List (List Ty)) (k:Nat):(ll.take k).flatten.length<=ll.flatten.length:=by
 have h:ll.flatten=(ll.take k).flatten++(ll.drop k).flatten:=by rw[<-List.flatten_append,amd]
 rw[h,alA];omega
theorem zG {l:List Ty} {x:AV} (h:x∈l.map Ty.enc):x.cells.length=2:=by
 obtain⟨t,_,rfl⟩:=amg.1 h;exact t.Kj
theorem fV {ll:List (List Ty)} (h0:ll.length<=1000000000) (hn:ll.flatten.length<=1000000000):
  af Tryz.prog 57 [.sl (er ll)] (.sl (ll.flatten.map Ty.enc)):=by
 refine Ut ?_;refine ay.intro (fun k:Nat=>((er ll,((ll.take k).flatten.length:Nat),er ll,((er ll).length:Int),(k:Int),()),())) (fun k=>k<=ll.length) (fun k=>ll.length-k) 0 rfl (aly _) ?_;intro k hk again bY;dsimp only;have hle:=nN ll k;unfold JO;rw[va] at *;refine ag.intro (fun h=>?_) fun h=>?_
 ·have aq:k<ll.length:=by simpa using h
  have zc:=nN ll (k+1);have bV:=bY (k+1) (by omega) (by omega);rw[AA aq,alA] at zc bV;refine⟨by omega,by omega,_,sY aq,?_⟩;rw[alm,aT (n:=(((ll.take k).flatten.length:Nat):Int)+_) (by omega) (by omega),aV (by omega)];exact ag.neg (decide_eq_false (by omega)) bV
 ·have je:ll.length<=k:=by simpa using h
  clear bY;rw[alI je]
  suffices hL:xI (((),er ll,(ll.length:Int),0,()),([],())) (fun r=>r=.sl (ll.flatten.map Ty.enc)) from
   ⟨_,HX hn,fun r q hq=>by
    by_cases hz:ll.flatten.length=0
    ·rw[if_pos hz] at hq;exact .inr ⟨hq,rfl,hL⟩
    ·rw[if_neg hz] at hq;exact .inl ⟨[],hq,rfl,hL⟩⟩
  refine ay.intro (fun k:Nat=>(((),er ll,(ll.length:Int),(k:Int),()),((ll.take k).flatten.map Ty.enc,()))) (fun k=>k<=ll.length) (fun k=>ll.length-k) 0 rfl (aly _) ?_;intro j hj B3 Fg;dsimp only;have zc:=nN ll (j+1);unfold Ek;refine ag.intro (fun h=>?_) fun h=>?_
  ·have aq:j<ll.length:=by simpa using h
   have bV:=Fg (j+1) (by omega) (by omega);rw[AA aq] at zc bV;rw[ami] at bV;rw[alA] at zc;refine⟨by omega,by rw[va];omega,_,sY aq,rfl,mQ (fun x hx=>zG hx) (by rw[alA,alm,alm];omega) (by decide),rfl,?_⟩;rw[aV (by omega)];exact bV
  ·have je:ll.length<=j:=by simpa using h
   exact⟨rfl,by rw[alI je]⟩
def Ty.arrow (t:Ty) (l:List Ty):Ty:=.mk (l++t.args) t.base
theorem jn {t:Ty} {l:List Ty} (h:Ty.sizes l+t.size<=1000000000):af Tryz.prog 55 [t.enc,.sl (l.map Ty.enc)] (t.arrow l).enc:=by
 have hl:=Ty.aY l;have zc:=Ty.aY t.args;have hs:=t.size_eq;have GY:=fV (ll:=[l,t.args]) (by simp) (by simp;omega);have MB:=kd _ (.mk (l++t.args) t.base) (alp _) (by simp only[Ty.size,Ty.bE];omega);simp only[er,alQ,ama,amU,amX,ame] at GY;rw[Ty.il] at MB;rw[Ty.arrow,Ty.il,Ty.ax t];exact Um ⟨_,GY,_,_,MB,rfl⟩
mutual
def Tm.var:Tm->Option (Int×Int)
 | .mk b k i a=>if a.length=b.length/\¬(k=0/\i<b.length) then(if Tm.im b.length 0 b a=true then some (k,if k=0 then IntKind.wrap .i64 (i-b.length) else i) else none) else none
def Tm.im (n:Nat):Nat->List Ty->List Tm->Bool
 |k,t::b,a::l=>(match Tm.var a with
  |some (q,j)=>q==0&&j==(n:Int)-1-k&&Ty.eN a.binds t.args
  |none=>false)&&Tm.im n (k+1) b l
 |_,_,_=>true
end
def ya:Option (Int×Int)->AV
 |some (k,i)=>.av [.agg [nI k,nI i],nB true]
 |none=>.av [.agg [nI 0,nI 0],nB false]
theorem Tm.var_eq (t:Tm):Tm.var t=if t.args.length=t.binds.length/\¬(t.kind=0/\t.index<t.binds.length) then(if Tm.im t.binds.length 0 t.binds t.args=true then some (t.kind,if t.kind=0 then IntKind.wrap .i64 (t.index-t.binds.length) else t.index) else none) else none:=by
 cases t;rw[Tm.var];rfl
theorem Tm.B4 {n:Nat} {b:List Ty} {a:List Tm} {k:Nat} (h1:k<b.length) (h2:k<a.length):Tm.im n k (b.drop k) (a.drop k)=((match Tm.var a[k] with
  |some (q,j)=>q==0&&j==(n:Int)-1-k&&Ty.eN a[k].binds b[k].args
  |none=>false)&&Tm.im n (k+1) (b.drop (k+1)) (a.drop (k+1))):=by
 rw[alw h1,alw h2,Tm.im]
theorem LI:∀(n:Nat) (t:Tm),t.size<=n->n<=1000000000->af Tryz.prog 283 [t.enc] (ya t.var):=by
 intro n
 induction n with
 |zero=>intro t h;have:=t.size_pos;omega
 |succ n ih=>
  intro t h hn;have hq:=Tm.aY t.args;have hq2:=Ty.aY t.binds;have Ff:=t.size_eq;rw[Tm.var_eq,Tm.ax];have loop:t.args.length=t.binds.length->¬(t.kind=0/\t.index<t.binds.length)->xH (((),(),((List.length (t.binds.map Ty.enc):Nat):Int),(),t.args.map Tm.enc,((List.length (t.args.map Tm.enc):Nat):Int),0,()),((t.binds.map Ty.enc,t.kind,t.index,t.args.map Tm.enc,()),(0,0,()),(t.kind,t.index,()),())) (fun x=>x=ya (if t.args.length=t.binds.length/\¬(t.kind=0/\t.index<t.binds.length) then(if Tm.im t.binds.length 0 t.binds t.args=true then some (t.kind,if t.kind=0 then IntKind.wrap .i64 (t.index-t.binds.length) else t.index) else none) else none)):=by
   intro hlen hk;rw[if_pos ⟨hlen,hk⟩];refine ay.intro (fun k:Nat=>(((),(),(t.binds.length:Int),(),t.args.map Tm.enc,(t.args.length:Int),(k:Int),()),((t.binds.map Ty.enc,t.kind,t.index,t.args.map Tm.enc,()),(0,0,()),(t.kind,t.index,()),())))
    (fun k=>k<=t.args.length/\Tm.im t.binds.length 0 t.binds t.args=Tm.im t.binds.length k (t.binds.drop k) (t.args.drop k)) (fun k=>t.args.length-k) 0 (by rw[alm,alm];rfl) ⟨aly _,rfl⟩ ?_
   intro k ⟨eJ,hs⟩ again bY;dsimp only;refine ag.intro (fun h=>?_) fun h=>?_
   ·have aq:k<t.args.length:=by simpa using h
    rw[Tm.B4 (by omega) aq] at hs;have hi:=ih t.args[k] (by have:=Tm.fi aq;omega) (by omega);have hbs:=Ty.aY t.args[k].binds;have hbz:=t.args[k].size_eq;have iW:=Tm.fi aq;have he:=nM (l:=t.args[k].binds) (m:=(t.binds[k]'(by omega)).args) (by omega) (fun j h1 h2=>lH _ _ _ (alp _) (by have:=Ty.dP (alH h1);omega));rw[Tm.ax] at hi;refine⟨by omega,by rw[alm];omega,_,_,_,_,Tm.bb aq,?_⟩
    cases hv:t.args[k].var with
    |none=>
     rw[hv] at hi hs;refine⟨_,_,_,hi,ag.pos rfl ?_⟩;rw[hs];simp[ya]
    |some p=>
     obtain⟨q,j⟩:=p;rw[hv] at hi hs;refine⟨_,_,_,hi,ag.neg rfl ?_⟩;rw[aT (n:=(t.binds.length:Int)-1) (by omega) (by omega),aT (by omega) (by omega)];dsimp only at hs;refine ag.intro (fun h=>?_) fun h=>?_
     ·have:(q==0&&j==(t.binds.length:Int)-1-k)=false:=by rw[al0] at h;exact h
      rw[hs,this];simp[ya]
     ·have:(q==0&&j==(t.binds.length:Int)-1-k)=true:=by rw[Bool.not_eq_false'] at h;exact h
      rw[this,al2] at hs;refine⟨by omega,by rw[alm];omega,_,_,Ty.bb (by omega),_,he,ag.intro (fun h=>?_) fun h=>?_⟩
      ·have:Ty.eN t.args[k].binds (t.binds[k]'(by omega)).args=false:=by simpa using h
       rw[hs,this];simp[ya]
      ·have:Ty.eN t.args[k].binds (t.binds[k]'(by omega)).args=true:=by simpa using h
       rw[this,al2] at hs;rw[aV (by omega)];exact bY (k+1) ⟨by omega,hs⟩ (by omega)
   ·have:t.args.length<=k:=by simpa using h
    have TZ:Tm.im t.binds.length k [] []=true:=by simp[Tm.im]
    rw[alC this,alC (by omega),TZ] at hs;rw[if_pos hs];refine ag.intro (fun h=>?_) fun h=>?_
    ·have h0:t.kind=0:=by simpa using h
     rw[if_pos h0];rfl
    ·have h0:¬t.kind=0:=by simpa using h
     rw[if_neg h0];rfl
  refine O2 (ag.intro (fun h=>?_) fun h=>?_)
  ·have:¬t.args.length=t.binds.length:=by simp at h;omega
   rw[if_neg (fun h=>this h.1)];rfl
  ·have hlen:t.args.length=t.binds.length:=by simp at h;omega
   refine ag.intro (fun h=>?_) fun h=>?_
   ·have h0:t.kind=0:=by simpa using h
    refine ag.intro (fun h=>?_) fun h=>?_
    ·have:t.index<t.binds.length:=by simpa using h
     rw[if_neg (fun h=>h.2 ⟨h0,this⟩)];rfl
    ·exact loop hlen fun h1=>by simp at h;omega
   ·exact loop hlen fun h1=>by simp at h;exact h h1.1
theorem Fh (i:Int):af Tryz.prog 132 [nI i] (nI i):=O8 rfl
def lk (i:Int):Prop := -9223372036854775808<=i/\i<9223372036854775808
theorem lk.wrap {i:Int} (h:lk i):IntKind.wrap .i64 i=i:=aT h.1 h.2
mutual
def Tm.Ok:Tm->Prop
 | .mk _ k i a=>lk k/\lk i/\Tm.MT a
def Tm.MT:List Tm->Prop
 | []=>True
 |t::l=>Tm.Ok t/\Tm.MT l
end
theorem Tm.Kk {l:List Tm} (h:Tm.MT l) {t:Tm} (ht:t∈l):t.Ok:=by
 induction l with
 |nil=>cases ht
 |cons u l ih=>
  obtain⟨h1,h2⟩:=h;rcases alW.1 ht with rfl|h3
  ·exact h1
  ·exact ih h2 h3
theorem Tm.ok_eq {t:Tm} (h:t.Ok):lk t.kind/\lk t.index/\Tm.MT t.args:=by cases t;exact h
theorem zH:∀(n:Nat) (t:Tm) (a:Nat),t.size<=n->n<=1000000000->t.Ok->a+t.size<=2000000000->af Tryz.prog 131 [t.enc,nI a,.bf 132 []] t.enc:=by
 intro n
 induction n with
 |zero=>intro t a h;have:=t.size_pos;omega
 |succ n ih=>
  intro t a h hn hk ha;have hq:=Tm.aY t.args;have hq2:=Ty.aY t.binds;have Ff:=t.size_eq;obtain⟨eJ,Hw,SZ⟩:=Tm.ok_eq hk;have fZ:=jn (t:=.mk [] 0) (l:=t.binds) (by simp[Ty.size,Ty.sizes];omega);rw[Ty.arrow,Ty.jb,Ty.B1,ame,Ty.il,Ty.il,ama] at fZ;have hw:IntKind.wrap .i64 ((a:Int)+((List.length (t.binds.map Ty.enc):Nat):Int))=((a+t.binds.length:Nat):Int):=by rw[alm,aT (by omega) (by omega)];omega
  have loop:sH ((((a+t.binds.length:Nat):Int),(),(),(),t.args.map Tm.enc,((List.length (t.args.map Tm.enc):Nat):Int),0,()),((t.binds.map Ty.enc,t.kind,t.index,t.args.map Tm.enc,()),((),0,0,(),()),(t.binds.map Ty.enc,t.kind,t.index,(),()),[],())) (fun x=>x=t.enc):=by
   refine ay.intro (fun k:Nat=>((((a+t.binds.length:Nat):Int),(),(),(),t.args.map Tm.enc,(t.args.length:Int),(k:Int),()),((t.binds.map Ty.enc,t.kind,t.index,t.args.map Tm.enc,()),((),0,0,(),()),(t.binds.map Ty.enc,t.kind,t.index,(),()),(t.args.take k).map Tm.enc,())))
    (fun k=>k<=t.args.length) (fun k=>t.args.length-k) 0 (by rw[alm];rfl) (aly _) ?_
   intro k hk again bY;dsimp only;refine ag.intro (fun h=>?_) fun h=>?_
   ·have aq:k<t.args.length:=by simpa using h
    have hz:=Tm.fi aq;have hi:=ih t.args[k] (a+t.binds.length) (by omega) (by omega) (Tm.Kk SZ (alH aq)) (by have:=Tm.dP (alH aq);omega);rw[Tm.ax] at hi;refine⟨by omega,by rw[alm];omega,_,_,_,_,Tm.bb aq,_,_,_,_,hi,rfl,bp rfl (by simp;omega) (by decide),rfl,?_⟩;rw[aV (by omega),Tm.kS,dh aq];exact bY (k+1) (by omega) (by omega)
   ·have:t.args.length<=k:=by simpa using h
    refine⟨rfl,?_⟩;rw[alI this,<-Tm.ax]
  rw[Tm.ax];rw[Tm.ax] at loop;refine O7 ⟨_,_,fZ,?_⟩;rw[hw];refine ag.intro (fun h=>?_) fun h=>⟨rfl,loop⟩;refine ag.intro (fun h=>?_) fun h=>⟨rfl,loop⟩;have je:((a+t.binds.length:Nat):Int)<=t.index:=by simpa using h
  refine⟨_,Fh _,rfl,?_⟩;unfold lk at Hw;rw[aT (n:=t.index-((a+t.binds.length:Nat):Int)) (by omega) (by omega),show ((a+t.binds.length:Nat):Int)+(t.index-((a+t.binds.length:Nat):Int))=t.index from by omega,aT Hw.1 Hw.2];exact loop
theorem HY {t:Tm} (h:t.size<=1000000000) (hk:t.Ok):af Tryz.prog 79 [t.enc] t.enc:=by
 have:=zH _ t 0 (alp _) h hk (by omega);rw[Tm.ax] at this ⊢;exact Uq ⟨_,_,_,_,this,rfl⟩
theorem Fi {l:List (Int×Value)} {i v:Int} {x:Value} (h:au l v=none):au (cd l v x) i=if i=v then some x else au l i:=by
 induction l with
 |nil=>rfl
 |cons p l ih=>
  obtain⟨k,u⟩:=p;simp only[au] at h;split at h
  ·cases h
  ·rename_i hk;simp only[cd,if_neg hk,au,ih h]
   by_cases h1:i=k
   ·subst h1;rw[if_pos rfl,if_neg (fun e=>hk e.symm),if_pos rfl]
   ·rw[if_neg h1,if_neg h1]
def mR (n:Int):List Int->List Tm->Option (List Int)
 |acc,[]=>some acc
 |acc,a::l=>match a.var with
  |some (k,i)=>if k=0/\i<n/\¬i∈acc then mR n (acc++[i]) l else none
  |none=>none
def Tm.vars (t:Tm) (n:Int):List Int×Int:=
 if t.kind=2/\0<=n then(match mR n [] t.args with
  |some l=>(l,0)
  |none=>([],6)) else([],1)
def ac8 (p:List Int×Int):AV:=.av [.sl (bB p.1),nI p.2]
def B5 (es:List (Int×Value)) (l:List Int):Prop:=∀i,au es i=if i∈l then some (.bool true) else none
theorem B5.put {es:List (Int×Value)} {l:List Int} {i:Int} (h:B5 es l) (hi:¬i∈l):B5 (cd es i (.bool true)) (l++[i]):=by
 intro j;have hn:au es i=none:=by rw[h i,if_neg hi]
 rw[Fi hn,h j]
 by_cases h1:j=i
 ·subst h1;simp
 ·simp[h1]
theorem HZ {t:Tm} {n:Int} (h:t.size<=1000000000):af Tryz.prog 270 [t.enc,nI n] (ac8 (t.vars n)):=by
 have hla:=Tm.aY t.args;have hs:=t.size_eq;have hfc:=x9 t;rw[Tm.ax] at hfc ⊢;refine O3 ⟨_,hfc,ag.intro (fun h=>?_) fun h=>?_⟩
 ·have:¬t.kind=2:=by simpa using h
  rw[Tm.vars,if_neg (fun h=>this h.1)];rfl
 have hk:t.kind=2:=by simpa using h
 refine ag.intro (fun h=>?_) fun h=>⟨rfl,?_⟩
 ·have:n<0:=by simpa using h
  rw[Tm.vars,if_neg (fun h=>by omega)];rfl
 have hn:0<=n:=by simpa using h
 rw[Tm.vars,if_pos ⟨hk,hn⟩];unfold Ei;refine ay.intro (fun p:Nat×List Int×List (Int×Value)=>((n,(),(),t.args.map Tm.enc,(t.args.length:Int),(p.1:Int),()),((t.binds.map Ty.enc,t.kind,t.index,t.args.map Tm.enc,()),p.2.2,bB p.2.1,())))
  (fun p=>p.1<=t.args.length/\p.2.1.length=p.1/\B5 p.2.2 p.2.1/\mR n [] t.args=mR n p.2.1 (t.args.drop p.1)) (fun p=>t.args.length-p.1) (0,[],[]) (by rw[alm];rfl) ⟨aly _,rfl,fun i=>rfl,rfl⟩ ?_
 intro ⟨k,acc,es⟩ ⟨eJ,hl,hse,hv⟩ again bY;dsimp only at eJ hl hse hv ⊢;refine ag.intro (fun h=>?_) fun h=>?_
 ·have aq:k<t.args.length:=by simpa using h
  rw[alw aq,mR] at hv;have hz:=Tm.fi aq;have hc:=LI _ t.args[k] (alp _) (by omega);rw[Tm.ax] at hc;refine⟨by omega,by rw[alm];omega,_,_,_,_,Tm.bb aq,?_⟩
  cases adb:t.args[k].var with
  |none=>
   rw[adb] at hc hv;dsimp only at hv;refine⟨_,_,_,hc,ag.pos rfl ?_⟩;rw[hv];rfl
  |some p=>
   obtain⟨q,i⟩:=p;rw[adb] at hc hv;dsimp only at hv;refine⟨_,_,_,hc,ag.neg rfl ?_⟩;refine ag.intro (fun h=>?_) fun h=>?_
   ·have:¬q=0:=by simpa using h
    rw[hv,if_neg (fun h=>this h.1)];rfl
   have hq:q=0:=by simpa using h
   refine ag.intro (fun h=>?_) fun h=>?_
   ·have:n<=i:=by simpa using h
    rw[hv,if_neg (fun h=>by omega)];rfl
   have hi:i<n:=by simpa using h
   have hg:=hse i
   by_cases hm:i∈acc
   ·rw[if_pos hm] at hg;rw[hg];refine⟨rfl,ag.pos rfl ?_⟩;rw[hv,if_neg (fun h=>h.2.2 hm)];rfl
   ·rw[if_neg hm] at hg;rw[hg];refine⟨rfl,ag.neg rfl ⟨rfl,bp rfl (by simp[dV];omega) (by decide),rfl,?_⟩⟩;rw[if_pos ⟨hq,hi,hm⟩] at hv;rw[aV (by omega),kc];exact bY (k+1,acc++[i],cd es i (.bool true)) ⟨by simp only;omega,by simp[hl],hse.put hm,hv⟩ (by simp only;omega)
 ·have:t.args.length<=k:=by simpa using h
  rw[alC this,mR] at hv;refine⟨rfl,?_⟩;rw[hv];rfl
structure Us where
 ade:Int
 vars:List Int
 binds:List Ty
 path:List Int
def Us.enc (u:Us):AV:=.agg [nI u.ade,.sl (bB u.vars),.sl (u.binds.map Ty.enc),.sl (bB u.path)]
mutual
def Tm.uses (bG:List Ty) (path:List Int):Tm->Option (List Us)
 | .mk b k i a=>if k=2 then(match Tm.vars (.mk b k i a) (bG++b).length with
  |(v,e)=>if e=0 then some [⟨i,v,bG++b,path⟩] else none) else Tm.mS (bG++b) path 0 a
def Tm.mS (bG:List Ty) (path:List Int) (n:Nat):List Tm->Option (List Us)
 | []=>some []
 |t::l=>(match Tm.uses bG (path++[(n:Int)]) t with
  |some u=>(match Tm.mS bG path (n+1) l with
   |some us=>some (u++us)
   |none=>none)
  |none=>none)
end
theorem Tm.Kl (bG:List Ty) (path:List Int) (t:Tm):Tm.uses bG path t=if t.kind=2 then(match t.vars (bG++t.binds).length with
  |(v,e)=>if e=0 then some [⟨t.index,v,bG++t.binds,path⟩] else none) else Tm.mS (bG++t.binds) path 0 t.args:=by
 cases t;rw[Tm.uses];rfl
theorem Tm.H3 {bG:List Ty} {path:List Int} {l:List Tm} {k:Nat} (h:k<l.length):Tm.mS bG path k (l.drop k)=(match Tm.uses bG (path++[(k:Int)]) l[k] with
  |some u=>(match Tm.mS bG path (k+1) (l.drop (k+1)) with
   |some us=>some (u++us)
   |none=>none)
  |none=>none):=by
 rw[alw h,Tm.mS]
mutual
theorem Tm.Fj:∀{t:Tm} {bG:List Ty} {path:List Int} {u:List Us},Tm.uses bG path t=some u->u.length<=t.size
 | .mk b k i a,bG,path,u,h=>by
  rw[Tm.uses] at h;split at h
  ·dsimp only at h;split at h
   ·cases h;simp[Tm.size];omega
   ·cases h
  ·have:=Tm.AB h;simp[Tm.size];omega
theorem Tm.AB:∀{l:List Tm} {bG:List Ty} {path:List Int} {n:Nat} {u:List Us},Tm.mS bG path n l=some u->u.length<=Tm.sizes l
 | [],_,_,_,u,h=>by rw[Tm.mS] at h;cases h;simp
 |t::l,bG,path,n,u,h=>by
  rw[Tm.mS] at h;split at h
  ·rename_i u1 h1;split at h
   ·rename_i u2 h2;cases h;have:=Tm.Fj h1;have:=Tm.AB h2;simp[Tm.sizes];omega
   ·cases h
  ·cases h
end
theorem Tm.RF {t:Tm} {n:Int} (hk:t.kind=2) (hn:0<=n):(t.vars n).2=0\/t.vars n=([],6):=by
 rw[Tm.vars,if_pos ⟨hk,hn⟩];split
 ·exact .inl rfl
 ·exact .inr rfl
theorem H4:∀(d:Nat) (t:Tm) (us:List Us) (bG:List Ty) (path:List Int),t.size<=d->d<=400000000->us.length+t.size<=800000000->Ty.sizes bG+t.size<=800000000->path.length+t.size<=800000000->
  aG Tryz.prog 256 [.own 0 (us.map Us.enc).length,t.enc,.sl (bG.map Ty.enc),.sl (bB path)] [.row 416 4 (us.map Us.enc)]
   (fun r h=>(∃u,Tm.uses bG path t=some u/\r=.av [.own 0 ((us++u).map Us.enc).length,nI 0]/\h=[.row 416 4 ((us++u).map Us.enc)])\/(Tm.uses bG path t=none/\∃l,r=.av [.ae (.slice none 0 0),nI 6]/\h=[.row 416 4 l])):=by
 intro d
 induction d with
 |zero=>intro t us bG path h;have:=t.size_pos;omega
 |succ d ih=>
  intro t us bG path hd KZ h1 h2 h3;have hla:=Tm.aY t.args;have hlb:=Ty.aY t.binds;have Xb:=Ty.aY bG;have hs:=t.size_eq;have uH:=fV (ll:=[bG,t.binds]) (by simp) (by simp;omega);simp only[er,alQ,ama,amU,amX,ame] at uH;have hfc:=x9 t;have hvc:=HZ (t:=t) (n:=((bG++t.binds).length:Nat)) (by omega);have fZ:=jn (t:=.mk [] 0) (l:=bG++t.binds) (by simp[Ty.size,Ty.sizes,Ty.bE];omega);rw[Ty.arrow,Ty.jb,Ty.B1,ame,Ty.il,Ty.il,ama] at fZ;rw[Tm.ax] at hfc hvc ⊢;refine O4 ⟨_,uH,_,hfc,ag.intro (fun h=>?_) fun h=>⟨rfl,?_⟩⟩
  ·have hk:t.kind=2:=by simpa using h
   rw[Tm.Kl,if_pos hk,alm];refine⟨_,_,hvc,?_⟩;rcases Tm.RF hk (show (0:Int)<=(((bG++t.binds).length:Nat):Int) by omega) with h0|h0
   ·dsimp only;rw[h0];refine ag.neg rfl ⟨_,_,fZ,_,Fe (by omega),rfl,bp rfl (by simp;omega) (by decide),.inl ⟨_,if_pos rfl,?_⟩⟩;simp[Us.enc]
   ·rw[h0];exact ag.pos rfl (.inr ⟨by simp,_,rfl,rfl⟩)
  ·have hk:¬t.kind=2:=by simpa using h
   rw[Tm.Kl,if_neg hk];unfold Ej;refine ay.intro (fun p:Nat×List Us=>(((),(bG++t.binds).map Ty.enc,bB path,t.args.map Tm.enc,(t.args.length:Int),(p.1:Int),()),((us++p.2).map Us.enc,(t.binds.map Ty.enc,t.kind,t.index,t.args.map Tm.enc,()),())))
    (fun p=>p.1<=t.args.length/\p.2.length<=Tm.sizes (t.args.take p.1)/\Tm.mS (bG++t.binds) path 0 t.args=(match Tm.mS (bG++t.binds) path p.1 (t.args.drop p.1) with|some u=>some (p.2++u)|none=>none)) (fun p=>t.args.length-p.1) (0,[]) (by rw[alm];simp) ⟨aly _,by simp,by simp only[am3,amw];split<;>simp_all⟩ ?_
   intro ⟨k,u0⟩ ⟨eJ,hl,hv⟩ again bY;dsimp only at eJ hl hv ⊢;refine ag.intro (fun h=>?_) fun h=>?_
   ·have aq:k<t.args.length:=by simpa using h
    have hz:=Tm.fi aq;have bO:Tm.sizes (t.args.take k)+t.args[k].size<=Tm.sizes t.args:=by
     have e:t.args=t.args.take k++t.args[k]::t.args.drop (k+1):=by rw[<-alw aq,amd]
     have e2:Tm.sizes t.args=Tm.sizes (t.args.take k++t.args[k]::t.args.drop (k+1)):=by rw[<-e]
     rw[e2,Tm.bE,Tm.sizes];omega
    have YJ:Tm.sizes (t.args.take (k+1))=Tm.sizes (t.args.take k)+t.args[k].size:=by
     rw[amq aq,Tm.bE];simp[Tm.sizes]
    rw[Tm.H3 aq] at hv;have hi:=ih t.args[k] (us++u0) (bG++t.binds) (path++[(k:Int)]) (by omega) (by omega) (by simp;omega) (by rw[Ty.bE];omega) (by simp;omega);rw[Tm.ax] at hi;refine⟨by omega,by rw[alm];omega,_,_,_,_,Tm.bb aq,_,HW,fun h=>by simp at h,?_⟩;rw[kc];refine⟨jm lT (fun x hx=>by rw[alG.1 hx];rfl) (by rw[dV];simp;omega) (by decide),rfl,_,hi,?_⟩
    rintro r q (⟨u,hu,rfl,rfl⟩|⟨hu,l,rfl,rfl⟩)
    ·left;refine⟨_,⟨rfl,rfl⟩,rfl,?_⟩;have hul:=Tm.Fj hu;rw[hu] at hv;rw[aV (by omega),al3];refine bY (k+1,u0++u) ⟨by simp only;omega,by simp;omega,?_⟩ (by simp only;omega);rw[hv];dsimp only
     cases Tm.mS (bG++t.binds) path (k+1) (t.args.drop (k+1)) with
     |none=>rfl
     |some v=>simp
    ·right;rw[hu] at hv;exact⟨_,⟨rfl,rfl⟩,.inr ⟨hv,_,rfl,rfl⟩⟩
   ·have:t.args.length<=k:=by simpa using h
    rw[alC this,Tm.mS] at hv;left;refine⟨u0,by rw[hv];simp,rfl,rfl⟩
def B6:Option (List Us)->AV
 |some u=>.av [.sl (u.map Us.enc),nI 0]
 |none=>.av [.sl [],nI 6]
theorem H5 {t:Tm} (h:t.size<=400000000):af Tryz.prog 221 [t.enc] (B6 (t.uses [] [])):=by
 have hu:=H4 _ t [] [] [] (alp _) h (by simp;omega) (by simp[Ty.sizes];omega) (by simp;omega);have hn:=Pure.of_nil (by decide) hu (by rw[Tm.ax];rfl);have Vq:Pure Tryz.prog 256 [.ae (.slice none 0 0),t.enc,.ae (.slice none 0 0),.ae (.slice none 0 0)] (fun x=>x=B6 (t.uses [] [])):=by
  refine Pure.JI (ys:=[.ae (.slice none 0 0),t.enc,.sl [],.sl []]) ⟨aB.refl _,aB.refl _,bw,bw,True.intro⟩ (hn.mono ?_)
  rintro x ⟨r,hp',(⟨u,e1,rfl,rfl⟩|⟨e1,l,rfl,rfl⟩),rfl⟩
  ·rw[e1];simp[B6,AV.bl,AV.fe,AV.dQ,AV.gN]
  ·rw[e1];simp[B6,AV.bl,AV.fe,AV.dQ]
 rw[Tm.ax] at Vq ⊢;refine O5 ⟨_,Vq,?_⟩
 rintro r rfl
 cases t.uses [] [] with
 |none=>exact⟨_,_,rfl,rfl⟩
 |some u=>exact⟨_,_,rfl,rfl⟩
theorem RG {t:Tm} (h:t.size<=400000000):af Tryz.prog 153 [t.enc] (nB (t.uses [] []).isSome):=by
 have hu:=H5 h;rw[Tm.ax] at hu ⊢;refine O6 ?_
 cases hq:t.uses [] [] with
 |none=>rw[hq] at hu;exact⟨_,_,hu,rfl⟩
 |some u=>rw[hq] at hu;exact⟨_,_,hu,rfl⟩
theorem zI {l:List Int} {i:Int} {k:Nat} (h:k<l.length):(l.take (k+1)).contains i=((l.take k).contains i||(l[k]==i)):=by
 rw[<-dh h,amL];simp only[amQ,al7,amc,alG,beq_iff_eq];exact or_congr Iff.rfl eq_comm
theorem qc {l:List Int} {i:Int} (bO:l.length<=1000000000):af Tryz.prog 43 [.sl (bB l),nI i] (nB (l.contains i)):=by
 refine Uv ?_;unfold abx;refine ay.intro (fun k:Nat=>((bB l,i,(k:Int),()),())) (fun k=>k<=l.length/\(l.take k).contains i=false) (fun k=>l.length-k) 0 rfl ⟨aly _,by simp⟩ ?_;intro k ⟨hk,hs⟩ again bY;dsimp only;rw[dV];refine ag.intro (fun h=>?_) fun h=>?_
 ·have aq:k<l.length:=by simpa using h
  refine⟨by omega,by omega,_,kb aq,ag.intro (fun h=>?_) fun h=>?_⟩
  ·have e:l[k]=i:=by simpa using h
   have:l.contains i=true:=by rw[amQ,<-e];exact alH aq
   rw[this]
  ·rw[aV (by omega)];exact bY (k+1) ⟨by omega,by rw[zI aq,hs,h];rfl⟩ (by omega)
 ·have:l.length<=k:=by simpa using h
  rw[alI this] at hs;rw[hs]
theorem Fk {a:Int} {l:List (Int×Int)} {u:List Int} {k:Nat} (h:k<l.length):eF a (l.take (k+1)) u=gF a (eF a (l.take k) u) l[k]:=by
 rw[eF,amq h,List.foldl_append];rfl
theorem B7 {l:List (Int×Int)} {a b:Int} (hl:l.length<=1000000):af Tryz.prog 14 [.sl (aD l),nI a,nI b] (nB (kU l a b)):=by
 refine UA ⟨rfl,?_⟩;refine ay.intro (fun k:Nat=>((aD l,a,b,(),(k:Int),()),(bB (bQ a l k),()))) (fun k=>k<=l.length+1) (fun k=>l.length+1-k) 0 rfl (aly _) ?_;intro k hk again bY;dsimp only;refine ag.intro (fun h=>⟨rfl,?_⟩) fun h=>⟨rfl,?_⟩
 ·have Hw:k<=l.length:=by
   have:(k:Int)<=((List.length (aD l):Nat):Int):=by simpa using h
   rw[dc] at this;omega
  have hU:=jH.rounds a l k;refine ay.intro (fun j:Nat=>((aD l,a,b,(),(k:Int),(j:Int),()),(bB (eF a (l.take j) (bQ a l k)),()))) (fun j=>j<=l.length) (fun j=>l.length-j) 0 rfl (aly _) ?_;intro j hj B3 Fg;dsimp only;have hG:jH a l (eF a (l.take j) (bQ a l k)):=jH.round _ _ (fun p hp=>List.mem_of_mem_take hp) hU;have bO:(eF a (l.take j) (bQ a l k)).length<=1000000:=by
   have:=x7 hG.nd hG.sub;rw[alm] at this;omega
  refine ag.intro (fun h=>?_) fun h=>⟨rfl,?_⟩
  ·have aq:j<l.length:=by
    have:(j:Int)<((List.length (aD l):Nat):Int):=by simpa using h
    rw[dc] at this;omega
   have ee:(j:Int)<((List.length (aD l):Nat):Int):=by rw[dc];omega
   have uI:=Fk (a:=a) (u:=bQ a l k) aq;generalize hu:eF a (l.take j) (bQ a l k)=u at bO uI ⊢;have yes:gF a u l[j]=u++[l[j].2]->B3 ((aD l,a,b,(),(k:Int),IntKind.wrap .i64 ((j:Int)+1),()),(bB u++[nI l[j].2],())):=fun e=>by
    rw[kc,<-e,<-uI,aV (by omega)];exact Fg (j+1) (by omega) (by omega)
   have no:gF a u l[j]=u->B3 ((aD l,a,b,(),(k:Int),IntKind.wrap .i64 ((j:Int)+1),()),(bB u,())):=fun e=>by
    have:=Fg (j+1) (by omega) (by omega);rw[uI,e] at this;rw[aV (by omega)];exact this
   have app:aZ OM (List.length (bB u++[nI l[j].2])) [] [nI l[j].2]:=bp rfl (by rw[alA,dV,amt];omega) (by decide);refine⟨by omega,ee,_,_,fN aq,ag.intro (fun h1=>?_) fun h1=>?_⟩
   ·refine⟨by omega,ee,_,_,fN aq,rfl,_,qc (by omega),ag.intro (fun h2=>⟨by omega,ee,_,_,fN aq,rfl,app,rfl,yes ?_⟩) fun h2=>⟨rfl,no ?_⟩⟩
    ·rw[gF,h1,amZ,al2,h2];rfl
    ·rw[gF,h1,amZ,al2,h2];rfl
   ·refine⟨by omega,ee,_,_,fN aq,rfl,_,qc (by omega),ag.intro (fun h2=>?_) fun h2=>⟨rfl,no ?_⟩⟩
    ·refine⟨by omega,ee,_,_,fN aq,rfl,_,qc (by omega),ag.intro (fun h3=>⟨by omega,ee,_,_,fN aq,rfl,app,rfl,yes ?_⟩) fun h3=>⟨rfl,no ?_⟩⟩
     ·rw[gF,h1,h2,amp,al2,h3];rfl
     ·rw[gF,h1,h2,amp,al2,h3];rfl
    ·rw[gF,h1,h2];rfl
  ·have hje:j=l.length:=by
    have:¬(j:Int)<((List.length (aD l):Nat):Int):=by simpa using h
    rw[dc] at this;omega
   subst hje;rw[List.take_length,aV (by omega)];exact bY (k+1) (by omega) (by omega)
 ·have N2:k=l.length+1:=by
   have:¬(k:Int)<=((List.length (aD l):Nat):Int):=by simpa using h
   rw[dc] at this;omega
  subst N2;have hG:=jH.rounds a l (l.length+1);have bO:=x7 hG.nd hG.sub;rw[alm] at bO;exact⟨_,qc (by omega),rfl⟩
theorem Yj (m:Nat) (l:List (Int×Int)):List.drop (Int.toNat 0) (List.take (Int.toNat (if(m:Int)<((List.length (aD l):Nat):Int) then(m:Int) else((List.length (aD l):Nat):Int))) (aD l))=aD (l.take m):=by
 rw[dc];show List.take _ _=_;unfold aD;rw[List.map_take];split
 ·rfl
 ·rename_i h;rw[ams,alI (by simp),alI (by simp;omega)]
theorem Yk (m:Nat) (l:List (Int×Int)):0<=(0:Int)/\(0:Int)<=(if(m:Int)<((List.length (aD l):Nat):Int) then(m:Int) else((List.length (aD l):Nat):Int))/\
  (if(m:Int)<((List.length (aD l):Nat):Int) then(m:Int) else((List.length (aD l):Nat):Int))<=List.length (aD l)/\(∀y:AV,y∈aD l->List.length (AV.cells y)=2):=by
 refine⟨by omega,?_,?_,Fc⟩<;>split<;>omega
inductive Nd where
 |mk (kind:Int) (word:ByteArray) (at_:Int) (kids:List Nd)
mutual
def Nd.enc:Nd->AV
 | .mk k w a l=>.agg [nI k,nS w,nI a,.sl (Nd.nK l)]
def Nd.nK:List Nd->List AV
 | []=>[]
 |t::l=>Nd.enc t::Nd.nK l
end
def Nd.kind:Nd->Int | .mk k _ _ _=>k
def Nd.word:Nd->ByteArray | .mk _ w _ _=>w
def Nd.at_:Nd->Int | .mk _ _ a _=>a
def Nd.kids:Nd->List Nd | .mk _ _ _ l=>l
theorem Nd.nL (l:List Nd):Nd.nK l=l.map Nd.enc:=by
 induction l with
 |nil=>rfl
 |cons t l ih=>simp[Nd.nK,ih]
theorem Nd.ax (t:Nd):t.enc=.agg [nI t.kind,nS t.word,nI t.at_,.sl (t.kids.map Nd.enc)]:=by cases t;simp[Nd.enc,Nd.nL,Nd.kind,Nd.word,Nd.at_,Nd.kids]
mutual
def Nd.size:Nd->Nat
 | .mk _ _ _ l=>1+Nd.sizes l
def Nd.sizes:List Nd->Nat
 | []=>0
 |t::l=>Nd.size t+Nd.sizes l
end
theorem Nd.size_eq (t:Nd):t.size=1+Nd.sizes t.kids:=by cases t;rfl
theorem Nd.size_pos (t:Nd):1<=t.size:=by rw[t.size_eq];omega
theorem kV {a b:Bool} (h:a=true↔b=true):nB a=nB b:=congrArg nB (amL.2 h)
def gk (c:Int):Bool:=decide (97<=c/\c<=122)||decide (65<=c/\c<=90)
def isDigit (c:Int):Bool:=decide (48<=c/\c<=57)
def gq (c:Int):Bool:=gk c||(isDigit c||(c==95||c==39))
def ke (c:Int):Bool:=c==32||(c==9||(c==10||(c==13||c==35)))
def ak (s:ByteArray):List Int:=s.data.toList.map fun b=>(b.toNat:Int)
theorem bU (s:ByteArray):(ak s).length=s.size:=by simp[ak]
theorem sZ {s:ByteArray} {k:Nat} (h:k<(ak s).length):dm s (k:Int)=(ak s)[k]:=by
 have h2:k<s.data.size:=by rw[bU] at h;exact h
 unfold dm;simp only[ams,ak,List.getElem_map,Array.getElem_toList];rw[al4 h2];rfl
theorem s4 (s:ByteArray):∀c∈ak s,0<=c/\c<=255:=by
 intro c hc;simp only[ak,amg] at hc;obtain⟨b,_,rfl⟩:=hc;have:=b.toNat_lt;omega
theorem kW {s t:ByteArray} (h:ak s=ak t):s=t:=by
 obtain⟨s⟩:=s;obtain⟨t⟩:=t
 congr 1
 apply amy;exact(List.map_inj_right (fun a b (hab:(a.toNat:Int)=b.toNat)=>UInt8.toNat_inj.1 (by omega))).1 h
theorem eG (a b:ByteArray):gy a b=decide (a=b):=by
 obtain⟨a⟩:=a;obtain⟨b⟩:=b;simp only[gy]
 by_cases h:a=b
 ·subst h;simp
 ·have h1:¬(ByteArray.mk a=ByteArray.mk b):=fun e=>h (by injection e);rw[decide_eq_false h1,beq_eq_false_iff_ne];intro e;apply h1;have e1:=congrArg List.length e;apply kW;rw[Lib.toList_data,Lib.toList_data] at e;exact congrArg (List.map fun b:UInt8=>(b.toNat:Int)) e
def isWord (s:ByteArray):Bool:=match ak s with
 | []=>false
 |c::l=>decide (l.length<=29)&&gk c&&l.all gq
theorem nO {c:Int}:af Tryz.prog 251 [.ae (.int .u8 c)] (nB (gk c)):=by
 refine Pd ?_;have two:ag (decide (c>=65)) (nB (decide (c<=90))=nB (decide (65<=c/\c<=90))) (nB false=nB (decide (65<=c/\c<=90))):=by
  refine ag.intro (fun h=>?_) fun h=>?_
  ·have h:c>=65:=by simpa using h
   exact kV (by simp;omega)
  ·have h:¬c>=65:=by simpa using h
   exact kV (by simp;omega)
 refine ag.intro (fun h=>ag.intro (fun h1=>?_) fun h1=>?_) fun h=>?_
 ·have h:c>=97:=by simpa using h
  have h1:c<=122:=by simpa using h1
  simp[gk];omega
 ·have h1:¬c<=122:=by simpa using h1
  have:gk c=decide (65<=c/\c<=90):=by unfold gk;rw[decide_eq_false (by omega),amp]
  rw[this];exact two
 ·have h:¬c>=97:=by simpa using h
  have:gk c=decide (65<=c/\c<=90):=by unfold gk;rw[decide_eq_false (by omega),amp]
  rw[this];exact two
theorem px {c:Int}:af Tryz.prog 254 [.ae (.int .u8 c)] (nB (isDigit c)):=by
 refine Pe (ag.intro (fun h=>?_) fun h=>?_)
 ·have h:c>=48:=by simpa using h
  exact kV (by simp[isDigit];omega)
 ·have h:¬c>=48:=by simpa using h
  exact kV (by simp[isDigit];omega)
theorem Fl {c:Int}:af Tryz.prog 253 [.ae (.int .u8 c)] (nB (gq c)):=by
 refine Pf ⟨_,nO,ag.intro (fun h=>?_) fun h=>⟨_,px,ag.intro (fun h1=>?_) fun h1=>ag.intro (fun h2=>?_) fun h2=>?_⟩⟩
 ·simp[gq,h]
 ·simp[gq,h,h1]
 ·simp[gq,h,h1,h2]
 ·simp[gq,h,h1,h2]
def runN (l:List Int):Nat:=(l.takeWhile gq).length
theorem ub (c:Int) (l:List Int):runN (c::l)=if gq c=true then runN l+1 else 0:=by
 unfold runN;rw[am5];split<;>simp
theorem RH (l:List Int):(runN l=l.length)↔l.all gq=true:=by
 induction l with
 |nil=>simp[runN]
 |cons c l ih=>
  simp only[runN,am5,amF] at ih ⊢
  cases h:gq c<;>simp[ih]
theorem AD {s:ByteArray} (hs:s.size<=1000000000):af Tryz.prog 252 [nS s,.bf 253 []] (nI (runN (ak s):Nat)):=by
 refine Pg ?_;unfold WG El;have hl:=bU s;refine ay.intro (fun k:Nat=>((s,(),(k:Int),()),())) (fun k=>k<=s.size/\runN (ak s)=k+runN ((ak s).drop k)) (fun k=>s.size-k) 0 rfl ⟨aly _,by simp⟩ ?_;intro k ⟨hk,hm⟩ again bY;dsimp only;refine ag.intro (fun h=>?_) fun h=>?_
 ·have aq:k<s.size:=by simpa using h
  have tP:k<(ak s).length:=by omega
  rw[alw tP] at hm;refine⟨⟨by omega,by omega⟩,_,Fl,?_⟩;rw[sZ tP];refine ag.intro (fun h=>?_) fun h=>?_
  ·rw[aV (by omega)];refine bY (k+1) ⟨by omega,?_⟩ (by omega);rw[hm,ub,if_pos h];omega
  ·rw[hm,ub,if_neg (by rw[h];simp)];rfl
 ·have:s.size<=k:=by simpa using h
  rw[alC (by omega)] at hm;rw[hm];simp[runN]
theorem B8 {c:Int} (h:gk c=true):gq c=true:=by simp[gq,h]
theorem s5 {s:ByteArray}:af Tryz.prog 234 [nS s] (nB (isWord s)):=by
 have hl:=bU s;refine Pc (ag.intro (fun h=>ag.intro (fun h1=>?_) fun h1=>?_) fun h=>?_)
 ·have h1:s.size<=30:=by(have:(s.size:Int)<=30:=by simpa using h1);omega
  cases hb:ak s with
  |nil=>
   exfalso;have:s=⟨#[]⟩:=kW hb;subst this;simp[gy] at h
  |cons c l=>
   rw[hb,als] at hl;have hc:dm s (0:Int)=c:=by
    have:=sZ (s:=s) (k:=0) (by rw[hb];simp);simp only[hb,List.getElem_cons_zero] at this;exact this
   refine⟨⟨by omega,by omega⟩,_,nO,?_⟩;rw[hc];have hd:decide (l.length<=29)=true:=by simp;omega
   refine ag.intro (fun h2=>⟨_,AD (by omega),?_⟩) fun h2=>?_
   ·refine kV ?_;have hr:=RH (ak s);rw[hb,amF,B8 h2,al2,als] at hr;simp only[isWord,hb,hd,h2,al2,beq_iff_eq];rw[<-hr,<-hl];omega
   ·simp[isWord,hb,hd,h2]
 ·have h1:¬s.size<=30:=by(have:¬(s.size:Int)<=30:=by simpa using h1);omega
  cases hb:ak s with
  |nil=>simp[isWord,hb]
  |cons c l=>
   rw[hb,als] at hl;simp[isWord,hb];omega
 ·have:s=⟨#[]⟩:=by
   rw[eG] at h;simpa using h
  subst this;rfl
def LJ (s:ByteArray):Nat->Nat->Nat
 |0,n=>n
 |k+1,n=>if n<s.size/\isWord (s.extract 0 (n+1))=true then LJ s k (n+1) else n
def B9 (s:ByteArray):ByteArray:=s.extract 0 (if isWord (s.extract 0 1)=true then LJ s 9 1 else 1)
theorem Ca {s:ByteArray} (h1:1<=s.size) (h2:s.size<=1000000000):af Tryz.prog 235 [nS s] (nS (B9 s)):=by
 refine Pk ⟨⟨by decide,by decide,by omega⟩,_,s5,ag.intro (fun h=>?_) fun h=>⟨⟨by decide,by decide,by omega⟩,?_⟩⟩
 ·have h:isWord (s.extract 0 1)=true:=h;rw[B9,if_pos h];obtain⟨z,hz⟩:∃z,LJ s 9 1=z:=⟨_,rfl⟩;rw[hz];refine ay.intro (fun n:Nat=>((s,(n:Int),()),())) (fun n=>1<=n/\n<=10/\n<=s.size/\z=LJ s (10-n) n) (fun n=>10-n) 1 rfl ⟨by omega,by omega,h1,hz.symm⟩ ?_;intro n ⟨n1,n10,ns,he⟩ again bY;dsimp only;have last:z=n->(0<=(0:Int)/\(0:Int)<=(n:Int)/\(n:Int)<=ByteArray.size s)/\nS (ByteArray.extract s (Int.toNat 0) (Int.toNat (n:Int)))=nS (s.extract 0 z):=fun e=>⟨⟨by decide,by omega,by omega⟩,by rw[e];rfl⟩;refine ag.intro (fun h=>ag.intro (fun h'=>?_) fun h'=>last ?_) fun h=>last ?_
  ·have g1:n<s.size:=by simpa using h
   have g2:n<10:=by have:=of_decide_eq_true h';omega
   rw[aV (by omega)];have e10:10-n=(10-(n+1))+1:=by omega
   rw[e10,LJ] at he;refine⟨⟨by decide,by omega,by omega⟩,_,s5,ag.intro (fun g=>?_) fun g=>last ?_⟩
   ·have g:isWord (s.extract 0 (n+1))=true:=g;rw[if_pos ⟨g1,g⟩] at he;exact bY (n+1) ⟨by omega,by omega,by omega,he⟩ (by omega)
   ·have g:isWord (s.extract 0 (n+1))=false:=g;rw[if_neg (fun e=>by rw[g] at e;simp at e)] at he;exact he
  ·have g2:n=10:=by have:=of_decide_eq_false h';omega
   subst g2;exact he
  ·have g1:¬n<s.size:=by simpa using h
   rw[he]
   cases 10-n with
   |zero=>rfl
   |succ k=>rw[LJ,if_neg (fun e=>g1 e.1)]
 ·have h:isWord (s.extract 0 1)=false:=h;rw[B9,if_neg (by rw[h];decide)];rfl
section
def lI:Int×Int->List Int->Int×Int
 |m,[]=>m
 |m,c::l=>lI (if c==10 then(m.1+1,1) else(m.1,m.2+1)) l
theorem kX (s:ByteArray) (i j:Nat):ak (s.extract i j)=((ak s).drop i).take (j-i):=by
 simp only[ak,ByteArray.data_extract,Array.toList_extract,List.extract_eq_take_drop,List.map_take,List.map_drop]
abbrev Tk:=Int×ByteArray×Int
def cp (t:Tk):AV:=.agg [nI t.1,nS t.2.1,nI t.2.2]
theorem Vr (l:List Int):runN l<=l.length:=by
 induction l with
 |nil=>simp[runN]
 |cons c l ih=>rw[ub,als];split<;>omega
variable {s:ByteArray}
theorem Vs (l:List Tk) (t:Tk):l.map cp++[.agg [nI t.1,nS t.2.1,nI t.2.2]]=(l++[t]).map cp:=by simp[cp]
end
def eK (c:Int) (l:List Int):Nat:=(l.takeWhile (· != c)).length
def Fm (c:Int) (l:List Int):Int:=if eK c l=l.length then -1 else(eK c l:Int)
theorem iR (c b:Int) (l:List Int):eK c (b::l)=if b=c then 0 else eK c l+1:=by
 unfold eK;rw[am5]
 by_cases h:b=c
 ·simp[h]
 ·rw[if_neg h,if_pos (by simpa using h)];rfl
theorem wu (c:Int) (l:List Int):eK c l<=l.length:=by
 induction l with
 |nil=>simp[eK]
 |cons b l ih=>rw[iR,als];split<;>omega
theorem Km {c:Int} {l:List Int} {n:Nat} (h:n<=eK c l):∀b∈l.take n,b≠c:=by
 induction l generalizing n with
 |nil=>simp
 |cons b l ih=>
  rw[iR] at h
  cases n with
  |zero=>simp
  |succ n=>
   split at h
   ·omega
   ·rename_i hb;intro x hx;rw[List.take_succ_cons] at hx;rcases alW.1 hx with rfl|hx
    ·exact hb
    ·exact ih (by omega) x hx
theorem Vt {c:Int} {l:List Int} (h:eK c l<l.length):l[eK c l]=c:=by
 induction l with
 |nil=>simp at h
 |cons b l ih=>
  simp only[iR,als] at h ⊢
  by_cases hb:b=c
  ·simp only[if_pos hb];simpa using hb
  ·simp only[if_neg hb] at h ⊢;simp only[List.getElem_cons_succ];exact ih (by omega)
theorem idx_eq (l:List UInt8) (c:UInt8):Lib.indexByte l c=Fm (c.toNat:Int) (l.map fun b=>(b.toNat:Int)):=by
 induction l with
 |nil=>rfl
 |cons b l ih=>
  unfold Lib.indexByte Fm;rw[ih,alQ,iR,als];have hle:=wu (c.toNat:Int) (l.map fun b=>(b.toNat:Int))
  by_cases h:b=c
  ·subst h;simp
  ·have h2:¬(b.toNat:Int)=(c.toNat:Int):=fun e=>h (UInt8.toNat_inj.1 (by omega));rw[if_neg (by simpa using h),if_neg h2];unfold Fm
   by_cases hr:eK (c.toNat:Int) (l.map fun b=>(b.toNat:Int))=(l.map fun b=>(b.toNat:Int)).length
   ·rw[if_pos hr,hr,if_pos rfl];rfl
   ·have bL:((((eK (c.toNat:Int) (l.map fun b=>(b.toNat:Int)):Nat):Int)) == -1)=false:=beq_eq_false_iff_ne.2 (by omega);rw[if_neg hr,if_neg (by rw[bL];decide),if_neg (fun e=>hr (by omega))];omega
theorem jz {s:ByteArray} {c:Int} (h0:0<=c) (h1:c<=255):af Tryz.prog 250 [nS s,.ae (.int .u8 c)] (nI (Fm c (ak s))):=by
 refine⟨⟨_,Tryz.func250,by kernel_rfl,by kernel_rfl⟩,fun w F bg hF hg hv=>?_⟩
 match bg,hv with
 | [v0,v1],⟨r0,r1,_⟩=>
  cases r0;cases r1
  refine callsIn_wide.2 ((Any.strings_IndexByte Yg s c w).mono ?_)
  rintro e w' ⟨rfl,rfl⟩
  refine⟨_,_,rfl,rfl,bD.refl _,?_⟩;have:(c.toNat.toUInt8.toNat:Int)=c:=by
   have:c.toNat.toUInt8.toNat=c.toNat % 256:=rfl;rw[this];omega
  rw[idx_eq,this];exact .ae _
def kY (s:ByteArray):Nat->Nat->List (Nat×ByteArray)
 |0,_=>[]
 |f+1,a=>(a,s.extract a (a+eK 10 ((ak s).drop a)))::(if a+eK 10 ((ak s).drop a)=s.size then[] else kY s f (a+eK 10 ((ak s).drop a)+1))
def Vu (p:Nat×ByteArray):Int×ByteArray×Unit:=((p.1:Int),p.2,())
def RI (p:Nat×ByteArray):List AV:=[nI (p.1:Int),nS p.2]
theorem iq {s:ByteArray} {a:Nat}:ak (s.extract a s.size)=(ak s).drop a:=by
 rw[kX,alI];rw[alX,bU];exact alp _
theorem Cb {s:ByteArray} (hs:s.size<=1000000000):uQ Tryz.prog 266 (fun v=>[v,.aJ (nS s) 0]) ((kY s (s.size+1) 0).map RI) false:=by
 have hl:=bU s;refine PL fun yv more=>⟨rfl,?_⟩;refine ay.intro (fun p:Nat×Nat=>(((yv,(),(p.2:Int),()),()),some ((kY s p.1 p.2).map RI++more))) (fun p=>p.2<=s.size/\s.size+1<=p.1+p.2) (fun p=>s.size+1-p.2) (s.size+1,0) rfl ⟨aly _,by dsimp only;omega⟩ ?_;intro ⟨f,a⟩ ⟨ha,hf⟩ again bY;dsimp only at ha hf ⊢;obtain⟨f,rfl⟩:∃g,f=g+1:=⟨f-1,by omega⟩;have hr:=wu 10 ((ak s).drop a);rw[alX,hl] at hr;have H6:=jz (s:=s.extract a s.size) (c:=10) (by decide) (by decide);rw[iq,Fm,alX,hl] at H6;refine⟨⟨by omega,by omega,by omega⟩,_,H6,?_⟩
 by_cases he:eK 10 ((ak s).drop a)=s.size-a
 ·rw[if_pos he];refine ag.pos (by decide) ⟨⟨by omega,by omega,by omega⟩,rfl,more,?_,fun b=>⟨b,rfl⟩⟩;rw[kY,he,if_pos (by omega)];have:a+(s.size-a)=s.size:=by omega
  rw[this];rfl
 ·rw[if_neg he];have w1:IntKind.wrap .i64 ((a:Int)+((eK 10 ((ak s).drop a):Nat):Int))=((a+eK 10 ((ak s).drop a):Nat):Int):=by rw[aT (by omega) (by omega)];omega
  have w2:IntKind.wrap .i64 ((a:Int)+IntKind.wrap .i64 (((eK 10 ((ak s).drop a):Nat):Int)+1))=((a+eK 10 ((ak s).drop a)+1:Nat):Int):=by rw[aV (by omega),aT (by omega) (by omega)];omega
  rw[w1,w2];refine ag.neg (decide_eq_false (by omega)) ⟨⟨by omega,by omega,by omega⟩,rfl,(kY s f (a+eK 10 ((ak s).drop a)+1)).map RI++more,?_,fun b=>ag.intro (fun h=>?_) fun h=>?_⟩
  ·rw[kY,if_neg (by omega)];rfl
  ·have:b=false:=by simpa using h
   subst this;exact⟨false,rfl⟩
  ·have:b=true:=by simpa using h
   subst this;exact⟨rfl,bY (f,_) ⟨by dsimp only;omega,by dsimp only;omega⟩ (by dsimp only;omega)⟩
theorem LK {s:ByteArray} (hs:s.size<=1000000000):ou Tryz.prog 266 [.aJ (nS s) 0] [.v (.c (.i .i64)),.v (.c (.s))] ((kY s (s.size+1) 0).map Vu):=
 sJ (prm:=[.v (.c (.i .i64)),.v (.c (.s))]) Vu (Cb hs)
theorem uc (m:Int×Int) (a b:List Int):lI m (a++b)=lI (lI m a) b:=by
 induction a generalizing m with
 |nil=>rfl
 |cons c a ih=>exact ih _
theorem Fp {l:List Int} (m:Int×Int) (h:∀b∈l,b≠10):lI m l=(m.1,m.2+l.length):=by
 induction l generalizing m with
 |nil=>simp[lI]
 |cons c l ih=>
  have hc:(c==10)=false:=by simpa using h c alD
  rw[lI,hc,ih _ fun b hb=>h b (alK _ hb)];simp;omega
def yb (s:ByteArray) (i:Nat):AV:=.agg [nI (lI (1,1) ((ak s).take i)).1,nI (lI (1,1) ((ak s).take i)).2]
theorem lU {s:ByteArray} {i:Nat} (hi:i<=s.size) (hs:s.size<=1000000000):af Tryz.prog 210 [nS s,nI (i:Int)] (.av [yb s i,nI 0]):=by
 have hl:=bU s;refine PH (ag.neg (decide_eq_false (by omega)) (ag.neg (decide_eq_false (by omega)) ⟨PI rfl,?_⟩));refine iQ.xL (fun n:Nat=>(((i:Int),()),(0,0,()),(0,()),((n:Int),()),())) Vu (kY s (s.size+1) 0) (LK hs)
  (fun rest n=>∃f a,rest=kY s f a/\a<=i/\s.size+1<=f+a/\n<=a/\lI (1,1) ((ak s).take a)=(((n+1:Nat):Int),1)) 0 rfl ⟨_,_,rfl,aly _,alp _,alp _,rfl⟩ (fun p rest n hI again bY=>?_) fun n hI=>?_
 ·obtain⟨f,a,he,ha,hf,hna,hm⟩:=hI;obtain⟨f,rfl⟩:∃g,f=g+1:=⟨f-1,by omega⟩;rw[kY] at he;obtain⟨rfl,rfl⟩:=List.cons.inj he;have hr:=wu 10 ((ak s).drop a);rw[alX,hl] at hr;have hz:(s.extract a (a+eK 10 ((ak s).drop a))).size=eK 10 ((ak s).drop a):=by rw[<-bU,kX,amf,alX,hl];omega
  dsimp only[Vu];rw[aV (by omega)];have hw:IntKind.wrap .i64 ((a:Int)+(((s.extract a (a+eK 10 ((ak s).drop a))).size:Nat):Int))=(a:Int)+(eK 10 ((ak s).drop a):Nat):=by rw[hz,aT (by omega) (by omega)]
  refine ag.intro (fun h=>?_) fun h=>?_
  ·have h:i<=a+eK 10 ((ak s).drop a):=by
    have:=of_decide_eq_true h;rw[hw] at this;omega
   rw[aT (n:=(i:Int)-a) (by omega) (by omega),aT (by omega) (by omega)];have e:(ak s).take i=(ak s).take a++((ak s).drop a).take (i-a):=by rw[<-List.take_add,show a+(i-a)=i by omega]
   have qU:lI (1,1) ((ak s).take i)=(((n+1:Nat):Int),1+((i-a:Nat):Int)):=by
    rw[e,uc,hm,Fp _ (Km (by omega)),amf,alX,hl,Nat.min_eq_left (by omega)]
   show _=AV.av [yb s i,nI 0];rw[yb,qU];have:(1:Int)+((i-a:Nat):Int)=(i:Int)-a+1:=by omega
   rw[this]
  ·have h:a+eK 10 ((ak s).drop a)<i:=by
    have:=of_decide_eq_false h;rw[hw] at this;omega
   refine bY (n+1) ⟨f,a+eK 10 ((ak s).drop a)+1,if_neg (by omega),by omega,by omega,by omega,?_⟩;have aq:a+eK 10 ((ak s).drop a)<(ak s).length:=by omega
   rw[amq aq,List.take_add,al3,uc,hm,uc,Fp _ (Km (alp _))];have hc:(ak s)[a+eK 10 ((ak s).drop a)]=10:=by
    have:=Vt (c:=10) (l:=(ak s).drop a) (by rw[alX];omega);rw[List.getElem_drop] at this;exact this
   rw[hc];simp[lI]
 ·obtain⟨f,a,he,ha,hf,hna,hm⟩:=hI;obtain⟨f,rfl⟩:∃g,f=g+1:=⟨f-1,by omega⟩;rw[kY] at he;cases he
def iI:Bool->List Int->Nat
 |_,[]=>0
 |r,c::l=>if r||ke c then iI (c != 10&&(r||c==35)) l+1 else 0
theorem yc:∀(r:Bool) (l:List Int),iI r l<=l.length
 |_,[]=>alp _
 |r,c::l=>by
  rw[iI,als];split
  ·have:=yc (c != 10&&(r||c==35)) l;omega
  ·omega
theorem yd:∀(l:List Int),iI true l=if eK 10 l=l.length then l.length else eK 10 l+iI false (l.drop (eK 10 l))
 | []=>rfl
 |c::l=>by
  rw[iI,iR,als]
  by_cases h:c=10
  ·subst h;rw[if_pos rfl,if_neg (Nat.ne_of_lt (Nat.succ_pos _)),am3,iI];simp[ke]
  ·have e:(c != 10&&(true||c==35))=true:=by simpa using h
   rw[amZ,if_pos rfl,e,yd l,if_neg h]
   by_cases h2:eK 10 l=l.length
   ·rw[if_pos h2,if_pos (by omega)]
   ·rw[if_neg h2,if_neg (by omega),List.drop_succ_cons];omega
theorem H7 (l:List Int):iI false (35::l)=iI true (35::l):=rfl
theorem rv {s:ByteArray} {k:Nat} {c:Int} {l:List Int} (h:(ak s).drop k=c::l):dm s (k:Int)=c/\k<s.size/\(ak s).drop (k+1)=l:=by
 have aq:k<(ak s).length:=by
  rcases Nat.lt_or_ge k (ak s).length with h1|h1
  ·exact h1
  ·rw[alC h1] at h;cases h
 rw[alw aq] at h;obtain⟨h1,h2⟩:=List.cons.inj h;exact⟨by rw[sZ aq,h1],by rw[<-bU];exact aq,h2⟩
theorem H8 {s:ByteArray} (hs:s.size<=1000000000):af Tryz.prog 212 [nS s] (nI (iI false (ak s):Nat)):=by
 have hl:=bU s;refine Ps ?_;refine ay.intro (fun k:Nat=>((s,(k:Int),()),())) (fun k=>k<=s.size/\iI false (ak s)=k+iI false ((ak s).drop k)) (fun k=>(s.size-k)*2+(if(ak s).drop k=[] then 0 else if((ak s).drop k).head?=some 10 then 0 else 1)) 0 rfl ⟨aly _,by simp⟩ ?_;intro k ⟨hk,hd⟩ again bY;dsimp only;refine ag.intro (fun h=>?_) fun h=>?_
 ·have aq:k<s.size:=by have:=of_decide_eq_true h;omega
  obtain⟨c,l,cY⟩:∃c l,(ak s).drop k=c::l:=⟨_,_,alw (by omega)⟩;obtain⟨Kn,_,zc⟩:=rv cY;refine⟨⟨by omega,by omega⟩,?_⟩;rw[Kn];have blank:(ke c=true/\c≠35)->again ((s,IntKind.wrap .i64 ((k:Int)+1),()),()):=fun⟨hb,hc⟩=>by
   rw[aV (by omega)];refine bY (k+1) ⟨by omega,?_⟩ (by split<;>split<;>(try split)<;>omega);have e:(c != 10&&(false||c==35))=false:=by simp[hc]
   rw[hd,cY,iI,amp,if_pos hb,e,<-zc];omega
  have stop:ke c=false->nI (k:Int)=nI ((iI false (ak s):Nat):Int):=fun hb=>by
   rw[hd,cY,iI,hb];simp
  have hash:c=35->0<=(k:Int)/\(k:Int)<=((s.size:Nat):Int)/\((s.size:Nat):Int)<=s.size:=fun _=>⟨by omega,by omega,by omega⟩;have H6:=jz (s:=s.extract k s.size) (c:=10) (by decide) (by decide);rw[iq,Fm,alX,hl] at H6;have hr:=wu 10 ((ak s).drop k);rw[alX,hl] at hr;have rem:(c==35)=true->∃i53,pI 250 [nS (ByteArray.extract s (Int.toNat k) (Int.toNat ((ByteArray.size s:Nat):Int))),.ae (.int .u8 10)] (nI i53)/\
    ag (decide (i53<0)) ((fun r=>r=nI ((iI false (ak s):Nat):Int)) (nI ((ByteArray.size s:Nat):Int))) (again ((s,IntKind.wrap .i64 ((k:Int)+i53),()),())):=fun hc=>by
   have hc:c=35:=by simpa using hc
   subst hc;refine⟨_,H6,?_⟩;have e:=yd ((ak s).drop k);rw[alX,hl] at e;rw[cY,H7,<-cY,e] at hd
   by_cases h1:eK 10 ((ak s).drop k)=s.size-k
   ·rw[if_pos h1] at hd;rw[if_pos h1];refine ag.pos rfl ?_;show nI _=nI _;rw[hd];congr 1;congr 1;congr 1;omega
   ·rw[if_neg h1] at hd;rw[if_neg h1];refine ag.neg (decide_eq_false (by omega)) ?_;rw[aT (n:=(k:Int)+_) (by omega) (by omega),show (k:Int)+(eK 10 ((ak s).drop k):Nat)=((k+eK 10 ((ak s).drop k):Nat):Int) by omega];have h0:0<eK 10 ((ak s).drop k):=by rw[cY,iR];simp
    refine bY _ ⟨by omega,?_⟩ (by split<;>split<;>(try split)<;>omega);rw[hd,List.drop_drop];omega
  refine ag.intro (fun h1=>?_) fun h1=>ag.intro (fun h2=>?_) fun h2=>ag.intro (fun h3=>?_) fun h3=>ag.intro (fun h4=>?_) fun h4=>ag.intro (fun h5=>?_) fun h5=>?_
  ·exact ag.pos h1 (blank ⟨by unfold ke;rw[h1];rfl,fun e=>by rw[e] at h1;cases h1⟩)
  ·exact ag.pos h2 (blank ⟨by unfold ke;rw[h1,h2];rfl,fun e=>by rw[e] at h2;cases h2⟩)
  ·exact ag.pos h3 (blank ⟨by unfold ke;rw[h1,h2,h3];rfl,fun e=>by rw[e] at h3;cases h3⟩)
  ·exact blank ⟨by unfold ke;rw[h1,h2,h3,h4];rfl,fun e=>by rw[e] at h4;cases h4⟩
  ·exact⟨hash (by simpa using h5),rem h5⟩
  ·exact stop (by unfold ke;rw[h1,h2,h3,h4,h5];rfl)
 ·have:s.size<=k:=by have:=of_decide_eq_false h;omega
  rw[alC (by omega)] at hd;rw[hd];rfl
def py (l:List Int):Nat:=(l.takeWhile isDigit).length
theorem qd (c:Int) (l:List Int):py (c::l)=if isDigit c=true then py l+1 else 0:=by
 unfold py;rw[am5];split<;>simp
theorem Vv (l:List Int):py l<=l.length:=by
 induction l with
 |nil=>simp[py]
 |cons c l ih=>rw[qd,als];split<;>omega
theorem ye {s:ByteArray} (hs:s.size<=1000000000):af Tryz.prog 252 [nS s,.bf 254 []] (nI (py (ak s):Nat)):=by
 refine HJ ?_;have hl:=bU s;refine ay.intro (fun k:Nat=>((s,(),(k:Int),()),())) (fun k=>k<=s.size/\py (ak s)=k+py ((ak s).drop k)) (fun k=>s.size-k) 0 rfl ⟨aly _,by simp⟩ ?_;intro k ⟨hk,hm⟩ again bY;dsimp only;refine ag.intro (fun h=>?_) fun h=>?_
 ·have aq:k<s.size:=by simpa using h
  have tP:k<(ak s).length:=by omega
  rw[alw tP] at hm;refine⟨⟨by omega,by omega⟩,_,px,?_⟩;rw[sZ tP];refine ag.intro (fun h=>?_) fun h=>?_
  ·rw[aV (by omega)];refine bY (k+1) ⟨by omega,?_⟩ (by omega);rw[hm,qd,if_pos h];omega
  ·rw[hm,qd,if_neg (by rw[h];simp)];rfl
 ·have:s.size<=k:=by simpa using h
  rw[alC (by omega)] at hm;rw[hm];simp[py]
def Fq:List Int:=[40,41,92,46,44,59,58,61,62,60,91,93,123,125,33,63,64]
def AE:List Int->Nat
 | []=>0
 |c::l=>if c=45/\l.head?=some 62 then 2 else if c∈Fq then 1 else 0
def zJ:List Int->Nat×Nat
 | []=>(3,0)
 |c::l=>if gk c=true then(1,runN (c::l)) else if isDigit c=true then(2,py (c::l)) else(3,AE (c::l))
theorem vO {s p:ByteArray}:af Tryz.prog 268 [nS s,nS p] (nB (decide ((ak s).take p.size=ak p))):=by
 have hl:=bU s;have hp:=bU p;refine PM ⟨_,PN (R:=fun r=>r=nB (decide ((ak s).take p.size=ak p))) (ag.intro (fun h=>?_) fun h=>?_),rfl⟩
 ·have h:p.size<=s.size:=by have:=of_decide_eq_true h;omega
  refine⟨⟨by decide,by omega,by omega⟩,?_⟩;show nB _=nB _;rw[eG];refine kV ?_;rw[decide_eq_true_iff,decide_eq_true_iff];have e:ak (s.extract (Int.toNat 0) (Int.toNat ((p.size:Nat):Int)))=(ak s).take p.size:=by rw[kX];rfl
  rw[<-e];exact⟨fun h=>by rw[h],kW⟩
 ·have h:s.size<p.size:=by have:=of_decide_eq_false h;omega
  refine(kV ?_).symm;rw[decide_eq_true_iff];refine⟨fun e=>?_,fun e=>by cases e⟩;have:=congrArg List.length e;rw[amf] at this;omega
theorem H9 {s:ByteArray} (hs:s.size<=1000000000):af Tryz.prog 255 [nS s] (nI (AE (ak s):Nat)):=by
 refine Pw ⟨_,vO,?_⟩;have e1:ak (⟨#[45,62]⟩:ByteArray)=[45,62]:=rfl;have e2:(⟨#[45,62]⟩:ByteArray).size=2:=rfl;rw[e1,e2]
 cases hb:ak s with
 |nil=>
  obtain rfl:s=⟨#[]⟩:=kW hb;exact ag.neg rfl (ag.neg (by rw[eG];rfl) rfl)
 |cons c l=>
  have Kn:dm s ((0:Nat):Int)=c/\0<s.size/\_:=rv (by rw[am3];exact hb);have H6:=jz (s:=(⟨#[40,41,92,46,44,59,58,61,62,60,91,93,123,125,33,63,64]⟩:ByteArray)) (c:=c)
   (by have:=s4 s c (by rw[hb];exact alD);omega) (by have:=s4 s c (by rw[hb];exact alD);omega)
  rw[<-show dm s (0:Int)=c from Kn.1] at H6;have e3:ak (⟨#[40,41,92,46,44,59,58,61,62,60,91,93,123,125,33,63,64]⟩:ByteArray)=Fq:=rfl;rw[e3] at H6;have agD:=H6;have MZ:dm s (0:Int)=c:=Kn.1;have hsg:decide (Fm c Fq>=0)=decide (c∈Fq):=by
   have key:∀L:List Int,(eK c L=L.length↔c∉L):=by
    intro L
    induction L with
    |nil=>simp[eK]
    |cons b L ih=>
     rw[iR,als,alW]
     by_cases h:b=c
     ·subst h;simp
     ·rw[if_neg h];have h':¬c=b:=fun e=>h e.symm;simp only[Nat.add_right_cancel_iff,ih,h',false_or]
   unfold Fm
   by_cases h:c∈Fq
   ·rw[if_neg (fun e=>(key _).1 e h),decide_eq_true h];exact decide_eq_true (by omega)
   ·rw[if_pos ((key _).2 h),decide_eq_false h];rfl
  have h2:decide ((c::l).take 2=[45,62])=decide (c=45/\l.head?=some 62):=by
   cases l with
   |nil=>simp
   |cons d l=>simp
  rw[h2];refine ag.intro (fun h=>?_) fun h=>ag.pos (by rw[eG,decide_eq_false];rfl;intro e;rw[e] at hb;cases hb) ⟨⟨by decide,by have:=Kn.2.1;omega⟩,_,agD,?_⟩
  ·rw[AE,if_pos (of_decide_eq_true h)];rfl
  ·rw[MZ,hsg];refine ag.intro (fun h3=>?_) fun h3=>?_
   ·rw[AE,if_neg (of_decide_eq_false h),if_pos (of_decide_eq_true h3)];rfl
   ·rw[AE,if_neg (of_decide_eq_false h),if_neg (of_decide_eq_false h3)];rfl
theorem Fs {s:ByteArray} (hs:s.size<=1000000000) (bL:ak s≠[]):af Tryz.prog 213 [nS s] (.av [nI ((zJ (ak s)).1:Nat),nI ((zJ (ak s)).2:Nat)]):=by
 cases hb:ak s with
 |nil=>exact(bL hb).elim
 |cons c l=>
  have Kn:dm s ((0:Nat):Int)=c/\0<s.size/\_:=rv (by rw[am3];exact hb);have MZ:dm s (0:Int)=c:=Kn.1;have hz:=Kn.2.1;refine Pt ⟨⟨by decide,by omega⟩,_,nO,?_⟩;rw[MZ];refine ag.intro (fun h=>⟨_,AD hs,?_⟩) fun h=>⟨⟨by decide,by omega⟩,_,px,ag.intro (fun h2=>⟨_,ye hs,?_⟩) fun h2=>⟨_,H9 hs,?_⟩⟩
  ·rw[zJ,if_pos h,hb];rfl
  ·rw[zJ,if_neg (by rw[h];decide),if_pos h2,hb];rfl
  ·rw[zJ,if_neg (by rw[h];decide),if_neg (by rw[h2];decide),hb];rfl
def RL (c:Int):ByteArray:=if c<33\/c>126 then⟨#[]⟩ else strOfNums [c]
theorem zK {c:Int}:af Tryz.prog 214 [.ae (.int .u8 c)] (nS (RL c)):=by
 refine Pu (ag.intro (fun h=>?_) fun h=>ag.intro (fun h2=>?_) fun h2=>?_)
 ·rw[RL,if_pos (.inl (of_decide_eq_true h))]
 ·rw[RL,if_pos (.inr (of_decide_eq_true h2))]
 ·rw[RL,if_neg (by have:=of_decide_eq_false h;have:=of_decide_eq_false h2;omega)]
def AF (s:ByteArray):ByteArray:=s.extract 0 (if 10<s.size then 10 else s.size)
theorem vb {s:ByteArray}:af Tryz.prog 215 [nS s] (nS (AF s)):=by
 refine Pv ⟨⟨by decide,by split<;>omega,by split<;>omega⟩,?_⟩;rw[AF]
 by_cases h:10<s.size
 ·rw[if_pos h,if_pos (by omega)];rfl
 ·rw[if_neg h,if_neg (by omega)];rfl
abbrev Fa:=Int×Int×Int×ByteArray
abbrev Ia (f:Fa):List AV:=[nI f.1,nI f.2.1,nI f.2.2.1,nS f.2.2.2]
def pz:Fa:=(0,0,0,⟨#[]⟩)
def Ib (s:ByteArray) (code:Int) (i:Nat) (w:ByteArray):Fa:=(code,(lI (1,1) ((ak s).take i)).1,(lI (1,1) ((ak s).take i)).2,w)
def gK (s:ByteArray) (i:Nat):Nat:=i+iI false ((ak s).drop i)
def qz (s:ByteArray) (i:Nat):Nat×Nat:=zJ ((ak s).drop i)
def Cc (s:ByteArray):Nat->Nat->List Tk->List Tk×Int×Nat×ByteArray
 |0,_,acc=>(acc,0,0,⟨#[]⟩)
 |f+1,i,acc=>if gK s i=s.size then(acc,0,0,⟨#[]⟩)
  else if(qz s (gK s i)).2=0 then([],3,gK s i,RL (dm s (gK s i)))
  else if((qz s (gK s i)).1=1/\30<(qz s (gK s i)).2)\/((qz s (gK s i)).1=2/\9<(qz s (gK s i)).2) then([],2,gK s i,AF (s.extract (gK s i) (gK s i+(qz s (gK s i)).2)))
  else Cc s f (gK s i+(qz s (gK s i)).2) (acc++[((((qz s (gK s i)).1:Nat):Int),s.extract (gK s i) (gK s i+(qz s (gK s i)).2),((gK s i:Nat):Int))])
def Vw (s:ByteArray) (r:List Tk×Int×Nat×ByteArray):List Tk×Fa:=if r.2.1=0 then(r.1,pz) else([],Ib s r.2.1 r.2.2.1 r.2.2.2)
def cV (s:ByteArray):List Tk×Fa:=if s.size>20000 then([],(2,1,1,⟨#[]⟩)) else Vw s (Cc s (s.size+1) 0 [])
theorem Ko:∀l:List Int,(zJ l).2<=l.length
 | []=>alp _
 |c::l=>by
  have h1:=Vr (c::l);have h2:=Vv (c::l);rw[zJ];split
  ·exact h1
  ·split
   ·exact h2
   ·rw[AE];split
    ·rename_i h;obtain⟨d,hd⟩:∃d,l.head?=some d:=⟨_,h.2⟩
     cases l with
     |nil=>cases hd
     |cons d l=>simp
    ·split<;>simp
theorem ow {s w:ByteArray} {f:Fa} {us:List AV} {i:Nat} {c:Int} (hi:i<=s.size) (hs:s.size<=1000000000):aG Tryz.prog 209 [nI c,nS w,.ptr 0 0,.ptr 3 0] (Aw s f.1 f.2.1 f.2.2.1 f.2.2.2 us.length (i:Int) us)
  (fun r hp'=>r=.av [.ae (.slice none 0 0),.agg (Ia (Ib s c i w))]/\hp'=Aw s f.1 f.2.1 f.2.2.1 f.2.2.2 us.length (i:Int) us):=
 Po ⟨_,_,_,lU hi hs,rfl,rfl⟩
theorem yf {s:ByteArray} {f:Fa} {us:List Tk} {i n:Nat} {k:Int} (hi:i+n<=s.size) (hs:s.size<=1000000000) (hu:us.length<=1000000000):aG Tryz.prog 211 [nI k,nI (n:Int),.ptr 2 0,.ptr 0 0,.ptr 3 0] (Aw s f.1 f.2.1 f.2.2.1 f.2.2.2 (us.map cp).length (i:Int) (us.map cp))
  (fun r hp'=>r=.av []/\hp'=Aw s f.1 f.2.1 f.2.2.1 f.2.2.2 ((us++[(k,s.extract i (i+n),(i:Int))]).map cp).length ((i+n:Nat):Int) ((us++[(k,s.extract i (i+n),(i:Int))]).map cp)):=by
 refine Pp ?_;have w:IntKind.wrap .i64 ((i:Int)+(n:Int))=((i+n:Nat):Int):=by rw[aT (by omega) (by omega)];omega
 unfold WH;rw[w];have e:=Vs us (k,s.extract i (i+n),(i:Int));refine⟨⟨by omega,by omega,by omega⟩,rfl,bp rfl (by simp;omega) (by decide),rfl,?_⟩;rw[<-e];rfl
theorem yg {s:ByteArray} (hs:s.size<=1000000000):af Tryz.prog 136 [nS s] (.av [.sl ((cV s).1.map cp),.agg (Ia (cV s).2)]):=by
 have hl:=bU s;refine Pn ?_;refine ag.intro (fun h=>?_) fun h=>?_
 ·have h:s.size>20000:=by have:=of_decide_eq_true h;omega
  rw[cV,if_pos h];rfl
 refine⟨rfl,?_⟩;have bO:¬s.size>20000:=by have:=of_decide_eq_false h;omega
 have YQ:cV s=Vw s (Cc s (s.size+1) 0 []):=if_neg bO;refine ay.intro (fun p:Nat×Nat×List Tk=>(((),(),(),(),((),(),()),((),(),(),()),()),((s,()),(0,0,0,⟨#[]⟩,()),((),()),((p.2.1:Int),()),p.2.2.map cp,()))) (fun p=>p.2.1<=s.size/\s.size+1<=p.1+p.2.1/\p.2.2.length<=p.2.1/\cV s=Vw s (Cc s p.1 p.2.1 p.2.2)) (fun p=>s.size-p.2.1)
  (s.size+1,0,[]) rfl ⟨aly _,by dsimp only;omega,alp _,YQ⟩ ?_
 intro ⟨f,i,acc⟩ ⟨hi,hf,hac,hd⟩ again bY;dsimp only at hi hf hac hd ⊢;obtain⟨f,rfl⟩:∃g,f=g+1:=⟨f-1,by omega⟩;have RM:=H8 (s:=s.extract i s.size) (by rw[amY];omega);rw[iq] at RM;have hle:=yc false ((ak s).drop i);rw[alX,hl] at hle;have w1:IntKind.wrap .i64 ((i:Int)+((iI false ((ak s).drop i):Nat):Int))=((gK s i:Nat):Int):=by rw[aT (by omega) (by omega),gK];omega
 have ha:gK s i<=s.size:=by rw[gK];omega
 have hai:i<=gK s i:=by rw[gK];omega
 refine⟨⟨by omega,by omega,by omega⟩,_,RM,?_⟩;rw[w1];rw[Cc] at hd;clear w1 RM hle;generalize hA:gK s i=a at ha hai hd ⊢;refine ag.intro (fun h1=>⟨rfl,?_⟩) fun h1=>?_
 ·have h1:a=s.size:=by have:=eq_of_beq h1;omega
  rw[if_pos h1] at hd;rw[hd];rfl
 have h1:¬a=s.size:=fun e=>by rw[e] at h1;simp at h1
 rw[if_neg h1] at hd;have hfi:=Fs (s:=s.extract a s.size) (by rw[amY];omega) (by rw[iq];intro e;have:=congrArg List.length e;rw[alX,hl] at this;simp at this;omega);rw[iq] at hfi;have DK:=Ko ((ak s).drop a);rw[alX,hl] at DK;change af _ _ _ (.av [nI ((qz s a).1:Nat),nI ((qz s a).2:Nat)]) at hfi;change (qz s a).2<=_ at DK;refine⟨⟨by omega,by omega,by omega⟩,_,_,hfi,?_⟩;generalize hT:qz s a=t at DK hd ⊢;obtain⟨k,n⟩:=t;dsimp only at DK hd ⊢;have Yl:(k=1/\30<n\/k=2/\9<n)->¬n=0->nI (0:Int)=nI 0->AV.av [.sl [],.agg (Ia (Ib s 2 a (AF (s.extract a (a+n)))))]=AV.av [.sl ((cV s).1.map cp),.agg (Ia (cV s).2)]:=fun h h0 _=>by
  rw[if_neg h0,if_pos h] at hd;rw[hd];rfl
 have w2:IntKind.wrap .i64 ((a:Int)+(n:Int))=((a+n:Nat):Int):=by rw[aT (by omega) (by omega)];omega
 have cut:¬(k=1/\30<n\/k=2/\9<n)->¬n=0->ao 211 [nI (k:Int),nI (n:Int),.ptr 2 0,.ptr 0 0,.ptr 3 0] (Aw s 0 0 0 ⟨#[]⟩ (acc.map cp).length (a:Int) (acc.map cp)) fun r q=>∃l s2 i1 i2 i3 w i,(r=.av []/\q=Aw s2 i1 i2 i3 w (List.length l) i l)/\List.length l=List.length l/\
   again (((),(),(),(),((),(),()),((),(),(),()),()),((s2,()),(i1,i2,i3,w,()),((),()),(i,()),l,())):=fun h h0=>by
  rw[if_neg h0,if_neg h] at hd;exact⟨_,yf (f:=pz) (by omega) hs (by omega),fun r q ⟨e1,e2⟩=>⟨_,_,_,_,_,_,_,⟨e1,e2⟩,rfl,bY (f,a+n,acc++[((k:Int),s.extract a (a+n),(a:Int))]) ⟨by dsimp only;omega,by dsimp only;omega,by simp;omega,hd⟩ (by dsimp only;omega)⟩⟩
 have rest:∀b:Bool,(b=true->(k=1/\30<n\/k=2/\9<n))->(b=false->¬(k=1/\30<n\/k=2/\9<n))->¬n=0->
   qb b (a:Int) (n:Int) s 0 0 0 ⟨#[]⟩ (acc.map cp).length (acc.map cp) (fun r=>r=.av [.sl ((cV s).1.map cp),.agg (Ia (cV s).2)]) (k:Int) again:=fun b vG hb2 h0=>by
  refine ag.intro (fun h=>?_) fun h=>cut (hb2 h) h0;rw[w2];exact⟨⟨by omega,by omega,by omega⟩,_,vb,_,ow (f:=pz) (by omega) hs,fun r q ⟨e1,e2⟩=>⟨_,_,_,_,_,_,_,_,_,_,_,⟨e1,e2⟩,Yl (vG h) h0 rfl⟩⟩
 refine ag.intro (fun h2=>?_) fun h2=>?_
 ·have h2:n=0:=by have:=eq_of_beq h2;omega
  rw[if_pos h2] at hd;refine⟨⟨by omega,by omega⟩,_,zK,_,ow (f:=pz) (by omega) hs,fun r q ⟨e1,e2⟩=>⟨_,_,_,_,_,_,_,_,_,_,_,⟨e1,e2⟩,?_⟩⟩;rw[hd];rfl
 have h0:¬n=0:=fun e=>by subst e;cases h2
 refine ag.intro (fun h3=>ag.intro (fun h4=>?_) fun h4=>ag.intro (fun h5=>?_) fun h5=>?_) fun h3=>ag.intro (fun h5=>?_) fun h5=>?_
 ·have h3:k=1:=by have:=eq_of_beq h3;omega
  have h4':30<n:=by have:=of_decide_eq_true h4;omega
  rw[h4];exact rest _ (fun _=>.inl ⟨h3,h4'⟩) (fun h=>by cases h) h0
 ·have h3:k=1:=by have:=eq_of_beq h3;omega
  have h5:k=2:=by have:=eq_of_beq h5;omega
  omega
 ·have h3:k=1:=by have:=eq_of_beq h3;omega
  have h4:¬30<n:=by have:=of_decide_eq_false h4;omega
  exact cut (by omega) h0
 ·have h5:k=2:=by have:=eq_of_beq h5;omega
  exact rest _ (fun h=>.inr ⟨h5,by have:=of_decide_eq_true h;omega⟩) (fun h=>by have:=of_decide_eq_false h;omega) h0
 ·have h3:¬k=1:=fun e=>by subst e;cases h3
  have h5:¬k=2:=fun e=>by subst e;cases h5
  exact cut (by omega) h0
theorem yh {w:ByteArray}:gy w (⟨#[]⟩:ByteArray)=decide (w.size=0):=by
 rw[eG]
 by_cases h:w.size=0
 ·rw[decide_eq_true h,decide_eq_true (kW (alS (by rw[bU];exact h)))]
 ·rw[decide_eq_false h,decide_eq_false (fun e=>h (by rw[e];rfl))]
section
abbrev St:=Nat×Fa
structure PE (L:List Tk) (s:ByteArray):Prop where
 len:L.length<=1000000
 size:s.size<=1000000000
 at_:∀t∈L,0<=t.2.2/\t.2.2<=(s.size:Int)
 kind:∀t∈L,t.1≠4
abbrev RO (L:List Tk) (s:ByteArray) (i:Nat):List ab:=gJ (L.map cp) s (i:Int)
abbrev PO (L:List Tk) (s:ByteArray) (o:Int) (st:St):List ab:=aP (L.map cp) s (st.1:Int) o st.2.1 st.2.2.1 st.2.2.2.1 st.2.2.2.2
abbrev PQ (L:List Tk) (s:ByteArray) (o:Int) (st:St):List ab:=sF (L.map cp) s (st.1:Int) o st.2.1 st.2.2.1 st.2.2.2.1 st.2.2.2.2
def Vx (s:ByteArray):Tk:=(4,⟨#[]⟩,(s.size:Int))
def pk (L:List Tk) (s:ByteArray) (i:Nat):Tk:=L.getD i (Vx s)
def ud (st:St):Bool:=st.2.1==0
def jI (L:List Tk) (s:ByteArray) (c:Int) (st:St):St:=if ud st=true then(st.1,Ib s c (pk L s st.1).2.2.toNat (AF (pk L s st.1).2.1)) else st
def C0 (w:ByteArray) (t:Tk):Bool:=(t.1==1||t.1==3)&&decide (t.2.1=w)
def dn (L:List Tk) (s w:ByteArray) (st:St):Bool×St:=if(ud st&&C0 w (pk L s st.1))=true then(true,(st.1+1,st.2)) else(false,st)
def dD (L:List Tk) (s w:ByteArray) (st:St):St:=if ud st=true then(if C0 w (pk L s st.1)=true then(st.1+1,st.2) else jI L s 3 st) else st
def oz (L:List Tk) (s:ByteArray) (k:Int) (st:St):Tk×St:=if ud st=true then(if(pk L s st.1).1=k then(pk L s st.1,(st.1+1,st.2)) else((0,⟨#[]⟩,0),jI L s 3 st)) else((0,⟨#[]⟩,0),st)
variable {L:List Tk} {s w:ByteArray} {o:Int} {st:St} {i n:Nat}
theorem WT (h:i<L.length):pk L s i=L[i]:=by simp[pk,List.getD,h]
theorem Kp (h:L.length<=i):pk L s i=Vx s:=by simp[pk,List.getD,h]
theorem adh (h:PE L s):0<=(pk L s i).2.2/\(pk L s i).2.2<=(s.size:Int):=by
 rcases Nat.lt_or_ge i L.length with h1|h1
 ·rw[WT h1];exact h.at_ _ (alH h1)
 ·rw[Kp h1];exact⟨by simp[Vx],Int.le_refl _⟩
theorem yi (h:PE L s) (hk:(pk L s i).1≠4):i<L.length:=by
 rcases Nat.lt_or_ge i L.length with h1|h1
 ·exact h1
 ·rw[Kp h1] at hk;exact(hk rfl).elim
theorem RN (h:C0 w (pk L s i)=true):i<L.length:=by
 rcases Nat.lt_or_ge i L.length with h1|h1
 ·exact h1
 ·rw[Kp h1] at h;simp[C0,Vx] at h
def lV (L:List Tk) (st st':St):Prop:=st.1<=st'.1/\(st.1<=L.length->st'.1<=L.length)
theorem lV.refl:lV L st st:=⟨alp _,id⟩
theorem lV.trans {a b c:St} (h1:lV L a b) (h2:lV L b c):lV L a c:=⟨alT h1.1 h2.1,fun h=>h2.2 (h1.2 h)⟩
theorem lV.succ (h:st.1<L.length) {f:Fa}:lV L st (st.1+1,f):=⟨by simp,fun _=>by simp;omega⟩
theorem mT {c:Int}:lV L st (jI L s c st):=by
 unfold jI;split
 ·exact⟨alp _,id⟩
 ·exact lV.refl
theorem fp:lV L st (dn L s w st).2:=by
 unfold dn;split
 ·rename_i h;rw[aln] at h;exact lV.succ (RN h.2)
 ·exact lV.refl
theorem cM:lV L st (dD L s w st):=by
 unfold dD;split
 ·split
  ·rename_i h;exact lV.succ (RN h)
  ·exact mT
 ·exact lV.refl
theorem yj (h:PE L s) {k:Int} (hk:k≠4):lV L st (oz L s k st).2:=by
 unfold oz;split
 ·split
  ·rename_i h1;exact lV.succ (yi h (by rw[h1];exact hk))
  ·exact mT
 ·exact lV.refl
theorem cN (h:PE L s) (hi:i<=L.length):aG Tryz.prog 85 [.ptr 0 0,nI 0] (RO L s i) (fun r q=>r=cp (pk L s i)/\q=RO L s i):=by
 have:=h.len;have hw:IntKind.wrap .i64 (((L.length:Nat):Int)-(i:Int))=(L.length:Int)-i:=aT (by omega) (by omega);have hw2:IntKind.wrap .i64 ((i:Int)+0)=(i:Int):=by rw[Int.add_zero,aT (by omega) (by omega)]
 refine UK (ag.neg rfl ?_);rw[alm];refine ag.intro (fun h1=>?_) fun h1=>?_
 ·have h1:=of_decide_eq_true h1;rw[hw] at h1;rw[Kp (by omega)];exact⟨rfl,rfl⟩
 ·have h1:=of_decide_eq_false h1;rw[hw] at h1;have aq:i<L.length:=by omega
  rw[hw2];exact⟨by omega,by omega,_,_,_,getD_map aq,by rw[WT aq];rfl,rfl⟩
theorem vc (h:PE L s) (hi:i<=L.length):aG Tryz.prog 140 [.ptr 0 0] (RO L s i) (fun r q=>r=cp (pk L s i)/\q=RO L s (if i<L.length then i+1 else i)):=by
 have:=h.len;refine Py ⟨_,cN h hi,fun r q ⟨e1,e2⟩=>⟨_,_,_,_,_,_,⟨e1,e2⟩,?_⟩⟩;rw[alm];refine ag.intro (fun h1=>⟨rfl,?_⟩) fun h1=>⟨rfl,?_⟩
 ·rw[if_pos (by have:=of_decide_eq_true h1;omega),aV (by omega)]
 ·rw[if_neg (by have:=of_decide_eq_false h1;omega)]
theorem yk (h:PE L s) (hi:i<=L.length):aG Tryz.prog 220 [.ptr 0 0,.clip [nS w]] (RO L s i) (fun r q=>r=nB (C0 w (pk L s i))/\q=RO L s (if C0 w (pk L s i)=true then i+1 else i)):=by
 have:=h.len;refine aG.JI (ys:=[.ptr 0 0,.sl [nS w]]) ⟨aB.refl _,fk _,True.intro⟩ ?_;refine PB ?_;refine ay.intro (fun k:Nat=>(((),[nS w],[nS w],1,(k:Int),()),((L.map cp,s,(i:Int),()),()))) (fun k=>k=0\/k=1/\C0 w (pk L s i)=true) (fun k=>1-k) 0 rfl (.inl rfl) ?_;intro k hk again bY;dsimp only;rcases hk with rfl|⟨rfl,hk⟩
 ·refine ag.pos rfl ⟨by decide,by show (0:Int)<1;decide,_,rfl,_,cN h hi,fun r q ⟨e1,e2⟩=>⟨_,_,_,_,_,_,⟨e1,e2⟩,?_⟩⟩;rw[eG];have fin:(pk L s i).1=1\/(pk L s i).1=3->ag (!(decide ((pk L s i).2.1=w))) (nB false=nB (C0 w (pk L s i))/\RO L s i=RO L s (if C0 w (pk L s i)=true then i+1 else i)) (again (((),[nS w],[nS w],1,IntKind.wrap .i64 (((0:Nat):Int)+1),()),((L.map cp,s,(i:Int),()),()))):=fun hk=>by
   have hk:((pk L s i).1==1||(pk L s i).1==3)=true:=by simpa using hk
   refine ag.intro (fun h1=>?_) fun h1=>?_
   ·have:C0 w (pk L s i)=false:=by rw[C0,hk];simpa using h1
    rw[this];exact⟨rfl,rfl⟩
   ·refine bY 1 (.inr ⟨rfl,?_⟩) (by decide);rw[C0,hk];simpa using h1
  refine ag.intro (fun h1=>ag.intro (fun h2=>?_) fun h2=>fin (.inr (by simpa using h2))) fun h1=>fin (.inl (by simpa using h1));have:C0 w (pk L s i)=false:=by
   have h1:¬(pk L s i).1=1:=by simpa using h1
   have h2:¬(pk L s i).1=3:=by simpa using h2
   simp[C0,h1,h2]
  rw[this];exact⟨rfl,rfl⟩
 ·refine ag.neg rfl ⟨by rw[hk],?_⟩;have e:IntKind.wrap .i64 ((i:Int)+1)=((i+1:Nat):Int):=aV (by omega);show gJ _ _ (IntKind.wrap .i64 ((i:Int)+1))=_;rw[if_pos hk,e]
theorem Cd (h:PE L s) (hi:i<=L.length):aG Tryz.prog 217 [.ptr 0 0] (RO L s i) (fun r q=>r=yb s (pk L s i).2.2.toNat/\q=RO L s i):=by
 have ha:=adh (i:=i) h;have hp:af Tryz.prog 210 [nS s,nI (pk L s i).2.2] (.av [yb s (pk L s i).2.2.toNat,nI 0]):=by
  have:=lU (s:=s) (i:=(pk L s i).2.2.toNat) (by omega) h.size
  rwa [show (((pk L s i).2.2.toNat:Nat):Int)=(pk L s i).2.2 by omega] at this
 have key:sI (L.map cp) s (i:Int) (fun r q=>r=yb s (pk L s i).2.2.toNat/\q=RO L s i):=
  ⟨_,cN h hi,fun r q ⟨e1,e2⟩=>⟨_,_,_,_,_,_,⟨e1,e2⟩,_,_,_,hp,ag.pos rfl ⟨rfl,rfl⟩⟩⟩
 have adj:rr (L.map cp) s (i:Int) (fun r q=>r=yb s (pk L s i).2.2.toNat/\q=RO L s i):=
  ⟨_,cN h hi,fun r q ⟨e1,e2⟩=>⟨_,_,_,_,_,_,⟨e1,e2⟩,_,_,_,hp,ag.pos rfl ⟨rfl,rfl⟩⟩⟩
 exact PC ⟨⟨key,key⟩,adj,key,adj⟩
theorem Ft (h:PE L s) (hi:i<=L.length) {c:Int}:aG Tryz.prog 138 [.ptr 0 0,nI c] (RO L s i) (fun r q=>r=.agg (Ia (Ib s c (pk L s i).2.2.toNat (AF (pk L s i).2.1)))/\q=RO L s i):=
 PD ⟨_,Cd h hi,fun r q ⟨e1,e2⟩=>⟨_,_,_,_,_,⟨e1,e2⟩,_,cN h hi,fun r q ⟨e1,e2⟩=>⟨_,_,_,_,_,_,⟨e1,e2⟩,_,vb,rfl,rfl⟩⟩⟩
theorem bK:aG Tryz.prog 84 [.ptr 1 0] (PO L s o st) (fun r q=>r=nB (ud st)/\q=PO L s o st):=UM ⟨rfl,rfl⟩
theorem eO (h:PE L s) (hi:st.1<=L.length) {c:Int}:aG Tryz.prog 86 [.ptr 1 0,nI c] (PO L s o st) (fun r q=>r=.av []/\q=PO L s o (jI L s c st)):=by
 refine UL ⟨_,bK,fun r q ⟨e1,e2⟩=>⟨_,_,_,_,_,_,_,_,_,⟨e1,e2⟩,ag.intro (fun h1=>⟨_,Ft h hi,fun r q ⟨e1,e2⟩=>⟨_,_,_,_,_,_,_,⟨e1,e2⟩,rfl,?_⟩⟩) fun h1=>⟨rfl,?_⟩⟩⟩
 ·rw[jI,if_pos h1]
 ·rw[jI,if_neg (by rw[h1];decide)]
theorem jo (h:PE L s) (hi:st.1<=L.length):aG Tryz.prog 190 [.ptr 1 0,nS w] (PO L s o st) (fun r q=>r=nB (dn L s w st).1/\q=PO L s o (dn L s w st).2):=by
 refine PU ⟨_,bK,fun r q ⟨e1,e2⟩=>⟨_,_,_,_,_,_,_,_,_,⟨e1,e2⟩,ag.intro (fun h1=>⟨_,yk h hi,fun r q ⟨e1,e2⟩=>⟨_,_,_,_,⟨e1,e2⟩,?_,?_⟩⟩) fun h1=>⟨?_,?_⟩⟩⟩
 ·rw[dn,h1,al2];split<;>simp_all
 ·rw[dn,h1,al2];split<;>rfl
 ·rw[dn,h1];rfl
 ·rw[dn,h1];rfl
theorem dW (h:PE L s) (hi:st.1<=L.length):aG Tryz.prog 148 [.ptr 1 0,nS w] (PO L s o st) (fun r q=>r=.av []/\q=PO L s o (dD L s w st)):=by
 refine PV ⟨_,bK,fun r q ⟨e1,e2⟩=>⟨_,_,_,_,_,_,_,_,_,⟨e1,e2⟩,ag.intro (fun h1=>⟨_,yk h hi,fun r q ⟨e1,e2⟩=>⟨_,_,_,_,⟨e1,e2⟩,?_⟩⟩) fun h1=>⟨rfl,?_⟩⟩⟩
 ·cases ht:C0 w (pk L s st.1)
  ·refine ag.pos rfl ⟨_,eO (st:=st) h hi,fun r q ⟨e1,e2⟩=>⟨_,_,_,_,_,_,_,_,⟨e1,e2⟩,rfl,?_⟩⟩;rw[dD,if_pos h1,ht];rfl
  ·refine ag.neg rfl ⟨rfl,?_⟩;rw[dD,if_pos h1,ht];rfl
 ·rw[dD,if_neg (by rw[h1];decide)]
theorem s6 {c:Int} (hc:c≠0) (h:ud st=true):ud (jI L s c st)=false:=by
 rw[jI,if_pos h];simp[ud,Ib,hc]
theorem nP (h:PE L s) (hi:st.1<=L.length) {k:Int} (hk:k≠4):aG Tryz.prog 218 [.ptr 1 0,nI k] (PO L s o st) (fun r q=>r=cp (oz L s k st).1/\q=PO L s o (oz L s k st).2):=by
 have bad:∀{st1:St} {R:AV->List ab->Prop},ud st1=false->R (.agg [nI 0,nS ⟨#[]⟩,nI 0]) (PO L s o st1)->sN (L.map cp) s (st1.1:Int) o st1.2.1 st1.2.2.1 st1.2.2.2.1 st1.2.2.2.2 R:=fun h1 hR=>
  ⟨_,bK,fun r q ⟨e1,e2⟩=>⟨_,_,_,_,_,_,_,_,_,⟨e1,e2⟩,ag.pos (by rw[h1];rfl) hR⟩⟩
 refine PW ⟨_,bK,fun r q ⟨e1,e2⟩=>⟨_,_,_,_,_,_,_,_,_,⟨e1,e2⟩,ag.intro (fun h1=>⟨_,cN h hi,fun r q ⟨e1,e2⟩=>⟨_,_,_,_,_,_,⟨e1,e2⟩,ag.intro (fun h2=>?_) fun h2=>?_⟩⟩) fun h1=>?_⟩⟩
 ·have h2:¬(pk L s st.1).1=k:=by simpa using h2
  refine⟨_,eO (st:=st) h hi,fun r q ⟨e1,e2⟩=>⟨_,_,_,_,_,_,_,_,⟨e1,e2⟩,bad (s6 (by decide) h1) ?_⟩⟩;rw[oz,if_pos h1,if_neg h2];exact⟨rfl,rfl⟩
 ·have h2:(pk L s st.1).1=k:=by simpa using h2
  have aq:=yi (L:=L) (s:=s) (i:=st.1) h (by rw[h2];exact hk);refine⟨_,bK (st:=st),fun r q ⟨e1,e2⟩=>⟨_,_,_,_,_,_,_,_,_,⟨e1,e2⟩,ag.neg (by rw[h1];rfl) ⟨_,vc h hi,fun r q ⟨e1,e2⟩=>⟨_,_,_,_,_,_,⟨e1,e2⟩,?_,?_⟩⟩⟩⟩
  ·rw[oz,if_pos h1,if_pos h2];rfl
  ·rw[oz,if_pos h1,if_pos h2,if_pos aq]
 ·refine bad (st1:=st) h1 ?_;rw[oz,if_neg (by rw[h1];decide)];exact⟨rfl,rfl⟩
def bC (L:List Tk) (s:ByteArray) (st:St):ByteArray×St:=((oz L s 1 st).1.2.1,(oz L s 1 st).2)
theorem cq (h:PE L s):lV L st (bC L s st).2:=yj h (by decide)
theorem cW (h:PE L s) (hi:st.1<=L.length):aG Tryz.prog 145 [.ptr 1 0] (PO L s o st) (fun r q=>r=nS (bC L s st).1/\q=PO L s o (bC L s st).2):=
 PX ⟨_,nP h hi (by decide),fun r q ⟨e1,e2⟩=>⟨_,_,_,_,_,_,_,_,_,_,_,⟨e1,e2⟩,rfl,rfl⟩⟩
def LL:Int->List Int->Int
 |n,[]=>n
 |n,c::l=>LL (10*n+(c-48)) l
def RP (t:Tk):Int:=if t.1=2/\t.2.1.size≠0/\t.2.1.size<=9/\py (ak t.2.1)=t.2.1.size then LL 0 (ak t.2.1) else 0
theorem RQ (s:ByteArray):iB s=(ak s).map fun c=>.ae (.int .u8 c):=by simp[iB,ak]
theorem RR {l:List Int} (h:py l=l.length):∀c∈l,48<=c/\c<=57:=by
 induction l with
 |nil=>simp
 |cons c l ih=>
  rw[qd,als] at h;split at h
  ·rename_i hc;intro d hd;rcases alW.1 hd with rfl|hd
   ·simpa [isDigit] using hc
   ·exact ih (by omega) d hd
  ·omega
theorem Fu {t:Tk}:af Tryz.prog 219 [cp t] (.av [nI (RP t),nI (if t.1=2/\t.2.1.size≠0/\t.2.1.size<=9/\py (ak t.2.1)=t.2.1.size then 0 else 1)]):=by
 have hl:=bU t.2.1;have no:¬(t.1=2/\t.2.1.size≠0/\t.2.1.size<=9/\py (ak t.2.1)=t.2.1.size)->AV.av [nI 0,nI 1]=.av [nI (RP t),nI (if t.1=2/\t.2.1.size≠0/\t.2.1.size<=9/\py (ak t.2.1)=t.2.1.size then 0 else 1)]:=fun h=>by rw[RP,if_neg h,if_neg h]
 refine PT (ag.intro (fun h1=>no fun c=>?_) fun h1=>ag.intro (fun h2=>no fun c=>?_) fun h2=>ag.intro (fun h3=>no fun c=>?_) fun h3=>?_)
 ·rw[c.1] at h1;cases h1
 ·rw[yh] at h2;exact c.2.1 (of_decide_eq_true h2)
 ·have:=of_decide_eq_true h3;omega
 have h1:t.1=2:=by simpa using h1
 have h2:¬t.2.1.size=0:=by rw[yh] at h2;exact of_decide_eq_false h2
 have h3:t.2.1.size<=9:=by have:=of_decide_eq_false h3;omega
 refine⟨_,ye (by omega),ag.intro (fun h4=>no fun c=>?_) fun h4=>⟨by omega,?_⟩⟩
 ·rw[c.2.2.2] at h4;simp at h4
 have h4:py (ak t.2.1)=t.2.1.size:=by
  have:((py (ak t.2.1):Nat):Int)=(t.2.1.size:Int):=by simpa using h4
  omega
 have G3:=RR (by rw[hl];exact h4);rw[RQ,alm,hl];refine ay.intro (fun p:Nat×Int=>((p.2,(ak t.2.1).map (fun c=>.ae (.int .u8 c)),((t.2.1.size:Nat):Int),(p.1:Int),()),((t.1,t.2.1,t.2.2,()),()))) (fun p=>p.1<=t.2.1.size/\LL 0 (ak t.2.1)=LL p.2 ((ak t.2.1).drop p.1)/\0<=p.2/\p.2<(10 ^ p.1:Nat)) (fun p=>t.2.1.size-p.1) (0,0) rfl ⟨aly _,rfl,Int.le_refl _,by decide⟩ ?_;intro ⟨k,n⟩ ⟨hk,hd,nk,Tz⟩ again bY;dsimp only at hk hd nk Tz ⊢;refine ag.intro (fun h=>?_) fun h=>?_
 ·have aq:k<t.2.1.size:=by have:=of_decide_eq_true h;omega
  have tP:k<(ak t.2.1).length:=by omega
  have hc:=G3 _ (alH tP);rw[alw tP,LL] at hd;have hp:(10 ^ k:Nat)<=10 ^ 8:=Nat.pow_le_pow_right (by decide) (by omega);have hp9:(10 ^ 8:Nat)=100000000:=by decide
  have hw:IntKind.wrap .u8 ((ak t.2.1)[k]-48)=(ak t.2.1)[k]-48:=by
   have key:∀d:Fin 10,IntKind.wrap .u8 ((d.val:Nat):Int)=((d.val:Nat):Int):=by decide
   have:=key ⟨((ak t.2.1)[k]-48).toNat,by omega⟩
   rwa [show ((((ak t.2.1)[k]-48).toNat:Nat):Int)=(ak t.2.1)[k]-48 by omega] at this
  refine⟨by omega,by rw[alm];omega,_,getD_map tP,?_⟩;rw[hw,aT (n:=10*n) (by omega) (by omega),aT (n:=(ak t.2.1)[k]-48) (by omega) (by omega),aT (by omega) (by omega),aV (by omega)];refine bY (k+1,_) ⟨by dsimp only;omega,hd,by dsimp only;omega,?_⟩ (by dsimp only;omega);dsimp only;have:(10 ^ (k+1):Nat)=10*10 ^ k:=by rw[Nat.pow_succ];omega
  rw[this];omega
 ·have je:t.2.1.size<=k:=by have:=of_decide_eq_false h;omega
  rw[alC (by omega),LL] at hd;rw[RP,if_pos ⟨h1,h2,h3,h4⟩,if_pos ⟨h1,h2,h3,h4⟩,hd]
def Ic (L:List Tk) (s:ByteArray) (st:St):Int×St:=(RP (oz L s 2 st).1,(oz L s 2 st).2)
theorem yl (h:PE L s):lV L st (Ic L s st).2:=yj h (by decide)
theorem ym (h:PE L s) (hi:st.1<=L.length):aG Tryz.prog 147 [.ptr 1 0] (PO L s o st) (fun r q=>r=nI (Ic L s st).1/\q=PO L s o (Ic L s st).2):=
 P3 ⟨_,nP h hi (by decide),fun r q ⟨e1,e2⟩=>⟨_,_,_,_,_,_,_,_,_,_,_,⟨e1,e2⟩,_,_,Fu,rfl,rfl⟩⟩
def vd (L:List Tk) (s:ByteArray) (st:St):Bool:=ud st&&((pk L s st.1).1==1||((pk L s st.1).1==3&&decide ((pk L s st.1).2.1=(⟨#[40]⟩:ByteArray))))
theorem Fv (h:PE L s) (hi:st.1<=L.length):aG Tryz.prog 201 [.ptr 1 0] (PO L s o st) (fun r q=>r=nB (vd L s st)/\q=PO L s o st):=by
 refine P9 ⟨_,cN h hi,fun r q ⟨e1,e2⟩=>⟨_,_,_,_,_,_,⟨e1,e2⟩,_,bK (st:=st),fun r q ⟨e1,e2⟩=>⟨_,_,_,_,_,_,_,_,_,⟨e1,e2⟩,ag.intro (fun h1=>ag.intro (fun h2=>⟨?_,rfl⟩) fun h2=>ag.intro (fun h3=>⟨?_,rfl⟩) fun h3=>⟨?_,rfl⟩) fun h1=>⟨?_,rfl⟩⟩⟩⟩
 ·rw[vd,h1,h2];rfl
 ·rw[vd,h1,h2,h3,eG];rfl
 ·rw[vd,h1,h2,h3];rfl
 ·rw[vd,h1];rfl
end
inductive Rw where
 |mk (kind:Int) (type:Ty) (index:Int) (kids:List Rw)
mutual
def Rw.enc:Rw->AV
 | .mk k t i l=>.agg [nI k,.sl (t.args.map Ty.enc),nI t.base,nI i,.sl (Rw.nK l)]
def Rw.nK:List Rw->List AV
 | []=>[]
 |t::l=>Rw.enc t::Rw.nK l
end
mutual
def Rw.total:Rw->Nat
 | .mk _ t _ l=>1+t.size+Rw.dL l
def Rw.dL:List Rw->Nat
 | []=>0
 |t::l=>Rw.total t+Rw.dL l
end
mutual
def Rw.size:Rw->Nat
 | .mk _ _ _ l=>1+Rw.sizes l
def Rw.sizes:List Rw->Nat
 | []=>0
 |t::l=>Rw.size t+Rw.sizes l
end
def Rw.kind:Rw->Int | .mk k _ _ _=>k
def Rw.type:Rw->Ty | .mk _ t _ _=>t
def Rw.index:Rw->Int | .mk _ _ i _=>i
def Rw.kids:Rw->List Rw | .mk _ _ _ l=>l
theorem Rw.B2 (k:Int) (t:Ty) (i:Int) (l:List Rw):(Rw.mk k t i l).kind=k:=rfl
theorem Rw.Vy (k:Int) (t:Ty) (i:Int) (l:List Rw):(Rw.mk k t i l).type=t:=rfl
theorem Rw.xZ (k:Int) (t:Ty) (i:Int) (l:List Rw):(Rw.mk k t i l).index=i:=rfl
theorem Rw.Ce (k:Int) (t:Ty) (i:Int) (l:List Rw):(Rw.mk k t i l).kids=l:=rfl
theorem Rw.nL (l:List Rw):Rw.nK l=l.map Rw.enc:=by
 induction l with
 |nil=>rfl
 |cons t l ih=>simp[Rw.nK,ih]
theorem Rw.ax (r:Rw):r.enc=.agg [nI r.kind,.sl (r.type.args.map Ty.enc),nI r.type.base,nI r.index,.sl (r.kids.map Rw.enc)]:=by cases r;simp[Rw.enc,Rw.nL,Rw.kind,Rw.type,Rw.index,Rw.kids]
theorem Rw.bb {l:List Rw} {k:Nat} (h:k<l.length):List.getD (l.map Rw.enc) (Int.toNat (k:Int)) .top=.agg [nI l[k].kind,.sl (l[k].type.args.map Ty.enc),nI l[k].type.base,nI l[k].index,.sl (l[k].kids.map Rw.enc)]:=by rw[getD_map h,Rw.ax]
theorem Rw.kZ (r:Rw):r.total=1+r.type.size+Rw.dL r.kids:=by cases r;rfl
theorem Rw.gG (r:Rw):2<=r.total:=by have:=r.type.size_pos;rw[r.kZ];omega
theorem Rw.ry (l:List Rw):l.length<=Rw.dL l:=by
 induction l with
 |nil=>simp[Rw.dL]
 |cons t l ih=>have:=t.gG;simp[Rw.dL];omega
theorem Rw.Ie {l:List Rw} {t:Rw} (h:t∈l):t.total<=Rw.dL l:=by
 induction l with
 |nil=>cases h
 |cons u l ih=>
  simp only[Rw.dL];rcases alW.1 h with rfl|h1
  ·omega
  ·have:=ih h1;omega
theorem Rw.ue {t:Rw} {k:Nat} (h:k<t.kids.length):t.kids[k].total<t.total:=by
 have:=Rw.Ie (alH h);rw[t.kZ];omega
theorem Rw.size_eq (r:Rw):r.size=1+Rw.sizes r.kids:=by cases r;rfl
theorem Rw.bE (l m:List Rw):Rw.sizes (l++m)=Rw.sizes l+Rw.sizes m:=by
 induction l with
 |nil=>simp[Rw.sizes]
 |cons t l ih=>simp[Rw.sizes,ih];omega
mutual
theorem Rw.size_le:∀(r:Rw),r.size<=r.total
 | .mk k t i l=>by have:=Rw.yn l;simp only[Rw.size,Rw.total];omega
theorem Rw.yn:∀(l:List Rw),Rw.sizes l<=Rw.dL l
 | []=>alp _
 |t::l=>by have:=Rw.size_le t;have:=Rw.yn l;simp only[Rw.sizes,Rw.dL];omega
end
theorem mU {t:Ty} (h:t.size<=900000000):af Tryz.prog 55 [.agg [.sl (t.args.map Ty.enc),nI t.base],.sl []] (.agg [.sl (t.args.map Ty.enc),nI t.base]):=by
 have:=jn (t:=t) (l:=[]) (by simp only[Ty.sizes];omega);rw[Ty.arrow,amw,Ty.eta,Ty.ax] at this;exact this
theorem Rw.Ig {l:List Rw} {k:Nat} (h:k<l.length):Rw.sizes (l.take (k+1))=Rw.sizes (l.take k)+l[k].size:=by
 rw[<-dh h,Rw.bE];simp[Rw.sizes]
theorem Rw.zL (l:List Rw) (k:Nat):Rw.sizes (l.take k)<=Rw.sizes l:=by
 have e:=Rw.bE (l.take k) (l.drop k);rw[amd] at e;omega
theorem Vz:∀(n:Nat) (t:Rw),t.total<=n->n<=500000000->af Tryz.prog 241 [t.enc] (nI (t.size:Nat)):=by
 intro n
 induction n with
 |zero=>intro t h;have:=t.gG;omega
 |succ n ih=>
  intro t h hn;have hq:=Rw.ry t.kids;have Ff:=t.kZ;have Tw:=Rw.yn t.kids;rw[Rw.ax];refine QH ?_;unfold WK;refine ay.intro (fun k:Nat=>(((),((1+Rw.sizes (t.kids.take k):Nat):Int),(k:Int),()),((t.kind,t.type.args.map Ty.enc,t.type.base,t.index,t.kids.map Rw.enc,()),())))
   (fun k=>k<=t.kids.length) (fun k=>t.kids.length-k) 0 (by simp[Rw.sizes]) (aly _) ?_
  intro k hk again bY;dsimp only;rw[alm];refine ag.intro (fun h=>?_) fun h=>?_
  ·have aq:k<t.kids.length:=by simpa using h
   have hi:=ih t.kids[k] (by have:=Rw.ue aq;omega) (by omega);have hsn:=Rw.Ig aq;have hle:=Rw.zL t.kids (k+1);rw[Rw.ax] at hi;refine⟨by omega,by omega,_,_,_,_,_,Rw.bb aq,_,hi,?_⟩;rw[aV (by omega),aT (n:=((1+Rw.sizes (t.kids.take k):Nat):Int)+(t.kids[k].size:Nat)) (by omega) (by omega),
    show ((1+Rw.sizes (t.kids.take k):Nat):Int)+(t.kids[k].size:Nat)=((1+Rw.sizes (t.kids.take (k+1)):Nat):Int) from by omega]
   exact bY (k+1) (by omega) (by omega)
  ·have:t.kids.length<=k:=by simpa using h
   rw[alI this,<-t.size_eq]
def arity (k:Int):Int:=if k=0\/k=1\/k=2 then 0 else if k=3 then 1 else if k=4 then 2 else -1
theorem Ih (k:Int):af Tryz.prog 261 [nI k] (nI (arity k)):=by
 refine QN ?_;unfold WN arity
 by_cases h0:k=0
 ·subst h0;exact ag.pos rfl (ag.pos rfl rfl)
 refine ag.neg (by simpa using h0) ?_
 by_cases h1:k=1
 ·subst h1;exact ag.pos rfl (ag.pos rfl rfl)
 refine ag.neg (by simpa using h1) ?_
 by_cases h2:k=2
 ·subst h2;exact ag.pos rfl rfl
 refine ag.neg (by simpa using h2) ?_;rw[if_neg (by omega)]
 by_cases h3:k=3
 ·subst h3;exact ag.pos rfl rfl
 refine ag.neg (by simpa using h3) ?_;rw[if_neg h3]
 by_cases h4:k=4
 ·subst h4;exact ag.pos rfl rfl
 refine ag.neg (by simpa using h4) ?_;rw[if_neg h4]
mutual
def Rw.shaped:Rw->Bool
 | .mk k _ _ l=>decide (arity k=l.length)&&Rw.cS l
def Rw.cS:List Rw->Bool
 | []=>true
 |t::l=>Rw.shaped t&&Rw.cS l
end
theorem Rw.uf (t:Rw):Rw.shaped t=(decide (arity t.kind=t.kids.length)&&Rw.cS t.kids):=by cases t;rfl
theorem Rw.nQ {l:List Rw} {k:Nat} (h:k<l.length):Rw.cS (l.drop k)=(Rw.shaped l[k]&&Rw.cS (l.drop (k+1))):=by
 rw[alw h,Rw.cS]
mutual
def Rw.depth:Rw->Nat
 | .mk _ _ _ l=>Rw.ir 0 l+1
def Rw.ir:Nat->List Rw->Nat
 |n,[]=>n
 |n,t::l=>Rw.ir (if Rw.depth t>n then Rw.depth t else n) l
end
theorem Rw.Fw (t:Rw):t.depth=Rw.ir 0 t.kids+1:=by cases t;rfl
theorem Rw.Fx {n:Nat} {l:List Rw} {k:Nat} (h:k<l.length):Rw.ir n (l.drop k)=Rw.ir (if Rw.depth l[k]>n then Rw.depth l[k] else n) (l.drop (k+1)):=by
 rw[alw h,Rw.ir]
mutual
theorem Rw.Fy:∀(t:Rw),t.depth<=t.total
 | .mk k t i l=>by have:=Rw.AG 0 l;simp only[Rw.depth,Rw.total];omega
theorem Rw.AG:∀(n:Nat) (l:List Rw),Rw.ir n l<=n+Rw.dL l
 |n,[]=>by simp[Rw.ir,Rw.dL]
 |n,t::l=>by
  have h1:=Rw.Fy t;have h2:=Rw.AG (if Rw.depth t>n then Rw.depth t else n) l;simp only[Rw.ir,Rw.dL]
  by_cases hc:Rw.depth t>n
  ·rw[if_pos hc] at h2 ⊢;omega
  ·rw[if_neg hc] at h2 ⊢;omega
end
theorem Rw.rz {n m:Nat}:∀{l:List Rw},Rw.ir n l<=m↔n<=m/\∀t∈l,t.depth<=m
 | []=>by simp[Rw.ir]
 |t::l=>by
  rw[Rw.ir,Rw.rz (l:=l)];simp only[alW,forall_eq_or_imp]
  split<;>constructor
  ·rintro⟨h1,h2⟩;exact⟨by omega,h1,h2⟩
  ·rintro⟨h1,h2,h3⟩;exact⟨h2,h3⟩
  ·rintro⟨h1,h2⟩;exact⟨h1,by omega,h2⟩
  ·rintro⟨h1,h2,h3⟩;exact⟨h1,h3⟩
theorem WU:∀(n:Nat) (t:Rw),t.total<=n->n<=500000000->af Tryz.prog 242 [t.enc] (nI (t.depth:Nat)):=by
 intro n
 induction n with
 |zero=>intro t h;have:=t.gG;omega
 |succ n ih=>
  intro t h hn;have hq:=Rw.ry t.kids;have Ff:=t.kZ;rw[Rw.ax,Rw.Fw];refine QM ?_;unfold WM;refine ay.intro (fun p:Nat×Nat=>(((),(p.2:Int),(p.1:Int),()),((t.kind,t.type.args.map Ty.enc,t.type.base,t.index,t.kids.map Rw.enc,()),())))
   (fun p=>p.1<=t.kids.length/\p.2<=500000000/\Rw.ir 0 t.kids=Rw.ir p.2 (t.kids.drop p.1)) (fun p=>t.kids.length-p.1) (0,0) rfl ⟨aly _,by dsimp only;omega,rfl⟩ ?_
  intro ⟨k,m⟩ ⟨hk,hm,hs⟩ again bY;dsimp only at hk hm hs ⊢;rw[alm];refine ag.intro (fun h=>?_) fun h=>?_
  ·have aq:k<t.kids.length:=by simpa using h
   have hz:=Rw.ue aq;have hd:=Rw.Fy t.kids[k];have hi:=ih t.kids[k] (by omega) (by omega);rw[Rw.ax] at hi;rw[Rw.Fx aq] at hs;refine⟨by omega,by omega,_,_,_,_,_,Rw.bb aq,_,hi,ag.intro (fun h=>?_) fun h=>?_⟩
   ·have h':t.kids[k].depth>m:=by simpa using h
    rw[if_pos h'] at hs;rw[aV (by omega)];exact bY (k+1,t.kids[k].depth) ⟨by dsimp only;omega,by dsimp only;omega,hs⟩ (by dsimp only;omega)
   ·have h':¬t.kids[k].depth>m:=by simpa using h
    rw[if_neg h'] at hs;rw[aV (by omega)];exact bY (k+1,m) ⟨by dsimp only;omega,hm,hs⟩ (by dsimp only;omega)
  ·have:t.kids.length<=k:=by simpa using h
   rw[alC this] at hs;rw[aV (by omega),hs];rfl
def Rw.cy (t:Rw):Bool:=t.shaped&&(decide (t.size<=5000)&&decide (t.depth<=60))
mutual
def Rw.sound (d left:Int):Rw->Bool×Int
 | .mk k _ _ l=>if left-1<0\/d>60\/¬arity k=l.length then(false,left-1) else Rw.fO (d+1) (left-1) l
def Rw.fO (d left:Int):List Rw->Bool×Int
 | []=>(true,left)
 |t::l=>if(Rw.sound d left t).1=true then Rw.fO d (Rw.sound d left t).2 l else(false,(Rw.sound d left t).2)
end
theorem Rw.RS (d left:Int) (t:Rw):Rw.sound d left t=if left-1<0\/d>60\/¬arity t.kind=t.kids.length then(false,left-1) else Rw.fO (d+1) (left-1) t.kids:=by cases t;rfl
theorem Rw.Fz {d left:Int} {l:List Rw} {k:Nat} (h:k<l.length):Rw.fO d left (l.drop k)=if(Rw.sound d left l[k]).1=true then Rw.fO d (Rw.sound d left l[k]).2 (l.drop (k+1)) else(false,(Rw.sound d left l[k]).2):=by
 rw[alw h,Rw.fO]
mutual
theorem Rw.yo:∀(t:Rw) (d left:Nat),1<=d->d<=61->((Rw.sound d left t).1=true↔(t.shaped=true/\t.size<=left/\t.depth+d<=61))/\((Rw.sound d left t).1=true->(Rw.sound d left t).2=(left:Int)-t.size) /\ -1<=(Rw.sound d left t).2/\(Rw.sound d left t).2<=left
 | .mk k ty i l,d,left,hd,KZ=>by
  rw[Rw.sound,Rw.shaped,Rw.size,Rw.depth]
  by_cases hc:(left:Int)-1<0\/(d:Int)>60\/¬arity k=l.length
  ·rw[if_pos hc];refine⟨⟨fun h=>(by cases h),fun⟨h1,h2,h3⟩=>?_⟩,fun h=>(by cases h),by dsimp only;omega,by dsimp only;omega⟩;rw[aln,decide_eq_true_eq] at h1;rcases hc with hc|hc|hc
   ·omega
   ·omega
   ·exact(hc h1.1).elim
  ·rw[if_neg hc];simp only[not_or,Int.not_lt,amM] at hc;obtain⟨c1,c2,c3⟩:=hc;have e1:(left:Int)-1=((left-1:Nat):Int):=by omega
   have e2:(d:Int)+1=((d+1:Nat):Int):=by omega
   rw[e1,e2];obtain⟨g1,g2,g3,g4⟩:=Rw.AH l (d+1) (left-1) (by omega) (by omega);refine⟨?_,?_,g3,by omega⟩
   ·rw[g1,c3];simp only[decide_true,al2];have:=Rw.rz (n:=0) (m:=60-d) (l:=l);constructor
    ·rintro⟨h1,h2,h3⟩
     refine⟨h1,by omega,?_⟩;have:=this.2 ⟨aly _,fun t ht=>by have:=h3 t ht;omega⟩;omega
    ·rintro⟨h1,h2,h3⟩
     exact⟨h1,by omega,fun t ht=>by have:=(this.1 (by omega)).2 t ht;omega⟩
   ·intro h;rw[g2 h];omega
theorem Rw.AH:∀(l:List Rw) (d left:Nat),1<=d->d<=61->((Rw.fO d left l).1=true↔(Rw.cS l=true/\Rw.sizes l<=left/\∀t∈l,t.depth+d<=61))/\((Rw.fO d left l).1=true->(Rw.fO d left l).2=(left:Int)-Rw.sizes l) /\ -1<=(Rw.fO d left l).2/\(Rw.fO d left l).2<=left
 | [],d,left,_,_=>by
  refine⟨⟨fun _=>⟨rfl,aly _,fun t ht=>(by cases ht)⟩,fun _=>rfl⟩,fun _=>?_,?_,?_⟩
  ·simp[Rw.fO,Rw.sizes]
  ·simp only[Rw.fO];omega
  ·simp only[Rw.fO];omega
 |t::l,d,left,hd,KZ=>by
  obtain⟨g1,g2,g3,g4⟩:=Rw.yo t d left hd KZ;rw[Rw.fO,Rw.cS,Rw.sizes]
  by_cases hc:(Rw.sound d left t).1=true
  ·rw[if_pos hc];obtain⟨c1,c2,c3⟩:=g1.1 hc;have e:(Rw.sound d left t).2=((left-t.size:Nat):Int):=by rw[g2 hc];omega
   rw[e];obtain⟨k1,k2,k3,k4⟩:=Rw.AH l d (left-t.size) hd KZ;refine⟨?_,?_,k3,by omega⟩
   ·rw[k1,aln];simp only[alW,forall_eq_or_imp];constructor
    ·rintro⟨h1,h2,h3⟩;exact⟨⟨c1,h1⟩,by omega,c3,h3⟩
    ·rintro⟨⟨_,h1⟩,h2,_,h3⟩;exact⟨h1,by omega,h3⟩
   ·intro h;rw[k2 h];omega
  ·rw[if_neg hc];refine⟨⟨fun h=>(by cases h),fun⟨h1,h2,h3⟩=>(hc (g1.2 ?_)).elim⟩,fun h=>(by cases h),g3,g4⟩;rw[aln] at h1;exact⟨h1.1,by omega,h3 t alD⟩
end
theorem FA:∀(n:Nat) (t:Rw) (d left:Nat) (h0:Int) (h1:List AV) (h2 h3:Int) (h4:List AV),t.total<=n->n<=500000000->1<=d->d<=61->left<=5000->
  aG Tryz.prog 238 [t.enc,nI d,.ptr 1 0] [.box [nI h0,.sl h1,nI h2,nI h3,.sl h4],.box [nI left]] (fun r q=>r=nB (Rw.sound d left t).1/\q=[.box [nI h0,.sl h1,nI h2,nI h3,.sl h4],.box [nI (Rw.sound d left t).2]]):=by
 intro n
 induction n with
 |zero=>intro t d left h0 h1 h2 h3 h4 h;have:=t.gG;omega
 |succ n ih=>
  intro t d left h0 h1 h2 h3 h4 h hn hd KZ hl;have hq:=Rw.ry t.kids;have Ff:=t.kZ;have WV:=Rw.RS d left t;rw[Rw.ax];refine QK ?_;unfold WL;rw[aT (n:=(left:Int)-1) (by omega) (by omega)];refine ag.intro (fun h=>?_) fun h=>?_
  ·have:(left:Int)-1<0:=by simpa using h
   rw[if_pos (.inl this)] at WV;rw[WV];exact⟨rfl,rfl⟩
  have c1:¬(left:Int)-1<0:=by simpa using h
  refine ag.intro (fun h=>?_) fun h=>?_
  ·have:(d:Int)>60:=by simpa using h
   rw[if_pos (.inr (.inl this))] at WV;rw[WV];exact⟨rfl,rfl⟩
  have c2:¬(d:Int)>60:=by simpa using h
  refine⟨_,Ih _,ag.intro (fun h=>?_) fun h=>?_⟩
  ·have:¬arity t.kind=t.kids.length:=by simpa using h
   rw[if_pos (.inr (.inr this))] at WV;rw[WV];exact⟨rfl,rfl⟩
  have c3:arity t.kind=t.kids.length:=by simpa using h
  rw[if_neg (by simp only[not_or,amM];exact⟨c1,c2,c3⟩)] at WV;rw[WV,show (d:Int)+1=((d+1:Nat):Int) from by omega,show (left:Int)-1=((left-1:Nat):Int) from by omega];refine ay.intro (fun p:Nat×Nat=>(((d:Int),(),t.kids.map Rw.enc,(t.kids.length:Int),(p.1:Int),()),((h0,h1,h2,h3,h4,()),((p.2:Int),()),(t.kind,t.type.args.map Ty.enc,t.type.base,t.index,t.kids.map Rw.enc,()),())))
   (fun p=>p.1<=t.kids.length/\p.2<=5000/\Rw.fO ((d+1:Nat):Int) ((left-1:Nat):Int) t.kids=Rw.fO ((d+1:Nat):Int) (p.2:Int) (t.kids.drop p.1)) (fun p=>t.kids.length-p.1) (0,left-1) (by rw[alm];rfl) ⟨aly _,by dsimp only;omega,rfl⟩ ?_
  intro ⟨k,m⟩ ⟨hk,hm,hs⟩ again bY;dsimp only at hk hm hs ⊢;rw[alm];refine ag.intro (fun h=>?_) fun h=>?_
  ·have aq:k<t.kids.length:=by simpa using h
   have hi:=ih t.kids[k] (d+1) m h0 h1 h2 h3 h4 (by have:=Rw.ue aq;omega) (by omega) (by omega) (by omega) hm;obtain⟨g1,g2,g3,g4⟩:=Rw.yo t.kids[k] (d+1) m (by omega) (by omega);rw[Rw.ax] at hi;rw[Rw.Fz aq] at hs;rw[aV (by omega)];refine⟨by omega,by omega,_,_,_,_,_,Rw.bb aq,_,hi,fun r q ⟨hr,hq⟩=>⟨_,_,_,_,_,_,_,⟨hr,hq⟩,ag.intro (fun h=>?_) fun h=>?_⟩⟩
   ·have hf:(Rw.sound ((d+1:Nat):Int) m t.kids[k]).1=false:=by simpa using h
    rw[hf] at hs;simp only[alx,if_false] at hs;rw[hs];exact⟨rfl,rfl⟩
   ·have hf:(Rw.sound ((d+1:Nat):Int) m t.kids[k]).1=true:=by simpa using h
    rw[if_pos hf] at hs;obtain⟨_,k2,_⟩:=g1.1 hf;have e:(Rw.sound ((d+1:Nat):Int) m t.kids[k]).2=((m-t.kids[k].size:Nat):Int):=by rw[g2 hf];omega
    rw[e] at hs ⊢;rw[aV (by omega)];exact bY (k+1,m-t.kids[k].size) ⟨by dsimp only;omega,by dsimp only;omega,hs⟩ (by dsimp only;omega)
  ·have:t.kids.length<=k:=by simpa using h
   rw[alC this] at hs;rw[hs];exact⟨rfl,rfl⟩
theorem FB {t:Rw} (h:t.total<=500000000):af Tryz.prog 204 [t.enc] (nB t.cy):=by
 have h1:=FA _ t 1 5000 t.kind (t.type.args.map Ty.enc) t.type.base t.index (t.kids.map Rw.enc) (alp _) h (by omega) (by omega) (by omega);have e:(Rw.sound ((1:Nat):Int) ((5000:Nat):Int) t).1=t.cy:=by
  have:=(Rw.yo t 1 5000 (by omega) (by omega)).1;rw[amL,this,Rw.cy];simp only[aln,decide_eq_true_eq];constructor
  ·rintro⟨h1,h2,h3⟩;exact⟨h1,h2,by omega⟩
  ·rintro⟨h1,h2,h3⟩;exact⟨h1,h2,by omega⟩
 rw[Rw.ax] at h1 ⊢;refine QF ⟨_,h1,fun r q ⟨hr,hq⟩=>⟨_,_,_,_,_,_,_,⟨hr,hq⟩,?_⟩⟩;rw[e]
mutual
def Ty.pre (d:Nat):Ty->List (Nat×Ty)
 | .mk l b=>(d,.mk l b)::Ty.lW (d+1) l
def Ty.lW (d:Nat):List Ty->List (Nat×Ty)
 | []=>[]
 |t::l=>Ty.pre d t++Ty.lW d l
end
theorem Ty.Ii (d:Nat) (t:Ty):t.pre d=(d,t)::Ty.lW (d+1) t.args:=by cases t;rfl
theorem Ty.ug {d:Nat} {l:List Ty} {k:Nat} (h:k<l.length):Ty.lW d (l.drop k)=l[k].pre d++Ty.lW d (l.drop (k+1)):=by
 rw[alw h,Ty.lW]
mutual
theorem Ty.wv:∀(d:Nat) (t:Ty),(t.pre d).length=t.size
 |d,.mk l b=>by rw[Ty.pre,als,Ty.FC (d+1) l,Ty.size];omega
theorem Ty.FC:∀(d:Nat) (l:List Ty),(Ty.lW d l).length=Ty.sizes l
 |d,[]=>rfl
 |d,t::l=>by rw[Ty.lW,alA,Ty.wv d t,Ty.FC d l,Ty.sizes]
end
def RT (p:Nat×Ty):List AV:=[nI p.1,.agg [.sl (p.2.args.map Ty.enc),nI p.2.base]]
def RU (p:Nat×Ty):Int×(List AV×Int×Unit)×Unit:=(p.1,(p.2.args.map Ty.enc,p.2.base,()),())
theorem FD:∀(n:Nat) (t:Ty) (d:Nat),t.size<=n->d+n<=1000000000->uQ Tryz.prog 178 (fun v=>[.agg [.sl (t.args.map Ty.enc),nI t.base],nI d,v]) ((t.pre d).map RT) true:=by
 intro n
 induction n with
 |zero=>intro t d h;have:=t.size_pos;omega
 |succ n ih=>
  intro t d h hn;have hq:=Ty.aY t.args;have Ff:=t.size_eq;refine Qy fun yv more=>⟨rfl,(Ty.lW (d+1) t.args).map RT++more,by rw[Ty.Ii];rfl,fun b=>ag.intro (fun h=>?_) fun h=>?_⟩
  ·have:b=false:=by simpa using h
   subst this;rfl
  ·have:b=true:=by simpa using h
   subst this;refine ay.intro (fun k:Nat=>((((d:Int),yv,t.args.map Ty.enc,(t.args.length:Int),(k:Int),()),((t.args.map Ty.enc,t.base,()),())),some ((Ty.lW (d+1) (t.args.drop k)).map RT++more))) (fun k=>k<=t.args.length) (fun k=>t.args.length-k) 0 (by rw[alm];rfl) (aly _) ?_;intro k hk again bY;dsimp only;rw[alm];refine ag.intro (fun h=>?_) fun h=>?_
   ·have aq:k<t.args.length:=by simpa using h
    have hi:=ih t.args[k] (d+1) (by have:=Ty.fi aq;omega) (by omega);refine⟨by omega,by omega,_,_,Ty.bb aq,_,_,(Ty.lW (d+1) (t.args.drop (k+1))).map RT++more,?_,hi,?_,fun b=>ag.intro (fun h=>?_) fun h=>?_⟩
    ·rw[aV (by omega)]
    ·rw[Ty.ug aq,ami,al3]
    ·have:b=false:=by simpa using h
     subst this;rfl
    ·have:b=true:=by simpa using h
     subst this;rw[aV (by omega)];exact bY (k+1) (by omega) (by omega)
   ·have:t.args.length<=k:=by simpa using h
    rw[alC this];rfl
theorem Cf {t:Ty} (h:t.size<=500000000):uQ Tryz.prog 177 (fun v=>[v,.aJ (.agg [.sl (t.args.map Ty.enc),nI t.base]) 0]) ((t.pre 1).map RT) false:=
 Qw fun yv more=>⟨_,_,more,rfl,FD _ t 1 (alp _) (by omega),rfl,fun b=>⟨b,rfl⟩⟩
theorem ve (t:Ty):af Tryz.prog 108 [.agg [.sl (t.args.map Ty.enc),nI t.base]] (.bf 177 [.aJ (.agg [.sl (t.args.map Ty.enc),nI t.base]) 0]):=QC rfl
theorem AI {t:Ty} (h:t.size<=500000000):ou Tryz.prog 177 [.aJ (.agg [.sl (t.args.map Ty.enc),nI t.base]) 0] [.v (.c (.i .i64)),.v (.a [.l,.i .i64])] ((t.pre 1).map RU):=
 sJ (prm:=[.v (.c (.i .i64)),.v (.a [.l,.i .i64])]) RU (Cf h)
theorem pA {t:Ty} (h:t.size<=500000000):af Tryz.prog 232 [.agg [.sl (t.args.map Ty.enc),nI t.base]] (nI (t.size:Nat)):=by
 refine QE ⟨ve t,?_⟩;refine iQ.xL (fun n:Nat=>((t.args.map Ty.enc,t.base,()),((n:Int),()),())) RU (t.pre 1) (AI h) (fun rest n=>n+rest.length=t.size) 0 rfl (by rw[Ty.wv];omega) (fun e rest n hI again bY=>?_) fun n hI=>?_
 ·rw[als] at hI;dsimp only;rw[aV (by omega)];exact bY (n+1) (by omega)
 ·have:n=t.size:=by simpa using hI
  rw[this]
def AJ (aK:Int) (p:Nat×Ty):Bool:=decide (p.1<=60)&&(decide (0<=p.2.base)&&decide (p.2.base<aK))
def yp (aK:Int):Nat->List (Nat×Ty)->Bool
 |_,[]=>true
 |n,p::l=>if p.1>60\/n+1>1000\/p.2.base<0\/p.2.base>=aK then false else yp aK (n+1) l
theorem FE (aK:Int):∀(l:List (Nat×Ty)) (n:Nat),n<=1000->yp aK n l=(decide (n+l.length<=1000)&&l.all (AJ aK))
 | [],n,hn=>by simp[yp,hn]
 |p::l,n,hn=>by
  rw[yp];split
  ·rename_i hc;symm;rw[Bool.and_eq_false_iff]
   by_cases h1:n+1>1000
   ·left;rw[decide_eq_false];rw[als];omega
   ·right;rw[amF];have:AJ aK p=false:=by
     unfold AJ;rw[Bool.and_eq_false_iff,Bool.and_eq_false_iff];rcases hc with hc|hc|hc|hc
     ·left;exact decide_eq_false (by omega)
     ·omega
     ·right;left;exact decide_eq_false (by omega)
     ·right;right;exact decide_eq_false (by omega)
    rw[this,amn]
  ·rename_i hc;simp only[not_or] at hc;obtain⟨h1,h2,h3,h4⟩:=hc;have hg:AJ aK p=true:=by
    unfold AJ;rw[decide_eq_true (by omega),decide_eq_true (by omega),decide_eq_true (by omega)];rfl
   rw[FE aK l (n+1) (by omega),amF,hg,al2,als,show n+1+l.length=n+(l.length+1) from by omega]
def Ty.cy (aK:Int) (t:Ty):Bool:=decide (t.size<=1000)&&(t.pre 1).all (AJ aK)
theorem kf {t:Ty} {aK:Int} (h:t.size<=500000000):af Tryz.prog 59 [.agg [.sl (t.args.map Ty.enc),nI t.base],nI aK] (nB (t.cy aK)):=by
 refine UY ⟨ve t,?_⟩;have hr:t.cy aK=yp aK 0 (t.pre 1):=by rw[FE aK _ 0 (by omega),Ty.wv,Ty.cy,alM]
 refine iQ.xL (fun n:Nat=>((t.args.map Ty.enc,t.base,()),(aK,()),(false,()),((n:Int),()),())) RU (t.pre 1) (AI h) (fun r n=>n+r.length=t.size/\t.cy aK=yp aK n r) 0 rfl ⟨by rw[Ty.wv];omega,hr⟩ (fun p r n ⟨hI,hk⟩ again bY=>?_) fun n ⟨hI,hk⟩=>?_
 ·rw[als] at hI;rw[yp] at hk;dsimp only[RU];rw[aV (by omega)];refine ag.intro (fun h1=>?_) fun h1=>ag.intro (fun h2=>?_) fun h2=>ag.intro (fun h3=>?_) fun h3=>ag.intro (fun h4=>?_) fun h4=>?_
  ·have:p.1>60:=by simp at h1;omega
   rw[if_pos (.inl this)] at hk;rw[hk]
  ·have:n+1>1000:=by simp at h2;omega
   rw[if_pos (.inr (.inl this))] at hk;rw[hk]
  ·have:p.2.base<0:=of_decide_eq_true h3;rw[if_pos (.inr (.inr (.inl this)))] at hk;rw[hk]
  ·have:p.2.base>=aK:=by simpa using h4
   rw[if_pos (.inr (.inr (.inr this)))] at hk;rw[hk]
  ·have g1:¬p.1>60:=by simp at h1;omega
   have g2:¬n+1>1000:=by simp at h2;omega
   have g3:¬p.2.base<0:=of_decide_eq_false h3;have g4:¬p.2.base>=aK:=by simpa using h4
   rw[if_neg (by simp only[not_or];exact⟨g1,g2,g3,g4⟩)] at hk;exact bY (n+1) ⟨by omega,hk⟩
 ·rw[hk];rfl
def cu (c m x:List Ty) (k i:Int):Option Ty:=
 if i<0 then none else if k=0 then(if i<x.length then x[x.length-1-i.toNat]? else none) else if k=1 then c[i.toNat]? else if k=2 then m[i.toNat]? else none
def adk:Option Ty->AV
 |some t=>.av [.agg [.sl (t.args.map Ty.enc),nI t.base],nB true]
 |none=>.av [.agg [.sl [],nI 0],nB false]
theorem rA {l:List Ty} {n:Nat} (h:n<l.length):List.getD (l.map Ty.enc) n .top=.agg [.sl (l[n].args.map Ty.enc),nI l[n].base]:=by
 have:=Ty.bb h;simpa using this
theorem pB {b:Int} {c m x:List Ty} {k i:Int} (hi:lk i) (hx:x.length<=1000000000):af Tryz.prog 60 [.agg [nI b,.sl (c.map Ty.enc),.sl (m.map Ty.enc)],.sl (x.map Ty.enc),.agg [nI k,nI i]] (adk (cu c m x k i)):=by
 unfold lk at hi;refine U3 ?_;unfold acu cu;simp only[alm];refine ag.intro (fun h1=>?_) fun h1=>?_
 ·have e1:k=1:=by simpa using h1
  refine ag.intro (fun h=>?_) fun h2=>ag.intro (fun h=>?_) fun h3=>?_
  ·have:i<0:=by simpa using h
   rw[if_pos this];rfl
  ·have S0:¬i<0:=by simpa using h2
   have YS:(c.length:Int)<=i:=by simpa using h
   rw[if_neg S0,if_neg (by omega),if_pos e1,alU (by omega)];rfl
  ·have S0:¬i<0:=by simpa using h2
   have YS:i<(c.length:Int):=by simpa using h3
   have aq:i.toNat<c.length:=by omega
   refine⟨by omega,by omega,_,_,rA aq,?_⟩;rw[if_neg S0,if_neg (by omega),if_pos e1,alo aq];rfl
 have n1:¬k=1:=by simpa using h1
 refine ag.intro (fun h4=>?_) fun h4=>?_
 ·have e2:k=2:=by simpa using h4
  refine ag.intro (fun h=>?_) fun h2=>ag.intro (fun h=>?_) fun h3=>?_
  ·have:i<0:=by simpa using h
   rw[if_pos this];rfl
  ·have S0:¬i<0:=by simpa using h2
   have YS:(m.length:Int)<=i:=by simpa using h
   rw[if_neg S0,if_neg (by omega),if_neg n1,if_pos e2,alU (by omega)];rfl
  ·have S0:¬i<0:=by simpa using h2
   have YS:i<(m.length:Int):=by simpa using h3
   have aq:i.toNat<m.length:=by omega
   refine⟨by omega,by omega,_,_,rA aq,?_⟩;rw[if_neg S0,if_neg (by omega),if_neg n1,if_pos e2,alo aq];rfl
 have n2:¬k=2:=by simpa using h4
 refine ag.intro (fun h5=>?_) fun h5=>?_
 ·have e0:k=0:=by simpa using h5
  refine ag.intro (fun h=>?_) fun h2=>?_
  ·have:i<0:=by simpa using h
   rw[if_pos this];rfl
  have S0:¬i<0:=by simpa using h2
  rw[aT (n:=(x.length:Int)-1) (by omega) (by omega),aT (by omega) (by omega)];refine ag.intro (fun h=>?_) fun h3=>ag.intro (fun h=>?_) fun h6=>?_
  ·have YS:(x.length:Int)-1-i<0:=by simpa using h
   rw[if_neg S0,if_pos e0,if_neg (by omega)];rfl
  ·have YS:(x.length:Int)-1-i>=x.length:=by simpa using h
   omega
  ·have YS:¬(x.length:Int)-1-i<0:=by simpa using h3
   have aq:x.length-1-i.toNat<x.length:=by omega
   refine⟨by omega,by omega,_,_,by rw[show Int.toNat ((x.length:Int)-1-i)=x.length-1-i.toNat from by omega];exact rA aq,?_⟩;rw[if_neg S0,if_pos e0,if_pos (by omega),alo aq];rfl
 ·have n0:¬k=0:=by simpa using h5
  rw[if_neg n0,if_neg n1,if_neg n2]
  split<;>rfl
theorem rB {c m x:List Ty} {k i:Int} {t:Ty} (h:cu c m x k i=some t):t∈x\/t∈c\/t∈m:=by
 unfold cu at h;split at h
 ·cases h
 split at h
 ·split at h
  ·exact .inl (alq h)
  ·cases h
 split at h
 ·exact .inr (.inl (alq h))
 split at h
 ·exact .inr (.inr (alq h))
 ·cases h
def hTy:Option Ty->AV
 |some t=>.av [.agg [.sl (t.args.map Ty.enc),nI t.base],nI 0]
 |none=>.av [.agg [.sl [],nI 0],nI 10]
theorem pC {b:Int} {c m x:List Ty} {k i:Int} (hi:lk i) (hx:x.length<=1000000000) (hs:∀t,cu c m x k i=some t->t.size<=500000000):
  af Tryz.prog 230 [.agg [nI b,.sl (c.map Ty.enc),.sl (m.map Ty.enc)],.sl (x.map Ty.enc),.agg [nI k,nI i]] (hTy (cu c m x k i)):=by
 have h1:=pB (b:=b) (c:=c) (m:=m) (x:=x) (k:=k) (i:=i) hi hx
 cases ht:cu c m x k i with
 |none=>
  rw[ht] at h1;exact EK ⟨_,_,_,h1,ag.pos rfl rfl⟩
 |some t=>
  rw[ht] at h1;exact EK ⟨_,_,_,h1,ag.neg rfl ⟨_,_,mU (by have:=hs t ht;omega),rfl⟩⟩
mutual
def Rw.Ok:Rw->Prop
 | .mk k _ i l=>lk k/\lk i/\Rw.MT l
def Rw.MT:List Rw->Prop
 | []=>True
 |t::l=>Rw.Ok t/\Rw.MT l
end
theorem Rw.ok_eq {t:Rw} (h:t.Ok):lk t.kind/\lk t.index/\Rw.MT t.kids:=by cases t;exact h
theorem vf {l:List Ty}:af Tryz.prog 228 [.sl (l.map Ty.enc)] (.clip (l.map Ty.enc)):=by
 refine Pure.of_heap (QO ⟨⟨by omega,by omega,rfl,by omega,Ty.kr⟩,rfl,?_⟩);simp[alI]
theorem Ij {t:Ty} (h:t.size<=500000000) (h1:1<=t.args.length):af Tryz.prog 239 [.agg [.sl (t.args.map Ty.enc),nI t.base],nI 1] (.av [.agg [.sl ((t.args.drop 1).map Ty.enc),nI t.base],nI 0]):=by
 have Ff:=t.size_eq;have bO:Ty.sizes (t.args.drop 1)<=Ty.sizes t.args:=by
  have e:=Ty.bE (t.args.take 1) (t.args.drop 1);rw[amd] at e;omega
 have hc:=kd _ (.mk (t.args.drop 1) t.base) (alp _) (by simp only[Ty.size];omega);rw[Ty.il] at hc;have hd:List.drop (Int.toNat 1) (List.take (Int.toNat ((List.length (t.args.map Ty.enc):Nat):Int)) (t.args.map Ty.enc))=(t.args.drop 1).map Ty.enc:=by simp[alI]
 refine QP (ag.neg rfl (ag.neg (by simp;omega) ⟨⟨by omega,by rw[alm];omega,by omega,Ty.kr⟩,_,_,by rw[hd];exact hc,rfl⟩))
abbrev ku:Ty:=.mk [] 0
def pD (t:Ty):List (Ty×Int)->Ty×Int
 |p::_=>if p.2≠0 then(ku,p.2) else if(p.1.arrow [t]).size>1000 then(ku,2) else(p.1.arrow [t],0)
 | []=>(ku,0)
def nR:List (Ty×Int)->Ty×Int
 |p::q::_=>if p.2≠0 then(ku,p.2) else if q.2≠0 then(ku,q.2) else(match p.1.args with
  | []=>(ku,5)
  |u::us=>if Ty.same u q.1=true then(.mk us p.1.base,0) else(ku,5))
 |_=>(ku,0)
def lJ:Option Ty->Ty×Int
 |some t=>if t.size>1000 then(ku,2) else(t,0)
 |none=>(ku,10)
mutual
def Rw.infer (b:Int) (c m:List Ty):List Ty->Rw->Ty×Int
 |x,.mk k t i l=>if k=3 then(if t.cy b=true then pD t (Rw.dE b c m (x++[t]) l) else(ku,2)) else if k=4 then nR (Rw.dE b c m x l) else lJ (cu c m x k i)
def Rw.dE (b:Int) (c m:List Ty):List Ty->List Rw->List (Ty×Int)
 |_,[]=>[]
 |x,r::l=>Rw.infer b c m x r::Rw.dE b c m x l
end
theorem Rw.RV (b:Int) (c m x:List Ty) (r:Rw):r.infer b c m x=if r.kind=3 then(if r.type.cy b=true then pD r.type (Rw.dE b c m (x++[r.type]) r.kids) else(ku,2)) else if r.kind=4 then nR (Rw.dE b c m x r.kids) else lJ (cu c m x r.kind r.index):=by
 cases r;rw[Rw.infer];rfl
mutual
theorem Rw.iS (b:Int) (c m:List Ty):∀(r:Rw) (x:List Ty),(r.infer b c m x).1.size<=1000
 | .mk k t i l,x=>by
  rw[Rw.infer];split
  ·split
   ·have:=Rw.pE b c m l (x++[t]);generalize Rw.dE b c m (x++[t]) l=q at this
    cases q with
    |nil=>simp[pD,Ty.size,Ty.sizes]
    |cons p q=>
     simp only[pD];split
     ·simp[Ty.size,Ty.sizes]
     ·split
      ·simp[Ty.size,Ty.sizes]
      ·rename_i h;exact Nat.not_lt.1 h
   ·simp[Ty.size,Ty.sizes]
  split
  ·have:=Rw.pE b c m l x;generalize Rw.dE b c m x l=q at this
   match q,this with
   | [],_=>simp[nR,Ty.size,Ty.sizes]
   | [p],_=>simp[nR,Ty.size,Ty.sizes]
   |p::p2::q,h=>
    have hp:=h p alD;simp only[nR];split
    ·simp[Ty.size,Ty.sizes]
    split
    ·simp[Ty.size,Ty.sizes]
    split
    ·simp[Ty.size,Ty.sizes]
    ·rename_i u us hu;split
     ·have:=p.1.size_eq;rw[hu,Ty.sizes] at this;simp only[Ty.size];omega
     ·simp[Ty.size,Ty.sizes]
  ·cases cu c m x k i with
   |none=>simp[lJ,Ty.size,Ty.sizes]
   |some u=>
    simp only[lJ];split
    ·simp[Ty.size,Ty.sizes]
    ·rename_i h;exact Nat.not_lt.1 h
theorem Rw.pE (b:Int) (c m:List Ty):∀(l:List Rw) (x:List Ty),∀p∈Rw.dE b c m x l,p.1.size<=1000
 | [],x,p,hp=>by cases hp
 |r::l,x,p,hp=>by
  rw[Rw.dE] at hp;rcases alW.1 hp with rfl|hp
  ·exact Rw.iS b c m r x
  ·exact Rw.pE b c m l x p hp
end
def Kq (p:Ty×Int):AV:=.av [.agg [.sl (p.1.args.map Ty.enc),nI p.1.base],nI p.2]
theorem RW {l:List Rw} {k:Int} (hk:k=3) (h:arity k=l.length):∃a,l=[a]:=by
 subst hk;have:l.length=1:=by have:arity 3=1:=rfl;omega
 match l,this with
 | [a],_=>exact⟨a,rfl⟩
theorem RX {l:List Rw} {k:Int} (hk:k=4) (h:arity k=l.length):∃a b,l=[a,b]:=by
 subst hk;have:l.length=2:=by have:arity 4=2:=rfl;omega
 match l,this with
 | [a,b],_=>exact⟨a,b,rfl⟩
theorem Ty.uh (t:Ty):Ty.sizes [t]=t.size:=by simp[Ty.sizes]
theorem wx (t:Ty):[AV.agg [.sl (t.args.map Ty.enc),nI t.base]]=[t].map Ty.enc:=by rw[<-Ty.ax];rfl
theorem FF {b:Int} {c m:List Ty} (hc:∀t∈c,t.size<=500000000) (hm:∀t∈m,t.size<=500000000):∀(n:Nat) (r:Rw) (x:List Ty),r.total<=n->r.shaped=true->r.Ok->Ty.sizes x+r.total<=400000000->
  af Tryz.prog 205 [.agg [nI b,.sl (c.map Ty.enc),.sl (m.map Ty.enc)],.sl (x.map Ty.enc),r.enc] (Kq (r.infer b c m x)):=by
 intro n
 induction n with
 |zero=>intro t x h;have:=t.gG;omega
 |succ n ih=>
  intro r x h tC al hx;have Ff:=r.kZ;have hxl:=Ty.aY x;rw[Rw.uf,aln,decide_eq_true_eq] at tC;obtain⟨ha,RM⟩:=tC;obtain⟨_,hi,al⟩:=Rw.ok_eq al;have ee:=Rw.RV b c m x r;rw[Rw.ax];refine QI (ag.intro (fun h3=>?_) fun h3=>ag.intro (fun h4=>?_) fun h4=>?_)
  ·have e3:r.kind=3:=by simpa using h3
   rw[if_pos e3] at ee;refine⟨_,kf (by omega),ag.intro (fun h=>?_) fun h=>?_⟩
   ·have:¬r.type.cy b=true:=by simpa using h
    rw[if_neg this] at ee;rw[ee];rfl
   have hr:r.type.cy b=true:=by simpa using h
   rw[if_pos hr] at ee;obtain⟨a,hl⟩:=RW e3 ha;rw[hl] at ee RM al Ff;rw[Rw.cS,Rw.cS,Bool.and_true] at RM;simp only[Rw.dL] at Ff;have YT:Ty.sizes (x++[r.type])=Ty.sizes x+r.type.size:=by rw[Ty.bE,Ty.uh]
   have ff:=ih a (x++[r.type]) (by omega) RM al.1 (by omega);rw[Rw.ax,ami,<-wx] at ff;rw[Rw.dE,Rw.dE] at ee;generalize ha2:a.infer b c m (x++[r.type])=p at ff ee;have SX:p.1.size<=1000:=by rw[<-ha2];exact Rw.iS ..
   have both:xS (r.type.args.map Ty.enc) r.type.base (x.map Ty.enc) b (c.map Ty.enc) (m.map Ty.enc) a.kind (a.type.args.map Ty.enc) a.type.base a.index (a.kids.map Rw.enc) (fun y=>y=Kq (r.infer b c m x)):=by
    refine⟨fun h=>(by cases h),jm Ty.kr (by rw[wx];exact Ty.kr) (by simp;omega) (by decide),rfl,_,_,_,ff,ag.intro (fun h=>?_) fun h=>?_⟩
    ·have he:p.2≠0:=by simpa using h
     rw[ee,pD,if_pos he];rfl
    have he:¬p.2≠0:=by simpa using h
    simp only[pD,if_neg he] at ee;have fZ:=jn (t:=p.1) (l:=[r.type]) (by rw[Ty.uh];omega);rw[Ty.ax,<-wx,Ty.arrow,Ty.il] at fZ;have bO:(p.1.arrow [r.type]).size<=500000000:=by
     have:=p.1.size_eq;simp only[Ty.arrow,Ty.size,Ty.bE,Ty.uh];omega
    refine⟨_,_,fZ,_,pA bO,ag.intro (fun h=>?_) fun h=>?_⟩
    ·have hg:(p.1.arrow [r.type]).size>1000:=by
      have:=of_decide_eq_true h;omega
     rw[ee,if_pos hg];rfl
    ·have hg:¬(p.1.arrow [r.type]).size>1000:=by
      have:=of_decide_eq_false h;omega
     rw[ee,if_neg hg];rfl
   refine⟨_,vf,by omega,by rw[hl];simp,_,_,_,_,_,by rw[hl];exact Rw.bb (l:=[a]) (k:=0) (by simp),both,both⟩
  ·have e3:¬r.kind=3:=by simpa using h3
   have e4:r.kind=4:=by simpa using h4
   rw[if_neg e3,if_pos e4] at ee;obtain⟨f,a,hl⟩:=RX e4 ha;rw[hl] at ee RM al Ff;rw[Rw.cS,Rw.cS,Rw.cS,Bool.and_true,aln] at RM;simp only[Rw.dL] at Ff;have hf:=ih f x (by omega) RM.1 al.1 (by omega);have hac:=ih a x (by omega) RM.2 al.2.1 (by omega);rw[Rw.ax] at hf hac;rw[Rw.dE,Rw.dE,Rw.dE] at ee;generalize hf2:f.infer b c m x=p at hf ee;generalize ha2:a.infer b c m x=q at hac ee;have SX:p.1.size<=1000:=by rw[<-hf2];exact Rw.iS ..
   have hqs:q.1.size<=1000:=by rw[<-ha2];exact Rw.iS ..
   refine⟨by omega,by rw[hl];simp,_,_,_,_,_,by rw[hl];exact Rw.bb (l:=[f,a]) (k:=0) (by simp),_,_,_,hf,ag.intro (fun h=>?_) fun h=>?_⟩
   ·have he:p.2≠0:=by simpa using h
    rw[ee,nR,if_pos he];rfl
   have he:¬p.2≠0:=by simpa using h
   simp only[nR,if_neg he] at ee;refine⟨by omega,by rw[hl];simp,_,_,_,_,_,by rw[hl];exact Rw.bb (l:=[f,a]) (k:=1) (by simp),_,_,_,hac,ag.intro (fun h=>?_) fun h=>?_⟩
   ·have GB:q.2≠0:=by simpa using h
    rw[ee,if_pos GB];rfl
   have GB:¬q.2≠0:=by simpa using h
   rw[if_neg GB] at ee;rw[alm];have hpe:=p.1.size_eq
   cases qE:p.1.args with
   |nil=>
    rw[qE] at ee;refine ag.pos rfl ?_;rw[ee];rfl
   |cons u us=>
    rw[qE] at ee hpe;rw[Ty.sizes] at hpe;have I0:=u.size_pos;have heq:=lH _ u q.1 (alp _) (by omega);rw[Ty.ax,Ty.ax] at heq;refine ag.neg (by simp;omega) ⟨by omega,by simp,_,_,Ty.bb (l:=u::us) (k:=0) (by simp),_,heq,ag.intro (fun h=>?_) fun h=>?_⟩
    ·have hs:¬Ty.same u q.1=true:=by simpa using h
     rw[ee];simp only[if_neg hs];rfl
    ·have hs:Ty.same u q.1=true:=by simpa using h
     have hre:=Ij (t:=p.1) (by omega) (by rw[qE];simp);rw[qE] at hre;refine⟨_,_,_,hre,?_⟩;rw[ee];simp only[if_pos hs];rfl
  ·have e3:¬r.kind=3:=by simpa using h3
   have e4:¬r.kind=4:=by simpa using h4
   rw[if_neg e3,if_neg e4] at ee;have hbd:∀t,cu c m x r.kind r.index=some t->t.size<=500000000:=by
    intro t ht;rcases rB ht with h1|h1|h1
    ·have:=Ty.dP h1;omega
    ·exact hc t h1
    ·exact hm t h1
   have hh:=pC (b:=b) (c:=c) (m:=m) (x:=x) (k:=r.kind) (i:=r.index) hi (by omega) hbd
   cases ht:cu c m x r.kind r.index with
   |none=>
    rw[ht] at hh ee;refine⟨_,_,_,hh,ag.neg rfl ?_⟩;rw[ee];rfl
   |some t=>
    rw[ht] at hh ee;refine⟨_,_,_,hh,ag.pos rfl ⟨_,pA (hbd t ht),ag.intro (fun h=>?_) fun h=>?_⟩⟩
    ·have hg:t.size>1000:=by have:=of_decide_eq_true h;omega
     rw[ee,lJ,if_pos hg];rfl
    ·have hg:¬t.size>1000:=by have:=of_decide_eq_false h;omega
     rw[ee,lJ,if_neg hg];rfl
theorem FG {b:Int} {c m x:List Ty} {r:Rw} (hc:∀t∈c,t.size<=500000000) (hm:∀t∈m,t.size<=500000000) (al:r.Ok) (hx:Ty.sizes x+r.total<=400000000):
  af Tryz.prog 130 [.agg [nI b,.sl (c.map Ty.enc),.sl (m.map Ty.enc)],.sl (x.map Ty.enc),r.enc] (Kq (if r.cy=true then r.infer b c m x else(ku,1))):=by
 have h1:=FB (t:=r) (by omega);rw[Rw.ax] at h1
 cases hr:r.cy with
 |false=>
  rw[hr] at h1;rw[Rw.ax];exact EH ⟨_,h1,ag.pos rfl rfl⟩
 |true=>
  have hs:r.shaped=true:=by
   rw[Rw.cy,aln] at hr;exact hr.1
  have h2:=FF (b:=b) hc hm _ r x (alp _) hs al hx;rw[hr] at h1;rw[Rw.ax] at h2 ⊢;exact EH ⟨_,h1,ag.neg rfl ⟨_,_,_,h2,rfl⟩⟩
theorem Cg {x l:List Ty} (h:x.length+l.length<=1000000000):af Tryz.prog 61 [.sl (x.map Ty.enc),.sl (l.map Ty.enc)] (.sl ((x++l).map Ty.enc)):=by
 have hc:=fV (ll:=[x,l]) (by simp) (by simp;omega);simp only[er,alQ,ama,amU,amX,ame] at hc;exact U4 ⟨_,hc,rfl⟩
theorem Ch {b:Int} {l:List Ty} (h:Ty.sizes l<=500000000):af Tryz.prog 37 [nI b,.sl (l.map Ty.enc)] (.agg [.sl (l.map Ty.enc),nI b]):=by
 have hc:=kd _ (.mk l b) (alp _) (by simp only[Ty.size];omega);rw[Ty.il] at hc;exact JP ⟨_,_,hc,rfl⟩
def Tm.Ym (c m x:List Ty) (t:Tm):Ty×Int:=match cu c m (x++t.binds) t.kind t.index with
 |some h=>(.mk t.binds h.base,0)
 |none=>(ku,10)
mutual
def Tm.S1 (c m x:List Ty):Tm->Ty->Bool
 | .mk b k i l,of=>Ty.eN b of.args&&(match cu c m (x++b) k i with
  |some h=>(h.base==of.base)&&((h.args.length==l.length)&&Tm.FH c m (x++b) l h.args)
  |none=>false)
def Tm.FH (c m x:List Ty):List Tm->List Ty->Bool
 |t::l,u::us=>Tm.S1 c m x t u&&Tm.FH c m x l us
 |_,_=>true
end
theorem Tm.Yn (c m x:List Ty) (t:Tm) (of:Ty):t.S1 c m x of=(Ty.eN t.binds of.args&&(match cu c m (x++t.binds) t.kind t.index with
  |some h=>(h.base==of.base)&&((h.args.length==t.args.length)&&Tm.FH c m (x++t.binds) t.args h.args)
  |none=>false)):=by cases t;rw[Tm.S1];rfl
theorem Tm.LM {c m x:List Ty} {l:List Tm} {us:List Ty} {k:Nat} (h1:k<l.length) (h2:k<us.length):Tm.FH c m x (l.drop k) (us.drop k)=(Tm.S1 c m x l[k] us[k]&&Tm.FH c m x (l.drop (k+1)) (us.drop (k+1))):=by
 rw[alw h1,alw h2,Tm.FH]
theorem RZ {b:Int} {c m:List Ty} (hc:∀t∈c,t.size<=200000000) (hm:∀t∈m,t.size<=200000000):∀(n:Nat) (t:Tm) (of:Ty) (x:List Ty),t.size<=n->t.Ok->(∀u∈x,u.size<=200000000)->x.length+t.size<=200000000->of.size<=200000000->
  af Tryz.prog 63 [.agg [nI b,.sl (c.map Ty.enc),.sl (m.map Ty.enc)],.sl (x.map Ty.enc),.agg [.sl (t.binds.map Ty.enc),nI t.kind,nI t.index,.sl (t.args.map Tm.enc)],.agg [.sl (of.args.map Ty.enc),nI of.base]] (nB (t.S1 c m x of)):=by
 intro n
 induction n with
 |zero=>intro t of x h;have:=t.size_pos;omega
 |succ n ih=>
  intro t of x h al hx hn hof;have Ff:=t.size_eq;have hq:=Ty.aY t.binds;have hq2:=Tm.aY t.args;have hi:lk t.index:=by cases t;exact al.2.1
  have ZC:Tm.MT t.args:=by cases t;exact al.2.2
  have heq:=nM (l:=t.binds) (m:=of.args) (by omega) (fun k h1 h2=>lH _ _ _ (alp _) (by have:=Ty.dP (alH h1);omega));have YT:∀u∈x++t.binds,u.size<=200000000:=fun u hu=>by
   rcases amc.1 hu with hu|hu
   ·exact hx u hu
   ·have:=Ty.dP hu;omega
  have hh:=pB (b:=b) (c:=c) (m:=m) (x:=x++t.binds) (k:=t.kind) hi (by rw[alA];omega);have bO:∀u,cu c m (x++t.binds) t.kind t.index=some u->u.size<=200000000:=fun u hu=>by
   rcases rB hu with hu|hu|hu
   ·exact YT u hu
   ·exact hc u hu
   ·exact hm u hu
  have R0:=Tm.Yn c m x t of;refine U6 ⟨_,heq,ag.intro (fun h=>?_) fun h=>?_⟩
  ·have h0:Ty.eN t.binds of.args=false:=by simpa using h
   rw[R0,h0,amn]
  have h0:Ty.eN t.binds of.args=true:=by simpa using h
  rw[h0,al2] at R0;refine⟨_,Cg (by omega),?_⟩
  cases ht:cu c m (x++t.binds) t.kind t.index with
  |none=>
   rw[ht] at hh R0;exact⟨_,_,_,hh,ag.pos rfl (by rw[R0])⟩
  |some u=>
   rw[ht] at hh R0;dsimp only at R0;have hu:=bO u ht;have I0:=u.size_eq;have hul:=Ty.aY u.args;refine⟨_,_,_,hh,ag.neg rfl (ag.intro (fun h=>?_) fun h=>?_)⟩
   ·have:(u.base==of.base)=false:=by simpa using h
    rw[R0,this,amn]
   have h1:(u.base==of.base)=true:=by simpa using h
   rw[h1,al2] at R0;rw[alm,alm];refine ag.intro (fun h=>?_) fun h=>?_
   ·have:¬u.args.length=t.args.length:=by simp at h;omega
    rw[R0,show (u.args.length==t.args.length)=false from by simpa using this,amn]
   have h2:u.args.length=t.args.length:=by simp at h;omega
   rw[show (u.args.length==t.args.length)=true from by simpa using h2,al2] at R0;refine ay.intro (fun k:Nat=>(((),(x++t.binds).map Ty.enc,(),t.args.map Tm.enc,(t.args.length:Int),(k:Int),()),((b,c.map Ty.enc,m.map Ty.enc,()),(t.binds.map Ty.enc,t.kind,t.index,t.args.map Tm.enc,()),(of.args.map Ty.enc,of.base,()),(u.args.map Ty.enc,u.base,()),())))
    (fun k=>k<=t.args.length/\t.S1 c m x of=Tm.FH c m (x++t.binds) (t.args.drop k) (u.args.drop k)) (fun k=>t.args.length-k) 0 rfl ⟨aly _,R0⟩ ?_
   intro k ⟨hk,hs⟩ again bY;dsimp only;refine ag.intro (fun h=>?_) fun h=>?_
   ·have aq:k<t.args.length:=by simpa using h
    have hlu:k<u.args.length:=by omega
    rw[Tm.LM aq hlu] at hs;have uE:=Tm.dP (alH aq);have hi:=ih t.args[k] u.args[k] (x++t.binds) (by omega) (Tm.Kk ZC (alH aq)) YT (by rw[alA];omega) (by have:=Ty.fi hlu;omega);refine⟨by omega,by rw[alm];omega,_,_,_,_,Tm.bb aq,by omega,by rw[alm];omega,_,_,Ty.bb hlu,_,hi,ag.intro (fun h=>?_) fun h=>?_⟩
    ·have:Tm.S1 c m (x++t.binds) t.args[k] u.args[k]=false:=by simpa using h
     rw[hs,this,amn]
    ·have:Tm.S1 c m (x++t.binds) t.args[k] u.args[k]=true:=by simpa using h
     rw[this,al2] at hs;rw[aV (by omega)];exact bY (k+1) ⟨by omega,hs⟩ (by omega)
   ·have:t.args.length<=k:=by simpa using h
    rw[alC this,Tm.FH] at hs
    ·rw[hs]
    ·intro _ _ _ _ h;cases h
mutual
def Tm.pre (a d:Nat):Tm->List ((Nat×Nat)×Tm)
 | .mk b k i l=>((a+b.length,d),.mk b k i l)::Tm.lW (a+b.length) (d+1) l
def Tm.lW (a d:Nat):List Tm->List ((Nat×Nat)×Tm)
 | []=>[]
 |t::l=>Tm.pre a d t++Tm.lW a d l
end
theorem Tm.Ii (a d:Nat) (t:Tm):t.pre a d=((a+t.binds.length,d),t)::Tm.lW (a+t.binds.length) (d+1) t.args:=by cases t;rfl
theorem Tm.ug {a d:Nat} {l:List Tm} {k:Nat} (h:k<l.length):Tm.lW a d (l.drop k)=l[k].pre a d++Tm.lW a d (l.drop (k+1)):=by
 rw[alw h,Tm.lW]
def R1 (p:(Nat×Nat)×Tm):List AV:=[.agg [nI p.1.1,nI p.1.2],.agg [.sl (p.2.binds.map Ty.enc),nI p.2.kind,nI p.2.index,.sl (p.2.args.map Tm.enc)]]
def Kr (p:(Nat×Nat)×Tm):(Int×Int×Unit)×(List AV×Int×Int×List AV×Unit)×Unit:=((p.1.1,p.1.2,()),(p.2.binds.map Ty.enc,p.2.kind,p.2.index,p.2.args.map Tm.enc,()),())
theorem FI:∀(n:Nat) (t:Tm) (a d:Nat),t.size<=n->a+t.size<=1000000000->d+t.size<=1000000000->uQ Tryz.prog 180 (fun v=>[.agg [.sl (t.binds.map Ty.enc),nI t.kind,nI t.index,.sl (t.args.map Tm.enc)],.agg [nI a,nI d],v]) ((t.pre a d).map R1) true:=by
 intro n
 induction n with
 |zero=>intro t a d h;have:=t.size_pos;omega
 |succ n ih=>
  intro t a d h ha hd;have hq:=Tm.aY t.args;have hq2:=Ty.aY t.binds;have Ff:=t.size_eq;have hw:IntKind.wrap .i64 ((a:Int)+((List.length (t.binds.map Ty.enc):Nat):Int))=((a+t.binds.length:Nat):Int):=by
   rw[alm,aT (by omega) (by omega)];omega
  refine QB fun yv more=>?_;unfold WJ;rw[hw,aV (by omega)];refine⟨rfl,(Tm.lW (a+t.binds.length) (d+1) t.args).map R1++more,by rw[Tm.Ii];rfl,fun b=>ag.intro (fun h=>?_) fun h=>?_⟩
  ·have:b=false:=by simpa using h
   subst this;rfl
  ·have:b=true:=by simpa using h
   subst this;refine ay.intro (fun k:Nat=>(((yv,(),t.args.map Tm.enc,(t.args.length:Int),(k:Int),()),((t.binds.map Ty.enc,t.kind,t.index,t.args.map Tm.enc,()),(((a+t.binds.length:Nat):Int),((d+1:Nat):Int),()),())),some ((Tm.lW (a+t.binds.length) (d+1) (t.args.drop k)).map R1++more))) (fun k=>k<=t.args.length) (fun k=>t.args.length-k) 0 (by rw[alm];rfl) (aly _) ?_;intro k hk again bY;dsimp only;rw[alm];refine ag.intro (fun h=>?_) fun h=>?_
   ·have aq:k<t.args.length:=by simpa using h
    have uE:=Tm.dP (alH aq);have hi:=ih t.args[k] (a+t.binds.length) (d+1) (by omega) (by omega) (by omega);refine⟨by omega,by omega,_,_,_,_,Tm.bb aq,_,_,(Tm.lW (a+t.binds.length) (d+1) (t.args.drop (k+1))).map R1++more,rfl,hi,?_,fun b=>ag.intro (fun h=>?_) fun h=>?_⟩
    ·rw[Tm.ug aq,ami,al3]
    ·have:b=false:=by simpa using h
     subst this;rfl
    ·have:b=true:=by simpa using h
     subst this;rw[aV (by omega)];exact bY (k+1) (by omega) (by omega)
   ·have:t.args.length<=k:=by simpa using h
    rw[alC this];rfl
theorem Ci {t:Tm} (h:t.size<=500000000):uQ Tryz.prog 179 (fun v=>[v,.aJ (.agg [.sl (t.binds.map Ty.enc),nI t.kind,nI t.index,.sl (t.args.map Tm.enc)]) 0]) ((t.pre 0 1).map R1) false:=
 Qz fun yv more=>⟨_,_,more,rfl,FI _ t 0 1 (alp _) (by omega) (by omega),rfl,fun b=>⟨b,rfl⟩⟩
theorem FJ (t:Tm):af Tryz.prog 109 [.agg [.sl (t.binds.map Ty.enc),nI t.kind,nI t.index,.sl (t.args.map Tm.enc)]] (.bf 179 [.aJ (.agg [.sl (t.binds.map Ty.enc),nI t.kind,nI t.index,.sl (t.args.map Tm.enc)]) 0]):=QD rfl
theorem LN {t:Tm} (h:t.size<=500000000):ou Tryz.prog 179 [.aJ (.agg [.sl (t.binds.map Ty.enc),nI t.kind,nI t.index,.sl (t.args.map Tm.enc)]) 0] [.v (.a [.i .i64,.i .i64]),.v (.a [.l,.i .i64,.i .i64,.l])] ((t.pre 0 1).map Kr):=
 sJ (prm:=[.v (.a [.i .i64,.i .i64]),.v (.a [.l,.i .i64,.i .i64,.l])]) Kr (Ci h)
def qO:Nat->List ((Nat×Nat)×Tm)->Bool
 |_,[]=>true
 |n,p::l=>if n+1>5000 then false else if p.1.2>60 then false else qO (n+1) l
theorem s7 {t:Tm} (h:t.size<=500000000):af Tryz.prog 62 [.agg [.sl (t.binds.map Ty.enc),nI t.kind,nI t.index,.sl (t.args.map Tm.enc)]] (nB (qO 0 (t.pre 0 1))):=by
 refine UZ ⟨FJ t,?_⟩;refine iQ.xL (fun n:Nat=>((t.binds.map Ty.enc,t.kind,t.index,t.args.map Tm.enc,()),(false,()),((n:Int),()),())) Kr (t.pre 0 1) (LN h) (fun r n=>n<=5000/\qO 0 (t.pre 0 1)=qO n r) 0 rfl ⟨by omega,rfl⟩ (fun p r n ⟨hI,hk⟩ again bY=>?_) fun n ⟨hI,hk⟩=>?_
 ·rw[qO] at hk;dsimp only[Kr];rw[aV (by omega)];refine ag.intro (fun h1=>?_) fun h1=>ag.intro (fun h2=>?_) fun h2=>?_
  ·have:n+1>5000:=by have:=of_decide_eq_true h1;omega
   rw[hk,if_pos this]
  ·have g:¬n+1>5000:=by have:=of_decide_eq_false h1;omega
   have:p.1.2>60:=by have:=of_decide_eq_true h2;omega
   rw[hk,if_neg g,if_pos this]
  ·have g:¬n+1>5000:=by have:=of_decide_eq_false h1;omega
   have g2:¬p.1.2>60:=by have:=of_decide_eq_false h2;omega
   rw[if_neg g,if_neg g2] at hk;exact bY (n+1) ⟨by omega,hk⟩
 ·rw[hk];rfl
theorem FK {b:Int} {c m x:List Ty} {t:Tm} {of:Ty} (hc:∀t∈c,t.size<=200000000) (hm:∀t∈m,t.size<=200000000) (al:t.Ok) (hx:∀u∈x,u.size<=200000000) (hn:x.length+t.size<=200000000) (hof:of.size<=200000000):
  af Tryz.prog 19 [.agg [nI b,.sl (c.map Ty.enc),.sl (m.map Ty.enc)],.sl (x.map Ty.enc),.agg [.sl (t.binds.map Ty.enc),nI t.kind,nI t.index,.sl (t.args.map Tm.enc)],.agg [.sl (of.args.map Ty.enc),nI of.base]] (nI (if qO 0 (t.pre 0 1)=true then(if t.S1 c m x of=true then 0 else 5) else 2)):=by
 have h1:=s7 (t:=t) (by omega);have h2:=RZ (b:=b) hc hm _ t of x (alp _) al hx hn hof;refine U1 ⟨_,h1,ag.intro (fun h=>?_) fun h=>⟨_,h2,ag.intro (fun h3=>?_) fun h3=>?_⟩⟩
 ·rw[if_neg (by simpa using h)]
 ·rw[if_pos (by simpa using h),if_neg (by simpa using h3)]
 ·rw[if_pos (by simpa using h),if_pos (by simpa using h3)]
theorem LO {b:Int} {c m:List Ty} {t:Ty} (h:t.size<=500000000):af Tryz.prog 58 [.agg [.sl (t.args.map Ty.enc),nI t.base],.aJ (.agg [nI b,.sl (c.map Ty.enc),.sl (m.map Ty.enc)]) 0] (nB (!(t.cy b))):=
 U8 ⟨_,kf h,rfl⟩
def fj (b:Int):Nat->List Ty->Int
 |_,[] => -1
 |k,t::l=>if t.cy b=true then fj b (k+1) l else k
theorem yq {b:Int} {c m l:List Ty} (h:Ty.sizes l<=500000000):af Tryz.prog 106 [.sl (l.map Ty.enc),.bf 58 [.aJ (.agg [nI b,.sl (c.map Ty.enc),.sl (m.map Ty.enc)]) 0]] (nI (fj b 0 l)):=by
 have hl:=Ty.aY l;refine QR ⟨rfl,?_⟩;refine ay.intro (fun k:Nat=>((l.map Ty.enc,((),()),(l.length:Int),(k:Int),()),())) (fun k=>k<=l.length/\fj b 0 l=fj b k (l.drop k)) (fun k=>l.length-k) 0 (by rw[alm];rfl) ⟨aly _,rfl⟩ ?_;intro k ⟨hk,hs⟩ again bY;dsimp only;rw[alm];refine ag.intro (fun h=>?_) fun h=>?_
 ·have aq:k<l.length:=by simpa using h
  rw[alw aq,fj] at hs;refine⟨by omega,by omega,_,_,Ty.bb aq,_,LO (by have:=Ty.dP (alH aq);omega),ag.intro (fun h=>?_) fun h=>⟨rfl,?_⟩⟩
  ·rw[hs,if_neg (by simpa using h)]
  ·rw[if_pos (by simpa using h)] at hs;rw[aV (by omega)];exact bY (k+1) ⟨by omega,hs⟩ (by omega)
 ·have:l.length<=k:=by simpa using h
  rw[alC this] at hs;rw[hs];rfl
theorem ui {b:Int} {c m:List Ty} (hc:c.length<=500) (hm:m.length<=500) (h:Ty.sizes (c++m)<=500000000):af Tryz.prog 17 [.agg [nI b,.sl (c.map Ty.enc),.sl (m.map Ty.enc)]] (nB (!(decide (fj b 0 (c++m)>=0)))):=by
 have uH:=fV (ll:=[c,m]) (by simp) (by simp;omega);simp only[er,alQ,ama,amU,amX,ame] at uH;have hi:=yq (b:=b) (c:=c) (m:=m) (l:=c++m) h;refine U2 ?_;unfold acr;rw[alm,alm,aT (by omega) (by omega)];refine ag.neg (decide_eq_false (by omega)) (ag.neg (decide_eq_false (by omega)) ⟨_,uH,_,U7 ⟨_,hi,rfl⟩,rfl⟩)
theorem Rw.LP {t:Rw} {k:Nat} (h:k<t.kids.length):t.kids[k].depth<t.depth:=by
 have h1:=t.Fw;have:=(Rw.rz (n:=0) (m:=t.depth-1) (l:=t.kids)).1 (by omega);have:=this.2 _ (alH h);omega
abbrev lb (k i:Int):Rw:=.mk k ku i []
theorem rC (k i:Int):af Tryz.prog 66 [nI k,nI i] (.agg [nI k,.sl [],nI 0,nI i,.sl []]):=U0 rfl
theorem nT (b:Int):af Tryz.prog 37 [nI b,.sl []] (.agg [.sl [],nI b]):=by
 have hc:=kd _ (.mk [] b) (alp _) (by simp[Ty.size,Ty.sizes]);rw[Ty.il] at hc;exact JP ⟨_,_,hc,rfl⟩
mutual
def qA:Int->Int->Ty->Tm
 |k,i,.mk l _=>.mk l k (if k=0 then IntKind.wrap .i64 (i+(l.length:Nat)) else i) (jq l.length 0 l)
def jq (n:Nat):Nat->List Ty->List Tm
 |_,[]=>[]
 |j,t::r=>qA 0 ((n:Int)-1-j) t::jq n (j+1) r
end
theorem wy (k i:Int) (t:Ty):qA k i t=.mk t.args k (if k=0 then IntKind.wrap .i64 (i+(t.args.length:Nat)) else i) (jq t.args.length 0 t.args):=by cases t;rw[qA];rfl
theorem mV (n:Nat):∀(l:List Ty) (j:Nat),(jq n j l).length=l.length
 | [],_=>rfl
 |t::l,j=>by rw[jq,als,als,mV n l]
theorem AK (n:Nat):∀(l:List Ty) (j k:Nat) (h:k<l.length),(jq n j l)[k]?=some (qA 0 ((n:Int)-1-(j+k:Nat)) l[k])
 |t::l,j,0,_=>by rw[jq];rfl
 |t::l,j,k+1,h=>by
  rw[jq,alP,AK n l (j+1) k (by simpa using h),List.getElem_cons_succ,show j+1+k=j+(k+1) by omega]
theorem yr {n:Nat} {l:List Ty} {k:Nat} (h:k<l.length):(jq n 0 l).take (k+1)=(jq n 0 l).take k++[qA 0 ((n:Int)-1-(k:Nat)) l[k]]:=by
 have hk:k<(jq n 0 l).length:=by rw[mV];exact h
 have hg:=AK n l 0 k h;rw[alo hk,alM] at hg;rw[<-dh hk,alj hg]
theorem YU:∀(d:Nat) (t:Ty) (k i:Int),t.size<=d->d<=1000000000->af Tryz.prog 257 [.agg [nI k,nI i],t.enc] (qA k i t).enc:=by
 intro d
 induction d with
 |zero=>intro t k i h;have:=t.size_pos;omega
 |succ d ih=>
  intro t k i h hd;have hq:=Ty.aY t.args;have Ff:=t.size_eq;have loop:∀ix:Int,ix=(if k=0 then IntKind.wrap .i64 (i+(t.args.length:Nat)) else i)->xJ (((),(),((List.length (t.args.map Ty.enc):Nat):Int),(),0,()),((k,i,()),(t.args.map Ty.enc,t.base,()),((),0,0,(),()),(t.args.map Ty.enc,k,ix,(),()),[],())) (fun x=>x=(qA k i t).enc):=by
   intro ix H6;refine ay.intro (fun j:Nat=>(((),(),(t.args.length:Int),(),(j:Int),()),((k,i,()),(t.args.map Ty.enc,t.base,()),((),0,0,(),()),(t.args.map Ty.enc,k,ix,(),()),((jq t.args.length 0 t.args).take j).map Tm.enc,())))
    (fun j=>j<=t.args.length) (fun j=>t.args.length-j) 0 (by rw[alm];rfl) (aly _) ?_
   intro j hj again bY;dsimp only;rw[alm];refine ag.intro (fun h=>?_) fun h=>?_
   ·have aq:j<t.args.length:=by simpa using h
    have hi:=ih t.args[j] 0 ((t.args.length:Int)-1-(j:Nat)) (by have:=Ty.fi aq;omega) (by omega);rw[Ty.ax,Tm.ax] at hi;have hw:IntKind.wrap .i64 (IntKind.wrap .i64 ((t.args.length:Int)-1)-(j:Int))=(t.args.length:Int)-1-(j:Nat):=by
     rw[aT (n:=(t.args.length:Int)-1) (by omega) (by omega),aT (by omega) (by omega)]
    rw[hw];refine⟨by omega,by omega,_,_,Ty.bb aq,_,_,_,_,hi,rfl,bp rfl (by simp;omega) (by decide),rfl,?_⟩;rw[aV (by omega),Tm.kS,<-yr aq];exact bY (j+1) (by omega) (by omega)
   ·have hle:t.args.length<=j:=by simpa using h
    refine⟨rfl,?_⟩;rw[alI (by rw[mV];exact hle),wy,Tm.il,H6]
  rw[Ty.ax];refine Pb (ag.intro (fun h=>⟨rfl,?_⟩) fun h=>⟨rfl,?_⟩)
  ·have hk:k=0:=by simpa using h
   refine loop _ ?_;rw[if_pos hk,alm]
  ·have hk:¬k=0:=by simpa using h
   exact loop _ (by rw[if_neg hk])
theorem Ik:∀(d:Nat) (t:Ty) (k i:Int),t.size<=d->d<=1000->(k=0->0<=i/\i<=1000)->af Tryz.prog 233 [.agg [nI k,nI i],t.enc] (qA k i t).enc:=by
 intro d
 induction d with
 |zero=>intro t k i h;have:=t.size_pos;omega
 |succ d ih=>
  intro t k i h hd h0;have hq:=Ty.aY t.args;have Ff:=t.size_eq;have fZ:=jn (t:=t) (l:=[]) (by simp[Ty.sizes];omega);rw[Ty.arrow,amw,Ty.il,Ty.ax,ama] at fZ;have loop:∀ix:Int,ix=(if k=0 then IntKind.wrap .i64 (i+(t.args.length:Nat)) else i)->pq (((),((List.length (t.args.map Ty.enc):Nat):Int),(),t.args.map Ty.enc,((List.length (t.args.map Ty.enc):Nat):Int),0,()),((k,i,()),(t.args.map Ty.enc,t.base,()),((),0,0,(),()),(t.args.map Ty.enc,k,ix,(),()),[],())) (fun x=>x=(qA k i t).enc):=by
   intro ix H6;refine ay.intro (fun j:Nat=>(((),(t.args.length:Int),(),t.args.map Ty.enc,(t.args.length:Int),(j:Int),()),((k,i,()),(t.args.map Ty.enc,t.base,()),((),0,0,(),()),(t.args.map Ty.enc,k,ix,(),()),((jq t.args.length 0 t.args).take j).map Tm.enc,())))
    (fun j=>j<=t.args.length) (fun j=>t.args.length-j) 0 (by rw[alm];rfl) (aly _) ?_
   intro j hj again bY;dsimp only;rw[alm];refine ag.intro (fun h=>?_) fun h=>?_
   ·have aq:j<t.args.length:=by simpa using h
    have hi:=ih t.args[j] 0 ((t.args.length:Int)-1-(j:Nat)) (by have:=Ty.fi aq;omega) (by omega) (fun _=>⟨by omega,by omega⟩);rw[Ty.ax,Tm.ax] at hi;have hw:IntKind.wrap .i64 (IntKind.wrap .i64 ((t.args.length:Int)-1)-(j:Int))=(t.args.length:Int)-1-(j:Nat):=by
     rw[aT (n:=(t.args.length:Int)-1) (by omega) (by omega),aT (by omega) (by omega)]
    rw[hw];refine⟨by omega,by omega,_,_,Ty.bb aq,_,_,_,_,hi,rfl,bp rfl (by simp;omega) (by decide),rfl,?_⟩;rw[aV (by omega),Tm.kS,<-yr aq];exact bY (j+1) (by omega) (by omega)
   ·have hle:t.args.length<=j:=by simpa using h
    refine⟨rfl,?_⟩;rw[alI (by rw[mV];exact hle),wy,Tm.il,H6]
  rw[Ty.ax];refine O9 (ag.intro (fun h=>?_) fun h=>?_)
  ·have hk:k=0:=by simpa using h
   have:=h0 hk;refine ag.neg (decide_eq_false (by omega)) (ag.neg (decide_eq_false (by omega)) ⟨_,_,fZ,ag.pos h ⟨rfl,loop _ ?_⟩⟩);rw[if_pos hk,alm]
  ·have hk:¬k=0:=by simpa using h
   exact⟨_,_,fZ,ag.neg h ⟨rfl,loop _ (by rw[if_neg hk])⟩⟩
abbrev gu (n:Nd):AV:=.agg [nI n.kind,nS n.word,nI n.at_,.sl (n.kids.map Nd.enc)]
abbrev zM:Nd:=.mk 0 ⟨#[]⟩ 0 []
abbrev yt (l:List ByteArray):AV:=.sl (l.map nS)
section
abbrev Ks:ByteArray:=⟨#[40]⟩
abbrev rpW:ByteArray:=⟨#[41]⟩
abbrev YV:ByteArray:=⟨#[45,62]⟩
abbrev YW:ByteArray:=⟨#[92]⟩
abbrev WW:ByteArray:=⟨#[58]⟩
abbrev doW:ByteArray:=⟨#[46]⟩
section
variable (L:List Tk) (s:ByteArray)
def cR (f:St->Nd×St) (st:St):Nd×St:=
 match dn L s Ks st with
 |(true,st1)=>((f st1).1,dD L s rpW (f st1).2)
 |(false,st1)=>(.mk 1 (oz L s 1 st1).1.2.1 (oz L s 1 st1).1.2.2 [],(oz L s 1 st1).2)
def R2 (f:St->Nd×St) (st:St):Nd×St:=
 match dn L s YV (cR L s f st).2 with
 |(true,st2)=>(.mk 2 ⟨#[]⟩ (cR L s f st).1.at_ [(cR L s f st).1,(f st2).1],(f st2).2)
 |(false,st2)=>((cR L s f st).1,st2)
def iJ (full:Bool) (f:St->Nd×St) (st:St):Nd×St:=
 if ud st=true then(if full=true then(zM,jI L s 2 st) else f st) else(zM,st)
def Cj:Nat->St->Nd×St
 |0=>iJ L s true fun st=>(zM,st)
 |n+1=>iJ L s false (R2 L s (Cj n))
def VA (f g:St->Nd×St) (a:Int) (st:St):Nd×St:=
 (.mk 3 (bC L s st).1 a [(f (dD L s WW (bC L s st).2)).1,(g (dD L s doW (f (dD L s WW (bC L s st).2)).2)).1],(g (dD L s doW (f (dD L s WW (bC L s st).2)).2)).2)
def yu (g:St->Nd×St):Nat->Nd->St->Nd×St
 |0,a,st=>(a,st)
 |n+1,a,st=>if vd L s st=true then yu g n (.mk 4 ⟨#[]⟩ a.at_ [a,(cR L s g st).1]) (cR L s g st).2 else(a,st)
def FL (f g:St->Nd×St) (st:St):Nd×St:=
 match dn L s YW st with
 |(true,st1)=>VA L s f g (pk L s st.1).2.2 st1
 |(false,st1)=>yu L s g (L.length+1) (cR L s g st1).1 (cR L s g st1).2
def mW:Nat->St->Nd×St
 |0=>iJ L s true fun st=>(zM,st)
 |n+1=>iJ L s false (FL L s (Cj L s n) (mW n))
end
variable {L:List Tk} {s w:ByteArray} {o:Int} {st:St} {i n:Nat}
def yw (L:List Tk) (f:St->Nd×St):Prop:=∀st,lV L st (f st).2
theorem kx (h:PE L s) {f:St->Nd×St} (hf:yw L f):yw L (cR L s f):=by
 intro st;have h1:=fp (L:=L) (s:=s) (w:=Ks) (st:=st);unfold cR;rcases hx:dn L s Ks st with⟨b,st1⟩;rw[hx] at h1;cases b
 ·exact h1.trans (yj h (by decide))
 ·exact h1.trans ((hf st1).trans cM)
theorem qe {f:St->Nd×St} {b:Bool} (hf:yw L f):yw L (iJ L s b f):=by
 intro st;unfold iJ;split
 ·split
  ·exact mT
  ·exact hf st
 ·exact lV.refl
theorem R3 (h:PE L s) {f:St->Nd×St} (hf:yw L f):yw L (R2 L s f):=by
 intro st;have h0:=kx h hf st;have h1:=fp (L:=L) (s:=s) (w:=YV) (st:=(cR L s f st).2);unfold R2;rcases hx:dn L s YV (cR L s f st).2 with⟨b,st1⟩;rw[hx] at h1;cases b
 ·exact h0.trans h1
 ·exact h0.trans (h1.trans (hf st1))
theorem pF (h:PE L s):∀n,yw L (Cj L s n)
 |0=>qe fun _=>lV.refl
 |n+1=>qe (R3 h (pF h n))
theorem R4 (h:PE L s) {f g:St->Nd×St} (hf:yw L f) (hg:yw L g) {a:Int}:yw L (VA L s f g a):=fun st=>
 (cq h).trans (cM.trans ((hf _).trans (cM.trans (hg _))))
theorem AL (h:PE L s) {g:St->Nd×St} (hg:yw L g):∀(n:Nat) (a:Nd),yw L (yu L s g n a)
 |0,a,st=>lV.refl
 |n+1,a,st=>by
  rw[yu];split
  ·exact(kx h hg st).trans (AL h hg n _ _)
  ·exact lV.refl
theorem LQ (h:PE L s) {f g:St->Nd×St} (hf:yw L f) (hg:yw L g):yw L (FL L s f g):=by
 intro st;have h1:=fp (L:=L) (s:=s) (w:=YW) (st:=st);unfold FL;rcases hx:dn L s YW st with⟨b,st1⟩;rw[hx] at h1;cases b
 ·exact h1.trans ((kx h hg st1).trans (AL h hg _ _ _))
 ·exact h1.trans (R4 h hf hg st1)
theorem ky (h:PE L s):∀n,yw L (mW L s n)
 |0=>qe fun _=>lV.refl
 |n+1=>qe (LQ h (pF h n) (ky h n))
def R5 (x:AV) (H:List ab):AV->List ab->Prop:=fun r q=>aB r x/\q=H
theorem aG.Il {P:Program} {f:FuncId} {args:List AV} {hp H:List ab} {x:AV} (h:aG P f args hp (R5 x H)):aG P f args hp (fun r q=>r=x/\q=H):=h.res fun r q ⟨h1,h2⟩=>⟨_,h1,rfl,h2⟩
theorem ndW {a b c x y:AV} (h:aB x y):aB (.agg [a,b,c,x]) (.agg [a,b,c,y]):=aB.agg ⟨aB.refl _,aB.refl _,aB.refl _,h,True.intro⟩
theorem R6 (a b:Nd):[gu a,gu b]=[a,b].map Nd.enc:=by simp[Nd.ax]
theorem adl {k a:Int} {w:ByteArray} {x y:Nd}:aB (.agg [nI k,nS w,nI a,.clip [gu x,gu y]]) (gu (.mk k w a [x,y])):=by
 have:gu (.mk k w a [x,y])=.agg [nI k,nS w,nI a,.sl [gu x,gu y]]:=by rw[R6];rfl
 rw[this];exact ndW (fk _)
theorem uj {k a:Int} {w:ByteArray}:aB (.agg [nI k,nS w,nI a,.ae (.slice none 0 0)]) (gu (.mk k w a [])):=ndW bw
def LR (L:List Tk) (s:ByteArray) (f:Nat) (o:Int) (F:St->Nd×St):Prop:=∀st:St,st.1<=L.length->aG Tryz.prog f [.ptr 1 0] (PO L s o st) (fun r q=>r=gu (F st).1/\q=PO L s o (F st).2)
def YX (L:List Tk) (s:ByteArray) (f:Nat) (o:Int) (F:St->Nd×St):Prop:=∀st:St,st.1<=L.length->aG Tryz.prog f [.ptr 2 0] (PQ L s o st) (fun r q=>r=gu (F st).1/\q=PQ L s o (F st).2)
theorem FM (h:PE L s) {F:St->Nd×St} (hF:LR L s 116 o F) (ha:yw L F) (hi:st.1<=L.length):
  aG Tryz.prog 189 [.ptr 1 0,.cB 116 [.ptr 1 0]] (PO L s o st) (fun r q=>r=gu (cR L s F st).1/\q=PO L s o (cR L s F st).2):=by
 have hn:=jo (o:=o) (w:=Ks) h hi;have h1:=fp (L:=L) (s:=s) (w:=Ks) (st:=st);unfold cR;rcases hx:dn L s Ks st with⟨b,st1⟩;rw[hx] at hn h1;have iK:=h1.2 hi;refine aG.Il (EB ⟨_,hn,fun r q ⟨e1,e2⟩=>⟨_,_,_,_,_,_,_,_,_,⟨e1,e2⟩,?_⟩⟩);cases b
 ·exact ag.neg rfl ⟨_,nP h iK (by decide),fun r q ⟨e1,e2⟩=>⟨_,_,_,_,_,_,_,_,_,_,_,⟨e1,e2⟩,uj,rfl⟩⟩
 ·exact ag.pos rfl ⟨_,hF st1 iK,fun r q ⟨e1,e2⟩=>⟨_,_,_,_,_,_,_,_,_,_,_,_,⟨e1,e2⟩,_,dW h ((ha st1).2 iK),fun r q ⟨e1,e2⟩=>⟨_,_,_,_,_,_,_,_,⟨e1,e2⟩,aB.refl _,rfl⟩⟩⟩
theorem zN (h:PE L s) {F:St->Nd×St} (ho:0<=o/\o<=60) (hF:o≠60->YX L s 188 (o+1) F) (hi:st.1<=L.length):
  aG Tryz.prog 187 [.ptr 1 0,.bf 188 [.ptr 2 0]] (PQ L s o st) (fun r q=>r=gu (iJ L s (o==60) F st).1/\q=PQ L s o (iJ L s (o==60) F st).2):=by
 refine aG.Il (zz ⟨_,bK (st:=st),fun r q ⟨e1,e2⟩=>⟨_,_,_,_,_,_,_,_,_,⟨e1,e2⟩,ag.intro (fun h1=>ag.intro (fun h2=>?_) fun h2=>?_) fun h1=>?_⟩⟩)
 ·refine⟨_,eO (st:=st) h hi,fun r q ⟨e1,e2⟩=>⟨_,_,_,_,_,_,_,_,⟨e1,e2⟩,_,bK (st:=jI L s 2 st),fun r q ⟨e1,e2⟩=>⟨_,_,_,_,_,_,_,_,_,⟨e1,e2⟩,ag.pos (by rw[s6 (by decide) h1];rfl) ?_⟩⟩⟩;rw[iJ,if_pos h1,if_pos h2];exact⟨uj,rfl⟩
 ·have h3:o≠60:=by simpa using h2
  have hb:=hF h3 st hi;rw[iJ,if_pos h1,if_neg (by rw[h2];decide)];refine⟨_,bK (st:=st),fun r q ⟨e1,e2⟩=>⟨_,_,_,_,_,_,_,_,_,⟨e1,e2⟩,ag.neg (by rw[h1];rfl) ?_⟩⟩;rw[aT (n:=o+1) (by omega) (by omega)];refine⟨_,hb,fun r q ⟨e1,e2⟩=>⟨_,_,_,_,_,_,_,_,_,_,_,_,⟨e1,e2⟩,aB.refl _,?_⟩⟩;rw[aT (n:=o+1-1) (by omega) (by omega),Int.add_sub_cancel]
 ·rw[iJ,if_neg (by rw[h1];decide)];exact⟨_,bK (st:=st),fun r q ⟨e1,e2⟩=>⟨_,_,_,_,_,_,_,_,_,⟨e1,e2⟩,ag.pos (by rw[h1];rfl) ⟨uj,rfl⟩⟩⟩
theorem vg (h:PE L s) {F:St->Nd×St} (ho:0<=o/\o<=60) (hF:o≠60->YX L s 188 (o+1) F):LR L s 116 o (iJ L s (o==60) F):=fun st hi=>
 P6 ⟨_,zN h ho hF hi,fun r q ⟨e1,e2⟩=>⟨_,_,_,_,_,_,_,_,_,_,_,_,⟨e1,e2⟩,rfl,rfl⟩⟩
theorem vh (h:PE L s) {F:St->Nd×St} (hF:LR L s 128 o F) (ha:yw L F) (hi:st.1<=L.length):
  aG Tryz.prog 189 [.ptr 1 0,.cB 128 [.ptr 1 0]] (PO L s o st) (fun r q=>r=gu (cR L s F st).1/\q=PO L s o (cR L s F st).2):=by
 have hn:=jo (o:=o) (w:=Ks) h hi;have h1:=fp (L:=L) (s:=s) (w:=Ks) (st:=st);unfold cR;rcases hx:dn L s Ks st with⟨b,st1⟩;rw[hx] at hn h1;have iK:=h1.2 hi;refine aG.Il (EC ⟨_,hn,fun r q ⟨e1,e2⟩=>⟨_,_,_,_,_,_,_,_,_,⟨e1,e2⟩,?_⟩⟩);cases b
 ·exact ag.neg rfl ⟨_,nP h iK (by decide),fun r q ⟨e1,e2⟩=>⟨_,_,_,_,_,_,_,_,_,_,_,⟨e1,e2⟩,uj,rfl⟩⟩
 ·exact ag.pos rfl ⟨_,hF st1 iK,fun r q ⟨e1,e2⟩=>⟨_,_,_,_,_,_,_,_,_,_,_,_,⟨e1,e2⟩,_,dW h ((ha st1).2 iK),fun r q ⟨e1,e2⟩=>⟨_,_,_,_,_,_,_,_,⟨e1,e2⟩,aB.refl _,rfl⟩⟩⟩
theorem zO (h:PE L s) {F:St->Nd×St} (ho:0<=o/\o<=60) (hF:o≠60->YX L s 199 (o+1) F) (hi:st.1<=L.length):
  aG Tryz.prog 187 [.ptr 1 0,.bf 199 [.ptr 2 0]] (PQ L s o st) (fun r q=>r=gu (iJ L s (o==60) F st).1/\q=PQ L s o (iJ L s (o==60) F st).2):=by
 refine aG.Il (zB ⟨_,bK (st:=st),fun r q ⟨e1,e2⟩=>⟨_,_,_,_,_,_,_,_,_,⟨e1,e2⟩,ag.intro (fun h1=>ag.intro (fun h2=>?_) fun h2=>?_) fun h1=>?_⟩⟩)
 ·refine⟨_,eO (st:=st) h hi,fun r q ⟨e1,e2⟩=>⟨_,_,_,_,_,_,_,_,⟨e1,e2⟩,_,bK (st:=jI L s 2 st),fun r q ⟨e1,e2⟩=>⟨_,_,_,_,_,_,_,_,_,⟨e1,e2⟩,ag.pos (by rw[s6 (by decide) h1];rfl) ?_⟩⟩⟩;rw[iJ,if_pos h1,if_pos h2];exact⟨uj,rfl⟩
 ·have h3:o≠60:=by simpa using h2
  have hb:=hF h3 st hi;rw[iJ,if_pos h1,if_neg (by rw[h2];decide)];refine⟨_,bK (st:=st),fun r q ⟨e1,e2⟩=>⟨_,_,_,_,_,_,_,_,_,⟨e1,e2⟩,ag.neg (by rw[h1];rfl) ?_⟩⟩;rw[aT (n:=o+1) (by omega) (by omega)];refine⟨_,hb,fun r q ⟨e1,e2⟩=>⟨_,_,_,_,_,_,_,_,_,_,_,_,⟨e1,e2⟩,aB.refl _,?_⟩⟩;rw[aT (n:=o+1-1) (by omega) (by omega),Int.add_sub_cancel]
 ·rw[iJ,if_neg (by rw[h1];decide)];exact⟨_,bK (st:=st),fun r q ⟨e1,e2⟩=>⟨_,_,_,_,_,_,_,_,_,⟨e1,e2⟩,ag.pos (by rw[h1];rfl) ⟨uj,rfl⟩⟩⟩
theorem s8 (h:PE L s) {F:St->Nd×St} (ho:0<=o/\o<=60) (hF:o≠60->YX L s 199 (o+1) F):LR L s 128 o (iJ L s (o==60) F):=fun st hi=>
 Qa ⟨_,zO h ho hF hi,fun r q ⟨e1,e2⟩=>⟨_,_,_,_,_,_,_,_,_,_,_,_,⟨e1,e2⟩,rfl,rfl⟩⟩
theorem Im (h:PE L s) {F:St->Nd×St} (hF:LR L s 116 o F) (ha:yw L F):YX L s 188 o (R2 L s F):=by
 intro st hi;have h0:=kx h ha st;have hn:=jo (o:=o) (w:=YV) (st:=(cR L s F st).2) h (h0.2 hi);have h1:=fp (L:=L) (s:=s) (w:=YV) (st:=(cR L s F st).2);unfold R2;rcases hx:dn L s YV (cR L s F st).2 with⟨b,st1⟩;rw[hx] at hn h1;have iK:=h1.2 (h0.2 hi);refine aG.Il (P7 ⟨_,FM h hF ha hi,fun r q ⟨e1,e2⟩=>⟨_,_,_,_,_,_,_,_,_,_,_,_,⟨e1,e2⟩,_,hn,fun r q ⟨e1,e2⟩=>⟨_,_,_,_,_,_,_,_,_,⟨e1,e2⟩,?_⟩⟩⟩);cases b
 ·exact ag.pos rfl ⟨aB.refl _,rfl⟩
 ·have key:xN (L.map cp) s (st1.1:Int) o st1.2.1 st1.2.2.1 st1.2.2.2.1 st1.2.2.2.2 (R5 (gu (.mk 2 ⟨#[]⟩ (cR L s F st).1.at_ [(cR L s F st).1,(F st1).1])) (PQ L s o (F st1).2)) (cR L s F st).1.at_ (cR L s F st).1.kind (cR L s F st).1.word ((cR L s F st).1.kids.map Nd.enc):=
   ⟨_,hF st1 iK,fun r q ⟨e1,e2⟩=>⟨_,_,_,_,_,_,_,_,_,_,_,_,⟨e1,e2⟩,adl,rfl⟩⟩
  exact ag.neg rfl ⟨key,key⟩
theorem rD (h:PE L s):∀n:Nat,n<=60->LR L s 116 ((60:Int)-n) (Cj L s n)
 |0,_=>vg (o:=(60:Int)-(0:Nat)) h (by omega) fun h=>(h rfl).elim
 |n+1,hn=>by
  have:=vg (o:=(60:Int)-((n+1:Nat):Int)) h (by omega) fun _=>Im (F:=Cj L s n) h (by
   rw[show (60:Int)-((n+1:Nat):Int)+1=(60:Int)-(n:Nat) by omega];exact rD h n (by omega)) (pF h n)
  rw[show ((60:Int)-((n+1:Nat):Int)==60)=false from beq_eq_false_iff_ne.2 (by omega)] at this;exact this
theorem LS (h:PE L s) {F G:St->Nd×St} (hF:LR L s 116 o F) (ha:yw L F) (hG:LR L s 128 o G) (hi:st.1<=L.length) {a:Int}:
  aG Tryz.prog 200 [.ptr 1 0,nI a] (PO L s o st) (fun r q=>r=gu (VA L s F G a st).1/\q=PO L s o (VA L s F G a st).2):=by
 have i1:=(cq (s:=s) h).2 hi;have i2:=(cM (L:=L) (s:=s) (w:=WW) (st:=(bC L s st).2)).2 i1;have i3:=(ha (dD L s WW (bC L s st).2)).2 i2;have i4:=(cM (L:=L) (s:=s) (w:=doW) (st:=(F (dD L s WW (bC L s st).2)).2)).2 i3;exact aG.Il (P8 ⟨_,cW h hi,fun r q ⟨e1,e2⟩=>⟨_,_,_,_,_,_,_,_,_,⟨e1,e2⟩,_,dW h i1,fun r q ⟨e1,e2⟩=>⟨_,_,_,_,_,_,_,_,⟨e1,e2⟩,_,hF _ i2,fun r q ⟨e1,e2⟩=>
  ⟨_,_,_,_,_,_,_,_,_,_,_,_,⟨e1,e2⟩,_,dW h i3,fun r q ⟨e1,e2⟩=>⟨_,_,_,_,_,_,_,_,⟨e1,e2⟩,_,hG _ i4,fun r q ⟨e1,e2⟩=>⟨_,_,_,_,_,_,_,_,_,_,_,_,⟨e1,e2⟩,adl,rfl⟩⟩⟩⟩⟩⟩)
theorem R7 (h:PE L s) {g:St->Nd×St} (hg:yw L g) (hp:vd L s st=true):st.1<(cR L s g st).2.1/\st.1<L.length:=by
 simp only[vd,aln,al7,beq_iff_eq,decide_eq_true_eq] at hp;obtain⟨h1,h2⟩:=hp;have aq:st.1<L.length:=by
  refine yi (L:=L) (s:=s) h ?_;rcases h2 with h2|⟨h2,_⟩<;>rw[h2]<;>decide
 refine⟨?_,aq⟩;unfold cR;rcases h2 with h2|⟨h2,h3⟩
 ·cases ht:C0 Ks (pk L s st.1)
  ·have:dn L s Ks st=(false,st):=by rw[dn,h1,ht];rfl
   rw[this];dsimp only;rw[oz,if_pos h1,if_pos h2];exact amC _
  ·have:dn L s Ks st=(true,(st.1+1,st.2)):=by rw[dn,h1,ht];rfl
   rw[this];exact alJ (amC _) ((hg (st.1+1,st.2)).trans (cM (L:=L) (s:=s) (w:=rpW))).1
 ·have ht:C0 Ks (pk L s st.1)=true:=by simp[C0,h2,h3]
  have:dn L s Ks st=(true,(st.1+1,st.2)):=by rw[dn,h1,ht];rfl
  rw[this];exact alJ (amC _) ((hg (st.1+1,st.2)).trans (cM (L:=L) (s:=s) (w:=rpW))).1
theorem FN (h:PE L s) {F G:St->Nd×St} (hF:LR L s 116 o F) (ha:yw L F) (hG:LR L s 128 o G) (hb:yw L G):YX L s 199 o (FL L s F G):=by
 intro st hi;have hn:=jo (o:=o) (w:=YW) h hi;have h1:=fp (L:=L) (s:=s) (w:=YW) (st:=st);unfold FL;rcases hx:dn L s YW st with⟨b,st1⟩;rw[hx] at hn h1;have iK:=h1.2 hi;refine aG.Il (Qe ⟨_,cN h hi,fun r q ⟨e1,e2⟩=>⟨_,_,_,_,_,_,⟨e1,e2⟩,_,hn,fun r q ⟨e1,e2⟩=>⟨_,_,_,_,_,_,_,_,_,⟨e1,e2⟩,?_⟩⟩⟩);cases b
 ·refine ag.neg rfl ⟨_,vh h hG hb iK,fun r q ⟨e1,e2⟩=>⟨_,_,_,_,_,_,_,_,_,_,_,_,⟨e1,e2⟩,?_⟩⟩;clear e1 e2;have qD:=(kx h hb st1).2 iK;dsimp only;generalize hX:yu L s G (L.length+1) (cR L s G st1).1 (cR L s G st1).2=X;refine ay.intro (fun p:Nd×St=>(((),(),(),()),((L.map cp,s,(p.2.1:Int),()),((),o,p.2.2.1,p.2.2.2.1,p.2.2.2.2.1,p.2.2.2.2.2,()),((),()),(0,⟨#[]⟩,0,(),()),(p.1.kind,p.1.word,p.1.at_,p.1.kids.map Nd.enc,()),())))
   (fun p=>p.2.1<=L.length/\∃n,L.length+1<=n+p.2.1/\X=yu L s G n p.1 p.2) (fun p=>L.length-p.2.1) (cR L s G st1) rfl ⟨qD,_,by omega,hX.symm⟩ ?_
  intro ⟨a,u⟩ ⟨hu,n,Tz,Vq⟩ again bY;dsimp only at hu Tz Vq ⊢;obtain⟨n,rfl⟩:∃m,n=m+1:=⟨n-1,by omega⟩;rw[yu] at Vq;refine⟨_,Fv (st:=u) h hu,fun r q ⟨e1,e2⟩=>⟨_,_,_,_,_,_,_,_,_,⟨e1,e2⟩,ag.intro (fun h2=>?_) fun h2=>?_⟩⟩
  ·rw[if_pos h2] at Vq;have aq:=R7 h hb h2;have zo:=(kx h hb u).2 hu;have key:xP (L.map cp) s (u.1:Int) o u.2.1 u.2.2.1 u.2.2.2.1 u.2.2.2.2 again 0 ⟨#[]⟩ 0 a.at_ a.kind a.word (a.kids.map Nd.enc):=by
    refine⟨_,vh h hG hb hu,fun r q ⟨e1,e2⟩=>⟨_,_,_,_,_,_,_,_,_,_,_,_,⟨e1,e2⟩,?_⟩⟩;have e:[gu a,gu (cR L s G u).1]=[a,(cR L s G u).1].map Nd.enc:=R6 _ _;rw[e];exact bY (.mk 4 ⟨#[]⟩ a.at_ [a,(cR L s G u).1],(cR L s G u).2) ⟨zo,n,by dsimp only;omega,Vq⟩ (by dsimp only;omega)
   exact⟨key,key⟩
  ·rw[if_neg (by rw[h2];decide)] at Vq;rw[Vq];exact⟨aB.refl _,rfl⟩
 ·exact ag.pos rfl ⟨_,LS h hF ha hG iK,fun r q ⟨e1,e2⟩=>⟨_,_,_,_,_,_,_,_,_,_,_,_,⟨e1,e2⟩,aB.refl _,rfl⟩⟩
theorem vi (h:PE L s):∀n:Nat,n<=60->LR L s 128 ((60:Int)-n) (mW L s n)
 |0,_=>s8 (o:=(60:Int)-(0:Nat)) h (by omega) fun h=>(h rfl).elim
 |n+1,hn=>by
  have e:(60:Int)-((n+1:Nat):Int)+1=(60:Int)-(n:Nat):=by omega
  have:=s8 (o:=(60:Int)-((n+1:Nat):Int)) h (by omega) fun _=>FN (F:=Cj L s n) (G:=mW L s n) h (by rw[e];exact rD h n (by omega)) (pF h n) (by rw[e];exact vi h n (by omega)) (ky h n);rw[show ((60:Int)-((n+1:Nat):Int)==60)=false from beq_eq_false_iff_ne.2 (by omega)] at this;exact this
end
structure It where
 kind:Int
 words:List ByteArray
 nodes:List Nd
 num:Int
 at_:Int
abbrev itC (x:It):List AV:=[nI x.kind,yt x.words,.sl (x.nodes.map Nd.enc),nI x.num,nI x.at_]
abbrev gL (x:It):AV:=.agg (itC x)
section
abbrev Yo:ByteArray:=⟨#[59]⟩
abbrev Ck:ByteArray:=⟨#[62]⟩
abbrev eqW:ByteArray:=⟨#[61]⟩
def agJ:It:=⟨0,[],[],0,0⟩
def Kt:List ByteArray:=[⟨#[115,111,114,116]⟩,⟨#[99,111,110,115,116]⟩,⟨#[118,97,114]⟩,⟨#[101,113]⟩,⟨#[114,117,108,101]⟩,⟨#[112,114,101,99]⟩,⟨#[115,116,97,116,117,115]⟩,⟨#[99,111,109,112,108,101,116,101]⟩,⟨#[110,111,114,109,97,108]⟩,⟨#[100,101,99,105,100,101]⟩,⟨#[99,111,110,102,108,117,101,110,116]⟩,⟨#[99,101,114,116,105,102,121]⟩]
def uk (w:ByteArray):List ByteArray->Nat->Int
 | [],_ => -1
 |x::l,k=>if w=x then(k:Int) else uk w l (k+1)
def zP (w:ByteArray):Int:=uk w Kt 0+1
section
variable (L:List Tk) (s:ByteArray)
def R8:Nat->List ByteArray->St->List ByteArray×St
 |0,l,st=>(l,st)
 |n+1,l,st=>if(ud st&&(pk L s st.1).1==1)=true then R8 n (l++[(bC L s st).1]) (bC L s st).2 else(l,st)
def rE (st:St):List ByteArray×St:=R8 L s (L.length+1) [(bC L s st).1] (bC L s st).2
def Yp:Nat->List ByteArray->St->List ByteArray×St
 |0,l,st=>(l,st)
 |n+1,l,st=>if(dn L s Ck st).1=true then Yp n (l++[(bC L s (dn L s Ck st).2).1]) (bC L s (dn L s Ck st).2).2 else(l,(dn L s Ck st).2)
def um (st:St):List ByteArray×St:=
 Yp L s (L.length+1) [(bC L s st).1,(bC L s (dD L s Ck (bC L s st).2)).1] (bC L s (dD L s Ck (bC L s st).2)).2
def lX (w:ByteArray) (st:St):List Nd×St:=
 ([(mW L s 60 st).1,(mW L s 60 (dD L s w (mW L s 60 st).2)).1],(mW L s 60 (dD L s w (mW L s 60 st).2)).2)
def jA (st:St):List ByteArray×St:=([(bC L s st).1],dD L s WW (bC L s st).2)
def iu (st:St):Int×St:=((Ic L s st).1,dD L s WW (Ic L s st).2)
def VB (f:St->Nd×St) (st:St):List Nd×St:=([(f st).1],(f st).2)
def cI (k:Int) (st:St):(List ByteArray×List Nd×Int)×St:=
 if k=1 then(((rE L s st).1,[],0),(rE L s st).2)
 else if k=2\/k=3 then(((jA L s st).1,(VB (Cj L s 60) (jA L s st).2).1,0),(VB (Cj L s 60) (jA L s st).2).2)
 else if k=4 then(((jA L s st).1,(lX L s eqW (jA L s st).2).1,0),(lX L s eqW (jA L s st).2).2)
 else if k=5 then(((jA L s st).1,(lX L s Ck (jA L s st).2).1,0),(lX L s Ck (jA L s st).2).2)
 else if k=6 then(((um L s st).1,[],0),(um L s st).2)
 else if k=7 then(([(bC L s st).1,(bC L s (bC L s st).2).1],[],0),(bC L s (bC L s st).2).2)
 else if k=9 then(([],(VB (mW L s 60) (iu L s st).2).1,(iu L s st).1),(VB (mW L s 60) (iu L s st).2).2)
 else if k=10 then(([],(lX L s eqW (iu L s st).2).1,(iu L s st).1),(lX L s eqW (iu L s st).2).2)
 else if k=12 then(([(bC L s st).1],[],0),(bC L s st).2)
 else(([],[],(Ic L s st).1),(Ic L s st).2)
def jJ (st:St):It×St:=
 if(pk L s st.1).1=1/\zP (pk L s st.1).2.1≠0 then
  (⟨zP (pk L s st.1).2.1,(cI L s (zP (pk L s st.1).2.1) (st.1+1,st.2)).1.1,(cI L s (zP (pk L s st.1).2.1) (st.1+1,st.2)).1.2.1,(cI L s (zP (pk L s st.1).2.1) (st.1+1,st.2)).1.2.2,(pk L s st.1).2.2⟩,dD L s Yo (cI L s (zP (pk L s st.1).2.1) (st.1+1,st.2)).2)
 else(agJ,jI L s 3 st)
def uo:Nat->List It->St->List It×St
 |0,l,st=>(l,st)
 |n+1,l,st=>if(ud st&&(pk L s st.1).1 != 4)=true then(if l.length=1000 then(l,jI L s 2 st) else uo n (l++[(jJ L s st).1]) (jJ L s st).2) else(l,st)
def s9 (st:St):St:=if(pk L s st.1).1=4 then st else jI L s 3 st
end
def dM (s:ByteArray):List It×Fa:=
 if(cV s).2.1=0 then
  (if ud (s9 (cV s).1 s (uo (cV s).1 s ((cV s).1.length+2) [] (0,pz)).2)=true then((uo (cV s).1 s ((cV s).1.length+2) [] (0,pz)).1,pz)
   else([],(s9 (cV s).1 s (uo (cV s).1 s ((cV s).1.length+2) [] (0,pz)).2).2))
 else([],(cV s).2)
variable {L:List Tk} {s w:ByteArray} {o:Int} {st:St} {i n:Nat}
theorem Ku (h:PE L s):∀(n:Nat) (l:List ByteArray) (st:St),lV L st (R8 L s n l st).2
 |0,_,_=>lV.refl
 |n+1,l,st=>by
  rw[R8];split
  ·exact(cq h).trans (Ku h n _ _)
  ·exact lV.refl
theorem Io (h:PE L s):lV L st (rE L s st).2:=(cq h).trans (Ku h _ _ _)
theorem Kv (h:PE L s):∀(n:Nat) (l:List ByteArray) (st:St),lV L st (Yp L s n l st).2
 |0,_,_=>lV.refl
 |n+1,l,st=>by
  rw[Yp];split
  ·exact fp.trans ((cq h).trans (Kv h n _ _))
  ·exact fp
theorem Ip (h:PE L s):lV L st (um L s st).2:=(cq h).trans (cM.trans ((cq h).trans (Kv h _ _ _)))
theorem rF (h:PE L s):lV L st (lX L s w st).2:=(ky h 60 st).trans (cM.trans (ky h 60 _))
theorem iT (h:PE L s):lV L st (jA L s st).2:=(cq h).trans cM
theorem kg (h:PE L s):lV L st (iu L s st).2:=(yl h).trans cM
theorem uq (h:PE L s) {k:Int}:lV L st (cI L s k st).2:=by
 unfold cI;split
 ·exact Io h
 split
 ·exact(iT h).trans (pF h 60 _)
 split
 ·exact(iT h).trans (rF h)
 split
 ·exact(iT h).trans (rF h)
 split
 ·exact Ip h
 split
 ·exact(cq h).trans (cq h)
 split
 ·exact(kg h).trans (ky h 60 _)
 split
 ·exact(kg h).trans (rF h)
 split
 ·exact cq h
 ·exact yl h
theorem AM (h:PE L s):lV L st (jJ L s st).2:=by
 unfold jJ;split
 ·rename_i hk;have aq:=yi (L:=L) (s:=s) (i:=st.1) h (by rw[hk.1];decide);exact(lV.succ aq).trans ((uq h).trans cM)
 ·exact mT
theorem R9 (h:PE L s) (ho:ud st=true):st.1<(jJ L s st).2.1\/ud (jJ L s st).2=false:=by
 unfold jJ;split
 ·exact .inl (alJ (amC _) ((uq (st:=(st.1+1,st.2)) h).trans cM).1)
 ·exact .inr (s6 (by decide) ho)
theorem te {l:List ByteArray} (hl:l.length<=1000000):af Tryz.prog 159 [yt l,nS w] (nI (uk w l 0)):=by
 refine Qu ?_;refine ay.intro (fun k:Nat=>((l.map nS,w,((l.length:Nat):Int),(k:Int),()),())) (fun k=>k<=l.length/\uk w l 0=uk w (l.drop k) k) (fun k=>l.length-k) 0 (by rw[alm];rfl) ⟨aly _,rfl⟩ ?_;intro k ⟨hk,hd⟩ again bY;dsimp only;refine ag.intro (fun h=>?_) fun h=>?_
 ·have aq:k<l.length:=by have:=of_decide_eq_true h;omega
  rw[alw aq,uk] at hd;refine⟨by omega,by rw[alm];omega,_,getD_map aq,?_⟩;rw[eG];refine ag.intro (fun h1=>?_) fun h1=>?_
  ·rw[hd,if_pos (of_decide_eq_true h1)]
  ·rw[aV (by omega)];exact bY (k+1) ⟨by omega,by rw[hd,if_neg (of_decide_eq_false h1)]⟩ (by omega)
 ·have je:l.length<=k:=by have:=of_decide_eq_false h;omega
  rw[hd,alC je];rfl
theorem Kw:∀(l:List ByteArray) (k:Nat),-1<=uk w l k/\uk w l k<=k+l.length
 | [],k=>by rw[uk];simp
 |x::l,k=>by
  have:=Kw l (k+1);rw[uk,als]
  split<;>omega
theorem Cm:af Tryz.prog 139 [nS w] (nI (zP w)):=by
 have hb:=Kw (w:=w) Kt 0;have:Kt.length=12:=rfl;refine Ql ⟨_,te (l:=Kt) (by decide),?_⟩;rw[aT (by omega) (by omega)];rfl
theorem adm {x:ByteArray} {l:List ByteArray}:l.map nS++[nS x]=(l++[x]).map nS:=by simp
theorem Cn (h:PE L s) (hi:st.1<=L.length):aG Tryz.prog 141 [.ptr 1 0] (PO L s o st) (fun r q=>r=yt (rE L s st).1/\q=PO L s o (rE L s st).2):=by
 have hlen:=h.len;have i1:=(cq (s:=s) h).2 hi;generalize hX:rE L s st=X;rw[rE] at hX;have loop:∀(l:List ByteArray) (u:St) (m:Nat),u.1<=L.length->L.length<=m+u.1->l.length<=u.1+2->R8 L s m l u=X->
   EA (((),(),()),((L.map cp,s,(u.1:Int),()),((),o,u.2.1,u.2.2.1,u.2.2.2.1,u.2.2.2.2,()),l.map nS,())) (R5 (yt X.1) (PO L s o X.2)):=by
  intro l u m hu hm hl he;refine ay.intro (fun p:Nat×List ByteArray×St=>(((),(),()),((L.map cp,s,(p.2.2.1:Int),()),((),o,p.2.2.2.1,p.2.2.2.2.1,p.2.2.2.2.2.1,p.2.2.2.2.2.2,()),p.2.1.map nS,())))
   (fun p=>p.2.2.1<=L.length/\L.length<=p.1+p.2.2.1/\p.2.1.length<=p.2.2.1+2/\R8 L s p.1 p.2.1 p.2.2=X) (fun p=>L.length-p.2.2.1) (m,l,u) rfl ⟨hu,hm,hl,he⟩ ?_
  intro ⟨m,l,u⟩ ⟨hu,hm,hl,he⟩ again bY;dsimp only at hu hm hl he ⊢;have stop:(ud u&&(pk L s u.1).1==1)=false->(l.map nS).length=(l.map nS).length/\R5 (yt X.1) (PO L s o X.2) (.sl (l.map nS)) (PO L s o u):=fun h1=>by
   have:R8 L s m l u=(l,u):=by
    cases m with
    |zero=>rfl
    |succ m=>rw[R8,if_neg (by rw[h1];decide)]
   rw[<-he,this];exact⟨rfl,aB.refl _,rfl⟩
  refine⟨_,bK (st:=u),fun r q ⟨e1,e2⟩=>⟨_,_,_,_,_,_,_,_,_,⟨e1,e2⟩,ag.intro (fun h1=>⟨_,cN h hu,fun r q ⟨e1,e2⟩=>⟨_,_,_,_,_,_,⟨e1,e2⟩,ag.intro (fun h2=>?_) fun h2=>stop (by rw[h1,h2];rfl)⟩⟩) fun h1=>stop (by rw[h1];rfl)⟩⟩;have hk:(pk L s u.1).1=1:=by simpa using h2
  have aq:=yi (L:=L) (s:=s) (i:=u.1) h (by rw[hk];decide);have hw:(bC L s u).2.1=u.1+1:=by rw[bC,oz,if_pos h1,if_pos hk]
  obtain⟨m,rfl⟩:∃j,m=j+1:=⟨m-1,by omega⟩;rw[R8,if_pos (by rw[h1,h2];rfl)] at he;refine⟨_,cW (st:=u) h hu,fun r q ⟨e1,e2⟩=>⟨_,_,_,_,_,_,_,_,_,⟨e1,e2⟩,rfl,bp rfl (by simp;omega) (by decide),rfl,?_⟩⟩;rw[adm];exact bY (m,l++[(bC L s u).1],(bC L s u).2) ⟨by dsimp only;omega,by dsimp only;omega,by simp;omega,he⟩ (by dsimp only;omega)
 refine aG.Il (P0 ⟨_,cW h hi,fun r q ⟨e1,e2⟩=>⟨_,_,_,_,_,_,_,_,_,⟨e1,e2⟩,?_⟩⟩);clear e1 e2;generalize hu:(bC L s st).2=u at i1 hX;generalize (bC L s st).1=x0 at hX;have stop:(ud u&&(pk L s u.1).1==1)=false->R5 (yt X.1) (PO L s o X.2) (.clip [nS x0]) (PO L s o u):=fun h1=>by
  rw[R8,if_neg (by rw[h1];decide)] at hX;rw[<-hX];exact⟨fk _,rfl⟩
 refine⟨_,bK (st:=u),fun r q ⟨e1,e2⟩=>⟨_,_,_,_,_,_,_,_,_,⟨e1,e2⟩,ag.intro (fun h1=>⟨_,cN h i1,fun r q ⟨e1,e2⟩=>⟨_,_,_,_,_,_,⟨e1,e2⟩,ag.intro (fun h2=>?_) fun h2=>stop (by rw[h1,h2];rfl)⟩⟩) fun h1=>stop (by rw[h1];rfl)⟩⟩;have hk:(pk L s u.1).1=1:=by simpa using h2
 have aq:=yi (L:=L) (s:=s) (i:=u.1) h (by rw[hk];decide);have hw:(bC L s u).2.1=u.1+1:=by rw[bC,oz,if_pos h1,if_pos hk]
 rw[R8,if_pos (by rw[h1,h2];rfl)] at hX;refine⟨_,cW (st:=u) h i1,fun r q ⟨e1,e2⟩=>⟨_,_,_,_,_,_,_,_,_,⟨e1,e2⟩,(fun e=>by cases e),jm (fun x hx=>by rw[alG.1 hx];rfl) (fun x hx=>by rw[alG.1 hx];rfl) (by show 2<=4000000000;decide) (by decide),rfl,?_⟩⟩;exact loop ([x0]++[(bC L s u).1]) (bC L s u).2 L.length (by omega) (by omega) (by show 2<=_;omega) hX
theorem Co (h:PE L s) (hi:st.1<=L.length):aG Tryz.prog 144 [.ptr 1 0] (PO L s o st) (fun r q=>r=yt (um L s st).1/\q=PO L s o (um L s st).2):=by
 have hlen:=h.len;have i1:=(cq (s:=s) h).2 hi;have i2:=(cM (L:=L) (s:=s) (w:=Ck) (st:=(bC L s st).2)).2 i1;have i3:=(cq (st:=dD L s Ck (bC L s st).2) (s:=s) h).2 i2;refine Qk ⟨_,cW h hi,fun r q ⟨e1,e2⟩=>⟨_,_,_,_,_,_,_,_,_,⟨e1,e2⟩,_,dW h i1,fun r q ⟨e1,e2⟩=>⟨_,_,_,_,_,_,_,_,⟨e1,e2⟩,_,cW h i2,fun r q ⟨e1,e2⟩=>⟨_,_,_,_,_,_,_,_,_,⟨e1,e2⟩,(fun e=>by cases e),
  jm (fun x hx=>by rw[alG.1 hx];rfl) (fun x hx=>by rw[alG.1 hx];rfl) (by show 2<=4000000000;decide) (by decide),rfl,?_⟩⟩⟩⟩
 clear e1 e2;rw[um];generalize hX:Yp L s (L.length+1) [(bC L s st).1,(bC L s (dD L s Ck (bC L s st).2)).1] (bC L s (dD L s Ck (bC L s st).2)).2=X;refine ay.intro (fun p:Nat×List ByteArray×St=>(((),(),()),((L.map cp,s,(p.2.2.1:Int),()),((),o,p.2.2.2.1,p.2.2.2.2.1,p.2.2.2.2.2.1,p.2.2.2.2.2.2,()),p.2.1.map nS,())))
  (fun p=>p.2.2.1<=L.length/\L.length+1<=p.1+p.2.2.1/\p.2.1.length<=p.2.2.1+2/\Yp L s p.1 p.2.1 p.2.2=X) (fun p=>L.length-p.2.2.1) (L.length+1,[(bC L s st).1,(bC L s (dD L s Ck (bC L s st).2)).1],(bC L s (dD L s Ck (bC L s st).2)).2) rfl ⟨i3,by dsimp only;omega,by show 2<=_;omega,hX⟩ ?_
 intro ⟨m,l,u⟩ ⟨hu,hm,hl,he⟩ again bY;dsimp only at hu hm hl he ⊢;obtain⟨m,rfl⟩:∃j,m=j+1:=⟨m-1,by omega⟩;rw[Yp] at he;have hn:=fp (L:=L) (s:=s) (w:=Ck) (st:=u);have Nr:=hn.2 hu;refine⟨_,jo h hu,fun r q ⟨e1,e2⟩=>⟨_,_,_,_,_,_,_,_,_,⟨e1,e2⟩,ag.intro (fun h1=>?_) fun h1=>?_⟩⟩
 ·rw[if_pos h1] at he;have aq:u.1<(dn L s Ck u).2.1:=by
   unfold dn at h1 ⊢;split
   ·exact amC _
   ·rename_i hc;rw[if_neg hc] at h1;cases h1
  have hwa:=cq (st:=(dn L s Ck u).2) (s:=s) h;refine⟨_,cW h Nr,fun r q ⟨e1,e2⟩=>⟨_,_,_,_,_,_,_,_,_,⟨e1,e2⟩,rfl,bp rfl (by simp;omega) (by decide),rfl,?_⟩⟩;rw[adm];have h3:=hwa.1;have h4:=hwa.2 Nr;exact bY (m,l++[(bC L s (dn L s Ck u).2).1],(bC L s (dn L s Ck u).2).2) ⟨h4,by dsimp only;omega,by simp;omega,he⟩ (by dsimp only;omega)
 ·rw[if_neg (by rw[h1];decide)] at he;rw[<-he];exact⟨rfl,rfl,rfl⟩
theorem lY (h:PE L s):LR L s 128 0 (mW L s 60):=vi h 60 (alp _)
theorem Cp (h:PE L s):LR L s 116 0 (Cj L s 60):=rD h 60 (alp _)
theorem nU (h:PE L s) (hi:st.1<=L.length):aG Tryz.prog 143 [.ptr 1 0,nS w] (PO L s 0 st) (fun r q=>r=.sl ((lX L s w st).1.map Nd.enc)/\q=PO L s 0 (lX L s w st).2):=by
 have i1:=(ky h 60 st).2 hi;have i2:=(cM (L:=L) (s:=s) (w:=w) (st:=(mW L s 60 st).2)).2 i1;refine aG.Il (Qf ⟨_,lY h _ hi,fun r q ⟨e1,e2⟩=>⟨_,_,_,_,_,_,_,_,_,_,_,_,⟨e1,e2⟩,_,dW h i1,fun r q ⟨e1,e2⟩=>⟨_,_,_,_,_,_,_,_,⟨e1,e2⟩,_,lY h _ i2,fun r q ⟨e1,e2⟩=>⟨_,_,_,_,_,_,_,_,_,_,_,_,⟨e1,e2⟩,?_,rfl⟩⟩⟩⟩);rw[lX,<-R6];exact fk _
theorem nV (h:PE L s) (hi:st.1<=L.length):aG Tryz.prog 142 [.ptr 1 0] (PO L s o st) (fun r q=>r=yt (jA L s st).1/\q=PO L s o (jA L s st).2):=
 aG.Il (Qg ⟨_,cW h hi,fun r q ⟨e1,e2⟩=>⟨_,_,_,_,_,_,_,_,_,⟨e1,e2⟩,_,dW h ((cq h).2 hi),fun r q ⟨e1,e2⟩=>⟨_,_,_,_,_,_,_,_,⟨e1,e2⟩,fk _,rfl⟩⟩⟩)
theorem pG (h:PE L s) (hi:st.1<=L.length):aG Tryz.prog 146 [.ptr 1 0] (PO L s o st) (fun r q=>r=nI (iu L s st).1/\q=PO L s o (iu L s st).2):=
 Qh ⟨_,ym h hi,fun r q ⟨e1,e2⟩=>⟨_,_,_,_,_,_,_,_,_,⟨e1,e2⟩,_,dW h ((yl h).2 hi),fun r q ⟨e1,e2⟩=>⟨_,_,_,_,_,_,_,_,⟨e1,e2⟩,rfl,rfl⟩⟩⟩
end
section
variable {L:List Tk} {s w:ByteArray} {o:Int} {st:St} {i n:Nat}
theorem Yq {k n a:Int} {x y:AV} {t:It} (hx:aB x (yt t.words)) (hy:aB y (.sl (t.nodes.map Nd.enc))) (h1:k=t.kind) (h2:n=t.num) (h3:a=t.at_):aB (.agg [nI k,x,y,nI n,nI a]) (gL t):=by
 subst h1 h2 h3;exact aB.agg ⟨aB.refl _,hx,hy,aB.refl _,aB.refl _,True.intro⟩
theorem agK {w:ByteArray}:aB (.clip [nS w]) (yt [w]):=fk _
theorem adn (t:Nd):aB (.clip [gu t]) (.sl ([t].map Nd.enc)):=by
 have:[t].map Nd.enc=[gu t]:=by simp[Nd.ax]
 rw[this];exact fk _
theorem FO (h:PE L s) (hi:st.1<=L.length):aG Tryz.prog 87 [.ptr 1 0] (PO L s 0 st) (fun r q=>r=gL (jJ L s st).1/\q=PO L s 0 (jJ L s st).2):=by
 have hlen:=h.len;refine aG.Il (UO ⟨_,cN h hi,fun r q ⟨e1,e2⟩=>⟨_,_,_,_,_,_,⟨e1,e2⟩,_,Cm,ag.intro (fun h1=>?_) fun h1=>ag.intro (fun h2=>?_) fun h2=>?_⟩⟩)
 ·have h1:¬(pk L s st.1).1=1:=by simpa using h1
  rw[jJ,if_neg fun c=>h1 c.1];exact⟨_,eO (st:=st) h hi,fun r q ⟨e1,e2⟩=>⟨_,_,_,_,_,_,_,_,⟨e1,e2⟩,Yq bw bw rfl rfl rfl,rfl⟩⟩
 ·have h2:zP (pk L s st.1).2.1=0:=by simpa using h2
  rw[jJ,if_neg fun c=>c.2 h2];exact⟨_,eO (st:=st) h hi,fun r q ⟨e1,e2⟩=>⟨_,_,_,_,_,_,_,_,⟨e1,e2⟩,Yq bw bw rfl rfl rfl,rfl⟩⟩
 have h1:(pk L s st.1).1=1:=by simpa using h1
 have h2:zP (pk L s st.1).2.1≠0:=by simpa using h2
 have aq:=yi (L:=L) (s:=s) (i:=st.1) h (by rw[h1];decide);rw[jJ,if_pos ⟨h1,h2⟩];refine⟨_,vc h hi,fun r q ⟨e1,e2⟩=>⟨_,_,_,_,_,_,⟨e1,by rw[if_pos aq] at e2;exact e2⟩,?_⟩⟩;clear e1 e2;generalize zP (pk L s st.1).2.1=k at h2 ⊢;generalize (pk L s st.1).2.2=a;have iK:st.1+1<=L.length:=aq;have hu:((st.1+1,st.2):St).1<=L.length:=iK;generalize hU:((st.1+1,st.2):St)=u at hu ⊢;have eu1:((st.1+1:Nat):Int)=(u.1:Int):=by rw[<-hU]
 have eu2:st.2=u.2:=by rw[<-hU]
 rw[eu1,eu2];clear hU eu1 eu2 iK aq h1 hi;have fin:∀{B:(List ByteArray×List Nd×Int)×St} {x y:AV} {m:Int},cI L s k u=B->aB x (yt B.1.1)->aB y (.sl (B.1.2.1.map Nd.enc))->m=B.1.2.2->
   ao 148 [.ptr 1 0,nS Yo] (PO L s 0 B.2) fun r q=>∃l s2 i1 i2 i3 i4 i5 w,(r=.av []/\q=aP l s2 i1 i2 i3 i4 i5 w)/\
    R5 (gL ⟨k,(cI L s k u).1.1,(cI L s k u).1.2.1,(cI L s k u).1.2.2,a⟩) (PO L s 0 (dD L s Yo (cI L s k u).2)) (.agg [nI k,x,y,nI m,nI a]) (aP l s2 i1 i2 i3 i4 i5 w):=by
  intro B x y m hB hx hy hm;subst hB;exact⟨_,dW h ((uq h).2 hu),fun r q ⟨e1,e2⟩=>⟨_,_,_,_,_,_,_,_,⟨e1,e2⟩,Yq hx hy rfl hm rfl,rfl⟩⟩
 have r12:=fun(hk:k≠1/\¬(k=2\/k=3)/\k≠4/\k≠5/\k≠6/\k≠7/\k≠9/\k≠10)=>(show EE (k==12) (L.map cp) s (u.1:Int) 0 u.2.1 u.2.2.1 u.2.2.2.1 u.2.2.2.2 (R5 (gL ⟨k,(cI L s k u).1.1,(cI L s k u).1.2.1,(cI L s k u).1.2.2,a⟩) (PO L s 0 (dD L s Yo (cI L s k u).2))) k a from by
  obtain⟨g1,g2,g4,g5,g6,g7,g9,g10⟩:=hk;refine ag.intro (fun c=>⟨_,cW (st:=u) h hu,fun r q ⟨e1,e2⟩=>⟨_,_,_,_,_,_,_,_,_,⟨e1,e2⟩,?_⟩⟩) fun c=>⟨_,ym (st:=u) h hu,fun r q ⟨e1,e2⟩=>⟨_,_,_,_,_,_,_,_,_,⟨e1,e2⟩,?_⟩⟩
  ·have c:k=12:=by simpa using c
   exact fin (by rw[cI,if_neg g1,if_neg g2,if_neg g4,if_neg g5,if_neg g6,if_neg g7,if_neg g9,if_neg g10,if_pos c]) agK bw rfl
  ·have c:¬k=12:=by simpa using c
   exact fin (by rw[cI,if_neg g1,if_neg g2,if_neg g4,if_neg g5,if_neg g6,if_neg g7,if_neg g9,if_neg g10,if_neg c]) bw bw rfl)
 have r9:=fun(hk:k≠1/\¬(k=2\/k=3)/\k≠4/\k≠5/\k≠6/\k≠7)=>(show EF (k==9) (L.map cp) s (u.1:Int) 0 u.2.1 u.2.2.1 u.2.2.2.1 u.2.2.2.2 (R5 (gL ⟨k,(cI L s k u).1.1,(cI L s k u).1.2.1,(cI L s k u).1.2.2,a⟩) (PO L s 0 (dD L s Yo (cI L s k u).2))) k a from by
  obtain⟨g1,g2,g4,g5,g6,g7⟩:=hk;refine ag.intro (fun c=>⟨_,pG (st:=u) h hu,fun r q ⟨e1,e2⟩=>⟨_,_,_,_,_,_,_,_,_,⟨e1,e2⟩,_,lY h _ ((kg h).2 hu),fun r q ⟨e1,e2⟩=>⟨_,_,_,_,_,_,_,_,_,_,_,_,⟨e1,e2⟩,?_⟩⟩⟩) fun c=>
   ag.intro (fun c2=>⟨_,pG (st:=u) h hu,fun r q ⟨e1,e2⟩=>⟨_,_,_,_,_,_,_,_,_,⟨e1,e2⟩,_,nU h ((kg h).2 hu),fun r q ⟨e1,e2⟩=>⟨_,_,_,_,_,_,_,_,_,⟨e1,e2⟩,?_⟩⟩⟩) fun c2=>?_
  ·have c:k=9:=by simpa using c
   exact fin (by rw[cI,if_neg g1,if_neg g2,if_neg g4,if_neg g5,if_neg g6,if_neg g7,if_pos c]) bw (adn _) rfl
  ·have c:¬k=9:=by simpa using c
   have c2:k=10:=by simpa using c2
   exact fin (by rw[cI,if_neg g1,if_neg g2,if_neg g4,if_neg g5,if_neg g6,if_neg g7,if_neg c,if_pos c2]) bw (aB.refl _) rfl
  ·exact r12 ⟨g1,g2,g4,g5,g6,g7,by simpa using c,by simpa using c2⟩)
 have r4:=fun(hk:k≠1/\¬(k=2\/k=3))=>(show xR (k==4) (L.map cp) s (u.1:Int) 0 u.2.1 u.2.2.1 u.2.2.2.1 u.2.2.2.2 (R5 (gL ⟨k,(cI L s k u).1.1,(cI L s k u).1.2.1,(cI L s k u).1.2.2,a⟩) (PO L s 0 (dD L s Yo (cI L s k u).2))) k a from by
  obtain⟨g1,g2⟩:=hk;refine ag.intro (fun c=>⟨_,nV (st:=u) h hu,fun r q ⟨e1,e2⟩=>⟨_,_,_,_,_,_,_,_,_,⟨e1,e2⟩,_,nU h ((iT h).2 hu),fun r q ⟨e1,e2⟩=>⟨_,_,_,_,_,_,_,_,_,⟨e1,e2⟩,?_⟩⟩⟩) fun c4=>
   ag.intro (fun c=>⟨_,nV (st:=u) h hu,fun r q ⟨e1,e2⟩=>⟨_,_,_,_,_,_,_,_,_,⟨e1,e2⟩,_,nU h ((iT h).2 hu),fun r q ⟨e1,e2⟩=>⟨_,_,_,_,_,_,_,_,_,⟨e1,e2⟩,?_⟩⟩⟩) fun c5=>
   ag.intro (fun c=>⟨_,Co (st:=u) h hu,fun r q ⟨e1,e2⟩=>⟨_,_,_,_,_,_,_,_,_,⟨e1,e2⟩,?_⟩⟩) fun c6=>
   ag.intro (fun c=>⟨_,cW (st:=u) h hu,fun r q ⟨e1,e2⟩=>⟨_,_,_,_,_,_,_,_,_,⟨e1,e2⟩,_,cW h ((cq h).2 hu),fun r q ⟨e1,e2⟩=>⟨_,_,_,_,_,_,_,_,_,⟨e1,e2⟩,?_⟩⟩⟩) fun c7=>?_
  ·have c:k=4:=by simpa using c
   exact fin (by rw[cI,if_neg g1,if_neg g2,if_pos c]) (aB.refl _) (aB.refl _) rfl
  ·have c4:¬k=4:=by simpa using c4
   have c:k=5:=by simpa using c
   exact fin (by rw[cI,if_neg g1,if_neg g2,if_neg c4,if_pos c]) (aB.refl _) (aB.refl _) rfl
  ·have c4:¬k=4:=by simpa using c4
   have c5:¬k=5:=by simpa using c5
   have c:k=6:=by simpa using c
   exact fin (by rw[cI,if_neg g1,if_neg g2,if_neg c4,if_neg c5,if_pos c]) (aB.refl _) bw rfl
  ·have c4:¬k=4:=by simpa using c4
   have c5:¬k=5:=by simpa using c5
   have c6:¬k=6:=by simpa using c6
   have c:k=7:=by simpa using c
   exact fin (by rw[cI,if_neg g1,if_neg g2,if_neg c4,if_neg c5,if_neg c6,if_pos c]) (fk _) bw rfl
  ·exact r9 ⟨g1,g2,by simpa using c4,by simpa using c5,by simpa using c6,by simpa using c7⟩)
 have t23:k≠1->(k=2\/k=3)->ao 142 [.ptr 1 0] (PO L s 0 u) fun r q=>∃l s2 i1 i2 i3 i4 i5 w l2,(r=.sl l2/\q=aP l s2 i1 i2 i3 i4 i5 w)/\
   xQ l s2 i1 i2 i3 i4 i5 w (R5 (gL ⟨k,(cI L s k u).1.1,(cI L s k u).1.2.1,(cI L s k u).1.2.2,a⟩) (PO L s 0 (dD L s Yo (cI L s k u).2))) k l2 a:=fun g1 g2=>
  ⟨_,nV (st:=u) h hu,fun r q ⟨e1,e2⟩=>⟨_,_,_,_,_,_,_,_,_,⟨e1,e2⟩,_,Cp h _ ((iT h).2 hu),fun r q ⟨e1,e2⟩=>⟨_,_,_,_,_,_,_,_,_,_,_,_,⟨e1,e2⟩,fin (by rw[cI,if_neg g1,if_pos g2]) (aB.refl _) (adn _) rfl⟩⟩⟩
 refine ag.intro (fun c=>⟨_,Cn (st:=u) h hu,fun r q ⟨e1,e2⟩=>⟨_,_,_,_,_,_,_,_,_,⟨e1,e2⟩,?_⟩⟩) fun c1=>ag.intro (fun c2=>ag.pos c2 (t23 (by simpa using c1) (.inl (by simpa using c2)))) fun c2=>ag.intro (fun c3=>t23 (by simpa using c1) (.inr (by simpa using c3))) fun c3=>r4 ⟨by simpa using c1,?_⟩
 ·have c:k=1:=by simpa using c
  exact fin (by rw[cI,if_pos c]) (aB.refl _) bw rfl
 ·have c2:¬k=2:=by simpa using c2
  have c3:¬k=3:=by simpa using c3
  omega
theorem Cq (h:PE L s) (hi:st.1<=L.length):aG Tryz.prog 83 [.ptr 1 0] (PO L s 0 st) (fun r q=>r=.sl ((uo L s (L.length+2) [] st).1.map gL)/\q=PO L s 0 (uo L s (L.length+2) [] st).2):=by
 have hlen:=h.len;generalize hX:uo L s (L.length+2) [] st=X;refine UW ⟨rfl,?_⟩;refine ay.intro (fun p:Nat×List It×St=>(((),(),()),((L.map cp,s,(p.2.2.1:Int),()),((),0,p.2.2.2.1,p.2.2.2.2.1,p.2.2.2.2.2.1,p.2.2.2.2.2.2,()),p.2.1.map gL,())))
  (fun p=>p.2.2.1<=L.length/\L.length+1+(if ud p.2.2=true then 1 else 0)<=p.1+p.2.2.1/\p.2.1.length<=1000/\uo L s p.1 p.2.1 p.2.2=X) (fun p=>2*(L.length-p.2.2.1)+(if ud p.2.2=true then 1 else 0)) (L.length+2,[],st) rfl ⟨hi,by dsimp only;split<;>omega,aly _,hX⟩ ?_
 intro ⟨m,l,u⟩ ⟨hu,hm,hl,he⟩ again bY;dsimp only at hu hm hl he ⊢;obtain⟨m,rfl⟩:∃j,m=j+1:=⟨m-1,by split at hm<;>omega⟩;have stop:(ud u&&(pk L s u.1).1 != 4)=false->(l.map gL).length=(l.map gL).length/\(AV.sl (l.map gL)=.sl (X.1.map gL)/\PO L s 0 u=PO L s 0 X.2):=fun h1=>by
  rw[uo,if_neg (by rw[h1];decide)] at he;rw[<-he];exact⟨rfl,rfl,rfl⟩
 refine⟨_,bK (st:=u),fun r q ⟨e1,e2⟩=>⟨_,_,_,_,_,_,_,_,_,⟨e1,e2⟩,ag.intro (fun h1=>⟨_,cN h hu,fun r q ⟨e1,e2⟩=>⟨_,_,_,_,_,_,⟨e1,e2⟩,ag.intro (fun h2=>⟨rfl,?_⟩) fun h2=>stop (by rw[h1,h2];rfl)⟩⟩) fun h1=>stop (by rw[h1];rfl)⟩⟩;rw[uo,if_pos (by rw[h1,h2];rfl)] at he;rw[if_pos h1] at hm;rw[alm];refine ag.intro (fun h3=>⟨_,eO (st:=u) h hu,fun r q ⟨e1,e2⟩=>⟨_,_,_,_,_,_,_,_,⟨e1,e2⟩,?_⟩⟩) fun h3=>⟨_,FO (st:=u) h hu,fun r q ⟨e1,e2⟩=>⟨_,_,_,_,_,_,_,_,_,_,_,_,_,⟨e1,e2⟩,?_⟩⟩
 ·have h3:l.length=1000:=by have:=eq_of_beq h3;omega
  rw[if_pos h3] at he;rw[<-he];exact⟨rfl,rfl,rfl⟩
 ·have h3:¬l.length=1000:=fun e=>by rw[e] at h3;cases h3
  rw[if_neg h3] at he;have ha:=AM (st:=u) h;have hon:=R9 (st:=u) h h1;have h4:=ha.1;have h5:=ha.2 hu;refine⟨rfl,bp rfl (by simp;omega) (by decide),rfl,?_⟩;have e:l.map gL++[gL (jJ L s u).1]=(l++[(jJ L s u).1]).map gL:=by simp
  rw[e];refine bY (m,l++[(jJ L s u).1],(jJ L s u).2) ⟨h5,?_,by simp;omega,he⟩ ?_
  ·dsimp only;rcases hon with h6|h6
   ·split<;>omega
   ·rw[if_neg (by rw[h6];decide)];omega
  ·dsimp only;rw[if_pos h1];rcases hon with h6|h6
   ·split<;>omega
   ·rw[if_neg (by rw[h6];decide)];omega
theorem Kx {s:ByteArray}:∀(f i:Nat) (acc:List Tk),i<=s.size->acc.length<=i->(∀t∈acc,(0<=t.2.2/\t.2.2<=(s.size:Int))/\t.1≠4)->
  (Cc s f i acc).1.length<=s.size/\∀t∈(Cc s f i acc).1,(0<=t.2.2/\t.2.2<=(s.size:Int))/\t.1≠4
 |0,i,acc,hi,ha,h=>⟨by rw[Cc];dsimp only;omega,h⟩
 |f+1,i,acc,hi,ha,h=>by
  have hl:=bU s;have hle:=yc false ((ak s).drop i);rw[alX,hl] at hle;have hA:i<=gK s i/\gK s i<=s.size:=by rw[gK];omega
  rw[Cc];generalize gK s i=a at hA;split
  ·exact⟨by dsimp only;omega,h⟩
  split
  ·exact⟨aly _,fun t ht=>by cases ht⟩
  split
  ·exact⟨aly _,fun t ht=>by cases ht⟩
  rename_i h0 _;have DK:=Ko ((ak s).drop a);rw[alX,hl] at DK;have hk:∀l:List Int,(zJ l).1<=3:=fun l=>by
   cases l with
   |nil=>decide
   |cons c l=>
    rw[zJ];split
    ·show 1<=3;decide
    ·split
     ·show 2<=3;decide
     ·show 3<=3;decide
  have hk:=hk ((ak s).drop a);change (qz s a).2<=_ at DK;change (qz s a).1<=_ at hk;refine Kx f _ _ (by omega) (by simp;omega) fun t ht=>?_;rcases amc.1 ht with ht|ht
  ·exact h t ht
  ·obtain rfl:=alG.1 ht;exact⟨⟨by simp,by simp;omega⟩,by show ¬(((qz s a).1:Nat):Int)=4;omega⟩
theorem Sa {s:ByteArray}:PE (cV s).1 s\/20000<s.size/\cV s=([],(2,1,1,⟨#[]⟩)):=by
 by_cases h:s.size>20000
 ·exact .inr ⟨h,if_pos h⟩
 ·refine .inl ?_;have hp:=Kx (s:=s) (s.size+1) 0 [] (aly _) (alp _) fun t ht=>by cases ht
  rw[cV,if_neg h,Vw];split
  ·exact⟨by dsimp only;omega,by omega,fun t ht=>(hp.2 t ht).1,fun t ht=>(hp.2 t ht).2⟩
  ·exact⟨aly _,by omega,fun t ht=>(by cases ht),fun t ht=>by cases ht⟩
theorem Sb {l:List Tk} (hl:l.length<=1000000):af Tryz.prog 216 [.sl (l.map cp)] (.sl (l.map cp)):=by
 refine PF fun b hb=>ag.intro (fun h=>?_) fun h=>⟨fun _=>rfl,jm (fun x hx=>by cases hx) (fun x hx=>by obtain⟨t,_,rfl⟩:=amg.1 hx;rfl) (by simp;omega) (by decide),rfl,rfl⟩;have:l.map cp=[]:=Decidable.byContradiction fun c=>by
  have:=hb c;rw[h] at this;cases this
 rw[this]
theorem Iq {l:List Tk} (hl:l.length<=1000000):aG Tryz.prog 137 [.sl (l.map cp),nS s] [] (fun r q=>r=.ptr 0 0/\q=RO l s 0):=Px ⟨_,Sb hl,rfl,rfl⟩
theorem Cr {s:ByteArray} (hs:s.size<=1000000000):af Tryz.prog 82 [nS s,.bf 83 []] (.av [.sl ((dM s).1.map gL),.agg (Ia (dM s).2)]):=by
 refine UQ ⟨_,_,_,_,_,yg hs,ag.intro (fun h1=>?_) fun h1=>?_⟩
 ·have h1:¬(cV s).2.1=0:=by simpa using h1
  rw[dM,if_neg h1];rfl
 have h1:(cV s).2.1=0:=by simpa using h1
 have hp:PE (cV s).1 s:=by
  rcases Sa (s:=s) with h|⟨_,h⟩
  ·exact h
  ·rw[h] at h1;cases h1
 rw[dM,if_pos h1];generalize (cV s).1=L at hp ⊢;have agL:∀(n:Nat) (l:List It) (u:St),lV L u (uo L s n l u).2:=by
  intro n
  induction n with
  |zero=>intro l u;exact lV.refl
  |succ n ih=>
   intro l u;rw[uo];split
   ·split
    ·exact mT
    ·exact(AM hp).trans (ih _ _)
   ·exact lV.refl
 have iK:=(agL (L.length+2) [] (0,pz)).2 (aly _);generalize hX:uo L s (L.length+2) [] (0,pz)=X at iK ⊢;obtain⟨l,st1⟩:=X;have ado:=Cq (st:=(0,pz)) hp (aly _);rw[hX] at ado;have fin:∀u:St,u=s9 L s st1->ag (!(ud u)) (AV.av [.sl [],.agg (Ia u.2)]=.av [.sl ((if ud (s9 L s st1)=true then(l,pz) else([],(s9 L s st1).2)).1.map gL),.agg (Ia (if ud (s9 L s st1)=true then(l,pz) else([],(s9 L s st1).2)).2)])
   (AV.av [.sl (l.map gL),.agg [nI 0,nI 0,nI 0,nS ⟨#[]⟩]]=.av [.sl ((if ud (s9 L s st1)=true then(l,pz) else([],(s9 L s st1).2)).1.map gL),.agg (Ia (if ud (s9 L s st1)=true then(l,pz) else([],(s9 L s st1).2)).2)]):=by
  intro u hu;subst hu
  cases ho:ud (s9 L s st1)
  ·exact ag.pos rfl rfl
  ·exact ag.neg rfl rfl
 refine⟨_,Iq hp.len,fun r q ⟨e1,e2⟩=>⟨_,_,_,⟨e1,e2⟩,_,ado,fun r q ⟨e1,e2⟩=>⟨_,_,_,_,_,_,_,_,_,⟨e1,e2⟩,_,cN hp iK,fun r q ⟨e1,e2⟩=>⟨_,_,_,_,_,_,⟨e1,e2⟩,ag.intro (fun h2=>?_) fun h2=>?_⟩⟩⟩⟩
 ·have h2:¬(pk L s st1.1).1=4:=by simpa using h2
  exact⟨_,eO (st:=st1) hp iK,fun r q ⟨e1,e2⟩=>⟨_,_,_,_,_,_,_,_,⟨e1,e2⟩,_,bK (st:=jI L s 3 st1),fun r q ⟨e1,e2⟩=>⟨_,_,_,_,_,_,_,_,_,⟨e1,e2⟩,fin _ (by rw[s9,if_neg h2])⟩⟩⟩
 ·have h2:(pk L s st1.1).1=4:=by simpa using h2
  exact⟨_,bK (st:=st1),fun r q ⟨e1,e2⟩=>⟨_,_,_,_,_,_,_,_,_,⟨e1,e2⟩,fin _ (by rw[s9,if_pos h2])⟩⟩
theorem vP {s:ByteArray} (hs:s.size<=1000000000):af Tryz.prog 31 [nS s] (.av [.sl ((dM s).1.map gL),.agg (Ia (dM s).2)]):=
 UR ⟨_,_,_,_,_,Cr hs,rfl⟩
end
@[simp] theorem aeg (f:FuncId):Fence.wide.fn f=True:=rfl
@[simp] theorem Yr:Fence.wide.depth=none:=rfl
set_option maxHeartbeats 1600000
theorem th (w:World):(callFunc 304 #[]).run Tryz.prog w=.ok (.value (.tuple #[])) w:=run_call_mark0 Tryz.func304 (by kernel_rfl) (by kernel_rfl) (by kernel_rfl) .disable (by kernel_rfl) w
theorem vj (w:World):(callFunc 306 #[]).run Tryz.prog w=.ok (.value (.tuple #[])) w:=run_call_mark0 Tryz.func306 (by kernel_rfl) (by kernel_rfl) (by kernel_rfl) .enable (by kernel_rfl) w
theorem Cs (a:Addr) (w:World):(callFunc 307 #[.pointer (some a)]).run Tryz.prog w=.ok (.value (.tuple #[])) w:=run_call_marked Tryz.func307 (by kernel_rfl) (by kernel_rfl) (by kernel_rfl) .acquire (by kernel_rfl) a w
theorem Ct (a:Addr) (w:World):(callFunc 309 #[.pointer (some a)]).run Tryz.prog w=.ok (.value (.tuple #[])) w:=run_call_marked Tryz.func309 (by kernel_rfl) (by kernel_rfl) (by kernel_rfl) .releaseMerge (by kernel_rfl) a w
theorem yx (a:Addr) (x:Value) (u:FrameMode) (w:World) (hc:w.cell? a=some x) (hz:w.frozen? a=false):
  CallsDIn Fence.wide 0 Tryz.prog 290 #[.pointer (some a),.bool true] u w fun e u' w'=>u'=u/\(e=.returned (.tuple #[])/\w'=w.drew.setCell a (.int .u32 1)):=by
 have IX:w.drew.cell? a=some x:=by go_simp
 have SQ:w.drew.frozen? a=false:=by go_simp
 have CV:=run_call_store (P:=Tryz.prog) Tryz.func297 (by kernel_rfl) (by kernel_rfl) (by kernel_rfl) (by kernel_rfl) (k:=.u32) (y:=1) IX SQ
 gi_enter_d Tryz.func290,Tryz.ntmps290
 gi_wp2
 gi_region
 all_goals (go_end0;exact⟨rfl,rfl⟩)
theorem Ir (a:Addr) (w:World) (hc:w.cell? a=some (.int .i32 0)) (hz:w.frozen? a=false):
  CallsIn Fence.wide 0 Tryz.prog 302 #[.pointer (some a)] w fun e w'=>e=.returned (.tuple #[])/\w'=w.setCell a (.int .i32 1):=by
 have hd:=th;have he:=vj;have ha:=Cs;have aj3:=run_call_cas_hit (P:=Tryz.prog) Tryz.func305 (by kernel_rfl) (by kernel_rfl) (by kernel_rfl) .i32 (by kernel_rfl) (y:=1) hc hz;have IX:(w.setCell a (.int .i32 1)).cell? a=some (.int .i32 1):=World.cell?_setCell_same w a _ hc;have hcv:=run_convert_to_unsafe (P:=Tryz.prog) (src:=438) (dst:=442) Tryz.underlying438 Tryz.underlying442 (by kernel_rfl) IX
 gi_enter Tryz.func302,Tryz.ntmps302
 gi_wp2
 first|go_end0|(simp only[Exit.inBlock,Exit.then];refine bodyPost_ret (results_none rfl _ _ _) rfl ?_)|refine bodyPost_ret (results_none rfl _ _ _) rfl ?_
 all_goals (first|exact⟨rfl,rfl⟩|(gi_wp2;go_end0;exact⟨rfl,rfl⟩))
theorem LU (a:Addr) (w:World) (hc:w.cell? a=some (.int .i32 0)) (hz:w.frozen? a=false):
  CallsIn Fence.wide 0 Tryz.prog 300 #[.pointer (some a)] w fun e w'=>e=.returned (.tuple #[])/\w'=w.setCell a (.int .i32 1):=by
 gi_enter Tryz.func300,Tryz.ntmps300
 gi_wp2_with (gi_at_call 302;refine(Ir a _ hc hz).mono ?_;rintro e w' ⟨rfl,rfl⟩)
 go_end0
 exact⟨rfl,rfl⟩
theorem Cu (a:Addr) (w:World) (hc:w.cell? a=some (.int .i32 1)) (hz:w.frozen? a=false):
  CallsIn Fence.wide 0 Tryz.prog 303 #[.pointer (some a)] w fun e w'=>e=.returned (.tuple #[])/\w'=w.setCell a (.int .i32 0):=by
 have hd:=th;have he:=vj;have hr:=Ct;have aj5:=run_call_add (P:=Tryz.prog) Tryz.func310 (by kernel_rfl) (by kernel_rfl) (by kernel_rfl) .i32 (by kernel_rfl) (y := -1) (s:=0) hc hz (by simp[go_sem];rfl);have hcv:=run_convert_to_unsafe (P:=Tryz.prog) (src:=438) (dst:=442) Tryz.underlying438 Tryz.underlying442 (by kernel_rfl) hc
 gi_enter Tryz.func303,Tryz.ntmps303
 gi_wp2
 all_goals (first|exact⟨rfl,rfl⟩|(go_end0;exact⟨rfl,rfl⟩))
theorem vQ (a:Addr) (u:FrameMode) (w:World) (hc:w.cell? a=some (.int .i32 1)) (hz:w.frozen? a=false):
  CallsDIn Fence.wide 0 Tryz.prog 301 #[.pointer (some a)] u w fun e u' w'=>u'=u/\(e=.returned (.tuple #[])/\w'=w.setCell a (.int .i32 0)):=by
 gi_enter_d Tryz.func301,Tryz.ntmps301
 gi_wp2_with (gi_at_call 303;refine(Cu a _ hc hz).mono ?_;rintro e w' ⟨rfl,rfl⟩)
 go_end0
 exact⟨rfl,rfl⟩
theorem LV (a:Addr) (x:Value) (w:World) (hc:w.cell? a=some x) (hz:w.frozen? a=false):
  CallsIn Fence.wide 0 Tryz.prog 290 #[.pointer (some a),.bool true] w fun e w'=>e=.returned (.tuple #[])/\w'=w.drew.setCell a (.int .u32 1):=by
 have IX:w.drew.cell? a=some x:=by go_simp
 have SQ:w.drew.frozen? a=false:=by go_simp
 have CV:=run_call_store (P:=Tryz.prog) Tryz.func297 (by kernel_rfl) (by kernel_rfl) (by kernel_rfl) (by kernel_rfl) (k:=.u32) (y:=1) IX SQ
 gi_enter Tryz.func290,Tryz.ntmps290
 gi_wp2
 gi_region
 all_goals (go_end0;exact⟨rfl,rfl⟩)
theorem Sc (b off:Nat) (pl:Addr) (x5:Value) (w:World) (hp:w.cell? pl=some (.pointer (some ⟨b,off,none⟩)))
  (h5:w.cell? ⟨b,off+5,none⟩=some x5) (f5:w.frozen? ⟨b,off+5,none⟩=false):
  CallsIn Fence.wide 0 Tryz.prog 289 #[.pointer (some pl)] w fun e w'=>e=.returned (.tuple #[])/\w'=w.drew.setCell ⟨b,off+5,none⟩ (.int .u32 1):=by
 gi_enter Tryz.func289,Tryz.ntmps289
 gi_wp2_with (gi_at_call 290;refine(LV ⟨b,off+5,none⟩ x5 _ h5 f5).mono ?_;rintro e w' ⟨rfl,rfl⟩)
 go_end0
 exact⟨rfl,rfl⟩
theorem ur (a:Addr) (d:Int) (w:World) (hc:w.cell? a=some (.int .u32 d)):
  CallsIn Fence.wide 0 Tryz.prog 285 #[.pointer (some a)] w fun e w'=>e=.returned (.bool (d != 0))/\w'=w:=by
 have hl:=run_call_load (P:=Tryz.prog) Tryz.func293 (by kernel_rfl) (by kernel_rfl) (by kernel_rfl) .u32 (by kernel_rfl) hc
 gi_enter Tryz.func285,Tryz.ntmps285
 gi_wp2
 go_ret
 exact⟨rfl,rfl⟩
theorem Sd (b off:Nat) (pl:Addr) (hpb:¬b=pl.block) (x5:Value) (w:World) (hp:w.cell? pl=some (.pointer (some ⟨b,off,none⟩)))
  (h2:w.cell? ⟨b,off+2,none⟩=some (.int .u32 0)) (h3:w.cell? ⟨b,off+3,none⟩=some (.int .i32 0)) (h5:w.cell? ⟨b,off+5,none⟩=some x5)
  (f2:w.frozen? ⟨b,off+2,none⟩=false) (f3:w.frozen? ⟨b,off+3,none⟩=false) (f5:w.frozen? ⟨b,off+5,none⟩=false):
  CallsIn Fence.wide 0 Tryz.prog 296 #[.pointer (some ⟨b,off+2,none⟩),.func (.func 289) #[] #[.pointer (some pl)]] w fun e w'=>e=.returned (.tuple #[])/\
   w'=(((w.setCell ⟨b,off+3,none⟩ (.int .i32 1)).drew.setCell ⟨b,off+5,none⟩ (.int .u32 1)).drew.setCell ⟨b,off+2,none⟩ (.int .u32 1)).setCell ⟨b,off+3,none⟩ (.int .i32 0):=by
 have h21:(w.setCell ⟨b,off+3,none⟩ (.int .i32 1)).cell? ⟨b,off+2,none⟩=some (.int .u32 0):=((World.cell?_setCell_other _ ⟨b,off+3,none⟩ ⟨b,off+2,none⟩ _ (by simp)).trans h2);have iC:(w.setCell ⟨b,off+3,none⟩ (.int .i32 1)).cell? pl=some (.pointer (some ⟨b,off,none⟩)):=(World.cell?_setCell_other _ ⟨b,off+3,none⟩ pl _ (fun h=>hpb (by rw[<-h]))).trans hp;have h51:(w.setCell ⟨b,off+3,none⟩ (.int .i32 1)).cell? ⟨b,off+5,none⟩=some x5:=(World.cell?_setCell_other _ ⟨b,off+3,none⟩ ⟨b,off+5,none⟩ _ (by simp)).trans h5;have f51:(w.setCell ⟨b,off+3,none⟩ (.int .i32 1)).frozen? ⟨b,off+5,none⟩=false:=by simp[f5]
 have adp:∀(x:Bool) (w:World),(Op.unary .not (.bool x)).run Tryz.prog w=.ok (.bool (!x)) w:=fun _ _=>rfl
 gi_enter_defers Tryz.func296,Tryz.ntmps296
 gi_wp2_with (first|(gi_at_call 285;refine(ur ⟨b,off+2,none⟩ 0 _ h21).mono ?_;rintro e w' ⟨rfl,rfl⟩)|(gi_at_call 300;refine(LU ⟨b,off+3,none⟩ _ (by go_simp) (by go_simp)).mono ?_;rintro e w' ⟨rfl,rfl⟩)|(gi_at_call 289;refine(Sc b off pl x5 _ iC h51 f51).mono ?_;rintro e w' ⟨rfl,rfl⟩))
 refine leavesIn_cons (f:=290) (args:=#[.pointer (some ⟨b,off+2,none⟩),.bool true]) (by simp) (by simp) (by simp[go_sem]) (by simp[Target.leads]) ?_;refine(yx ⟨b,off+2,none⟩ (.int .u32 0) .returning _ ?_ (by simp[f2])).mono ?_
 ·rw[World.cell?_drew];exact(World.cell?_setCell_other _ ⟨b,off+5,none⟩ ⟨b,off+2,none⟩ _ (by simp)).trans ((World.cell?_setCell_other _ ⟨b,off+3,none⟩ ⟨b,off+2,none⟩ _ (by simp)).trans h2)
 rintro e u' w'' ⟨rfl,rfl,rfl⟩
 refine leavesIn_cons (f:=301) (args:=#[.pointer (some ⟨b,off+3,none⟩)]) (by simp[settle]) (by simp) (by simp[go_sem]) (by simp[Target.leads]) ?_;refine(vQ ⟨b,off+3,none⟩ _ _ ?_ (by simp[f3])).mono ?_
 ·refine(World.cell?_setCell_other _ ⟨b,off+2,none⟩ ⟨b,off+3,none⟩ _ (by simp)).trans ?_;rw[World.cell?_drew,World.cell?_drew];refine(World.cell?_setCell_other _ ⟨b,off+5,none⟩ ⟨b,off+3,none⟩ _ (by simp)).trans ?_;exact World.cell?_setCell_same w _ _ h3
 rintro e u' w'' ⟨rfl,rfl,rfl⟩
 simp[LeavesIn,settle,results,Tryz.results296]
 go_simp
set_option maxRecDepth 100000 in
set_option maxHeartbeats 1600000 in
theorem Is (b off:Nat) (pl:Addr) (hpb:¬b=pl.block) (x5:Value) (w:World) (hp:w.cell? pl=some (.pointer (some ⟨b,off,none⟩)))
  (h2:w.cell? ⟨b,off+2,none⟩=some (.int .u32 0)) (h3:w.cell? ⟨b,off+3,none⟩=some (.int .i32 0)) (h5:w.cell? ⟨b,off+5,none⟩=some x5)
  (f2:w.frozen? ⟨b,off+2,none⟩=false) (f3:w.frozen? ⟨b,off+3,none⟩=false) (f5:w.frozen? ⟨b,off+5,none⟩=false):
  CallsIn Fence.wide 0 Tryz.prog 288 #[.pointer (some ⟨b,off+2,none⟩),.func (.func 289) #[] #[.pointer (some pl)]] w fun e w'=>e=.returned (.tuple #[])/\
   w'=(((w.setCell ⟨b,off+3,none⟩ (.int .i32 1)).drew.setCell ⟨b,off+5,none⟩ (.int .u32 1)).drew.setCell ⟨b,off+2,none⟩ (.int .u32 1)).setCell ⟨b,off+3,none⟩ (.int .i32 0):=by
 have adp:∀(x:Bool) (w:World),(Op.unary .not (.bool x)).run Tryz.prog w=.ok (.bool (!x)) w:=fun _ _=>rfl
 gi_enter Tryz.func288,Tryz.ntmps288
 gi_wp2_with (first|(gi_at_call 285;refine(ur ⟨b,off+2,none⟩ 0 _ h2).mono ?_;rintro e w' ⟨rfl,rfl⟩)|(gi_at_call 296;refine(Sd b off pl hpb x5 _ hp h2 h3 h5 f2 f3 f5).mono ?_;rintro e w' ⟨rfl,rfl⟩))
 go_end0
 exact⟨rfl,rfl⟩
theorem Iu (a:Addr) (d:Int) (hd:¬d=0) (fv:Value) (w:World) (h0:w.cell? a=some (.int .u32 d)):
  CallsIn Fence.wide 0 Tryz.prog 288 #[.pointer (some a),fv] w fun e w'=>e=.returned (.tuple #[])/\w'=w:=by
 have adp:∀(x:Bool) (w:World),(Op.unary .not (.bool x)).run Tryz.prog w=.ok (.bool (!x)) w:=fun _ _=>rfl;have dy:(d != 0)=true:=by simp[hd]
 gi_enter Tryz.func288,Tryz.ntmps288
 gi_wp2_with (gi_at_call 285;refine(ur a d _ h0).mono ?_;rintro e w' ⟨rfl,rfl⟩)
 go_end0
 exact⟨rfl,rfl⟩
def vR (l u d m s y:Int):Array Value:=#[.int .i64 l,.int .i64 u,.int .u32 d,.int .i32 m,.int .u32 s,.int .u32 y]
theorem aj {w:World} {F:Nat->Nat->Prop} {η:List Value} {hp:List ab} {u v:Value} (h:ba w F η hp (.ae u) v):v=u:=by cases h;rfl
theorem Cv {w:World} {F:Nat->Nat->Prop} {η:List Value} {hp:List ab} {r o:Nat} {v:Value} (h:ba w F η hp (.ptr r o) v):∃b,v=.pointer (some ⟨b,o,none⟩)/\η[r]?=some (.pointer (some ⟨b,0,none⟩)):=by
 cases h with|ptr _ _ b h1=>exact⟨b,rfl,h1⟩
theorem Se {w:World} {F:Nat->Nat->Prop} {η:List Value} {hp:List ab} {l u d m s y:Int} {b:Nat} (h:kA w F η hp (.box (az l u d m s y)) (.pointer (some ⟨b,0,none⟩))):
  ∃T,w.heap[b]?=some (.cells (vR l u d m s y) T (0,0)):=by
 obtain⟨b',vs,T,e1,e2,e3,e4⟩:=h;cases e1;refine⟨T,?_⟩;rw[e2]
 congr 2
 refine Array.ext (by rw[e3];rfl) fun i h1 h2=>?_;have hs:i<6:=h2;have hu:vs[i]?=some vs[i]:=al4 h1
 match i,hs with
 |0,_=>exact aj (e4 0 _ _ rfl hu).1
 |1,_=>exact aj (e4 1 _ _ rfl hu).1
 |2,_=>exact aj (e4 2 _ _ rfl hu).1
 |3,_=>exact aj (e4 3 _ _ rfl hu).1
 |4,_=>exact aj (e4 4 _ _ rfl hu).1
 |5,_=>exact aj (e4 5 _ _ rfl hu).1
theorem Cw {w:World} {F:Nat->Nat->Prop} {η:List Value} {hp:List ab} {l u d m s y:Int} (j:Nat) (x:AV) (v:Value) (h1:(az l u d m s y)[j]?=some x) (h2:(vR l u d m s y)[j]?=some v):
  ba w F η hp x v/\v.oneCell'=true:=by
 have hs:j<6:=(ali.1 h1).1
 match j,hs with
 |0,_=>cases h1;cases h2;exact⟨.ae _,rfl⟩
 |1,_=>cases h1;cases h2;exact⟨.ae _,rfl⟩
 |2,_=>cases h1;cases h2;exact⟨.ae _,rfl⟩
 |3,_=>cases h1;cases h2;exact⟨.ae _,rfl⟩
 |4,_=>cases h1;cases h2;exact⟨.ae _,rfl⟩
 |5,_=>cases h1;cases h2;exact⟨.ae _,rfl⟩
theorem VC (l u d s y:Int):aG Tryz.prog 288 [.ptr 0 2,.bf 289 [.ptr 1 0]] [.box (az l u d 0 s y),.box [.ptr 0 0]]
  (fun r hp'=>r=.av []/\hp'=[.box (az l u (if d=0 then 1 else d) 0 s (if d=0 then 1 else y)),.box [.ptr 0 0]]):=by
 refine⟨⟨_,Tryz.func288,by kernel_rfl,by kernel_rfl⟩,fun w F η bg bu hv=>?_⟩
 match bg,hv with
 | [v0,v1],⟨r0,r1,_⟩=>
  obtain⟨b,rfl,h0⟩:=Cv r0
  cases r1 with
  |bf _ _ caps hl hc=>
   obtain⟨c0,rfl⟩:∃c0,caps=#[c0]:=by
    match caps,hl with
    |⟨[c0]⟩,_=>exact⟨c0,rfl⟩
   obtain⟨b1,rfl,h1⟩:=Cv (hc 0 _ _ rfl rfl);obtain⟨T,hb⟩:=Se (bu.heap.obj 0 _ _ rfl h0);obtain⟨b1',vs1,T1,e1,e2,e3,e4⟩:=bu.heap.obj 1 _ _ rfl h1;cases e1;have bL:¬b=b1:=fun h=>bu.heap.sep 0 1 _ _ _ _ b (by omega) rfl rfl True.intro True.intro h0 h1 rfl (by rw[h];rfl);obtain⟨p0,rfl⟩:∃p0,vs1=#[p0]:=by
    match vs1,e3 with
    |⟨[c0]⟩,_=>exact⟨c0,rfl⟩
   obtain⟨b',rfl,h0'⟩:=Cv (e4 0 _ _ rfl rfl).1;rw[h0] at h0'
   cases h0'
   have cell:∀(k:Nat) (x:Value),(vR l u d 0 s y)[k]?=some x->w.cell? ⟨b,k,none⟩=some x:=fun k x hx=>by simp only[World.cell?,hb];exact hx
   have Ys:∀k,w.frozen? ⟨b,k,none⟩=false:=fun k=>by simp[World.frozen?,hb]
   by_cases hd:d=0
   ·subst hd;refine(Is b 0 ⟨b1,0,none⟩ bL (.int .u32 y) w (by simp only[World.cell?,e2];rfl) (cell 2 _ rfl) (cell 3 _ rfl) (cell 5 _ rfl) (Ys 2) (Ys 3) (Ys 5)).mono ?_
    rintro e w' ⟨rfl,rfl⟩
    refine⟨_,.av [],_,η,rfl,⟨rfl,rfl⟩,?_⟩;have g1:=heap_setCell_same w b 3 _ T (.int .i32 1) hb;have g2:=heap_setCell_same (w.setCell ⟨b,3,none⟩ (.int .i32 1)).drew b 5 _ T (.int .u32 1) g1;have g3:=heap_setCell_same ((w.setCell ⟨b,3,none⟩ (.int .i32 1)).drew.setCell ⟨b,5,none⟩ (.int .u32 1)).drew b 2 _ T (.int .u32 1) g2;have g4:=heap_setCell_same _ b 3 _ T (.int .i32 0) g3;refine Ax (q:=0) (b:=b) (vs':=vR l u 1 0 s 1) (T:=T) bu rfl h0 ⟨rfl,rfl,rfl,by simp[World.drew],fun k _ hk=>?_⟩ (by simp[World.drew]) g4 rfl Cw (.av [] #[] rfl fun j y u hy _=>by cases hy);rw[heap_setCell_other _ _ _ _ hk,heap_setCell_other _ _ _ _ hk];show ((w.setCell _ _).drew.setCell _ _).heap[k]?=_;rw[heap_setCell_other _ _ _ _ hk];show (w.setCell _ _).heap[k]?=_;rw[heap_setCell_other _ _ _ _ hk]
   ·refine(Iu ⟨b,2,none⟩ d hd _ w (cell 2 _ rfl)).mono ?_
    rintro e w' ⟨rfl,rfl⟩
    refine⟨_,.av [],_,η,rfl,⟨rfl,rfl⟩,?_⟩;simp only[hd,if_false];exact Ax (q:=0) (b:=b) (vs':=vR l u d 0 s y) (T:=T) bu rfl h0 ⟨rfl,rfl,rfl,alp _,fun _ _ _=>rfl⟩ rfl hb rfl Cw (.av [] #[] rfl fun j y u hy _=>by cases hy)
section
variable {l u d m s y:Int}
theorem yy:aG Tryz.prog 275 [.ptr 0 0] [.box (az l u d m s y)] (fun r hp'=>r=nI l/\hp'=[.box (az l u d m s y)]):=
 Q3 ⟨_,xW (R:=fun r hp'=>r=nI l/\hp'=[.box (az l u d m s y)]) ⟨rfl,rfl⟩,fun r q ⟨e1,e2⟩=>⟨l,u,d,m,s,y,l,⟨e1,e2⟩,rfl,rfl⟩⟩
theorem VD:aG Tryz.prog 274 [.ptr 0 0] [.box (az l u d m s y)] (fun r hp'=>r=nB (y != 0)/\hp'=[.box (az l u d m s y)]):=
 Q4 ⟨_,zC (R:=fun r hp'=>r=nB (y != 0)/\hp'=[.box (az l u d m s y)]) ⟨rfl,rfl⟩,fun r q ⟨e1,e2⟩=>⟨l,u,d,m,s,y,y != 0,⟨e1,e2⟩,rfl,rfl⟩⟩
def pH (l n:Int):Int:=IntKind.wrap .i64 (l+IntKind.wrap .i64 (0-n))
def tj (u n:Int):Int:=IntKind.wrap .i64 (u+n)
theorem yz (n:Int):aG Tryz.prog 276 [.ptr 0 0,nI n] [.box (az l u d m s y)] (fun r hp'=>r=.av []/\hp'=[.box (az (pH l n) (tj u n) d m s y)]):=
 Q5 ⟨_,zD (R:=fun r hp'=>r=nI (pH l n)/\hp'=[.box (az (pH l n) u d m s y)]) ⟨rfl,rfl⟩,fun r q ⟨e1,e2⟩=>⟨pH l n,u,d,m,s,y,pH l n,⟨e1,e2⟩,
  _,zE (R:=fun r hp'=>r=nI (tj u n)/\hp'=[.box (az (pH l n) (tj u n) d m s y)]) ⟨rfl,rfl⟩,fun r q ⟨e1,e2⟩=>⟨pH l n,tj u n,d,m,s,y,tj u n,⟨e1,e2⟩,rfl,rfl⟩⟩⟩
theorem AN:aG Tryz.prog 277 [.ptr 0 0] [.box (az l u d 0 s y)] (fun r hp'=>r=.av []/\hp'=[.box (az l u (if d=0 then 1 else d) 0 s (if d=0 then 1 else y))]):=
 Q6 ⟨_,VC l u d s y,fun r q ⟨e1,e2⟩=>⟨l,u,_,0,s,_,⟨e1,e2⟩,rfl,rfl⟩⟩
def rG (l u d s y n:Int):List AV:=if y≠0\/n>l then az (pH l l) (tj u l) (if d=0 then 1 else d) 0 s (if d=0 then 1 else y) else az (pH l n) (tj u n) d 0 s y
theorem LW (n:Int) (hn:0<=n):aG Tryz.prog 259 [.ptr 0 0,nI n] [.box (az l u d 0 s y)]
  (fun r hp'=>r=nB (decide (¬(y≠0\/n>l)))/\hp'=[.box (rG l u d s y n)]):=by
 refine Q7 ?_;unfold WS;rw[show decide (n<0)=false from decide_eq_false (by omega)];refine⟨_,VD,fun r q ⟨e1,e2⟩=>⟨l,u,d,0,s,y,y != 0,⟨e1,e2⟩,?_⟩⟩
 by_cases hy:y=0
 ·subst hy;refine⟨_,yy,fun r q ⟨e1,e2⟩=>⟨l,u,d,0,s,0,l,⟨e1,e2⟩,?_⟩⟩
  by_cases h:n>l
  ·rw[show decide (n>l)=true from decide_eq_true h];refine⟨_,yy,fun r q ⟨e1,e2⟩=>⟨l,u,d,0,s,0,l,⟨e1,e2⟩,_,yz l,fun r q ⟨e1,e2⟩=>⟨_,_,d,0,s,0,⟨e1,e2⟩,_,AN,fun r q ⟨e1,e2⟩=>⟨_,_,_,0,s,_,⟨e1,e2⟩,?_⟩⟩⟩⟩;exact⟨by simp[h],by simp only[rG,h,or_true,if_true]⟩
  ·rw[show decide (n>l)=false from decide_eq_false h];refine⟨_,yz n,fun r q ⟨e1,e2⟩=>⟨_,_,d,0,s,0,⟨e1,e2⟩,?_⟩⟩;exact⟨by simp[h],by simp only[rG,h,ne_eq,not_true_eq_false,or_self,if_false]⟩
 ·rw[show (y != 0)=true from by simp[hy]];refine⟨_,yy,fun r q ⟨e1,e2⟩=>⟨l,u,d,0,s,y,l,⟨e1,e2⟩,_,yz l,fun r q ⟨e1,e2⟩=>⟨_,_,d,0,s,y,⟨e1,e2⟩,_,AN,fun r q ⟨e1,e2⟩=>⟨_,_,_,0,s,_,⟨e1,e2⟩,?_⟩⟩⟩⟩;exact⟨by simp[hy],by simp only[rG,ne_eq,hy,not_false_eq_true,true_or,if_true]⟩
end
set_option maxHeartbeats 1600000
theorem LX (a:Addr) (x:Value) (n:Int) (w:World) (hc:w.cell? a=some x) (hz:w.frozen? a=false):
  CallsIn Fence.wide 0 Tryz.prog 111 #[.pointer (some a),.int .i64 n] w fun e w'=>e=.returned (.tuple #[])/\w'=w.setCell a (.int .i64 n):=by
 have CV:=run_call_store (P:=Tryz.prog) Tryz.func184 (by kernel_rfl) (by kernel_rfl) (by kernel_rfl) (by kernel_rfl) (k:=.i64) (y:=n) hc hz
 gi_enter Tryz.func111,Tryz.ntmps111
 gi_wp2
 go_end0
 exact⟨rfl,rfl⟩
theorem Sf (n:Int) (w:World):
  CallsIn Fence.wide 0 Tryz.prog 65 #[.int .i64 n] w fun e w'=>e=.returned (.pointer (some ⟨w.heap.size,0,none⟩))/\
   w'=(w.alloc (.cells (vR 0 0 0 0 0 0) 262)).setCell ⟨w.heap.size,0,none⟩ (.int .i64 (if n<0 then 0 else n)):=by
 have hc:(w.alloc (.cells (vR 0 0 0 0 0 0) 262)).cell? ⟨w.heap.size,0,none⟩=some (.int .i64 0):=by simp[vR]
 have hz:(w.alloc (.cells (vR 0 0 0 0 0 0) 262)).frozen? ⟨w.heap.size,0,none⟩=false:=by simp
 gi_enter Tryz.func65,Tryz.ntmps65
 gi_wp2_with (gi_at_call 111;refine(LX ⟨w.heap.size,0,none⟩ (.int .i64 0) _ _ hc hz).mono ?_;rintro e w' ⟨rfl,rfl⟩)
 all_goals (go_ret;first|exact⟨rfl,rfl⟩|exact⟨rfl,by congr 4;omega⟩)
theorem VE (n:Int) (hp:List ab):aG Tryz.prog 65 [nI n] hp (fun r hp'=>r=.ptr hp.length 0/\hp'=hp++[.box (az (if n<0 then 0 else n) 0 0 0 0 0)]):=by
 refine⟨⟨_,Tryz.func65,by kernel_rfl,by kernel_rfl⟩,fun w F η bg bu hv=>?_⟩
 match bg,hv with
 | [v0],⟨r0,_⟩=>
  obtain rfl:=aj r0;refine(Sf n w).mono ?_
  rintro e w' ⟨rfl,rfl⟩
  have g0:(w.alloc (.cells (vR 0 0 0 0 0 0) 262)).heap[w.heap.size]?=some (.cells (vR 0 0 0 0 0 0) 262 (0,0)):=heap_alloc_new w _;have g1:=heap_setCell_same _ w.heap.size 0 _ _ (.int .i64 (if n<0 then 0 else n)) g0;refine⟨_,.ptr hp.length 0,_,_,rfl,⟨rfl,rfl⟩,Lv (vs:=vR (if n<0 then 0 else n) 0 0 0 0 0) bu ⟨rfl,rfl,rfl,by simp,fun k hk _=>?_⟩ (by simp) g1 rfl Cw⟩;rw[heap_setCell_other _ _ _ _ (Nat.ne_of_lt hk)];exact(bD.alloc w _).block k hk
section
variable {l u d s y n:Int}
theorem FP (h0:0<=n) (h1:n<=l) (h2:l<=9223372036854775807):pH l n=l-n:=by
 unfold pH;rw[IntWalk.i64_in (0-n) (by omega),IntWalk.i64_in _ (by omega)];omega
theorem FQ (h0:0<=n) (h1:0<=u) (h2:u+n<=9223372036854775807):tj u n=u+n:=by
 unfold tj;rw[IntWalk.i64_in _ (by omega)]
theorem LY (h1:1<=l) (h2:0<=u) (h3:l+u<=9223372036854775807):rG l u 0 s 0 1=az (l-1) (u+1) 0 0 s 0:=by
 unfold rG;rw[if_neg (by omega),FP (by omega) (by omega) (by omega),FQ (by omega) (by omega) (by omega)]
end
theorem FR {c m x:List Ty} {k i:Int} {t:Ty} (h:cu c m x k i=some t):k=0\/k=1\/k=2:=by
 by_cases h0:k=0
 ·exact .inl h0
 by_cases h1:k=1
 ·exact .inr (.inl h1)
 by_cases h2:k=2
 ·exact .inr (.inr h2)
 rw[cu,if_neg h0,if_neg h1,if_neg h2] at h
 split at h<;>cases h
theorem Rw.LZ {r t:Rw} (ht:t∈r.kids):t.depth<r.depth:=by
 obtain⟨k,hk,rfl⟩:=List.getElem_of_mem ht;exact Rw.LP hk
theorem FT (n:Int):lk (IntKind.wrap .i64 n):=by unfold lk;rw[IntKind.wrap_i64];omega
mutual
def Rw.Typ (c m:List Ty):List Ty->Rw->Ty->Prop
 |x,.mk k t i l,u=>if k=3 then ∃v:Ty,u=v.arrow [t]/\Rw.Sg c m (x++[t]) l [v] else if k=4 then ∃v:Ty,Rw.Sg c m x l [.mk (v::u.args) u.base,v] else cu c m x k i=some u/\l=[]
def Rw.Sg (c m:List Ty):List Ty->List Rw->List Ty->Prop
 |_,[],[]=>True
 |x,r::l,u::us=>Rw.Typ c m x r u/\Rw.Sg c m x l us
 |_,_,_=>False
end
mutual
def Rw.qB (S:Nat) (c m:List Ty):List Ty->Rw->Ty->Prop
 |x,.mk k t i l,u=>u.size<=S/\if k=3 then t.size<=S/\∃v:Ty,u=v.arrow [t]/\Rw.ox S c m (x++[t]) l [v] else if k=4 then ∃v:Ty,Rw.ox S c m x l [.mk (v::u.args) u.base,v] else cu c m x k i=some u/\l=[]
def Rw.ox (S:Nat) (c m:List Ty):List Ty->List Rw->List Ty->Prop
 |_,[],[]=>True
 |x,r::l,u::us=>Rw.qB S c m x r u/\Rw.ox S c m x l us
 |_,_,_=>False
end
mutual
theorem Rw.qB.Ym {S:Nat} {c m:List Ty}:∀{r:Rw} {x:List Ty} {u:Ty},Rw.qB S c m x r u->Rw.Typ c m x r u
 | .mk k t i l,x,u,h=>by
  rw[Rw.qB] at h;obtain⟨_,h⟩:=h;rw[Rw.Typ]
  by_cases h3:k=3
  ·rw[if_pos h3] at h ⊢;obtain⟨_,v,hv,hl⟩:=h;exact⟨v,hv,Rw.ox.Ym hl⟩
  ·rw[if_neg h3] at h ⊢
   by_cases h4:k=4
   ·rw[if_pos h4] at h ⊢;obtain⟨v,hl⟩:=h;exact⟨v,Rw.ox.Ym hl⟩
   ·rw[if_neg h4] at h ⊢;exact h
theorem Rw.ox.Ym {S:Nat} {c m:List Ty}:∀{l:List Rw} {x us:List Ty},Rw.ox S c m x l us->Rw.Sg c m x l us
 | [],x,[],_=>by rw[Rw.Sg];exact True.intro
 |r::l,x,u::us,h=>⟨h.1.Ym,h.2.Ym⟩
 | [],_,_::_,h=>h.elim
 |_::_,_,[],h=>h.elim
end
theorem AO {S:Nat} {c m x:List Ty} {l:List Rw} {u:Ty} (h:Rw.ox S c m x l [u]):∃r,l=[r]/\Rw.qB S c m x r u:=by
 match l,h with
 | [r],h=>exact⟨r,rfl,h.1⟩
 |r::s::l,h=>exact h.2.elim
theorem AP {S:Nat} {c m x:List Ty} {l:List Rw} {u v:Ty} (h:Rw.ox S c m x l [u,v]):∃r s,l=[r,s]/\Rw.qB S c m x r u/\Rw.qB S c m x s v:=by
 match l,h with
 | [r,s],h=>exact⟨r,s,rfl,h.1,h.2.1⟩
 | [r],h=>exact h.2.elim
 |r::s::t::l,h=>exact h.2.2.elim
mutual
theorem rH (b:Int) (c m:List Ty):∀(r:Rw) (x:List Ty) (u:Ty),r.shaped=true->r.infer b c m x=(u,0)->Rw.qB 1000 c m x r u
 | .mk k t i l,x,u,hs,h=>by
  rw[Rw.shaped,aln,decide_eq_true_eq] at hs;have bO:=Rw.iS b c m (.mk k t i l) x;rw[h] at bO;rw[Rw.infer] at h;rw[Rw.qB];refine⟨bO,?_⟩
  by_cases h3:k=3
  ·rw[if_pos h3] at h ⊢;obtain⟨a,ha⟩:=RW h3 hs.1;split at h
   ·have hi:Rw.dE b c m (x++[t]) l=[a.infer b c m (x++[t])]:=by rw[ha];rfl
    rw[hi,pD] at h;generalize a.infer b c m (x++[t])=p at h hi;split at h
    ·rename_i hp;simp only[alk] at h;exact(hp h.2).elim
    ·rename_i hp;split at h
     ·cases h
     ·simp only[alk,and_true] at h;refine⟨by rw[<-h,Ty.arrow,Ty.size,Ty.bE,Ty.sizes,Ty.sizes] at bO;omega,p.1,h.symm,pJ b c m l (x++[t]) [p.1] hs.2 ?_⟩;rw[hi,alQ,ama,<-amM.1 hp]
   ·cases h
  ·rw[if_neg h3] at h ⊢
   by_cases h4:k=4
   ·rw[if_pos h4] at h ⊢;obtain⟨f,a,ha⟩:=RX h4 hs.1;have hi:Rw.dE b c m x l=[f.infer b c m x,a.infer b c m x]:=by rw[ha];rfl
    rw[hi,nR] at h;generalize f.infer b c m x=p at h hi;generalize a.infer b c m x=q at h hi;split at h
    ·rename_i hp;simp only[alk] at h;exact(hp h.2).elim
    rename_i hp;split at h
    ·rename_i hq;simp only[alk] at h;exact(hq h.2).elim
    rename_i hq;split at h
    ·cases h
    ·rename_i v vs hv;split at h
     ·rename_i uE;simp only[alk,and_true] at h;refine⟨q.1,pJ b c m l x _ hs.2 ?_⟩;have e1:=(Ty.Fb _ _).1 uE;rw[hi,<-h,Ty.jb,Ty.B1,<-e1,<-hv,Ty.eta,alQ,alQ,ama,e1,<-amM.1 hp]
      congr 1
      rw[amM.1 hp,<-amM.1 hq]
     ·cases h
   ·rw[if_neg h4] at h ⊢
    cases ht:cu c m x k i with
    |none=>rw[ht] at h;cases h
    |some v=>
     rw[ht,lJ] at h;split at h
     ·cases h
     ·simp only[alk,and_true] at h;refine⟨by rw[h],?_⟩;have hk:=FR ht;have ha:arity k=0:=by unfold arity;rw[if_pos hk]
      rw[ha] at hs;exact List.length_eq_zero_iff.1 (by have:=hs.1;omega)
theorem pJ (b:Int) (c m:List Ty):∀(l:List Rw) (x us:List Ty),Rw.cS l=true->Rw.dE b c m x l=us.map (fun u=>(u,0))->Rw.ox 1000 c m x l us
 | [],x,[],_,_=>by rw[Rw.ox];exact True.intro
 | [],x,u::us,_,h=>by cases h
 |r::l,x,[],_,h=>by cases h
 |r::l,x,u::us,hs,h=>by
  rw[Rw.cS,aln] at hs;rw[Rw.dE,alQ,List.cons.injEq] at h;exact⟨rH b c m r x u hs.1 h.1,pJ b c m l x us hs.2 h.2⟩
end
theorem Rw.Iv {k i:Int} {t:Ty} {l:List Rw} {r:Rw} (h:r∈l):r.depth<(Rw.mk k t i l).depth:=Rw.LZ (r:=.mk k t i l) h
mutual
def Tm.nodes:Tm->Nat
 | .mk _ _ _ l=>1+Tm.eU l
def Tm.eU:List Tm->Nat
 | []=>0
 |t::l=>Tm.nodes t+Tm.eU l
end
theorem Tm.iv (t:Tm):t.nodes=1+Tm.eU t.args:=by cases t;rfl
theorem Tm.L0 (t:Tm):1<=t.nodes:=by rw[t.iv];omega
theorem Tm.yA {l:List Tm} {t:Tm} (h:t∈l):t.nodes<=Tm.eU l:=by
 induction l with
 |nil=>cases h
 |cons u l ih=>
  simp only[Tm.eU];rcases alW.1 h with rfl|h
  ·omega
  ·have:=ih h;omega
mutual
def Tm.lift (b:Nat):Nat->Tm->Tm
 |d,.mk bs k i l=>.mk bs k (if k=0/\((d+bs.length:Nat):Int)<=i then IntKind.wrap .i64 (i+b) else i) (Tm.yB b (d+bs.length) l)
def Tm.yB (b:Nat):Nat->List Tm->List Tm
 |_,[]=>[]
 |d,t::l=>Tm.lift b d t::Tm.yB b d l
end
theorem Tm.FU (b d:Nat) (l:List Tm):Tm.yB b d l=l.map (Tm.lift b d):=by
 induction l with
 |nil=>rfl
 |cons t l ih=>rw[Tm.yB,ih];rfl
theorem Tm.wz (b d:Nat) (t:Tm):t.lift b d=.mk t.binds t.kind (if t.kind=0/\((d+t.binds.length:Nat):Int)<=t.index then IntKind.wrap .i64 (t.index+b) else t.index) (t.args.map (Tm.lift b (d+t.binds.length))):=by
 cases t;rw[Tm.lift,Tm.FU];rfl
theorem Tm.Iw (b d:Nat) (t:Tm):(t.lift b d).binds=t.binds:=by rw[Tm.wz];rfl
theorem Tm.L1 (b d:Nat) (t:Tm):(t.lift b d).kind=t.kind:=by rw[Tm.wz];rfl
theorem Tm.L2 (b d:Nat) (t:Tm):(t.lift b d).args=t.args.map (Tm.lift b (d+t.binds.length)):=by rw[Tm.wz];rfl
mutual
def Tm.Lo (B:Nat):Tm->Prop
 | .mk bs k i l=>(Ty.sizes bs<=B/\l.length<=B)/\(lk k/\lk i)/\Tm.yC B l
def Tm.yC (B:Nat):List Tm->Prop
 | []=>True
 |t::l=>Tm.Lo B t/\Tm.yC B l
end
theorem Tm.ld {B:Nat} {t:Tm}:t.Lo B↔(Ty.sizes t.binds<=B/\t.args.length<=B)/\(lk t.kind/\lk t.index)/\Tm.yC B t.args:=by cases t;exact Iff.rfl
theorem Tm.lK {B:Nat} {l:List Tm}:Tm.yC B l↔∀t∈l,t.Lo B:=by
 induction l with
 |nil=>exact⟨fun _ t h=>(by cases h),fun _=>True.intro⟩
 |cons u l ih=>
  rw[Tm.yC,ih];exact⟨fun⟨h1,h2⟩ t ht=>(alW.1 ht).elim (fun h=>h▸h1) (h2 t),fun h=>⟨h u alD,fun t ht=>h t (alK _ ht)⟩⟩
mutual
theorem Tm.Cx {B B':Nat} (h:B<=B'):∀{t:Tm},t.Lo B->t.Lo B'
 | .mk bs k i l,h1=>by
  obtain⟨⟨h1,h2⟩,h3,h4⟩:=h1;exact⟨⟨by omega,by omega⟩,h3,Tm.FV h h4⟩
theorem Tm.FV {B B':Nat} (h:B<=B'):∀{l:List Tm},Tm.yC B l->Tm.yC B' l
 | [],_=>True.intro
 |t::l,h1=>⟨Tm.Cx h h1.1,Tm.FV h h1.2⟩
end
mutual
theorem Tm.Cy {B b:Nat}:∀(d:Nat) {t:Tm},t.Lo B->(t.lift b d).Lo B
 |d,.mk bs k i l,h1=>by
  obtain⟨⟨h1,h2⟩,⟨h3,h4⟩,h5⟩:=h1;rw[Tm.lift];refine⟨⟨h1,by rw[Tm.FU,alm];exact h2⟩,⟨h3,?_⟩,Tm.FW _ h5⟩;split
  ·exact FT _
  ·exact h4
theorem Tm.FW {B b:Nat}:∀(d:Nat) {l:List Tm},Tm.yC B l->Tm.yC B (Tm.yB b d l)
 |_,[],_=>True.intro
 |d,t::l,h1=>⟨Tm.Cy d h1.1,Tm.FW d h1.2⟩
end
mutual
theorem Tm.Ky {B:Nat}:∀{t:Tm},t.Lo B->t.Ok
 | .mk bs k i l,h=>⟨h.2.1.1,h.2.1.2,Tm.Kz h.2.2⟩
theorem Tm.Kz {B:Nat}:∀{l:List Tm},Tm.yC B l->Tm.MT l
 | [],_=>True.intro
 |t::l,h=>⟨Tm.Ky h.1,Tm.Kz h.2⟩
end
mutual
theorem Tm.Cz {B:Nat}:∀{t:Tm},t.Lo B->t.size<=t.nodes*(1+B)
 | .mk bs k i l,h=>by
  have:=Tm.FX h.2.2;have h1:Ty.sizes bs<=B:=h.1.1;rw[Tm.size,Tm.nodes,amj];omega
theorem Tm.FX {B:Nat}:∀{l:List Tm},Tm.yC B l->Tm.sizes l<=Tm.eU l*(1+B)
 | [],_=>by simp[Tm.sizes]
 |t::l,h=>by
  have h1:=Tm.Cz h.1;have h2:=Tm.FX h.2;rw[Tm.sizes,Tm.eU,amj];omega
end
structure Mt where
 left:Nat
 count:Nat
 err:Int
def Mt.one (m:Mt):Mt×Bool:=
 if m.err≠0 then(m,false) else if m.count=100000 then(⟨m.left,m.count,2⟩,false) else if m.left=0 then(⟨m.left,m.count,11⟩,false) else(⟨m.left-1,m.count+1,m.err⟩,true)
def Mt.dI:Nat->Mt->Mt×Bool
 |0,m=>(m,decide (m.err=0))
 |n+1,m=>if m.one.2=true then Mt.dI n m.one.1 else(m.one.1,false)
def cA:Tm:=.mk [] 0 0 []
def cO (g:Mt->Tm->Mt×Tm):Mt->List Tm->Mt×List Tm
 |m,[]=>(m,[])
 |m,t::l=>((cO g (g m t).1 l).1,(g m t).2::(cO g (g m t).1 l).2)
def dw (b:Mt->Int->Int->List Tm->List Tm->Nat->Nat->Mt×Tm) (us:List Tm) (n d:Nat) (m:Mt) (t:Tm):Mt×Tm:=
 ((b m t.kind t.index t.args us n (d+t.binds.length)).1,.mk t.binds (b m t.kind t.index t.args us n (d+t.binds.length)).2.kind (b m t.kind t.index t.args us n (d+t.binds.length)).2.index (b m t.kind t.index t.args us n (d+t.binds.length)).2.args)
def bR (us:List Tm) (i:Int) (n d:Nat):Tm:=(us.getD (n-1-(i-d).toNat) cA).lift (d+n-us.length) 0
def FY (b:Mt->Int->Int->List Tm->List Tm->Nat->Nat->Mt×Tm) (r:Mt×List Tm) (k i:Int) (us:List Tm) (n d:Nat):Mt×Tm:=
 if r.1.err≠0 then(r.1,cA) else if ¬k=0\/i<d then(r.1,.mk [] k i r.2) else if(d:Int)+n<=i then(r.1,.mk [] k (i-us.length) r.2)
 else if(i-d).toNat+us.length<n then(r.1,.mk [] k i r.2)
 else if(bR us i n d).binds.length≠r.2.length then(⟨r.1.left,r.1.count,1⟩,cA)
 else b r.1 (bR us i n d).kind (bR us i n d).index (bR us i n d).args r.2 (bR us i n d).binds.length 0
def bJ:Nat->Mt->Int->Int->List Tm->List Tm->Nat->Nat->Mt×Tm
 |0,m,_,_,_,_,_,_=>(⟨m.left,m.count,if m.err=0 then 99 else m.err⟩,cA)
 |f+1,m,k,i,args,us,n,d=>if m.one.2=false then(m.one.1,cA) else FY (bJ f) (cO (dw (bJ f) us n d) m.one.1 args) k i us n d
def iU (f:Nat) (m:Mt) (t:Tm) (us:List Tm):Mt×Tm:=
 if m.err≠0 then(m,cA) else if t.binds.length<us.length then(⟨m.left,m.count,1⟩,cA) else
 ((bJ f m t.kind t.index t.args us t.binds.length 0).1,.mk (t.binds.drop us.length) (bJ f m t.kind t.index t.args us t.binds.length 0).2.kind (bJ f m t.kind t.index t.args us t.binds.length 0).2.index (bJ f m t.kind t.index t.args us t.binds.length 0).2.args)
def FZ (c m x:List Ty) (st:Mt) (k i:Int):Mt×Tm:=
 if(st.dI ((cu c m x k i).getD ku).size).2=false then((st.dI ((cu c m x k i).getD ku).size).1,cA) else((st.dI ((cu c m x k i).getD ku).size).1,qA k i ((cu c m x k i).getD ku))
def CA (t:Ty) (r:Mt×List Tm):Mt×Tm:=
 if r.1.err≠0 then(r.1,cA) else(r.1,.mk (t::(r.2.getD 0 cA).binds) (r.2.getD 0 cA).kind (r.2.getD 0 cA).index (r.2.getD 0 cA).args)
def vS (r:Mt×List Tm):Mt×Tm:=
 if r.1.err≠0 then(r.1,cA) else iU 100001 r.1 (r.2.getD 0 cA) [r.2.getD 1 cA]
mutual
def Rw.dX (c m:List Ty):Mt->List Ty->Rw->Mt×Tm
 |st,x,.mk k t i l=>if st.err≠0 then(st,cA) else if k=3 then CA t (Rw.dY c m st (x++[t]) l) else if k=4 then vS (Rw.dY c m st x l) else FZ c m x st k i
def Rw.dY (c m:List Ty):Mt->List Ty->List Rw->Mt×List Tm
 |st,_,[]=>(st,[])
 |st,x,r::l=>((Rw.dY c m (Rw.dX c m st x r).1 x l).1,(Rw.dX c m st x r).2::(Rw.dY c m (Rw.dX c m st x r).1 x l).2)
end
def gI (r:Mt×Tm):Mt×Tm:=
 if r.1.err≠0 then(r.1,cA) else if qO 0 (r.2.pre 0 1)=true then r else(⟨r.1.left,r.1.count,2⟩,cA)
theorem pK {m:Mt} (h:m.one.2=true):m.err=0/\m.count≠100000/\m.left≠0/\m.one.1=⟨m.left-1,m.count+1,0⟩:=by
 unfold Mt.one at h ⊢;split at h
 ·cases h
 ·rename_i h0;have h0:m.err=0:=by simpa using h0
  split at h
  ·cases h
  ·split at h
   ·cases h
   ·rename_i h1 h2;exact⟨h0,h1,h2,by rw[if_neg (by simp[h0]),if_neg h1,if_neg h2,h0]⟩
theorem mX {m:Mt} (h:m.one.2=false):m.one.1.err≠0/\m.one.1.left=m.left/\m.one.1.count=m.count/\(m.err≠0->m.one.1=m)/\(m.one.1.err=11->m.err=11\/m.left=0/\m.count≠100000):=by
 unfold Mt.one at h ⊢;split at h
 ·rename_i h0;rw[if_pos h0];exact⟨h0,rfl,rfl,fun _=>rfl,fun h=>.inl h⟩
 ·rename_i h0;rw[if_neg h0];split at h
  ·rename_i h1;rw[if_pos h1];exact⟨by simp,rfl,rfl,fun h=>(h0 h).elim,fun h=>by simp at h⟩
  ·rename_i h1;rw[if_neg h1];split at h
   ·rename_i h2;rw[if_pos h2];exact⟨by simp,rfl,rfl,fun h=>(h0 h).elim,fun h=>.inr ⟨h2,h1⟩⟩
   ·cases h
structure Mt.To (m m':Mt):Prop where
 stop:m.err≠0->m'=m
 sum:m'.left+m'.count=m.left+m.count
 more:m.count<=m'.count
 yD:m.count<=100000->m'.count<=100000
 fuel:m'.err=11->m.err≠11->m'.left=0/\m'.count≠100000
theorem Mt.To.refl (m:Mt):m.To m:=⟨fun _=>rfl,rfl,alp _,fun h=>h,fun h1 h2=>(h2 h1).elim⟩
theorem Mt.To.trans {a b c:Mt} (h1:a.To b) (h2:b.To c):a.To c:=
 ⟨fun h=>by have e:=h1.stop h;subst e;exact h2.stop h,by rw[h2.sum,h1.sum],alT h1.more h2.more,fun h=>h2.yD (h1.yD h),fun h g=>by
  by_cases hb:b.err=11
  ·have:=h2.stop (by rw[hb];decide);rw[this];exact h1.fuel hb g
  ·exact h2.fuel h hb⟩
theorem Mt.To.ok {a b:Mt} (h:a.To b) (hb:b.err=0):a.err=0:=Decidable.byContradiction fun hc=>hc (by rw[<-h.stop hc];exact hb)
theorem Mt.To.fail {m:Mt} (h:m.err=0) {e:Int} (he:e≠11):m.To ⟨m.left,m.count,e⟩:=⟨fun h'=>(h' h).elim,rfl,alp _,fun h=>h,fun h=>(he h).elim⟩
theorem Mt.CB (m:Mt):m.To m.one.1:=by
 cases h:m.one.2 with
 |true=>
  obtain⟨h0,h1,h2,h3⟩:=pK h;rw[h3];exact⟨fun h=>(h h0).elim,by simp only;omega,by simp only;omega,fun h=>by simp only;omega,fun h=>by simp at h⟩
 |false=>
  obtain⟨_,h1,h2,h3,h4⟩:=mX h;exact⟨h3,by omega,by omega,fun h=>by omega,fun h g=>by rw[h1,h2];exact(h4 h).resolve_left g⟩
theorem Mt.yE:∀(n:Nat) (m:Mt),m.To (m.dI n).1
 |0,m=>.refl m
 |n+1,m=>by
  rw[Mt.dI];split
  ·exact(Mt.CB m).trans (Mt.yE n _)
  ·exact Mt.CB m
theorem Mt.yF:∀(n:Nat) (m:Mt),((m.dI n).2=true↔(m.dI n).1.err=0)/\((m.dI n).2=true->(m.dI n).1.count=m.count+n)
 |0,m=>by simp[Mt.dI]
 |n+1,m=>by
  rw[Mt.dI];split
  ·rename_i h;obtain⟨h0,h1,h2,h3⟩:=pK h;have:=Mt.yF n m.one.1;refine⟨this.1,fun h=>?_⟩;rw[this.2 h,h3];simp only;omega
  ·rename_i h;have h:m.one.2=false:=by simpa using h
   have:=(mX h).1;exact⟨⟨fun h=>(by cases h),fun h=>(this h).elim⟩,fun h=>(by cases h)⟩
def Ix (g:Mt->Tm->Mt×Tm):Prop:=∀(m:Mt) (t:Tm),m.To (g m t).1
theorem qf {g:Mt->Tm->Mt×Tm} (hg:Ix g):∀(l:List Tm) (m:Mt),m.To (cO g m l).1
 | [],m=>.refl m
 |t::l,m=>(hg m t).trans (qf hg l _)
theorem rI {g:Mt->Tm->Mt×Tm}:∀(l:List Tm) (m:Mt),(cO g m l).2.length=l.length
 | [],m=>rfl
 |t::l,m=>by rw[cO,als,als,rI l]
theorem F4 {g:Mt->Tm->Mt×Tm} {l:List Tm} {k:Nat} (h:k<l.length) (m:Mt):cO g m (l.drop k)=((cO g (g m l[k]).1 (l.drop (k+1))).1,(g m l[k]).2::(cO g (g m l[k]).1 (l.drop (k+1))).2):=by
 rw[alw h,cO]
theorem pL:∀(f:Nat) (m:Mt) (k i:Int) (args us:List Tm) (n d:Nat),m.To (bJ f m k i args us n d).1
 |0,m,k,i,args,us,n,d=>by
  rw[bJ]
  by_cases h:m.err=0
  ·rw[if_pos h];exact .fail h (by decide)
  ·rw[if_neg h];exact⟨fun _=>by cases m;rfl,rfl,alp _,fun h=>h,fun h1 h2=>(h2 h1).elim⟩
 |f+1,m,k,i,args,us,n,d=>by
  rw[bJ];split
  ·exact Mt.CB m
  ·refine(Mt.CB m).trans ?_;have hg:=qf (g:=dw (bJ f) us n d) (fun m t=>pL f m _ _ _ _ _ _) args m.one.1;refine hg.trans ?_;generalize cO (dw (bJ f) us n d) m.one.1 args=r;unfold FY;split
   ·exact .refl _
   ·rename_i h0;have h0:r.1.err=0:=by simpa using h0
    split
    ·exact .refl _
    ·split
     ·exact .refl _
     ·split
      ·exact .refl _
      ·split
       ·exact .fail h0 (by decide)
       ·exact pL f _ _ _ _ _ _ _
theorem rJ (f:Nat) (us:List Tm) (n d:Nat):Ix (dw (bJ f) us n d):=fun m t=>pL f m _ _ _ _ _ _
structure Form (B:Nat) (m m':Mt) (t:Tm):Prop where
 nodes:t.nodes+m.count<=m'.count
 lo:t.Lo B
theorem pM {B:Nat} {g:Mt->Tm->Mt×Tm} (hg:Ix g):∀(l:List Tm) (m:Mt),(∀t∈l,∀m:Mt,m.To (g m t).1->(g m t).1.err=0->Form B m (g m t).1 (g m t).2)->(cO g m l).1.err=0->
  Tm.eU (cO g m l).2+m.count<=(cO g m l).1.count/\Tm.yC B (cO g m l).2
 | [],m,_,_=>⟨by simp[cO,Tm.eU],True.intro⟩
 |t::l,m,h,he=>by
  rw[cO] at he ⊢;simp only at he ⊢;have h1:=h t alD m (hg m t) ((qf hg l _).ok he);have h2:=pM hg l (g m t).1 (fun u hu=>h u (alK _ hu)) he;have:=h1.nodes;exact⟨by rw[Tm.eU];omega,h1.lo,h2.2⟩
theorem VF {B:Nat} {l:List Tm} (h:Tm.yC B l) (n:Nat):(l.getD n cA).Lo B:=by
 rw[amG]
 by_cases hn:n<l.length
 ·rw[alo hn];exact Tm.lK.1 h _ (alH hn)
 ·rw[alU (by omega)];exact⟨⟨by simp[Ty.sizes],by simp⟩,⟨⟨by decide,by decide⟩,by decide,by decide⟩,True.intro⟩
theorem AQ {B:Nat} {us:List Tm} (h:Tm.yC B us) (i:Int) (n d:Nat):(bR us i n d).Lo B:=Tm.Cy 0 (VF h _)
theorem nW {B:Nat}:∀(f:Nat) (m:Mt) (k i:Int) (args us:List Tm) (n d:Nat),lk k->lk i->args.length<=B->Tm.yC B args->Tm.yC B us->us.length<=n->(bJ f m k i args us n d).1.err=0->
  Form B m (bJ f m k i args us n d).1 (bJ f m k i args us n d).2/\(bJ f m k i args us n d).2.binds=[]
 |0,m,k,i,args,us,n,d,_,_,_,_,_,_,he=>by
  rw[bJ] at he;simp only at he;split at he
  ·cases he
  ·rename_i h;exact(h he).elim
 |f+1,m,k,i,args,us,n,d,hk,hi,hla,ha,hu,hn,he=>by
  rw[bJ] at he ⊢;split at he
  ·rename_i h1;exact((mX h1).1 he).elim
  ·rename_i h1;rw[if_neg h1];obtain⟨g0,g1,g2,g3⟩:=pK (by simpa using h1);have VG:=qf (rJ f us n d) args m.one.1;have qP:=pM (B:=B) (rJ f us n d) args m.one.1 (fun t ht m' agO KY=>by
    have oG:=Tm.ld.1 (Tm.lK.1 ha t ht);have:=nW (B:=B) f m' t.kind t.index t.args us n (d+t.binds.length) oG.2.1.1 oG.2.1.2 oG.1.2 oG.2.2 hu hn KY;have hq:=Tm.ld.1 this.1.lo;have WX:=this.1.nodes;rw[Tm.iv] at WX
    exact⟨by unfold dw;rw[Tm.iv,Tm.jb];exact WX,Tm.ld.2 ⟨⟨oG.1.1,hq.1.2⟩,hq.2⟩⟩)
   have hlen:=rI (g:=dw (bJ f) us n d) args m.one.1;generalize cO (dw (bJ f) us n d) m.one.1 args=r at he VG qP hlen;unfold FY at he ⊢;split at he
   ·rename_i h2;exact(h2 he).elim
   ·rename_i h2;have h2:r.1.err=0:=by simpa using h2
    obtain⟨q1,q2⟩:=qP h2;have Zp:1+Tm.eU r.2+m.count<=r.1.count:=by rw[g3] at q1;simp only at q1;omega
    rw[if_neg (by simp[h2])];have mk:∀i':Int,lk i'->Form B m r.1 (.mk [] k i' r.2):=fun i' tE=>⟨by rw[Tm.nodes];exact Zp,⟨by simp[Ty.sizes],by rw[hlen];exact hla⟩,⟨hk,tE⟩,q2⟩;split at he
    ·rename_i h3;rw[if_pos h3];exact⟨mk i hi,rfl⟩
    ·rename_i h3;rw[if_neg h3];split at he
     ·rename_i h4;rw[if_pos h4];refine⟨mk _ ?_,rfl⟩;unfold lk at hi ⊢;omega
     ·rename_i h4;rw[if_neg h4];split at he
      ·rename_i h5;rw[if_pos h5];exact⟨mk i hi,rfl⟩
      ·rename_i h5;rw[if_neg h5];split at he
       ·cases he
       ·rename_i h6;rw[if_neg h6];have oG:=Tm.ld.1 (AQ hu i n d);have:=nW (B:=B) f r.1 _ _ _ r.2 _ 0 oG.2.1.1 oG.2.1.2 oG.1.2 oG.2.2 q2 (by simp at h6;omega) he;exact⟨⟨by have:=this.1.nodes;omega,this.1.lo⟩,this.2⟩
theorem VH (f:Nat) (m:Mt) (t:Tm) (us:List Tm):m.To (iU f m t us).1:=by
 unfold iU;split
 ·exact .refl m
 ·rename_i h0;have h0:m.err=0:=by simpa using h0
  split
  ·exact .fail h0 (by decide)
  ·exact pL f _ _ _ _ _ _ _
theorem CC (l:List Ty) (n:Nat):Ty.sizes (l.drop n)<=Ty.sizes l:=by
 have:=Ty.bE (l.take n) (l.drop n);rw[amd] at this;omega
theorem L3 {B f:Nat} {m:Mt} {t:Tm} {us:List Tm} (ht:t.Lo B) (hu:Tm.yC B us) (he:(iU f m t us).1.err=0):Form B m (iU f m t us).1 (iU f m t us).2:=by
 unfold iU at he ⊢;split at he
 ·rename_i h;exact(h he).elim
 ·rename_i h;rw[if_neg h];split at he
  ·cases he
  ·rename_i h2;rw[if_neg h2];have oG:=Tm.ld.1 ht;have:=nW (B:=B) f m _ _ _ us _ 0 oG.2.1.1 oG.2.1.2 oG.1.2 oG.2.2 hu (by omega) he;have hq:=Tm.ld.1 this.1.lo;have WX:=this.1.nodes;rw[Tm.iv] at WX;refine⟨by rw[Tm.iv,Tm.jb];exact WX,Tm.ld.2 ⟨⟨?_,hq.1.2⟩,hq.2⟩⟩;exact alT (CC _ _) oG.1.1
mutual
theorem yG:∀(t:Ty) (k i:Int),(qA k i t).nodes=t.size
 | .mk l b,k,i=>by rw[qA,Tm.nodes,Ty.size,vk l l.length 0]
theorem vk:∀(l:List Ty) (n j:Nat),Tm.eU (jq n j l)=Ty.sizes l
 | [],n,j=>by simp[jq,Tm.eU,Ty.sizes]
 |t::l,n,j=>by rw[jq,Tm.eU,Ty.sizes,yG t,vk l]
end
mutual
theorem KA {B:Nat}:∀(t:Ty) (k i:Int),lk k->lk i->t.size<=B->B<=1000000000->(qA k i t).Lo B
 | .mk l b,k,i,hk,hi,h,hB=>by
  have:=Ty.aY l;rw[Ty.size] at h;rw[qA];refine⟨⟨by omega,by rw[mV];omega⟩,⟨hk,?_⟩,F5 l l.length 0 (by omega) (by omega) (by omega) hB⟩;split
  ·exact FT _
  ·exact hi
theorem F5 {B:Nat}:∀(l:List Ty) (n j:Nat),n<=B->Ty.sizes l<=B->j+l.length<=3000000000->B<=1000000000->Tm.yC B (jq n j l)
 | [],n,j,_,_,_,_=>True.intro
 |t::l,n,j,hn,h,hj,hB=>by
  rw[Ty.sizes] at h;rw[als] at hj;exact⟨KA t 0 _ ⟨by decide,by decide⟩ ⟨by omega,by omega⟩ (by omega) hB,F5 l n (j+1) hn (by omega) (by omega) hB⟩
end
theorem Si (c m x:List Ty) (st:Mt) (k i:Int):st.To (FZ c m x st k i).1:=by
 unfold FZ;split
 ·exact Mt.yE _ _
 ·exact Mt.yE _ _
theorem KB (t:Ty) (r:Mt×List Tm):r.1.To (CA t r).1:=by
 unfold CA;split<;>exact .refl _
theorem KC (r:Mt×List Tm):r.1.To (vS r).1:=by
 unfold vS;split
 ·exact .refl _
 ·exact VH _ _ _ _
mutual
theorem Rw.wA (c m:List Ty):∀(r:Rw) (st:Mt) (x:List Ty),st.To (Rw.dX c m st x r).1
 | .mk k t i l,st,x=>by
  rw[Rw.dX];split
  ·exact .refl _
  ·split
   ·exact(Rw.tk c m l st _).trans (KB _ _)
   ·split
    ·exact(Rw.tk c m l st _).trans (KC _)
    ·exact Si _ _ _ _ _ _
theorem Rw.tk (c m:List Ty):∀(l:List Rw) (st:Mt) (x:List Ty),st.To (Rw.dY c m st x l).1
 | [],st,x=>.refl _
 |r::l,st,x=>by rw[Rw.dY];exact(Rw.wA c m r st x).trans (Rw.tk c m l _ x)
end
section
theorem aG.L4 {P:Program} {f:FuncId} {args:List AV} {hp:List ab} {R:AV->List ab->Prop} (h:aG P f args hp (fun r hp'=>∃r2,aB r r2/\R r2 hp')):aG P f args hp R:=
 ⟨h.1,fun w F η bg bu hv=>(h.2 w F η bg bu hv).mono fun e w' ⟨v,r,hp',aO,he,⟨r2,hw,hR⟩,bc⟩=>⟨v,r2,hp',aO,he,hR,⟨bc.keeps,bc.ext,bc.heap,bc.bN,hw _ _ _ _ _ bc.rep⟩⟩⟩
theorem dH.adr {w:World} {F:Nat->Nat->Prop} {η:List Value} {hp:List ab}:∀{xs ys:List AV} {vs:List Value},dH xs ys->bS w F η hp xs vs->bS w F η hp ys vs
 | [],[],_,_,h=>h
 |x::xs,y::ys,[],_,h=>h.elim
 |x::xs,y::ys,v::vs,hw,h=>⟨hw.1 _ _ _ _ _ h.1,dH.adr hw.2 h.2⟩
theorem aG.args {P:Program} {f:FuncId} {args lD:List AV} {hp:List ab} {R:AV->List ab->Prop} (hw:dH args lD) (h:aG P f lD hp R):aG P f args hp R:=
 ⟨h.1,fun w F η bg bu hv=>h.2 w F η bg bu (hw.adr hv)⟩
theorem yH:aB (.ae (.slice none 0 0)) (.sl []):=fun _ _ _ _ _ h=>by cases h;exact .oc none
theorem L5 (l:List AV):aB (.clip l) (.sl l):=fun _ _ _ _ _ h=>h.ng
theorem rK:aB (.agg [.ae (.slice none 0 0),nI 0,nI 0,.ae (.slice none 0 0)]) (.agg [.sl [],nI 0,nI 0,.sl []]):=aB.agg ⟨yH,aB.refl _,aB.refl _,yH,True.intro⟩
theorem TY {d:TD} {n:Nat} (h:d.bytes<=1000) (hn:n<=4000000000):0<=(n:Int)/\(n:Int)<=9223372036854775807/\(TD.bytes d:Int)*(n:Int)<=281474976710656:=by
 refine⟨by omega,by omega,?_⟩;have h1:(TD.bytes d:Int)*(n:Int)=((d.bytes*n:Nat):Int):=by simp
 have h2:d.bytes*n<=1000*4000000000:=amT h hn;rw[h1];omega
def zQ (l u d s y c e:Int):List ab:=[.box (az l u d 0 s y),.box [.ptr 0 0,nI c,nI e]]
structure vl (n:Nat) (l u d y:Int):Prop where
 left:l=n
 used:0<=u
 sum:l+u<=4000000000000000000
 dry:y=0↔d=0
 none:y≠0->n=0
structure vT (m:Mt) (l u d y c e:Int):Prop where
 bud:vl m.left l u d y
 err:e=m.err
 yD:m.count<=100000
 count:m.err=0->c=m.count
 fuel:m.err=11->y≠0
def L6 (m:Mt) (hp:List ab):Prop:=∃l u d s y c e,hp=zQ l u d s y c e/\vT m l u d y c e
variable {m:Mt} {l u d s y c e:Int}
theorem Sj {left:Nat} (h:vl left l u d y):aG Tryz.prog 259 [.ptr 0 0,nI 1] [.box (az l u d 0 s y)]
  (fun r hp'=>∃l' u' d' y',r=nB (decide (left≠0))/\hp'=[.box (az l' u' d' 0 s y')]/\vl (left-1) l' u' d' y'/\(left=0->y'≠0)):=by
 refine(LW (l:=l) (u:=u) (d:=d) (s:=s) (y:=y) 1 (by decide)).mono fun r hp' ⟨e1,e2⟩=>?_;have hl:=h.left
 by_cases h0:left=0
 ·subst h0;have M0:l=0:=by simpa using hl
  subst M0;have hq:y≠0\/1>(0:Int):=.inr (by decide);refine⟨0,u,if d=0 then 1 else d,if d=0 then 1 else y,by rw[e1];simp,?_,⟨rfl,h.used,by have:=h.sum;omega,?_,fun _=>rfl⟩,fun _=>?_⟩
  ·rw[e2,rG,if_pos hq,FP (by omega) (by omega) (by omega),FQ (by omega) h.used (by have:=h.sum;omega)];simp
  ·by_cases hd:d=0
   ·simp[hd]
   ·simp only[hd,if_false];exact⟨fun hy=>(hd (h.dry.1 hy)).elim,fun dy=>dy.elim⟩
  ·by_cases hd:d=0
   ·simp[hd]
   ·simp only[hd,if_false];exact fun hy=>hd (h.dry.1 hy)
 ·have hy:y=0:=Decidable.byContradiction fun hc=>h0 (h.none hc);have hd:d=0:=h.dry.1 hy;subst hy;subst hd;have hq:¬((0:Int)≠0\/1>l):=by omega
  refine⟨l-1,u+1,0,0,?_,?_,⟨by omega,by have:=h.used;omega,by have:=h.sum;omega,Iff.rfl,fun h=>(h rfl).elim⟩,fun h=>(h0 h).elim⟩
  ·rw[e1,decide_eq_true hq,decide_eq_true h0]
  ·rw[e2,LY (by omega) h.used (by have:=h.sum;omega)]
theorem gv (e1:Int):aG Tryz.prog 227 [.ptr 1 0,nI e1] (zQ l u d s y c e) (fun r hp'=>r=.av []/\hp'=zQ l u d s y c (if e=0 then e1 else e)):=
 QS (ag.intro (fun h=>⟨rfl,by rw[if_pos (by simpa using h)];rfl⟩) fun h=>⟨rfl,by rw[if_neg (by simpa using h)];rfl⟩)
theorem rL {m:Mt} (h:m.err≠0):∀n,m.dI n=(m,false)
 |0=>by rw[Mt.dI,decide_eq_false h]
 |n+1=>by
  have h1:m.one=(m,false):=by unfold Mt.one;rw[if_pos h]
  rw[Mt.dI,h1];rfl
theorem Iy (m:Mt) (n:Nat):m.dI (n+1)=m.one.1.dI n:=by
 rw[Mt.dI]
 cases h:m.one.2 with
 |true=>rfl
 |false=>rw[rL (mX h).1];rfl
theorem vT.failed (h:vT m l u d y c e) (c':Int) {e':Int} (he:e'≠0) (hf:e'=11->y≠0):vT ⟨m.left,m.count,e'⟩ l u d y c' e':=⟨h.bud,rfl,h.yD,fun h=>(he h).elim,hf⟩
theorem rM (n:Nat) (hn:n<=1000000000) (h:vT m l u d y c e):aG Tryz.prog 231 [.ptr 1 0,nI n] (zQ l u d s y c e) (fun r hp'=>r=nB (m.dI n).2/\L6 (m.dI n).1 hp'):=by
 refine QU ?_;unfold WO EL;refine ay.intro (β:=Nat×Mt×Int×Int×Int×Int×Int×Int×Int) (fun b=>(((),(b.1:Int),()),((b.2.2.1,b.2.2.2.1,b.2.2.2.2.1,(0:Int),b.2.2.2.2.2.1,b.2.2.2.2.2.2.1,()),((),b.2.2.2.2.2.2.2.1,b.2.2.2.2.2.2.2.2,()),())))
  (fun b=>m.dI n=b.2.1.dI b.1/\b.1<=n/\vT b.2.1 b.2.2.1 b.2.2.2.1 b.2.2.2.2.1 b.2.2.2.2.2.2.1 b.2.2.2.2.2.2.2.1 b.2.2.2.2.2.2.2.2) (fun b=>b.1) (n,m,l,u,d,s,y,c,e) rfl ⟨rfl,alp _,h⟩ ?_
 rintro⟨k,m',l,u,d,s,y,c,e⟩ ⟨hk,hkn,h⟩ again bY
 dsimp only at hk hkn h ⊢;have he:=h.err;refine ag.intro (fun hp=>?_) fun hp=>?_
 ·have hp:(k:Int)>0:=of_decide_eq_true hp;obtain⟨j,rfl⟩:∃j,k=j+1:=⟨k-1,by omega⟩;have hw:IntKind.wrap .i64 (((j+1:Nat):Int)-1)=((j:Nat):Int):=by rw[aT (by omega) (by omega)];omega
  refine ag.intro (fun h1=>?_) fun h1=>?_
  ·have Ab:e=0:=by simpa using h1
   have qt:m'.err=0:=by rw[<-he];exact Ab
   have hc:=h.count qt;subst Ab;rw[Iy] at hk;refine ag.intro (fun h2=>?_) fun h2=>?_
   ·have uH:m'.count=100000:=by have:c=100000:=(by simpa using h2);omega
    refine⟨_,gv 2,fun r q ⟨e1,e2⟩=>⟨l,u,d,0,s,y,c,2,⟨e1,e2⟩,?_⟩⟩;rw[hw];have h1:m'.one.1=⟨m'.left,m'.count,2⟩:=by unfold Mt.one;rw[if_neg (by simp[qt]),if_pos uH]
    rw[h1] at hk;exact bY (j,⟨m'.left,m'.count,2⟩,l,u,d,s,y,_,2) ⟨hk,by omega,h.failed _ (by decide) (fun h=>by simp at h)⟩ (amC j)
   ·have uH:¬m'.count=100000:=by have:¬c=100000:=(by simpa using h2);omega
    refine⟨_,Sj h.bud,fun r q ⟨l',u',d',y',e1,e2,hb,hz⟩=>⟨l',u',d',0,s,y',_,⟨e1,e2⟩,?_⟩⟩;refine ag.intro (fun h3=>?_) fun h3=>?_
    ·have h0:m'.left=0:=by simpa using h3
     refine⟨_,gv 11,fun r q ⟨e1,e2⟩=>⟨l',u',d',0,s,y',c,11,⟨e1,e2⟩,?_⟩⟩;rw[hw];have h1:m'.one.1=⟨m'.left,m'.count,11⟩:=by unfold Mt.one;rw[if_neg (by simp[qt]),if_neg uH,if_pos h0]
     rw[h1] at hk;rw[h0] at hb;exact bY (j,⟨m'.left,m'.count,11⟩,l',u',d',s,y',_,11) ⟨hk,by omega,by rw[h0];exact hb,rfl,h.yD,fun h=>by simp at h,fun _=>hz h0⟩ (amC j)
    ·have h0:¬m'.left=0:=by simpa using h3
     rw[hw];have h1:m'.one.1=⟨m'.left-1,m'.count+1,0⟩:=by unfold Mt.one;rw[if_neg (by simp[qt]),if_neg uH,if_neg h0,qt]
     have GA:=h.yD;have hcn:m'.count<=4000000000:=by omega
     rw[h1] at hk;rw[hc,aV hcn];exact bY (j,⟨m'.left-1,m'.count+1,0⟩,l',u',d',s,y',_,0) ⟨hk,by omega,hb,rfl,by simp only;omega,fun _=>rfl,fun h=>by simp at h⟩ (amC j)
  ·have Ab:¬e=0:=by simpa using h1
   have qt:m'.err≠0:=by rw[<-he];exact Ab
   rw[rL qt] at hk;rw[hk];exact⟨by rw[show (e==0)=false from by simp[Ab]],l,u,d,s,y,c,e,rfl,h⟩
 ·have hp:¬(k:Int)>0:=of_decide_eq_false hp;obtain rfl:k=0:=by omega
  rw[Mt.dI] at hk;rw[hk];refine⟨?_,l,u,d,s,y,c,e,rfl,h⟩;rw[he]
  by_cases h0:m'.err=0
  ·simp[h0]
  ·simp[h0]
end
theorem CD {B b:Nat} (hB:B<=1000000):∀(n:Nat) (t:Tm) (d:Nat),t.nodes<=n->t.Lo B->d+B*n<=4000000000000000000->
  af Tryz.prog 284 [.agg [.sl (t.binds.map Ty.enc),nI t.kind,nI t.index,.sl (t.args.map Tm.enc)],nI b,nI d] (.agg [.sl ((t.lift b d).binds.map Ty.enc),nI (t.lift b d).kind,nI (t.lift b d).index,.sl ((t.lift b d).args.map Tm.enc)]):=by
 intro n
 induction n with
 |zero=>intro t d h;have:=t.L0;omega
 |succ n ih=>
  intro t d h oG hd;have hl:=Tm.ld.1 oG;have hb:=Ty.aY t.binds;have hmul:B*(n+1)=B*n+B:=by rw[Nat.mul_succ]
  have hw:IntKind.wrap .i64 ((d:Int)+((List.length (t.binds.map Ty.enc):Nat):Int))=((d+t.binds.length:Nat):Int):=by
   rw[alm,aT (by omega) (by omega)];omega
  have ha:(t.lift b d).args=t.args.map (Tm.lift b (d+t.binds.length)):=Tm.L2 b d t;have loop:∀ix:Int,ix=(t.lift b d).index->sP ((b,((d+t.binds.length:Nat):Int),(),(),(),t.args.map Tm.enc,((List.length (t.args.map Tm.enc):Nat):Int),0,()),((t.binds.map Ty.enc,t.kind,ix,t.args.map Tm.enc,()),((),0,0,(),()),[],())) (fun x=>x=.agg [.sl ((t.lift b d).binds.map Ty.enc),nI (t.lift b d).kind,nI (t.lift b d).index,.sl ((t.lift b d).args.map Tm.enc)]):=by
   intro ix H6;refine ay.intro (fun k:Nat=>(((b:Int),((d+t.binds.length:Nat):Int),(),(),(),t.args.map Tm.enc,(t.args.length:Int),(k:Int),()),((t.binds.map Ty.enc,t.kind,ix,t.args.map Tm.enc,()),((),(0:Int),(0:Int),(),()),((t.lift b d).args.take k).map Tm.enc,())))
    (fun k=>k<=t.args.length) (fun k=>t.args.length-k) 0 (by rw[alm];rfl) (aly _) ?_
   intro k hk again bY;dsimp only;refine ag.intro (fun h=>?_) fun h=>?_
   ·have aq:k<t.args.length:=by simpa using h
    have hz:t.args[k].nodes<=n:=by have:=Tm.yA (alH aq);have:=t.iv;omega
    have hi:=ih t.args[k] (d+t.binds.length) hz (Tm.lK.1 hl.2.2 _ (alH aq)) (by omega);have agR:k<(t.lift b d).args.length:=by rw[ha,alm];exact aq
    have hg:(t.lift b d).args[k]=Tm.lift b (d+t.binds.length) t.args[k]:=by simp[ha]
    rw[<-hg] at hi;refine⟨by omega,by rw[alm];omega,_,_,_,_,Tm.bb aq,_,_,_,_,hi,rfl,mQ (fun x hx=>by simp at hx;subst hx;rfl) (by simp;omega) (by decide),rfl,?_⟩;rw[aV (by omega),Tm.kS,dh agR];exact bY (k+1) (by omega) (by omega)
   ·have:t.args.length<=k:=by simpa using h
    refine⟨rfl,?_⟩;rw[alI (by rw[ha,alm];exact this),H6,Tm.Iw,Tm.L1]
  have hm:∀{dd:TD},dd.bytes<=1000->(0<=((List.length (t.args.map Tm.enc):Nat):Int)/\((List.length (t.args.map Tm.enc):Nat):Int)<=9223372036854775807/\(TD.bytes dd:Int)*((List.length (t.args.map Tm.enc):Nat):Int)<=281474976710656):=
   fun hd=>TY hd (by rw[alm];omega)
  refine QW ?_;unfold WQ;rw[hw];have jO:(t.lift b d).index=if t.kind=0/\((d+t.binds.length:Nat):Int)<=t.index then IntKind.wrap .i64 (t.index+b) else t.index:=by rw[Tm.wz];rfl
  refine ag.intro (fun h=>?_) fun h=>?_
  ·have h0:t.kind=0:=by simpa using h
   refine ag.intro (fun h1=>?_) fun h1=>?_
   ·have h1:((d+t.binds.length:Nat):Int)<=t.index:=of_decide_eq_true h1;exact⟨hm (by decide),rfl,loop _ (by rw[jO,if_pos ⟨h0,h1⟩])⟩
   ·have h1:¬((d+t.binds.length:Nat):Int)<=t.index:=of_decide_eq_false h1;exact⟨hm (by decide),rfl,loop _ (by rw[jO,if_neg (fun h=>h1 h.2)])⟩
  ·have h0:¬t.kind=0:=by simpa using h
   exact⟨hm (by decide),rfl,loop _ (by rw[jO,if_neg (fun h=>h0 h.1)])⟩
mutual
theorem Tm.AR:∀(t:Tm) (d:Nat),t.Ok->t.lift 0 d=t
 | .mk bs k i l,d,h=>by
  obtain⟨h1,h2,h3⟩:=h;rw[Tm.lift,Tm.yI l _ h3]
  congr 1
  split
  ·rw[show i+((0:Nat):Int)=i from by omega,h2.wrap]
  ·rfl
theorem Tm.yI:∀(l:List Tm) (d:Nat),Tm.MT l->Tm.yB 0 d l=l
 | [],_,_=>rfl
 |t::l,d,h=>by rw[Tm.yB,Tm.AR t d h.1,Tm.yI l d h.2]
end
theorem tl {B b:Nat} {t:Tm} (hB:B<=1000000) (hn:t.nodes<=1000000000) (oG:t.Lo B):
  af Tryz.prog 273 [.agg [.sl (t.binds.map Ty.enc),nI t.kind,nI t.index,.sl (t.args.map Tm.enc)],nI b] (.agg [.sl ((t.lift b 0).binds.map Ty.enc),nI (t.lift b 0).kind,nI (t.lift b 0).index,.sl ((t.lift b 0).args.map Tm.enc)]):=by
 have:=amT hB hn;refine QV (ag.intro (fun h=>?_) fun h=>⟨_,_,_,_,CD (b:=b) hB _ t 0 (alp _) oG (by omega),rfl⟩);have h0:b=0:=by simpa using h
 subst h0;rw[Tm.AR t 0 (Tm.Ky oG)]
end Go.Proofs.YtnkjkpmbgoehkaaGreat
