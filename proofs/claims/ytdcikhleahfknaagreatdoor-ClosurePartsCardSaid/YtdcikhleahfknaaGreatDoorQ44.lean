/- Texts of ours laid together for a claim: P01 P02 P03 P04 P05 P06. -/
import Derived.Test.YtdcikhleahfknaaGreatDoorQ43
namespace Go.Proofs.YtdcikhleahfknaaGreatDoor
open Go
set_option linter.unusedSimpArgs false
set_option linter.unusedVariables false
theorem dm {n:Int} (h1 : -9223372036854775808≤n) (h2:n<9223372036854775808):IntKind.wrap .i64 n=n:=IntWalk.i64_in _ (by omega)
theorem aB {k:Nat} (h:k≤4000000000):IntKind.wrap .i64 ((k:Int)+1)=((k+1:Nat):Int):=FR (by omega)
theorem Bo {d:TD} {n:Nat} {els av:List AV} (h1:∀x:AV,x∈els→x.cells.length=d.size) (h2:∀x:AV,x∈av→x.cells.length=d.size) (hn:n≤4000000000) (hb:d.bytes≤1000):bz d n els av:=by
 refine⟨h1,h2,?_,?_⟩
 ·simp only[maxLen];omega
 ·have:=Nat.mul_le_mul hn hb;omega
theorem cN {d:TD} {n:Nat} {av:List AV} (h2:∀x:AV,x∈av→x.cells.length=d.size) (hn:n≤4000000000) (hb:d.bytes≤1000):bz d n [] av:=
 Bo (fun x hx=>by cases hx) h2 hn hb
theorem bX {d:TD} {n:Nat} {x:AV} (h2:x.cells.length=d.size) (hn:n≤4000000000) (hb:d.bytes≤1000):bz d n [] [x]:=
 cN (fun y hy=>by rw[List.mem_singleton.1 hy];exact h2) hn hb
theorem getD_map {α:Type} {f:α→AV} {l:List α} {k:Nat} (h:k<l.length):List.getD (l.map f) (Int.toNat (k:Int)) .top=f l[k]:=by simp[List.getD,h]
def ar (l:List Int):List AV:=l.map nI
theorem mS (l:List Int):(ar l).length=l.length:=by simp[ar]
theorem p6 (l:List Int) (i:Int):ar l++[nI i]=ar (l++[i]):=by simp[ar]
theorem jG {l:List Int}:∀x:AV,x∈ar l→x.cells.length=1:=by
 intro x hx
 obtain⟨t,_,rfl⟩:=List.mem_map.1 hx
 rfl
def U2:List Int→List Int→Bool
 | [],[]=>true
 |a::l,b::m=>(a==b)&&U2 l m
 |_,_=>false
inductive Ty where
 |mk (args:List Ty) (base:Int)
mutual
def Ty.enc:Ty→AV
 | .mk l b=>.agg [.sl (Ty.yq l),nI b]
def Ty.yq:List Ty→List AV
 | []=>[]
 |t::l=>Ty.enc t::Ty.yq l
end
mutual
def Ty.size:Ty→Nat
 | .mk l _=>1+Ty.sizes l
def Ty.sizes:List Ty→Nat
 | []=>0
 |t::l=>Ty.size t+Ty.sizes l
end
def Ty.args:Ty→List Ty | .mk l _=>l
def Ty.base:Ty→Int | .mk _ b=>b
theorem Ty.Fs (a:List Ty) (b:Int):(Ty.mk a b).args=a:=rfl
theorem Ty.Ft (a:List Ty) (b:Int):(Ty.mk a b).base=b:=rfl
theorem Ty.yr (l:List Ty):Ty.yq l=l.map Ty.enc:=by
 induction l with
 |nil=>rfl
 |cons t l ih=>simp[Ty.yq,ih]
theorem Ty.aE (t:Ty):t.enc=.agg [.sl (t.args.map Ty.enc),nI t.base]:=by cases t;simp[Ty.enc,Ty.yr,Ty.args,Ty.base]
theorem Ty.fJ (l:List Ty) (b:Int):(Ty.mk l b).enc=.agg [.sl (l.map Ty.enc),nI b]:=Ty.aE _
theorem Ty.aj {l:List Ty} {k:Nat} (h:k<l.length):List.getD (l.map Ty.enc) (Int.toNat (k:Int)) .top=.agg [.sl (l[k].args.map Ty.enc),nI l[k].base]:=by rw[getD_map h,Ty.aE]
theorem Ty.size_eq (t:Ty):t.size=1+Ty.sizes t.args:=by cases t;rfl
theorem Ty.size_pos (t:Ty):1≤t.size:=by rw[t.size_eq];omega
theorem Ty.aA (l:List Ty):l.length≤Ty.sizes l:=by
 induction l with
 |nil=>simp[Ty.sizes]
 |cons t l ih=>have:=t.size_pos;simp[Ty.sizes];omega
theorem Ty.bW (l m:List Ty):Ty.sizes (l++m)=Ty.sizes l+Ty.sizes m:=by
 induction l with
 |nil=>simp[Ty.sizes]
 |cons t l ih=>simp[Ty.sizes,ih];omega
theorem Ty.bm {l:List Ty} {t:Ty} (h:t∈l):t.size≤Ty.sizes l:=by
 induction l with
 |nil=>cases h
 |cons u l ih=>
  simp only[Ty.sizes]
  rcases List.mem_cons.1 h with rfl|h1
  ·omega
  ·have:=ih h1;omega
theorem Ty.bM {t:Ty} {k:Nat} (h:k<t.args.length):t.args[k].size<t.size:=by
 have:=Ty.bm (List.getElem_mem h)
 rw[t.size_eq];omega
theorem Ty.sX (t:Ty):t.enc.cells.length=2:=by cases t;rfl
theorem Ty.cW {l:List Ty}:∀x:AV,x∈l.map Ty.enc→x.cells.length=2:=by
 intro x h
 obtain⟨t,_,rfl⟩:=List.mem_map.1 h
 exact t.sX
theorem Ty.ej (l:List Ty) (t:Ty):l.map Ty.enc++[.agg [.sl (t.args.map Ty.enc),nI t.base]]=(l++[t]).map Ty.enc:=by rw[←Ty.aE];simp
mutual
def Ty.same:Ty→Ty→Bool
 | .mk l a,.mk m b=>(a==b)&&Ty.bp l m
def Ty.bp:List Ty→List Ty→Bool
 | [],[]=>true
 |t::l,u::m=>Ty.same t u&&Ty.bp l m
 |_,_=>false
end
theorem Ty.p7 (t u:Ty):Ty.same t u=((t.base==u.base)&&Ty.bp t.args u.args):=by cases t;cases u;simp[Ty.same,Ty.base,Ty.args]
theorem Ty.gi {l m:List Ty} {k:Nat} (h1:k<l.length) (h2:k<m.length):Ty.bp (l.drop k) (m.drop k)=(Ty.same l[k] m[k]&&Ty.bp (l.drop (k+1)) (m.drop (k+1))):=by
 rw[List.drop_eq_getElem_cons h1,List.drop_eq_getElem_cons h2,Ty.bp]
theorem Ty.il {l m:List Ty} (h:¬l.length=m.length):Ty.bp l m=false:=by
 induction l generalizing m with
 |nil=>cases m with
  |nil=>exact(h rfl).elim
  |cons=>simp[Ty.bp]
 |cons t l ih=>cases m with
  |nil=>simp[Ty.bp]
  |cons u m=>simp[Ty.bp,ih (m:=m) (by simpa using h)]
mutual
theorem Ty.eQ:∀(t u:Ty),Ty.same t u=true↔t=u
 | .mk l a,.mk m b=>by rw[Ty.same,Bool.and_eq_true,beq_iff_eq,Ty.im l m];simp only[Ty.mk.injEq];exact⟨fun h=>⟨h.2,h.1⟩,fun h=>⟨h.2,h.1⟩⟩
theorem Ty.im:∀(l m:List Ty),Ty.bp l m=true↔l=m
 | [],[]=>by simp[Ty.bp]
 | [],_::_=>by simp[Ty.bp]
 |_::_,[]=>by simp[Ty.bp]
 |t::l,u::m=>by rw[Ty.bp,Bool.and_eq_true,Ty.eQ t u,Ty.im l m];simp
end
inductive Tm where
 |mk (binds:List Ty) (kind index:Int) (args:List Tm)
mutual
def Tm.enc:Tm→AV
 | .mk b k i a=>.agg [.sl (b.map Ty.enc),nI k,nI i,.sl (Tm.yq a)]
def Tm.yq:List Tm→List AV
 | []=>[]
 |t::l=>Tm.enc t::Tm.yq l
end
mutual
def Tm.size:Tm→Nat
 | .mk b _ _ a=>1+Ty.sizes b+Tm.sizes a
def Tm.sizes:List Tm→Nat
 | []=>0
 |t::l=>Tm.size t+Tm.sizes l
end
def Tm.binds:Tm→List Ty | .mk b _ _ _=>b
def Tm.kind:Tm→Int | .mk _ k _ _=>k
def Tm.index:Tm→Int | .mk _ _ i _=>i
def Tm.args:Tm→List Tm | .mk _ _ _ a=>a
theorem Tm.yr (l:List Tm):Tm.yq l=l.map Tm.enc:=by
 induction l with
 |nil=>rfl
 |cons t l ih=>simp[Tm.yq,ih]
theorem Tm.aE (t:Tm):t.enc=.agg [.sl (t.binds.map Ty.enc),nI t.kind,nI t.index,.sl (t.args.map Tm.enc)]:=by cases t;simp[Tm.enc,Tm.yr,Tm.binds,Tm.kind,Tm.index,Tm.args]
theorem Tm.fJ (b:List Ty) (k i:Int) (a:List Tm):(Tm.mk b k i a).enc=.agg [.sl (b.map Ty.enc),nI k,nI i,.sl (a.map Tm.enc)]:=Tm.aE _
theorem Tm.aj {l:List Tm} {k:Nat} (h:k<l.length):List.getD (l.map Tm.enc) (Int.toNat (k:Int)) .top=.agg [.sl (l[k].binds.map Ty.enc),nI l[k].kind,nI l[k].index,.sl (l[k].args.map Tm.enc)]:=by rw[getD_map h,Tm.aE]
theorem Tm.size_eq (t:Tm):t.size=1+Ty.sizes t.binds+Tm.sizes t.args:=by cases t;rfl
theorem Tm.size_pos (t:Tm):1≤t.size:=by rw[t.size_eq];omega
theorem Tm.aA (l:List Tm):l.length≤Tm.sizes l:=by
 induction l with
 |nil=>simp[Tm.sizes]
 |cons t l ih=>have:=t.size_pos;simp[Tm.sizes];omega
theorem Tm.bW (l m:List Tm):Tm.sizes (l++m)=Tm.sizes l+Tm.sizes m:=by
 induction l with
 |nil=>simp[Tm.sizes]
 |cons t l ih=>simp[Tm.sizes,ih];omega
theorem Tm.bm {l:List Tm} {t:Tm} (h:t∈l):t.size≤Tm.sizes l:=by
 induction l with
 |nil=>cases h
 |cons u l ih=>
  simp only[Tm.sizes]
  rcases List.mem_cons.1 h with rfl|h1
  ·omega
  ·have:=ih h1;omega
theorem Tm.bM {t:Tm} {k:Nat} (h:k<t.args.length):t.args[k].size<t.size:=by
 have:=Tm.bm (List.getElem_mem h)
 rw[t.size_eq];omega
theorem Tm.sX (t:Tm):t.enc.cells.length=4:=by cases t;rfl
theorem Tm.cW {l:List Tm}:∀x:AV,x∈l.map Tm.enc→x.cells.length=4:=by
 intro x h
 obtain⟨t,_,rfl⟩:=List.mem_map.1 h
 exact t.sX
theorem Tm.ej (l:List Tm) (t:Tm):l.map Tm.enc++[.agg [.sl (t.binds.map Ty.enc),nI t.kind,nI t.index,.sl (t.args.map Tm.enc)]]=(l++[t]).map Tm.enc:=by rw[←Tm.aE];simp
theorem cQ {α:Type} {l:List α} {k:Nat} (h:k<l.length):l.take k++[l[k]]=l.take (k+1):=by rw[List.take_succ_eq_append_getElem h]
theorem Bp {l:List Int} (bE:l.length≤1000000000):ag Tryz.prog 199 [.sl (ar l)] (.sl (ar l)):=by
 refine Je fun b hb=>ak.intro (fun h=>?_) fun h=>?_
 ·have:ar l=[]:=Classical.byContradiction fun hn=>by rw[hb hn] at h;cases h
  rw[this]
 ·exact⟨fun _=>rfl,cN jG (by simp[mS];omega) (by decide),rfl,by simp⟩
theorem Dr {l:List Int}:ag Tryz.prog 200 [.sl (ar l)] (.clip (ar l)):=by
 refine Pure.of_heap (Jf ⟨⟨by omega,by omega,rfl,by omega,jG⟩,rfl,?_⟩)
 simp
theorem ux (t:Tm):ag Tryz.prog 181 [t.enc] (nB (t.kind==2)):=by
 rw[Tm.aE];exact Jc rfl
theorem ia {l m:List Ty} (bE:l.length≤1000000000) (ih:∀(k:Nat) (h1:k<l.length) (h2:k<m.length),ag Tryz.prog 138 [l[k].enc,m[k].enc] (nB (Ty.same l[k] m[k]))):
  ag Tryz.prog 137 [.sl (l.map Ty.enc),.sl (m.map Ty.enc),.aS 138 []] (nB (Ty.bp l m)):=by
 refine Jh (ak.intro (fun h=>?_) fun h=>?_)
 ·have:¬l.length=m.length:=by simp at h;omega
  rw[Ty.il this]
 ·have VP:l.length=m.length:=by simp at h;omega
  refine au.intro (fun k:Nat=>((m.map Ty.enc,(),l.map Ty.enc,(l.length:Int),(k:Int),()),())) (fun k=>k≤l.length∧Ty.bp l m=Ty.bp (l.drop k) (m.drop k)) (fun k=>l.length-k) 0 (by rw[List.length_map];rfl) ⟨Nat.zero_le _,rfl⟩ ?_
  intro k ⟨hk,hs⟩ again bB
  dsimp only
  rw[List.length_map,List.length_map]
  refine ak.intro (fun h=>?_) fun h=>?_
  ·have al:k<l.length:=by simpa using h
   rw[Ty.gi al (by omega)] at hs
   have hi:=ih k al (by omega)
   rw[Ty.aE,Ty.aE] at hi
   refine⟨by omega,by omega,_,_,Ty.aj al,by omega,by omega,_,_,Ty.aj (by omega),_,hi,ak.intro (fun h=>?_) fun h=>?_⟩
   ·have:Ty.same l[k] m[k]=false:=by simpa using h
    rw[hs,this,Bool.false_and]
   ·have he:Ty.same l[k] m[k]=true:=by simpa using h
    rw[he,Bool.true_and] at hs
    rw[aB (by omega)]
    exact bB (k+1) ⟨by omega,hs⟩ (by omega)
  ·have:l.length≤k:=by simpa using h
   rw[List.drop_eq_nil_of_le this,List.drop_eq_nil_of_le (by omega)] at hs
   rw[hs];rfl
theorem mU:∀(n:Nat) (t u:Ty),t.size≤n→n≤1000000000→ag Tryz.prog 138 [t.enc,u.enc] (nB (Ty.same t u)):=by
 intro n
 induction n with
 |zero=>intro t u h;have:=t.size_pos;omega
 |succ n ih=>
  intro t u h hn
  have hq:=Ty.aA t.args
  have vj:=t.size_eq
  have he:=ia (l:=t.args) (m:=u.args) (by omega) (fun k h1 h2=>ih _ _ (by have:=Ty.bM h1;omega) (by omega))
  rw[Ty.aE,Ty.aE,Ty.p7]
  refine Ji (ak.intro (fun h=>?_) fun h=>?_)
  ·exact⟨_,he,by rw[h,Bool.true_and]⟩
  ·rw[h,Bool.false_and]
theorem lu:∀(n:Nat) (t:Ty),t.size≤n→n≤1000000000→ag Tryz.prog 72 [t.enc] t.enc:=by
 intro n
 induction n with
 |zero=>intro t h;have:=t.size_pos;omega
 |succ n ih=>
  intro t h hn
  have hq:=Ty.aA t.args
  have vj:=t.size_eq
  rw[Ty.aE]
  refine MD ⟨rfl,?_⟩
  refine au.intro (fun k:Nat=>(((),(),t.args.map Ty.enc,(t.args.length:Int),(k:Int),()),((t.args.map Ty.enc,t.base,()),((),0,()),((),t.base,()),(t.args.take k).map Ty.enc,())))
   (fun k=>k≤t.args.length) (fun k=>t.args.length-k) 0 (by rw[List.length_map];rfl) (Nat.zero_le _) ?_
  intro k hk again bB
  dsimp only
  rw[List.length_map]
  refine ak.intro (fun h=>?_) fun h=>?_
  ·have al:k<t.args.length:=by simpa using h
   have hi:=ih t.args[k] (by have:=Ty.bM al;omega) (by omega)
   rw[Ty.aE] at hi
   refine⟨by omega,by omega,_,_,Ty.aj al,_,_,hi,rfl,bX rfl (by simp;omega) (by decide),rfl,?_⟩
   rw[aB (by omega),Ty.ej,cQ al]
   exact bB (k+1) (by omega) (by omega)
  ·have:t.args.length≤k:=by simpa using h
   refine⟨rfl,?_⟩
   rw[List.take_of_length_le this]
theorem Ds {n:Nat} (hn:n≤1000000000):
  bJ Tryz.prog 176 [.ae (.slice none 0 0),nI (n:Nat)] [] (fun r q=>if n=0 then r=.ae (.slice none 0 0)∧q=[] else r=.own 0 0∧q=[.row 88 2 []]):=by
 have e:IntKind.wrap .i64 ((n:Int)-IntKind.wrap .i64 (0-((List.length ([]:List AV):Nat):Int)))=(n:Int):=by
  rw[show IntKind.wrap .i64 (0-((List.length ([]:List AV):Nat):Int))=0 from by decide,Int.sub_zero,dm (by omega) (by omega)]
 refine Jr (ak.neg (decide_eq_false (by omega)) ?_)
 rw[e,Int.toNat_natCast]
 refine ak.intro (fun h=>⟨⟨of_decide_eq_true h,by simp only[maxLen];omega,?_⟩,?_⟩) fun h=>?_
 ·have:TD.bytes AF≤1000:=by decide
  have h2:n*TD.bytes AF≤n*1000:=Nat.mul_le_mul_left _ this
  omega
 ·have:=of_decide_eq_true h
  dsimp only;rw[if_neg (by omega)];exact⟨rfl,rfl⟩
 ·have:=of_decide_eq_false h
  dsimp only;rw[if_pos (by omega)];exact⟨rfl,rfl⟩
def dZ (ll:List (List Ty)):List AV:=ll.map fun l=>.sl (l.map Ty.enc)
theorem p8 {ll:List (List Ty)} {k:Nat} (h:k<ll.length):List.getD (dZ ll) (Int.toNat (k:Int)) .top=.sl (ll[k].map Ty.enc):=by
 simp[dZ,List.getD,h]
theorem rN (ll:List (List Ty)):(dZ ll).length=ll.length:=by simp[dZ]
theorem wH {ll:List (List Ty)} {k:Nat} (h:k<ll.length):(ll.take (k+1)).flatten=(ll.take k).flatten++ll[k]:=by
 rw[List.take_succ_eq_append_getElem h,List.flatten_append,List.flatten_singleton]
theorem lx (ll:List (List Ty)) (k:Nat):(ll.take k).flatten.length≤ll.flatten.length:=by
 have h:ll.flatten=(ll.take k).flatten++(ll.drop k).flatten:=by rw[←List.flatten_append,List.take_append_drop]
 rw[h,List.length_append];omega
theorem vH {l:List Ty} {x:AV} (h:x∈l.map Ty.enc):x.cells.length=2:=by
 obtain⟨t,_,rfl⟩:=List.mem_map.1 h
 exact t.sX
theorem ib {ll:List (List Ty)} (h0:ll.length≤1000000000) (hn:ll.flatten.length≤1000000000):
  ag Tryz.prog 141 [.sl (dZ ll)] (.sl (ll.flatten.map Ty.enc)):=by
 refine Jq ?_
 refine au.intro (fun k:Nat=>((dZ ll,((ll.take k).flatten.length:Nat),dZ ll,((dZ ll).length:Int),(k:Int),()),())) (fun k=>k≤ll.length) (fun k=>ll.length-k) 0 rfl (Nat.zero_le _) ?_
 intro k hk again bB
 dsimp only
 have hle:=lx ll k
 unfold AL
 rw[rN] at *
 refine ak.intro (fun h=>?_) fun h=>?_
 ·have al:k<ll.length:=by simpa using h
  have n7:=lx ll (k+1)
  have bC:=bB (k+1) (by omega) (by omega)
  rw[wH al,List.length_append] at n7 bC
  refine⟨by omega,by omega,_,p8 al,?_⟩
  rw[List.length_map,dm (n:=(((ll.take k).flatten.length:Nat):Int)+_) (by omega) (by omega),aB (by omega)]
  exact ak.neg (decide_eq_false (by omega)) bC
 ·have te:ll.length≤k:=by simpa using h
  clear bB
  rw[List.take_of_length_le te]
  suffices hL:qT (((),dZ ll,(ll.length:Int),0,()),([],())) (fun r=>r=.sl (ll.flatten.map Ty.enc)) from
   ⟨_,Ds hn,fun r q hq=>by
    by_cases hz:ll.flatten.length=0
    ·rw[if_pos hz] at hq;exact .inr ⟨hq,rfl,hL⟩
    ·rw[if_neg hz] at hq;exact .inl ⟨[],hq,rfl,hL⟩⟩
  refine au.intro (fun k:Nat=>(((),dZ ll,(ll.length:Int),(k:Int),()),((ll.take k).flatten.map Ty.enc,()))) (fun k=>k≤ll.length) (fun k=>ll.length-k) 0 rfl (Nat.zero_le _) ?_
  intro j hj Ri Gu
  dsimp only
  have n7:=lx ll (j+1)
  unfold wF
  refine ak.intro (fun h=>?_) fun h=>?_
  ·have al:j<ll.length:=by simpa using h
   have bC:=Gu (j+1) (by omega) (by omega)
   rw[wH al] at n7 bC
   rw[List.map_append] at bC
   rw[List.length_append] at n7
   refine⟨by omega,by rw[rN];omega,_,p8 al,rfl,cN (fun x hx=>vH hx) (by rw[List.length_append,List.length_map,List.length_map];omega) (by decide),rfl,?_⟩
   rw[aB (by omega)]
   exact bC
  ·have te:ll.length≤j:=by simpa using h
   exact⟨rfl,by rw[List.take_of_length_le te]⟩
def Ty.arrow (t:Ty) (l:List Ty):Ty:=.mk (l++t.args) t.base
theorem mV {t:Ty} {l:List Ty} (h:Ty.sizes l+t.size≤1000000000):ag Tryz.prog 132 [t.enc,.sl (l.map Ty.enc)] (t.arrow l).enc:=by
 have hl:=Ty.aA l
 have n7:=Ty.aA t.args
 have hs:=t.size_eq
 have Lw:=ib (ll:=[l,t.args]) (by simp) (by simp;omega)
 have Hb:=lu _ (.mk (l++t.args) t.base) (Nat.le_refl _) (by simp only[Ty.size,Ty.bW];omega)
 simp only[dZ,List.map_cons,List.map_nil,List.flatten_cons,List.flatten_nil,List.append_nil] at Lw
 rw[Ty.fJ] at Hb
 rw[Ty.arrow,Ty.fJ,Ty.aE t]
 exact Jd ⟨_,Lw,_,_,Hb,rfl⟩
mutual
def Tm.var:Tm→Option (Int×Int)
 | .mk b k i a=>if a.length=b.length∧¬(k=0∧i<b.length) then(if Tm.fK b.length 0 b a=true then some (k,if k=0 then IntKind.wrap .i64 (i-b.length) else i) else none) else none
def Tm.fK (n:Nat):Nat→List Ty→List Tm→Bool
 |k,t::b,a::l=>(match Tm.var a with
  |some (q,j)=>q==0&&j==(n:Int)-1-k&&Ty.bp a.binds t.args
  |none=>false)&&Tm.fK n (k+1) b l
 |_,_,_=>true
end
def uy:Option (Int×Int)→AV
 |some (k,i)=>.bc [.agg [nI k,nI i],nB true]
 |none=>.bc [.agg [nI 0,nI 0],nB false]
theorem Tm.var_eq (t:Tm):Tm.var t=if t.args.length=t.binds.length∧¬(t.kind=0∧t.index<t.binds.length) then(if Tm.fK t.binds.length 0 t.binds t.args=true then some (t.kind,if t.kind=0 then IntKind.wrap .i64 (t.index-t.binds.length) else t.index) else none) else none:=by
 cases t;rw[Tm.var];rfl
theorem Tm.yt {n:Nat} {b:List Ty} {a:List Tm} {k:Nat} (h1:k<b.length) (h2:k<a.length):Tm.fK n k (b.drop k) (a.drop k)=((match Tm.var a[k] with
  |some (q,j)=>q==0&&j==(n:Int)-1-k&&Ty.bp a[k].binds b[k].args
  |none=>false)&&Tm.fK n (k+1) (b.drop (k+1)) (a.drop (k+1))):=by
 rw[List.drop_eq_getElem_cons h1,List.drop_eq_getElem_cons h2,Tm.fK]
theorem Gv:∀(n:Nat) (t:Tm),t.size≤n→n≤1000000000→ag Tryz.prog 220 [t.enc] (uy t.var):=by
 intro n
 induction n with
 |zero=>intro t h;have:=t.size_pos;omega
 |succ n ih=>
  intro t h hn
  have hq:=Tm.aA t.args
  have Ot:=Ty.aA t.binds
  have vj:=t.size_eq
  rw[Tm.var_eq,Tm.aE]
  have loop:t.args.length=t.binds.length→¬(t.kind=0∧t.index<t.binds.length)→ur (((),(),((List.length (t.binds.map Ty.enc):Nat):Int),(),t.args.map Tm.enc,((List.length (t.args.map Tm.enc):Nat):Int),0,()),((t.binds.map Ty.enc,t.kind,t.index,t.args.map Tm.enc,()),(0,0,()),(t.kind,t.index,()),())) (fun x=>x=uy (if t.args.length=t.binds.length∧¬(t.kind=0∧t.index<t.binds.length) then(if Tm.fK t.binds.length 0 t.binds t.args=true then some (t.kind,if t.kind=0 then IntKind.wrap .i64 (t.index-t.binds.length) else t.index) else none) else none)):=by
   intro hlen hk
   rw[if_pos ⟨hlen,hk⟩]
   refine au.intro (fun k:Nat=>(((),(),(t.binds.length:Int),(),t.args.map Tm.enc,(t.args.length:Int),(k:Int),()),((t.binds.map Ty.enc,t.kind,t.index,t.args.map Tm.enc,()),(0,0,()),(t.kind,t.index,()),())))
    (fun k=>k≤t.args.length∧Tm.fK t.binds.length 0 t.binds t.args=Tm.fK t.binds.length k (t.binds.drop k) (t.args.drop k)) (fun k=>t.args.length-k) 0 (by rw[List.length_map,List.length_map];rfl) ⟨Nat.zero_le _,rfl⟩ ?_
   intro k ⟨iT,hs⟩ again bB
   dsimp only
   refine ak.intro (fun h=>?_) fun h=>?_
   ·have al:k<t.args.length:=by simpa using h
    rw[Tm.yt (by omega) al] at hs
    have hi:=ih t.args[k] (by have:=Tm.bM al;omega) (by omega)
    have Vw:=Ty.aA t.args[k].binds
    have hbz:=t.args[k].size_eq
    have gq:=Tm.bM al
    have he:=ia (l:=t.args[k].binds) (m:=(t.binds[k]'(by omega)).args) (by omega) (fun j h1 h2=>mU _ _ _ (Nat.le_refl _) (by have:=Ty.bm (List.getElem_mem h1);omega))
    rw[Tm.aE] at hi
    refine⟨by omega,by rw[List.length_map];omega,_,_,_,_,Tm.aj al,?_⟩
    cases hv:t.args[k].var with
    |none=>
     rw[hv] at hi hs
     refine⟨_,_,_,hi,ak.pos rfl ?_⟩
     rw[hs];simp[uy]
    |some p=>
     obtain⟨q,j⟩:=p
     rw[hv] at hi hs
     refine⟨_,_,_,hi,ak.neg rfl ?_⟩
     rw[dm (n:=(t.binds.length:Int)-1) (by omega) (by omega),dm (by omega) (by omega)]
     dsimp only at hs
     refine ak.intro (fun h=>?_) fun h=>?_
     ·have:(q==0&&j==(t.binds.length:Int)-1-k)=false:=by rw[Bool.not_eq_true'] at h;exact h
      rw[hs,this];simp[uy]
     ·have:(q==0&&j==(t.binds.length:Int)-1-k)=true:=by rw[Bool.not_eq_false'] at h;exact h
      rw[this,Bool.true_and] at hs
      refine⟨by omega,by rw[List.length_map];omega,_,_,Ty.aj (by omega),_,he,ak.intro (fun h=>?_) fun h=>?_⟩
      ·have:Ty.bp t.args[k].binds (t.binds[k]'(by omega)).args=false:=by simpa using h
       rw[hs,this];simp[uy]
      ·have:Ty.bp t.args[k].binds (t.binds[k]'(by omega)).args=true:=by simpa using h
       rw[this,Bool.true_and] at hs
       rw[aB (by omega)]
       exact bB (k+1) ⟨by omega,hs⟩ (by omega)
   ·have:t.args.length≤k:=by simpa using h
    have Mr:Tm.fK t.binds.length k [] []=true:=by simp[Tm.fK]
    rw[List.drop_eq_nil_of_le this,List.drop_eq_nil_of_le (by omega),Mr] at hs
    rw[if_pos hs]
    refine ak.intro (fun h=>?_) fun h=>?_
    ·have h0:t.kind=0:=by simpa using h
     rw[if_pos h0];rfl
    ·have h0:¬t.kind=0:=by simpa using h
     rw[if_neg h0];rfl
  refine Jj (ak.intro (fun h=>?_) fun h=>?_)
  ·have:¬t.args.length=t.binds.length:=by simp at h;omega
   rw[if_neg (fun h=>this h.1)];rfl
  ·have hlen:t.args.length=t.binds.length:=by simp at h;omega
   refine ak.intro (fun h=>?_) fun h=>?_
   ·have h0:t.kind=0:=by simpa using h
    refine ak.intro (fun h=>?_) fun h=>?_
    ·have:t.index<t.binds.length:=by simpa using h
     rw[if_neg (fun h=>h.2 ⟨h0,this⟩)];rfl
    ·exact loop hlen fun h1=>by simp at h;omega
   ·exact loop hlen fun h1=>by simp at h;exact h h1.1
theorem Bq (i:Int):ag Tryz.prog 82 [nI i] (nI i):=MG rfl
def jr (i:Int):Prop := -9223372036854775808≤i∧i<9223372036854775808
mutual
def Tm.Ok:Tm→Prop
 | .mk _ k i a=>jr k∧jr i∧Tm.Ou a
def Tm.Ou:List Tm→Prop
 | []=>True
 |t::l=>Tm.Ok t∧Tm.Ou l
end
theorem Tm.Fu {l:List Tm} (h:Tm.Ou l) {t:Tm} (ht:t∈l):t.Ok:=by
 induction l with
 |nil=>cases ht
 |cons u l ih=>
  obtain⟨h1,h2⟩:=h
  rcases List.mem_cons.1 ht with rfl|h3
  ·exact h1
  ·exact ih h2 h3
theorem Tm.ok_eq {t:Tm} (h:t.Ok):jr t.kind∧jr t.index∧Tm.Ou t.args:=by cases t;exact h
theorem vI:∀(n:Nat) (t:Tm) (a:Nat),t.size≤n→n≤1000000000→t.Ok→a+t.size≤2000000000→ag Tryz.prog 81 [t.enc,nI a,.aS 82 []] t.enc:=by
 intro n
 induction n with
 |zero=>intro t a h;have:=t.size_pos;omega
 |succ n ih=>
  intro t a h hn hk ha
  have hq:=Tm.aA t.args
  have Ot:=Ty.aA t.binds
  have vj:=t.size_eq
  obtain⟨iT,Ck,hk3⟩:=Tm.ok_eq hk
  have fj:=mV (t:=.mk [] 0) (l:=t.binds) (by simp[Ty.size,Ty.sizes];omega)
  rw[Ty.arrow,Ty.Fs,Ty.Ft,List.append_nil,Ty.fJ,Ty.fJ,List.map_nil] at fj
  have hw:IntKind.wrap .i64 ((a:Int)+((List.length (t.binds.map Ty.enc):Nat):Int))=((a+t.binds.length:Nat):Int):=by rw[List.length_map,dm (by omega) (by omega)];omega
  have loop:sU ((((a+t.binds.length:Nat):Int),(),(),(),t.args.map Tm.enc,((List.length (t.args.map Tm.enc):Nat):Int),0,()),((t.binds.map Ty.enc,t.kind,t.index,t.args.map Tm.enc,()),((),0,0,(),()),(t.binds.map Ty.enc,t.kind,t.index,(),()),[],())) (fun x=>x=t.enc):=by
   refine au.intro (fun k:Nat=>((((a+t.binds.length:Nat):Int),(),(),(),t.args.map Tm.enc,(t.args.length:Int),(k:Int),()),((t.binds.map Ty.enc,t.kind,t.index,t.args.map Tm.enc,()),((),0,0,(),()),(t.binds.map Ty.enc,t.kind,t.index,(),()),(t.args.take k).map Tm.enc,())))
    (fun k=>k≤t.args.length) (fun k=>t.args.length-k) 0 (by rw[List.length_map];rfl) (Nat.zero_le _) ?_
   intro k hk again bB
   dsimp only
   refine ak.intro (fun h=>?_) fun h=>?_
   ·have al:k<t.args.length:=by simpa using h
    have hz:=Tm.bM al
    have hi:=ih t.args[k] (a+t.binds.length) (by omega) (by omega) (Tm.Fu hk3 (List.getElem_mem al)) (by have:=Tm.bm (List.getElem_mem al);omega)
    rw[Tm.aE] at hi
    refine⟨by omega,by rw[List.length_map];omega,_,_,_,_,Tm.aj al,_,_,_,_,hi,rfl,bX rfl (by simp;omega) (by decide),rfl,?_⟩
    rw[aB (by omega),Tm.ej,cQ al]
    exact bB (k+1) (by omega) (by omega)
   ·have:t.args.length≤k:=by simpa using h
    refine⟨rfl,?_⟩
    rw[List.take_of_length_le this,←Tm.aE]
  rw[Tm.aE]
  rw[Tm.aE] at loop
  refine MF ⟨_,_,fj,?_⟩
  rw[hw]
  refine ak.intro (fun h=>?_) fun h=>⟨rfl,loop⟩
  refine ak.intro (fun h=>?_) fun h=>⟨rfl,loop⟩
  have te:((a+t.binds.length:Nat):Int)≤t.index:=by simpa using h
  refine⟨_,Bq _,rfl,?_⟩
  unfold jr at Ck
  rw[dm (n:=t.index-((a+t.binds.length:Nat):Int)) (by omega) (by omega),show ((a+t.binds.length:Nat):Int)+(t.index-((a+t.binds.length:Nat):Int))=t.index from by omega,dm Ck.1 Ck.2]
  exact loop
theorem Dt {t:Tm} (h:t.size≤1000000000) (hk:t.Ok):ag Tryz.prog 47 [t.enc] t.enc:=by
 have:=vI _ t 0 (Nat.le_refl _) h hk (by omega)
 rw[Tm.aE] at this ⊢
 exact MH ⟨_,_,_,_,this,rfl⟩
theorem Br {l:List (Int×Value)} {i v:Int} {x:Value} (h:aG l v=none):aG (bK l v x) i=if i=v then some x else aG l i:=by
 induction l with
 |nil=>rfl
 |cons p l ih=>
  obtain⟨k,u⟩:=p
  simp only[aG] at h
  split at h
  ·cases h
  ·rename_i hk
   simp only[bK,if_neg hk,aG,ih h]
   by_cases h1:i=k
   ·subst h1;rw[if_pos rfl,if_neg (fun e=>hk e.symm),if_pos rfl]
   ·rw[if_neg h1,if_neg h1]
def kG (n:Int):List Int→List Tm→Option (List Int)
 |acc,[]=>some acc
 |acc,a::l=>match a.var with
  |some (k,i)=>if k=0∧i<n∧¬i∈acc then kG n (acc++[i]) l else none
  |none=>none
def Tm.vars (t:Tm) (n:Int):List Int×Int:=
 if t.kind=2∧0≤n then(match kG n [] t.args with
  |some l=>(l,0)
  |none=>([],6)) else([],1)
def U3 (p:List Int×Int):AV:=.bc [.sl (ar p.1),nI p.2]
def yu (es:List (Int×Value)) (l:List Int):Prop:=∀i,aG es i=if i∈l then some (.bool true) else none
theorem yu.put {es:List (Int×Value)} {l:List Int} {i:Int} (h:yu es l) (hi:¬i∈l):yu (bK es i (.bool true)) (l++[i]):=by
 intro j
 have hn:aG es i=none:=by rw[h i,if_neg hi]
 rw[Br hn,h j]
 by_cases h1:j=i
 ·subst h1;simp
 ·simp[h1]
theorem Du {t:Tm} {n:Int} (h:t.size≤1000000000):ag Tryz.prog 198 [t.enc,nI n] (U3 (t.vars n)):=by
 have hla:=Tm.aA t.args
 have hs:=t.size_eq
 have U4:=ux t
 rw[Tm.aE] at U4 ⊢
 refine Jk ⟨_,U4,ak.intro (fun h=>?_) fun h=>?_⟩
 ·have:¬t.kind=2:=by simpa using h
  rw[Tm.vars,if_neg (fun h=>this h.1)];rfl
 have hk:t.kind=2:=by simpa using h
 refine ak.intro (fun h=>?_) fun h=>⟨rfl,?_⟩
 ·have:n<0:=by simpa using h
  rw[Tm.vars,if_neg (fun h=>by omega)];rfl
 have hn:0≤n:=by simpa using h
 rw[Tm.vars,if_pos ⟨hk,hn⟩]
 unfold AH
 refine au.intro (fun p:Nat×List Int×List (Int×Value)=>((n,(),(),t.args.map Tm.enc,(t.args.length:Int),(p.1:Int),()),((t.binds.map Ty.enc,t.kind,t.index,t.args.map Tm.enc,()),p.2.2,ar p.2.1,())))
  (fun p=>p.1≤t.args.length∧p.2.1.length=p.1∧yu p.2.2 p.2.1∧kG n [] t.args=kG n p.2.1 (t.args.drop p.1)) (fun p=>t.args.length-p.1) (0,[],[]) (by rw[List.length_map];rfl) ⟨Nat.zero_le _,rfl,fun i=>rfl,rfl⟩ ?_
 intro ⟨k,acc,es⟩ ⟨iT,hl,YC,hv⟩ again bB
 dsimp only at iT hl YC hv ⊢
 refine ak.intro (fun h=>?_) fun h=>?_
 ·have al:k<t.args.length:=by simpa using h
  rw[List.drop_eq_getElem_cons al,kG] at hv
  have hz:=Tm.bM al
  have hc:=Gv _ t.args[k] (Nat.le_refl _) (by omega)
  rw[Tm.aE] at hc
  refine⟨by omega,by rw[List.length_map];omega,_,_,_,_,Tm.aj al,?_⟩
  cases U5:t.args[k].var with
  |none=>
   rw[U5] at hc hv
   dsimp only at hv
   refine⟨_,_,_,hc,ak.pos rfl ?_⟩
   rw[hv];rfl
  |some p=>
   obtain⟨q,i⟩:=p
   rw[U5] at hc hv
   dsimp only at hv
   refine⟨_,_,_,hc,ak.neg rfl ?_⟩
   refine ak.intro (fun h=>?_) fun h=>?_
   ·have:¬q=0:=by simpa using h
    rw[hv,if_neg (fun h=>this h.1)];rfl
   have hq:q=0:=by simpa using h
   refine ak.intro (fun h=>?_) fun h=>?_
   ·have:n≤i:=by simpa using h
    rw[hv,if_neg (fun h=>by omega)];rfl
   have hi:i<n:=by simpa using h
   have hg:=YC i
   by_cases hm:i∈acc
   ·rw[if_pos hm] at hg
    rw[hg]
    refine⟨rfl,ak.pos rfl ?_⟩
    rw[hv,if_neg (fun h=>h.2.2 hm)];rfl
   ·rw[if_neg hm] at hg
    rw[hg]
    refine⟨rfl,ak.neg rfl ⟨rfl,bX rfl (by simp[mS];omega) (by decide),rfl,?_⟩⟩
    rw[if_pos ⟨hq,hi,hm⟩] at hv
    rw[aB (by omega),p6]
    exact bB (k+1,acc++[i],bK es i (.bool true)) ⟨by simp only;omega,by simp[hl],YC.put hm,hv⟩ (by simp only;omega)
 ·have:t.args.length≤k:=by simpa using h
  rw[List.drop_eq_nil_of_le this,kG] at hv
  refine⟨rfl,?_⟩
  rw[hv];rfl
structure Us where
 U6:Int
 vars:List Int
 binds:List Ty
 path:List Int
def Us.enc (u:Us):AV:=.agg [nI u.U6,.sl (ar u.vars),.sl (u.binds.map Ty.enc),.sl (ar u.path)]
mutual
def Tm.uses (bu:List Ty) (path:List Int):Tm→Option (List Us)
 | .mk b k i a=>if k=2 then(match Tm.vars (.mk b k i a) (bu++b).length with
  |(v,e)=>if e=0 then some [⟨i,v,bu++b,path⟩] else none) else Tm.kH (bu++b) path 0 a
def Tm.kH (bu:List Ty) (path:List Int) (n:Nat):List Tm→Option (List Us)
 | []=>some []
 |t::l=>(match Tm.uses bu (path++[(n:Int)]) t with
  |some u=>(match Tm.kH bu path (n+1) l with
   |some us=>some (u++us)
   |none=>none)
  |none=>none)
end
theorem Tm.Fv (bu:List Ty) (path:List Int) (t:Tm):Tm.uses bu path t=if t.kind=2 then(match t.vars (bu++t.binds).length with
  |(v,e)=>if e=0 then some [⟨t.index,v,bu++t.binds,path⟩] else none) else Tm.kH (bu++t.binds) path 0 t.args:=by
 cases t;rw[Tm.uses];rfl
theorem Tm.Dv {bu:List Ty} {path:List Int} {l:List Tm} {k:Nat} (h:k<l.length):Tm.kH bu path k (l.drop k)=(match Tm.uses bu (path++[(k:Int)]) l[k] with
  |some u=>(match Tm.kH bu path (k+1) (l.drop (k+1)) with
   |some us=>some (u++us)
   |none=>none)
  |none=>none):=by
 rw[List.drop_eq_getElem_cons h,Tm.kH]
mutual
theorem Tm.Bs:∀{t:Tm} {bu:List Ty} {path:List Int} {u:List Us},Tm.uses bu path t=some u→u.length≤t.size
 | .mk b k i a,bu,path,u,h=>by
  rw[Tm.uses] at h
  split at h
  ·dsimp only at h
   split at h
   ·cases h;simp[Tm.size];omega
   ·cases h
  ·have:=Tm.wI h;simp[Tm.size];omega
theorem Tm.wI:∀{l:List Tm} {bu:List Ty} {path:List Int} {n:Nat} {u:List Us},Tm.kH bu path n l=some u→u.length≤Tm.sizes l
 | [],_,_,_,u,h=>by rw[Tm.kH] at h;cases h;simp
 |t::l,bu,path,n,u,h=>by
  rw[Tm.kH] at h
  split at h
  ·rename_i u1 h1
   split at h
   ·rename_i u2 h2
    cases h
    have:=Tm.Bs h1
    have:=Tm.wI h2
    simp[Tm.sizes];omega
   ·cases h
  ·cases h
end
theorem Tm.KI {t:Tm} {n:Int} (hk:t.kind=2) (hn:0≤n):(t.vars n).2=0∨t.vars n=([],6):=by
 rw[Tm.vars,if_pos ⟨hk,hn⟩]
 split
 ·exact .inl rfl
 ·exact .inr rfl
theorem Dw:∀(d:Nat) (t:Tm) (us:List Us) (bu:List Ty) (path:List Int),t.size≤d→d≤100000000→us.length+t.size≤200000000→Ty.sizes bu+t.size≤200000000→path.length+t.size≤200000000→
  bJ Tryz.prog 186 [.own 0 (us.map Us.enc).length,t.enc,.sl (bu.map Ty.enc),.sl (ar path)] [.row 297 4 (us.map Us.enc)]
   (fun r h=>(∃u,Tm.uses bu path t=some u∧r=.bc [.own 0 ((us++u).map Us.enc).length,nI 0]∧h=[.row 297 4 ((us++u).map Us.enc)])∨(Tm.uses bu path t=none∧∃l,r=.bc [.ae (.slice none 0 0),nI 6]∧h=[.row 297 4 l])):=by
 intro d
 induction d with
 |zero=>intro t us bu path h;have:=t.size_pos;omega
 |succ d ih=>
  intro t us bu path hd CH h1 h2 h3
  have hla:=Tm.aA t.args
  have Hj:=Ty.aA t.binds
  have PY:=Ty.aA bu
  have hs:=t.size_eq
  have zA:=ib (ll:=[bu,t.binds]) (by simp) (by simp;omega)
  simp only[dZ,List.map_cons,List.map_nil,List.flatten_cons,List.flatten_nil,List.append_nil] at zA
  have U4:=ux t
  have ZJ:=Du (t:=t) (n:=((bu++t.binds).length:Nat)) (by omega)
  have fj:=mV (t:=.mk [] 0) (l:=bu++t.binds) (by simp[Ty.size,Ty.sizes,Ty.bW];omega)
  rw[Ty.arrow,Ty.Fs,Ty.Ft,List.append_nil,Ty.fJ,Ty.fJ,List.map_nil] at fj
  rw[Tm.aE] at U4 ZJ ⊢
  refine Jl ⟨_,zA,_,U4,ak.intro (fun h=>?_) fun h=>⟨rfl,?_⟩⟩
  ·have hk:t.kind=2:=by simpa using h
   rw[Tm.Fv,if_pos hk,List.length_map]
   refine⟨_,_,ZJ,?_⟩
   rcases Tm.KI hk (show (0:Int)≤(((bu++t.binds).length:Nat):Int) by omega) with h0|h0
   ·dsimp only
    rw[h0]
    refine ak.neg rfl ⟨_,_,fj,_,Bp (by omega),rfl,bX rfl (by simp;omega) (by decide),.inl ⟨_,if_pos rfl,?_⟩⟩
    simp[Us.enc]
   ·rw[h0]
    exact ak.pos rfl (.inr ⟨by simp,_,rfl,rfl⟩)
  ·have hk:¬t.kind=2:=by simpa using h
   rw[Tm.Fv,if_neg hk]
   unfold AI
   refine au.intro (fun p:Nat×List Us=>(((),(bu++t.binds).map Ty.enc,ar path,t.args.map Tm.enc,(t.args.length:Int),(p.1:Int),()),((us++p.2).map Us.enc,(t.binds.map Ty.enc,t.kind,t.index,t.args.map Tm.enc,()),())))
    (fun p=>p.1≤t.args.length∧p.2.length≤Tm.sizes (t.args.take p.1)∧Tm.kH (bu++t.binds) path 0 t.args=(match Tm.kH (bu++t.binds) path p.1 (t.args.drop p.1) with|some u=>some (p.2++u)|none=>none)) (fun p=>t.args.length-p.1) (0,[]) (by rw[List.length_map];simp) ⟨Nat.zero_le _,by simp,by simp only[List.drop_zero,List.nil_append];split<;>simp_all⟩ ?_
   intro ⟨k,u0⟩ ⟨iT,hl,hv⟩ again bB
   dsimp only at iT hl hv ⊢
   refine ak.intro (fun h=>?_) fun h=>?_
   ·have al:k<t.args.length:=by simpa using h
    have hz:=Tm.bM al
    have bE:Tm.sizes (t.args.take k)+t.args[k].size≤Tm.sizes t.args:=by
     have e:t.args=t.args.take k++t.args[k]::t.args.drop (k+1):=by rw[←List.drop_eq_getElem_cons al,List.take_append_drop]
     have e2:Tm.sizes t.args=Tm.sizes (t.args.take k++t.args[k]::t.args.drop (k+1)):=by rw[←e]
     rw[e2,Tm.bW,Tm.sizes];omega
    have xv:Tm.sizes (t.args.take (k+1))=Tm.sizes (t.args.take k)+t.args[k].size:=by
     rw[List.take_succ_eq_append_getElem al,Tm.bW];simp[Tm.sizes]
    rw[Tm.Dv al] at hv
    have hi:=ih t.args[k] (us++u0) (bu++t.binds) (path++[(k:Int)]) (by omega) (by omega) (by simp;omega) (by rw[Ty.bW];omega) (by simp;omega)
    rw[Tm.aE] at hi
    refine⟨by omega,by rw[List.length_map];omega,_,_,_,_,Tm.aj al,_,Dr,fun h=>by simp at h,?_⟩
    rw[p6]
    refine⟨Bo jG (fun x hx=>by rw[List.mem_singleton.1 hx];rfl) (by rw[mS];simp;omega) (by decide),rfl,_,hi,?_⟩
    rintro r q (⟨u,hu,rfl,rfl⟩|⟨hu,l,rfl,rfl⟩)
    ·left
     refine⟨_,⟨rfl,rfl⟩,rfl,?_⟩
     have Wd:=Tm.Bs hu
     rw[hu] at hv
     rw[aB (by omega),List.append_assoc]
     refine bB (k+1,u0++u) ⟨by simp only;omega,by simp;omega,?_⟩ (by simp only;omega)
     rw[hv]
     dsimp only
     cases Tm.kH (bu++t.binds) path (k+1) (t.args.drop (k+1)) with
     |none=>rfl
     |some v=>simp
    ·right
     rw[hu] at hv
     exact⟨_,⟨rfl,rfl⟩,.inr ⟨hv,_,rfl,rfl⟩⟩
   ·have:t.args.length≤k:=by simpa using h
    rw[List.drop_eq_nil_of_le this,Tm.kH] at hv
    left
    refine⟨u0,by rw[hv];simp,rfl,rfl⟩
def yw:Option (List Us)→AV
 |some u=>.bc [.sl (u.map Us.enc),nI 0]
 |none=>.bc [.sl [],nI 6]
theorem Dx {t:Tm} (h:t.size≤100000000):ag Tryz.prog 160 [t.enc] (yw (t.uses [] [])):=by
 have hu:=Dw _ t [] [] [] (Nat.le_refl _) h (by simp;omega) (by simp[Ty.sizes];omega) (by simp;omega)
 have hn:=Pure.of_nil (by decide) hu (by rw[Tm.aE];rfl)
 have YD:Pure Tryz.prog 186 [.ae (.slice none 0 0),t.enc,.ae (.slice none 0 0),.ae (.slice none 0 0)] (fun x=>x=yw (t.uses [] [])):=by
  refine Pure.AD (ys:=[.ae (.slice none 0 0),t.enc,.sl [],.sl []]) ⟨dE.refl _,dE.refl _,pT,pT,True.intro⟩ (hn.mono ?_)
  rintro x ⟨r,hp',(⟨u,e1,rfl,rfl⟩|⟨e1,l,rfl,rfl⟩),rfl⟩
  ·rw[e1];simp[yw,AV.bh,AV.dN,AV.dp,AV.fq]
  ·rw[e1];simp[yw,AV.bh,AV.dN,AV.dp]
 rw[Tm.aE] at YD ⊢
 refine Jm ⟨_,YD,?_⟩
 rintro r rfl
 cases t.uses [] [] with
 |none=>exact⟨_,_,rfl,rfl⟩
 |some u=>exact⟨_,_,rfl,rfl⟩
theorem KJ {t:Tm} (h:t.size≤100000000):ag Tryz.prog 109 [t.enc] (nB (t.uses [] []).isSome):=by
 have hu:=Dx h
 rw[Tm.aE] at hu ⊢
 refine Jn ?_
 cases hq:t.uses [] [] with
 |none=>rw[hq] at hu;exact⟨_,_,hu,rfl⟩
 |some u=>rw[hq] at hu;exact⟨_,_,hu,rfl⟩
end Go.Proofs.YtdcikhleahfknaaGreatDoor
