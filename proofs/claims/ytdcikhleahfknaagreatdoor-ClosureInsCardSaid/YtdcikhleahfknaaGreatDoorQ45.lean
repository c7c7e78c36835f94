/- Texts of ours laid together for a claim: P01 P02 P03 P04 P05 P06. -/
import Derived.Test.YtdcikhleahfknaaGreatDoorQ44
namespace Go.Proofs.YtdcikhleahfknaaGreatDoor
open Go
set_option linter.unusedSimpArgs false
set_option linter.unusedVariables false
theorem eu {n:Int} (h1 : -9223372036854775808≤n) (h2:n<9223372036854775808):IntKind.wrap .i64 n=n:=IntWalk.i64_in _ (by omega)
theorem aD {k:Nat} (h:k≤4000000000):IntKind.wrap .i64 ((k:Int)+1)=((k+1:Nat):Int):=Hc (by omega)
theorem CA {d:TD} {n:Nat} {els av:List AV} (h1:∀x:AV,x∈els→x.cells.length=d.size) (h2:∀x:AV,x∈av→x.cells.length=d.size) (hn:n≤4000000000) (hb:d.bytes≤1000):bF d n els av:=by
 refine⟨h1,h2,?_,?_⟩
 ·simp only[maxLen];omega
 ·have:=Nat.mul_le_mul hn hb;omega
theorem dv {d:TD} {n:Nat} {av:List AV} (h2:∀x:AV,x∈av→x.cells.length=d.size) (hn:n≤4000000000) (hb:d.bytes≤1000):bF d n [] av:=
 CA (fun x hx=>by cases hx) h2 hn hb
theorem cQ {d:TD} {n:Nat} {x:AV} (h2:x.cells.length=d.size) (hn:n≤4000000000) (hb:d.bytes≤1000):bF d n [] [x]:=
 dv (fun y hy=>by rw[List.mem_singleton.1 hy];exact h2) hn hb
theorem getD_map {α:Type} {f:α→AV} {l:List α} {k:Nat} (h:k<l.length):List.getD (l.map f) (Int.toNat (k:Int)) .top=f l[k]:=by simp[List.getD,h]
def ar (l:List Int):List AV:=l.map nI
theorem ib (l:List Int):(ar l).length=l.length:=by simp[ar]
theorem zp {l:List Int} {k:Nat} (h:k<l.length):List.getD (ar l) (Int.toNat (k:Int)) .top=nI l[k]:=getD_map h
theorem lV (l:List Int) (i:Int):ar l++[nI i]=ar (l++[i]):=by simp[ar]
theorem j7 {l:List Int}:∀x:AV,x∈ar l→x.cells.length=1:=by
 intro x hx
 obtain⟨t,_,rfl⟩:=List.mem_map.1 hx
 rfl
def WA:List Int→List Int→Bool
 | [],[]=>true
 |a::l,b::m=>(a==b)&&WA l m
 |_,_=>false
inductive Ty where
 |mk (args:List Ty) (base:Int)
mutual
def Ty.enc:Ty→AV
 | .mk l b=>.agg [.sl (Ty.zq l),nI b]
def Ty.zq:List Ty→List AV
 | []=>[]
 |t::l=>Ty.enc t::Ty.zq l
end
mutual
def Ty.size:Ty→Nat
 | .mk l _=>1+Ty.sizes l
def Ty.sizes:List Ty→Nat
 | []=>0
 |t::l=>Ty.size t+Ty.sizes l
end
def Ty.args:Ty→List Ty | .mk l _=>l
def Ty.base:Ty→Int | .mk _ b=>b
theorem Ty.P4 (a:List Ty) (b:Int):(Ty.mk a b).args=a:=rfl
theorem Ty.P5 (a:List Ty) (b:Int):(Ty.mk a b).base=b:=rfl
theorem Ty.zr (l:List Ty):Ty.zq l=l.map Ty.enc:=by
 induction l with
 |nil=>rfl
 |cons t l ih=>simp[Ty.zq,ih]
theorem Ty.aP (t:Ty):t.enc=.agg [.sl (t.args.map Ty.enc),nI t.base]:=by cases t;simp[Ty.enc,Ty.zr,Ty.args,Ty.base]
theorem Ty.iz (l:List Ty) (b:Int):(Ty.mk l b).enc=.agg [.sl (l.map Ty.enc),nI b]:=Ty.aP _
theorem Ty.aq {l:List Ty} {k:Nat} (h:k<l.length):List.getD (l.map Ty.enc) (Int.toNat (k:Int)) .top=.agg [.sl (l[k].args.map Ty.enc),nI l[k].base]:=by rw[getD_map h,Ty.aP]
theorem Ty.size_eq (t:Ty):t.size=1+Ty.sizes t.args:=by cases t;rfl
theorem Ty.size_pos (t:Ty):1≤t.size:=by rw[t.size_eq];omega
theorem Ty.aF (l:List Ty):l.length≤Ty.sizes l:=by
 induction l with
 |nil=>simp[Ty.sizes]
 |cons t l ih=>have:=t.size_pos;simp[Ty.sizes];omega
theorem Ty.bY (l m:List Ty):Ty.sizes (l++m)=Ty.sizes l+Ty.sizes m:=by
 induction l with
 |nil=>simp[Ty.sizes]
 |cons t l ih=>simp[Ty.sizes,ih];omega
theorem Ty.bg {l:List Ty} {t:Ty} (h:t∈l):t.size≤Ty.sizes l:=by
 induction l with
 |nil=>cases h
 |cons u l ih=>
  simp only[Ty.sizes]
  rcases List.mem_cons.1 h with rfl|h1
  ·omega
  ·have:=ih h1;omega
theorem Ty.cr {t:Ty} {k:Nat} (h:k<t.args.length):t.args[k].size<t.size:=by
 have:=Ty.bg (List.getElem_mem h)
 rw[t.size_eq];omega
theorem Ty.tQ (t:Ty):t.enc.cells.length=2:=by cases t;rfl
theorem Ty.eo {l:List Ty}:∀x:AV,x∈l.map Ty.enc→x.cells.length=2:=by
 intro x h
 obtain⟨t,_,rfl⟩:=List.mem_map.1 h
 exact t.tQ
theorem Ty.jq (l:List Ty) (t:Ty):l.map Ty.enc++[.agg [.sl (t.args.map Ty.enc),nI t.base]]=(l++[t]).map Ty.enc:=by rw[←Ty.aP];simp
mutual
def Ty.same:Ty→Ty→Bool
 | .mk l a,.mk m b=>(a==b)&&Ty.bq l m
def Ty.bq:List Ty→List Ty→Bool
 | [],[]=>true
 |t::l,u::m=>Ty.same t u&&Ty.bq l m
 |_,_=>false
end
theorem Ty.qy (t u:Ty):Ty.same t u=((t.base==u.base)&&Ty.bq t.args u.args):=by cases t;cases u;simp[Ty.same,Ty.base,Ty.args]
theorem Ty.gG {l m:List Ty} {k:Nat} (h1:k<l.length) (h2:k<m.length):Ty.bq (l.drop k) (m.drop k)=(Ty.same l[k] m[k]&&Ty.bq (l.drop (k+1)) (m.drop (k+1))):=by
 rw[List.drop_eq_getElem_cons h1,List.drop_eq_getElem_cons h2,Ty.bq]
theorem Ty.iS {l m:List Ty} (h:¬l.length=m.length):Ty.bq l m=false:=by
 induction l generalizing m with
 |nil=>cases m with
  |nil=>exact(h rfl).elim
  |cons=>simp[Ty.bq]
 |cons t l ih=>cases m with
  |nil=>simp[Ty.bq]
  |cons u m=>simp[Ty.bq,ih (m:=m) (by simpa using h)]
mutual
theorem Ty.fo:∀(t u:Ty),Ty.same t u=true↔t=u
 | .mk l a,.mk m b=>by rw[Ty.same,Bool.and_eq_true,beq_iff_eq,Ty.iT l m];simp only[Ty.mk.injEq];exact⟨fun h=>⟨h.2,h.1⟩,fun h=>⟨h.2,h.1⟩⟩
theorem Ty.iT:∀(l m:List Ty),Ty.bq l m=true↔l=m
 | [],[]=>by simp[Ty.bq]
 | [],_::_=>by simp[Ty.bq]
 |_::_,[]=>by simp[Ty.bq]
 |t::l,u::m=>by rw[Ty.bq,Bool.and_eq_true,Ty.fo t u,Ty.iT l m];simp
end
inductive Tm where
 |mk (binds:List Ty) (kind index:Int) (args:List Tm)
mutual
def Tm.enc:Tm→AV
 | .mk b k i a=>.agg [.sl (b.map Ty.enc),nI k,nI i,.sl (Tm.zq a)]
def Tm.zq:List Tm→List AV
 | []=>[]
 |t::l=>Tm.enc t::Tm.zq l
end
mutual
def Tm.size:Tm→Nat
 | .mk b _ _ a=>1+Ty.sizes b+Tm.sizes a
def Tm.sizes:List Tm→Nat
 | []=>0
 |t::l=>Tm.size t+Tm.sizes l
end
def Tm.binds:Tm→List Ty | .mk b _ _ _=>b
def Tm.kind:Tm→Int | .mk _ k _ _=>k
def Tm.index:Tm→Int | .mk _ _ i _=>i
def Tm.args:Tm→List Tm | .mk _ _ _ a=>a
theorem Tm.zr (l:List Tm):Tm.zq l=l.map Tm.enc:=by
 induction l with
 |nil=>rfl
 |cons t l ih=>simp[Tm.zq,ih]
theorem Tm.aP (t:Tm):t.enc=.agg [.sl (t.binds.map Ty.enc),nI t.kind,nI t.index,.sl (t.args.map Tm.enc)]:=by cases t;simp[Tm.enc,Tm.zr,Tm.binds,Tm.kind,Tm.index,Tm.args]
theorem Tm.iz (b:List Ty) (k i:Int) (a:List Tm):(Tm.mk b k i a).enc=.agg [.sl (b.map Ty.enc),nI k,nI i,.sl (a.map Tm.enc)]:=Tm.aP _
theorem Tm.aq {l:List Tm} {k:Nat} (h:k<l.length):List.getD (l.map Tm.enc) (Int.toNat (k:Int)) .top=.agg [.sl (l[k].binds.map Ty.enc),nI l[k].kind,nI l[k].index,.sl (l[k].args.map Tm.enc)]:=by rw[getD_map h,Tm.aP]
theorem Tm.size_eq (t:Tm):t.size=1+Ty.sizes t.binds+Tm.sizes t.args:=by cases t;rfl
theorem Tm.size_pos (t:Tm):1≤t.size:=by rw[t.size_eq];omega
theorem Tm.aF (l:List Tm):l.length≤Tm.sizes l:=by
 induction l with
 |nil=>simp[Tm.sizes]
 |cons t l ih=>have:=t.size_pos;simp[Tm.sizes];omega
theorem Tm.bY (l m:List Tm):Tm.sizes (l++m)=Tm.sizes l+Tm.sizes m:=by
 induction l with
 |nil=>simp[Tm.sizes]
 |cons t l ih=>simp[Tm.sizes,ih];omega
theorem Tm.bg {l:List Tm} {t:Tm} (h:t∈l):t.size≤Tm.sizes l:=by
 induction l with
 |nil=>cases h
 |cons u l ih=>
  simp only[Tm.sizes]
  rcases List.mem_cons.1 h with rfl|h1
  ·omega
  ·have:=ih h1;omega
theorem Tm.cr {t:Tm} {k:Nat} (h:k<t.args.length):t.args[k].size<t.size:=by
 have:=Tm.bg (List.getElem_mem h)
 rw[t.size_eq];omega
theorem Tm.tQ (t:Tm):t.enc.cells.length=4:=by cases t;rfl
theorem Tm.eo {l:List Tm}:∀x:AV,x∈l.map Tm.enc→x.cells.length=4:=by
 intro x h
 obtain⟨t,_,rfl⟩:=List.mem_map.1 h
 exact t.tQ
theorem Tm.jq (l:List Tm) (t:Tm):l.map Tm.enc++[.agg [.sl (t.binds.map Ty.enc),nI t.kind,nI t.index,.sl (t.args.map Tm.enc)]]=(l++[t]).map Tm.enc:=by rw[←Tm.aP];simp
theorem fz {α:Type} {l:List α} {k:Nat} (h:k<l.length):l.take k++[l[k]]=l.take (k+1):=by rw[List.take_succ_eq_append_getElem h]
theorem CB {l:List Int} (bC:l.length≤1000000000):ag Tryz.prog 199 [.sl (ar l)] (.sl (ar l)):=by
 refine KD fun b hb=>ai.intro (fun h=>?_) fun h=>?_
 ·have:ar l=[]:=Classical.byContradiction fun hn=>by rw[hb hn] at h;cases h
  rw[this]
 ·exact⟨fun _=>rfl,dv j7 (by simp[ib];omega) (by decide),rfl,by simp⟩
theorem EM {l:List Int}:ag Tryz.prog 200 [.sl (ar l)] (.clip (ar l)):=by
 refine Pure.of_heap (KE ⟨⟨by omega,by omega,rfl,by omega,j7⟩,rfl,?_⟩)
 simp
theorem vg (t:Tm):ag Tryz.prog 181 [t.enc] (nB (t.kind==2)):=by
 rw[Tm.aP];exact KB rfl
theorem iL {l m:List Ty} (bC:l.length≤1000000000) (ih:∀(k:Nat) (h1:k<l.length) (h2:k<m.length),ag Tryz.prog 138 [l[k].enc,m[k].enc] (nB (Ty.same l[k] m[k]))):
  ag Tryz.prog 137 [.sl (l.map Ty.enc),.sl (m.map Ty.enc),.aK 138 []] (nB (Ty.bq l m)):=by
 refine KH (ai.intro (fun h=>?_) fun h=>?_)
 ·have:¬l.length=m.length:=by simp at h;omega
  rw[Ty.iS this]
 ·have Xu:l.length=m.length:=by simp at h;omega
  refine ax.intro (fun k:Nat=>((m.map Ty.enc,(),l.map Ty.enc,(l.length:Int),(k:Int),()),())) (fun k=>k≤l.length∧Ty.bq l m=Ty.bq (l.drop k) (m.drop k)) (fun k=>l.length-k) 0 (by rw[List.length_map];rfl) ⟨Nat.zero_le _,rfl⟩ ?_
  intro k ⟨hk,hs⟩ again bJ
  dsimp only
  rw[List.length_map,List.length_map]
  refine ai.intro (fun h=>?_) fun h=>?_
  ·have ak:k<l.length:=by simpa using h
   rw[Ty.gG ak (by omega)] at hs
   have hi:=ih k ak (by omega)
   rw[Ty.aP,Ty.aP] at hi
   refine⟨by omega,by omega,_,_,Ty.aq ak,by omega,by omega,_,_,Ty.aq (by omega),_,hi,ai.intro (fun h=>?_) fun h=>?_⟩
   ·have:Ty.same l[k] m[k]=false:=by simpa using h
    rw[hs,this,Bool.false_and]
   ·have he:Ty.same l[k] m[k]=true:=by simpa using h
    rw[he,Bool.true_and] at hs
    rw[aD (by omega)]
    exact bJ (k+1) ⟨by omega,hs⟩ (by omega)
  ·have:l.length≤k:=by simpa using h
   rw[List.drop_eq_nil_of_le this,List.drop_eq_nil_of_le (by omega)] at hs
   rw[hs];rfl
theorem nC:∀(n:Nat) (t u:Ty),t.size≤n→n≤1000000000→ag Tryz.prog 138 [t.enc,u.enc] (nB (Ty.same t u)):=by
 intro n
 induction n with
 |zero=>intro t u h;have:=t.size_pos;omega
 |succ n ih=>
  intro t u h hn
  have hq:=Ty.aF t.args
  have tR:=t.size_eq
  have he:=iL (l:=t.args) (m:=u.args) (by omega) (fun k h1 h2=>ih _ _ (by have:=Ty.cr h1;omega) (by omega))
  rw[Ty.aP,Ty.aP,Ty.qy]
  refine KI (ai.intro (fun h=>?_) fun h=>?_)
  ·exact⟨_,he,by rw[h,Bool.true_and]⟩
  ·rw[h,Bool.false_and]
theorem lW:∀(n:Nat) (t:Ty),t.size≤n→n≤1000000000→ag Tryz.prog 72 [t.enc] t.enc:=by
 intro n
 induction n with
 |zero=>intro t h;have:=t.size_pos;omega
 |succ n ih=>
  intro t h hn
  have hq:=Ty.aF t.args
  have tR:=t.size_eq
  rw[Ty.aP]
  refine Of ⟨rfl,?_⟩
  refine ax.intro (fun k:Nat=>(((),(),t.args.map Ty.enc,(t.args.length:Int),(k:Int),()),((t.args.map Ty.enc,t.base,()),((),0,()),((),t.base,()),(t.args.take k).map Ty.enc,())))
   (fun k=>k≤t.args.length) (fun k=>t.args.length-k) 0 (by rw[List.length_map];rfl) (Nat.zero_le _) ?_
  intro k hk again bJ
  dsimp only
  rw[List.length_map]
  refine ai.intro (fun h=>?_) fun h=>?_
  ·have ak:k<t.args.length:=by simpa using h
   have hi:=ih t.args[k] (by have:=Ty.cr ak;omega) (by omega)
   rw[Ty.aP] at hi
   refine⟨by omega,by omega,_,_,Ty.aq ak,_,_,hi,rfl,cQ rfl (by simp;omega) (by decide),rfl,?_⟩
   rw[aD (by omega),Ty.jq,fz ak]
   exact bJ (k+1) (by omega) (by omega)
  ·have:t.args.length≤k:=by simpa using h
   refine⟨rfl,?_⟩
   rw[List.take_of_length_le this]
theorem EN {n:Nat} (hn:n≤1000000000):
  bp Tryz.prog 176 [.ae (.slice none 0 0),nI (n:Nat)] [] (fun r q=>if n=0 then r=.ae (.slice none 0 0)∧q=[] else r=.own 0 0∧q=[.row 88 2 []]):=by
 have e:IntKind.wrap .i64 ((n:Int)-IntKind.wrap .i64 (0-((List.length ([]:List AV):Nat):Int)))=(n:Int):=by
  rw[show IntKind.wrap .i64 (0-((List.length ([]:List AV):Nat):Int))=0 from by decide,Int.sub_zero,eu (by omega) (by omega)]
 refine KR (ai.neg (decide_eq_false (by omega)) ?_)
 rw[e,Int.toNat_natCast]
 refine ai.intro (fun h=>⟨⟨of_decide_eq_true h,by simp only[maxLen];omega,?_⟩,?_⟩) fun h=>?_
 ·have:TD.bytes BO≤1000:=by decide
  have h2:n*TD.bytes BO≤n*1000:=Nat.mul_le_mul_left _ this
  omega
 ·have:=of_decide_eq_true h
  dsimp only;rw[if_neg (by omega)];exact⟨rfl,rfl⟩
 ·have:=of_decide_eq_false h
  dsimp only;rw[if_pos (by omega)];exact⟨rfl,rfl⟩
def eG (ll:List (List Ty)):List AV:=ll.map fun l=>.sl (l.map Ty.enc)
theorem qz {ll:List (List Ty)} {k:Nat} (h:k<ll.length):List.getD (eG ll) (Int.toNat (k:Int)) .top=.sl (ll[k].map Ty.enc):=by
 simp[eG,List.getD,h]
theorem sn (ll:List (List Ty)):(eG ll).length=ll.length:=by simp[eG]
theorem xr {ll:List (List Ty)} {k:Nat} (h:k<ll.length):(ll.take (k+1)).flatten=(ll.take k).flatten++ll[k]:=by
 rw[List.take_succ_eq_append_getElem h,List.flatten_append,List.flatten_singleton]
theorem lX (ll:List (List Ty)) (k:Nat):(ll.take k).flatten.length≤ll.flatten.length:=by
 have h:ll.flatten=(ll.take k).flatten++(ll.drop k).flatten:=by rw[←List.flatten_append,List.take_append_drop]
 rw[h,List.length_append];omega
theorem wC {l:List Ty} {x:AV} (h:x∈l.map Ty.enc):x.cells.length=2:=by
 obtain⟨t,_,rfl⟩:=List.mem_map.1 h
 exact t.tQ
theorem iM {ll:List (List Ty)} (h0:ll.length≤1000000000) (hn:ll.flatten.length≤1000000000):
  ag Tryz.prog 141 [.sl (eG ll)] (.sl (ll.flatten.map Ty.enc)):=by
 refine KQ ?_
 refine ax.intro (fun k:Nat=>((eG ll,((ll.take k).flatten.length:Nat),eG ll,((eG ll).length:Int),(k:Int),()),())) (fun k=>k≤ll.length) (fun k=>ll.length-k) 0 rfl (Nat.zero_le _) ?_
 intro k hk again bJ
 dsimp only
 have hle:=lX ll k
 unfold BT
 rw[sn] at *
 refine ai.intro (fun h=>?_) fun h=>?_
 ·have ak:k<ll.length:=by simpa using h
  have oH:=lX ll (k+1)
  have bD:=bJ (k+1) (by omega) (by omega)
  rw[xr ak,List.length_append] at oH bD
  refine⟨by omega,by omega,_,qz ak,?_⟩
  rw[List.length_map,eu (n:=(((ll.take k).flatten.length:Nat):Int)+_) (by omega) (by omega),aD (by omega)]
  exact ai.neg (decide_eq_false (by omega)) bD
 ·have v7:ll.length≤k:=by simpa using h
  clear bJ
  rw[List.take_of_length_le v7]
  suffices hL:rB (((),eG ll,(ll.length:Int),0,()),([],())) (fun r=>r=.sl (ll.flatten.map Ty.enc)) from
   ⟨_,EN hn,fun r q hq=>by
    by_cases hz:ll.flatten.length=0
    ·rw[if_pos hz] at hq;exact .inr ⟨hq,rfl,hL⟩
    ·rw[if_neg hz] at hq;exact .inl ⟨[],hq,rfl,hL⟩⟩
  refine ax.intro (fun k:Nat=>(((),eG ll,(ll.length:Int),(k:Int),()),((ll.take k).flatten.map Ty.enc,()))) (fun k=>k≤ll.length) (fun k=>ll.length-k) 0 rfl (Nat.zero_le _) ?_
  intro j hj zt zu
  dsimp only
  have oH:=lX ll (j+1)
  unfold xo
  refine ai.intro (fun h=>?_) fun h=>?_
  ·have ak:j<ll.length:=by simpa using h
   have bD:=zu (j+1) (by omega) (by omega)
   rw[xr ak] at oH bD
   rw[List.map_append] at bD
   rw[List.length_append] at oH
   refine⟨by omega,by rw[sn];omega,_,qz ak,rfl,dv (fun x hx=>wC hx) (by rw[List.length_append,List.length_map,List.length_map];omega) (by decide),rfl,?_⟩
   rw[aD (by omega)]
   exact bD
  ·have v7:ll.length≤j:=by simpa using h
   exact⟨rfl,by rw[List.take_of_length_le v7]⟩
def Ty.arrow (t:Ty) (l:List Ty):Ty:=.mk (l++t.args) t.base
theorem sq {t:Ty} {l:List Ty} (h:Ty.sizes l+t.size≤1000000000):ag Tryz.prog 132 [t.enc,.sl (l.map Ty.enc)] (t.arrow l).enc:=by
 have hl:=Ty.aF l
 have oH:=Ty.aF t.args
 have hs:=t.size_eq
 have M3:=iM (ll:=[l,t.args]) (by simp) (by simp;omega)
 have Fy:=lW _ (.mk (l++t.args) t.base) (Nat.le_refl _) (by simp only[Ty.size,Ty.bY];omega)
 simp only[eG,List.map_cons,List.map_nil,List.flatten_cons,List.flatten_nil,List.append_nil] at M3
 rw[Ty.iz] at Fy
 rw[Ty.arrow,Ty.iz,Ty.aP t]
 exact KC ⟨_,M3,_,_,Fy,rfl⟩
mutual
def Tm.var:Tm→Option (Int×Int)
 | .mk b k i a=>if a.length=b.length∧¬(k=0∧i<b.length) then(if Tm.gb b.length 0 b a=true then some (k,if k=0 then IntKind.wrap .i64 (i-b.length) else i) else none) else none
def Tm.gb (n:Nat):Nat→List Ty→List Tm→Bool
 |k,t::b,a::l=>(match Tm.var a with
  |some (q,j)=>q==0&&j==(n:Int)-1-k&&Ty.bq a.binds t.args
  |none=>false)&&Tm.gb n (k+1) b l
 |_,_,_=>true
end
def vh:Option (Int×Int)→AV
 |some (k,i)=>.aX [.agg [nI k,nI i],nB true]
 |none=>.aX [.agg [nI 0,nI 0],nB false]
theorem Tm.var_eq (t:Tm):Tm.var t=if t.args.length=t.binds.length∧¬(t.kind=0∧t.index<t.binds.length) then(if Tm.gb t.binds.length 0 t.binds t.args=true then some (t.kind,if t.kind=0 then IntKind.wrap .i64 (t.index-t.binds.length) else t.index) else none) else none:=by
 cases t;rw[Tm.var];rfl
theorem Tm.zv {n:Nat} {b:List Ty} {a:List Tm} {k:Nat} (h1:k<b.length) (h2:k<a.length):Tm.gb n k (b.drop k) (a.drop k)=((match Tm.var a[k] with
  |some (q,j)=>q==0&&j==(n:Int)-1-k&&Ty.bq a[k].binds b[k].args
  |none=>false)&&Tm.gb n (k+1) (b.drop (k+1)) (a.drop (k+1))):=by
 rw[List.drop_eq_getElem_cons h1,List.drop_eq_getElem_cons h2,Tm.gb]
theorem HQ:∀(n:Nat) (t:Tm),t.size≤n→n≤1000000000→ag Tryz.prog 220 [t.enc] (vh t.var):=by
 intro n
 induction n with
 |zero=>intro t h;have:=t.size_pos;omega
 |succ n ih=>
  intro t h hn
  have hq:=Tm.aF t.args
  have Rh:=Ty.aF t.binds
  have tR:=t.size_eq
  rw[Tm.var_eq,Tm.aP]
  have loop:t.args.length=t.binds.length→¬(t.kind=0∧t.index<t.binds.length)→vb (((),(),((List.length (t.binds.map Ty.enc):Nat):Int),(),t.args.map Tm.enc,((List.length (t.args.map Tm.enc):Nat):Int),0,()),((t.binds.map Ty.enc,t.kind,t.index,t.args.map Tm.enc,()),(0,0,()),(t.kind,t.index,()),())) (fun x=>x=vh (if t.args.length=t.binds.length∧¬(t.kind=0∧t.index<t.binds.length) then(if Tm.gb t.binds.length 0 t.binds t.args=true then some (t.kind,if t.kind=0 then IntKind.wrap .i64 (t.index-t.binds.length) else t.index) else none) else none)):=by
   intro hlen hk
   rw[if_pos ⟨hlen,hk⟩]
   refine ax.intro (fun k:Nat=>(((),(),(t.binds.length:Int),(),t.args.map Tm.enc,(t.args.length:Int),(k:Int),()),((t.binds.map Ty.enc,t.kind,t.index,t.args.map Tm.enc,()),(0,0,()),(t.kind,t.index,()),())))
    (fun k=>k≤t.args.length∧Tm.gb t.binds.length 0 t.binds t.args=Tm.gb t.binds.length k (t.binds.drop k) (t.args.drop k)) (fun k=>t.args.length-k) 0 (by rw[List.length_map,List.length_map];rfl) ⟨Nat.zero_le _,rfl⟩ ?_
   intro k ⟨gn,hs⟩ again bJ
   dsimp only
   refine ai.intro (fun h=>?_) fun h=>?_
   ·have ak:k<t.args.length:=by simpa using h
    rw[Tm.zv (by omega) ak] at hs
    have hi:=ih t.args[k] (by have:=Tm.cr ak;omega) (by omega)
    have Xc:=Ty.aF t.args[k].binds
    have hbz:=t.args[k].size_eq
    have gM:=Tm.cr ak
    have he:=iL (l:=t.args[k].binds) (m:=(t.binds[k]'(by omega)).args) (by omega) (fun j h1 h2=>nC _ _ _ (Nat.le_refl _) (by have:=Ty.bg (List.getElem_mem h1);omega))
    rw[Tm.aP] at hi
    refine⟨by omega,by rw[List.length_map];omega,_,_,_,_,Tm.aq ak,?_⟩
    cases hv:t.args[k].var with
    |none=>
     rw[hv] at hi hs
     refine⟨_,_,_,hi,ai.pos rfl ?_⟩
     rw[hs];simp[vh]
    |some p=>
     obtain⟨q,j⟩:=p
     rw[hv] at hi hs
     refine⟨_,_,_,hi,ai.neg rfl ?_⟩
     rw[eu (n:=(t.binds.length:Int)-1) (by omega) (by omega),eu (by omega) (by omega)]
     dsimp only at hs
     refine ai.intro (fun h=>?_) fun h=>?_
     ·have:(q==0&&j==(t.binds.length:Int)-1-k)=false:=by rw[Bool.not_eq_true'] at h;exact h
      rw[hs,this];simp[vh]
     ·have:(q==0&&j==(t.binds.length:Int)-1-k)=true:=by rw[Bool.not_eq_false'] at h;exact h
      rw[this,Bool.true_and] at hs
      refine⟨by omega,by rw[List.length_map];omega,_,_,Ty.aq (by omega),_,he,ai.intro (fun h=>?_) fun h=>?_⟩
      ·have:Ty.bq t.args[k].binds (t.binds[k]'(by omega)).args=false:=by simpa using h
       rw[hs,this];simp[vh]
      ·have:Ty.bq t.args[k].binds (t.binds[k]'(by omega)).args=true:=by simpa using h
       rw[this,Bool.true_and] at hs
       rw[aD (by omega)]
       exact bJ (k+1) ⟨by omega,hs⟩ (by omega)
   ·have:t.args.length≤k:=by simpa using h
    have N2:Tm.gb t.binds.length k [] []=true:=by simp[Tm.gb]
    rw[List.drop_eq_nil_of_le this,List.drop_eq_nil_of_le (by omega),N2] at hs
    rw[if_pos hs]
    refine ai.intro (fun h=>?_) fun h=>?_
    ·have h0:t.kind=0:=by simpa using h
     rw[if_pos h0];rfl
    ·have h0:¬t.kind=0:=by simpa using h
     rw[if_neg h0];rfl
  refine KJ (ai.intro (fun h=>?_) fun h=>?_)
  ·have:¬t.args.length=t.binds.length:=by simp at h;omega
   rw[if_neg (fun h=>this h.1)];rfl
  ·have hlen:t.args.length=t.binds.length:=by simp at h;omega
   refine ai.intro (fun h=>?_) fun h=>?_
   ·have h0:t.kind=0:=by simpa using h
    refine ai.intro (fun h=>?_) fun h=>?_
    ·have:t.index<t.binds.length:=by simpa using h
     rw[if_neg (fun h=>h.2 ⟨h0,this⟩)];rfl
    ·exact loop hlen fun h1=>by simp at h;omega
   ·exact loop hlen fun h1=>by simp at h;exact h h1.1
def lx (i:Int):Prop := -9223372036854775808≤i∧i<9223372036854775808
mutual
def Tm.Ok:Tm→Prop
 | .mk _ k i a=>lx k∧lx i∧Tm.S7 a
def Tm.S7:List Tm→Prop
 | []=>True
 |t::l=>Tm.Ok t∧Tm.S7 l
end
theorem Tm.P6 {l:List Tm} (h:Tm.S7 l) {t:Tm} (ht:t∈l):t.Ok:=by
 induction l with
 |nil=>cases ht
 |cons u l ih=>
  obtain⟨h1,h2⟩:=h
  rcases List.mem_cons.1 ht with rfl|h3
  ·exact h1
  ·exact ih h2 h3
theorem CC {l:List (Int×Value)} {i v:Int} {x:Value} (h:aC l v=none):aC (bB l v x) i=if i=v then some x else aC l i:=by
 induction l with
 |nil=>rfl
 |cons p l ih=>
  obtain⟨k,u⟩:=p
  simp only[aC] at h
  split at h
  ·cases h
  ·rename_i hk
   simp only[bB,if_neg hk,aC,ih h]
   by_cases h1:i=k
   ·subst h1;rw[if_pos rfl,if_neg (fun e=>hk e.symm),if_pos rfl]
   ·rw[if_neg h1,if_neg h1]
def lf (n:Int):List Int→List Tm→Option (List Int)
 |acc,[]=>some acc
 |acc,a::l=>match a.var with
  |some (k,i)=>if k=0∧i<n∧¬i∈acc then lf n (acc++[i]) l else none
  |none=>none
def Tm.vars (t:Tm) (n:Int):List Int×Int:=
 if t.kind=2∧0≤n then(match lf n [] t.args with
  |some l=>(l,0)
  |none=>([],6)) else([],1)
def WB (p:List Int×Int):AV:=.aX [.sl (ar p.1),nI p.2]
def zw (es:List (Int×Value)) (l:List Int):Prop:=∀i,aC es i=if i∈l then some (.bool true) else none
theorem zw.put {es:List (Int×Value)} {l:List Int} {i:Int} (h:zw es l) (hi:¬i∈l):zw (bB es i (.bool true)) (l++[i]):=by
 intro j
 have hn:aC es i=none:=by rw[h i,if_neg hi]
 rw[CC hn,h j]
 by_cases h1:j=i
 ·subst h1;simp
 ·simp[h1]
theorem EO {t:Tm} {n:Int} (h:t.size≤1000000000):ag Tryz.prog 198 [t.enc,nI n] (WB (t.vars n)):=by
 have hla:=Tm.aF t.args
 have hs:=t.size_eq
 have WC:=vg t
 rw[Tm.aP] at WC ⊢
 refine KK ⟨_,WC,ai.intro (fun h=>?_) fun h=>?_⟩
 ·have:¬t.kind=2:=by simpa using h
  rw[Tm.vars,if_neg (fun h=>this h.1)];rfl
 have hk:t.kind=2:=by simpa using h
 refine ai.intro (fun h=>?_) fun h=>⟨rfl,?_⟩
 ·have:n<0:=by simpa using h
  rw[Tm.vars,if_neg (fun h=>by omega)];rfl
 have hn:0≤n:=by simpa using h
 rw[Tm.vars,if_pos ⟨hk,hn⟩]
 unfold BP
 refine ax.intro (fun p:Nat×List Int×List (Int×Value)=>((n,(),(),t.args.map Tm.enc,(t.args.length:Int),(p.1:Int),()),((t.binds.map Ty.enc,t.kind,t.index,t.args.map Tm.enc,()),p.2.2,ar p.2.1,())))
  (fun p=>p.1≤t.args.length∧p.2.1.length=p.1∧zw p.2.2 p.2.1∧lf n [] t.args=lf n p.2.1 (t.args.drop p.1)) (fun p=>t.args.length-p.1) (0,[],[]) (by rw[List.length_map];rfl) ⟨Nat.zero_le _,rfl,fun i=>rfl,rfl⟩ ?_
 intro ⟨k,acc,es⟩ ⟨gn,hl,hse,hv⟩ again bJ
 dsimp only at gn hl hse hv ⊢
 refine ai.intro (fun h=>?_) fun h=>?_
 ·have ak:k<t.args.length:=by simpa using h
  rw[List.drop_eq_getElem_cons ak,lf] at hv
  have hz:=Tm.cr ak
  have hc:=HQ _ t.args[k] (Nat.le_refl _) (by omega)
  rw[Tm.aP] at hc
  refine⟨by omega,by rw[List.length_map];omega,_,_,_,_,Tm.aq ak,?_⟩
  cases WD:t.args[k].var with
  |none=>
   rw[WD] at hc hv
   dsimp only at hv
   refine⟨_,_,_,hc,ai.pos rfl ?_⟩
   rw[hv];rfl
  |some p=>
   obtain⟨q,i⟩:=p
   rw[WD] at hc hv
   dsimp only at hv
   refine⟨_,_,_,hc,ai.neg rfl ?_⟩
   refine ai.intro (fun h=>?_) fun h=>?_
   ·have:¬q=0:=by simpa using h
    rw[hv,if_neg (fun h=>this h.1)];rfl
   have hq:q=0:=by simpa using h
   refine ai.intro (fun h=>?_) fun h=>?_
   ·have:n≤i:=by simpa using h
    rw[hv,if_neg (fun h=>by omega)];rfl
   have hi:i<n:=by simpa using h
   have hg:=hse i
   by_cases hm:i∈acc
   ·rw[if_pos hm] at hg
    rw[hg]
    refine⟨rfl,ai.pos rfl ?_⟩
    rw[hv,if_neg (fun h=>h.2.2 hm)];rfl
   ·rw[if_neg hm] at hg
    rw[hg]
    refine⟨rfl,ai.neg rfl ⟨rfl,cQ rfl (by simp[ib];omega) (by decide),rfl,?_⟩⟩
    rw[if_pos ⟨hq,hi,hm⟩] at hv
    rw[aD (by omega),lV]
    exact bJ (k+1,acc++[i],bB es i (.bool true)) ⟨by simp only;omega,by simp[hl],hse.put hm,hv⟩ (by simp only;omega)
 ·have:t.args.length≤k:=by simpa using h
  rw[List.drop_eq_nil_of_le this,lf] at hv
  refine⟨rfl,?_⟩
  rw[hv];rfl
structure Us where
 WE:Int
 vars:List Int
 binds:List Ty
 path:List Int
def Us.enc (u:Us):AV:=.agg [nI u.WE,.sl (ar u.vars),.sl (u.binds.map Ty.enc),.sl (ar u.path)]
mutual
def Tm.uses (bw:List Ty) (path:List Int):Tm→Option (List Us)
 | .mk b k i a=>if k=2 then(match Tm.vars (.mk b k i a) (bw++b).length with
  |(v,e)=>if e=0 then some [⟨i,v,bw++b,path⟩] else none) else Tm.lg (bw++b) path 0 a
def Tm.lg (bw:List Ty) (path:List Int) (n:Nat):List Tm→Option (List Us)
 | []=>some []
 |t::l=>(match Tm.uses bw (path++[(n:Int)]) t with
  |some u=>(match Tm.lg bw path (n+1) l with
   |some us=>some (u++us)
   |none=>none)
  |none=>none)
end
theorem Tm.GK (bw:List Ty) (path:List Int) (t:Tm):Tm.uses bw path t=if t.kind=2 then(match t.vars (bw++t.binds).length with
  |(v,e)=>if e=0 then some [⟨t.index,v,bw++t.binds,path⟩] else none) else Tm.lg (bw++t.binds) path 0 t.args:=by
 cases t;rw[Tm.uses];rfl
theorem Tm.EP {bw:List Ty} {path:List Int} {l:List Tm} {k:Nat} (h:k<l.length):Tm.lg bw path k (l.drop k)=(match Tm.uses bw (path++[(k:Int)]) l[k] with
  |some u=>(match Tm.lg bw path (k+1) (l.drop (k+1)) with
   |some us=>some (u++us)
   |none=>none)
  |none=>none):=by
 rw[List.drop_eq_getElem_cons h,Tm.lg]
mutual
theorem Tm.CD:∀{t:Tm} {bw:List Ty} {path:List Int} {u:List Us},Tm.uses bw path t=some u→u.length≤t.size
 | .mk b k i a,bw,path,u,h=>by
  rw[Tm.uses] at h
  split at h
  ·dsimp only at h
   split at h
   ·cases h;simp[Tm.size];omega
   ·cases h
  ·have:=Tm.xt h;simp[Tm.size];omega
theorem Tm.xt:∀{l:List Tm} {bw:List Ty} {path:List Int} {n:Nat} {u:List Us},Tm.lg bw path n l=some u→u.length≤Tm.sizes l
 | [],_,_,_,u,h=>by rw[Tm.lg] at h;cases h;simp
 |t::l,bw,path,n,u,h=>by
  rw[Tm.lg] at h
  split at h
  ·rename_i u1 h1
   split at h
   ·rename_i u2 h2
    cases h
    have:=Tm.CD h1
    have:=Tm.xt h2
    simp[Tm.sizes];omega
   ·cases h
  ·cases h
end
theorem Tm.Md {t:Tm} {n:Int} (hk:t.kind=2) (hn:0≤n):(t.vars n).2=0∨t.vars n=([],6):=by
 rw[Tm.vars,if_pos ⟨hk,hn⟩]
 split
 ·exact .inl rfl
 ·exact .inr rfl
theorem ER:∀(d:Nat) (t:Tm) (us:List Us) (bw:List Ty) (path:List Int),t.size≤d→d≤100000000→us.length+t.size≤200000000→Ty.sizes bw+t.size≤200000000→path.length+t.size≤200000000→
  bp Tryz.prog 186 [.own 0 (us.map Us.enc).length,t.enc,.sl (bw.map Ty.enc),.sl (ar path)] [.row 297 4 (us.map Us.enc)]
   (fun r h=>(∃u,Tm.uses bw path t=some u∧r=.aX [.own 0 ((us++u).map Us.enc).length,nI 0]∧h=[.row 297 4 ((us++u).map Us.enc)])∨(Tm.uses bw path t=none∧∃l,r=.aX [.ae (.slice none 0 0),nI 6]∧h=[.row 297 4 l])):=by
 intro d
 induction d with
 |zero=>intro t us bw path h;have:=t.size_pos;omega
 |succ d ih=>
  intro t us bw path hd AR h1 h2 h3
  have hla:=Tm.aF t.args
  have IM:=Ty.aF t.binds
  have RG:=Ty.aF bw
  have hs:=t.size_eq
  have AN:=iM (ll:=[bw,t.binds]) (by simp) (by simp;omega)
  simp only[eG,List.map_cons,List.map_nil,List.flatten_cons,List.flatten_nil,List.append_nil] at AN
  have WC:=vg t
  have hvc:=EO (t:=t) (n:=((bw++t.binds).length:Nat)) (by omega)
  have gA:=sq (t:=.mk [] 0) (l:=bw++t.binds) (by simp[Ty.size,Ty.sizes,Ty.bY];omega)
  rw[Ty.arrow,Ty.P4,Ty.P5,List.append_nil,Ty.iz,Ty.iz,List.map_nil] at gA
  rw[Tm.aP] at WC hvc ⊢
  refine KL ⟨_,AN,_,WC,ai.intro (fun h=>?_) fun h=>⟨rfl,?_⟩⟩
  ·have hk:t.kind=2:=by simpa using h
   rw[Tm.GK,if_pos hk,List.length_map]
   refine⟨_,_,hvc,?_⟩
   rcases Tm.Md hk (show (0:Int)≤(((bw++t.binds).length:Nat):Int) by omega) with h0|h0
   ·dsimp only
    rw[h0]
    refine ai.neg rfl ⟨_,_,gA,_,CB (by omega),rfl,cQ rfl (by simp;omega) (by decide),.inl ⟨_,if_pos rfl,?_⟩⟩
    simp[Us.enc]
   ·rw[h0]
    exact ai.pos rfl (.inr ⟨by simp,_,rfl,rfl⟩)
  ·have hk:¬t.kind=2:=by simpa using h
   rw[Tm.GK,if_neg hk]
   unfold BQ
   refine ax.intro (fun p:Nat×List Us=>(((),(bw++t.binds).map Ty.enc,ar path,t.args.map Tm.enc,(t.args.length:Int),(p.1:Int),()),((us++p.2).map Us.enc,(t.binds.map Ty.enc,t.kind,t.index,t.args.map Tm.enc,()),())))
    (fun p=>p.1≤t.args.length∧p.2.length≤Tm.sizes (t.args.take p.1)∧Tm.lg (bw++t.binds) path 0 t.args=(match Tm.lg (bw++t.binds) path p.1 (t.args.drop p.1) with|some u=>some (p.2++u)|none=>none)) (fun p=>t.args.length-p.1) (0,[]) (by rw[List.length_map];simp) ⟨Nat.zero_le _,by simp,by simp only[List.drop_zero,List.nil_append];split<;>simp_all⟩ ?_
   intro ⟨k,u0⟩ ⟨gn,hl,hv⟩ again bJ
   dsimp only at gn hl hv ⊢
   refine ai.intro (fun h=>?_) fun h=>?_
   ·have ak:k<t.args.length:=by simpa using h
    have hz:=Tm.cr ak
    have bC:Tm.sizes (t.args.take k)+t.args[k].size≤Tm.sizes t.args:=by
     have e:t.args=t.args.take k++t.args[k]::t.args.drop (k+1):=by rw[←List.drop_eq_getElem_cons ak,List.take_append_drop]
     have e2:Tm.sizes t.args=Tm.sizes (t.args.take k++t.args[k]::t.args.drop (k+1)):=by rw[←e]
     rw[e2,Tm.bY,Tm.sizes];omega
    have ye:Tm.sizes (t.args.take (k+1))=Tm.sizes (t.args.take k)+t.args[k].size:=by
     rw[List.take_succ_eq_append_getElem ak,Tm.bY];simp[Tm.sizes]
    rw[Tm.EP ak] at hv
    have hi:=ih t.args[k] (us++u0) (bw++t.binds) (path++[(k:Int)]) (by omega) (by omega) (by simp;omega) (by rw[Ty.bY];omega) (by simp;omega)
    rw[Tm.aP] at hi
    refine⟨by omega,by rw[List.length_map];omega,_,_,_,_,Tm.aq ak,_,EM,fun h=>by simp at h,?_⟩
    rw[lV]
    refine⟨CA j7 (fun x hx=>by rw[List.mem_singleton.1 hx];rfl) (by rw[ib];simp;omega) (by decide),rfl,_,hi,?_⟩
    rintro r q (⟨u,hu,rfl,rfl⟩|⟨hu,l,rfl,rfl⟩)
    ·left
     refine⟨_,⟨rfl,rfl⟩,rfl,?_⟩
     have XR:=Tm.CD hu
     rw[hu] at hv
     rw[aD (by omega),List.append_assoc]
     refine bJ (k+1,u0++u) ⟨by simp only;omega,by simp;omega,?_⟩ (by simp only;omega)
     rw[hv]
     dsimp only
     cases Tm.lg (bw++t.binds) path (k+1) (t.args.drop (k+1)) with
     |none=>rfl
     |some v=>simp
    ·right
     rw[hu] at hv
     exact⟨_,⟨rfl,rfl⟩,.inr ⟨hv,_,rfl,rfl⟩⟩
   ·have:t.args.length≤k:=by simpa using h
    rw[List.drop_eq_nil_of_le this,Tm.lg] at hv
    left
    refine⟨u0,by rw[hv];simp,rfl,rfl⟩
def zx:Option (List Us)→AV
 |some u=>.aX [.sl (u.map Us.enc),nI 0]
 |none=>.aX [.sl [],nI 6]
theorem ES {t:Tm} (h:t.size≤100000000):ag Tryz.prog 160 [t.enc] (zx (t.uses [] [])):=by
 have hu:=ER _ t [] [] [] (Nat.le_refl _) h (by simp;omega) (by simp[Ty.sizes];omega) (by simp;omega)
 have hn:=Pure.of_nil (by decide) hu (by rw[Tm.aP];rfl)
 have hn2:Pure Tryz.prog 186 [.ae (.slice none 0 0),t.enc,.ae (.slice none 0 0),.ae (.slice none 0 0)] (fun x=>x=zx (t.uses [] [])):=by
  refine Pure.BM (ys:=[.ae (.slice none 0 0),t.enc,.sl [],.sl []]) ⟨dS.refl _,dS.refl _,qo,qo,True.intro⟩ (hn.mono ?_)
  rintro x ⟨r,hp',(⟨u,e1,rfl,rfl⟩|⟨e1,l,rfl,rfl⟩),rfl⟩
  ·rw[e1];simp[zx,AV.bj,AV.ee,AV.dF,AV.fN]
  ·rw[e1];simp[zx,AV.bj,AV.ee,AV.dF]
 rw[Tm.aP] at hn2 ⊢
 refine KM ⟨_,hn2,?_⟩
 rintro r rfl
 cases t.uses [] [] with
 |none=>exact⟨_,_,rfl,rfl⟩
 |some u=>exact⟨_,_,rfl,rfl⟩
theorem Me {t:Tm} (h:t.size≤100000000):ag Tryz.prog 109 [t.enc] (nB (t.uses [] []).isSome):=by
 have hu:=ES h
 rw[Tm.aP] at hu ⊢
 refine KN ?_
 cases hq:t.uses [] [] with
 |none=>rw[hq] at hu;exact⟨_,_,hu,rfl⟩
 |some u=>rw[hq] at hu;exact⟨_,_,hu,rfl⟩
end Go.Proofs.YtdcikhleahfknaaGreatDoor
