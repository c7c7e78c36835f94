/- Texts of ours laid together for a claim: P01 P02 P04. -/
import Derived.Test.YtjhanogfpkbamaaGreatDoorQ44
namespace Go.Proofs.YtjhanogfpkbamaaGreatDoor
open Go
set_option linter.unusedSimpArgs false
set_option linter.unusedVariables false
theorem wrap_i {n:Int} (h1 : -9223372036854775808≤n) (h2:n<9223372036854775808):IntKind.wrap .i64 n=n:=IntWalk.i64_in _ (by omega)
theorem wrap_n {k:Nat} (h:k≤4000000000):IntKind.wrap .i64 ((k:Int)+1)=((k+1:Nat):Int):=wrap_succ (by omega)
theorem appOk_mk {d:TD} {n:Nat} {els els2:List AV} (h1:∀x:AV,x∈els→x.cells.length=d.size) (h2:∀x:AV,x∈els2→x.cells.length=d.size) (hn:n≤4000000000) (hb:d.bytes≤1000):appOk d n els els2:=by
 refine⟨h1,h2,?_,?_⟩
 ·simp only[maxLen];omega
 ·have:=Nat.mul_le_mul hn hb;omega
theorem appOk_nil {d:TD} {n:Nat} {els2:List AV} (h2:∀x:AV,x∈els2→x.cells.length=d.size) (hn:n≤4000000000) (hb:d.bytes≤1000):appOk d n [] els2:=
 appOk_mk (fun x hx=>by cases hx) h2 hn hb
theorem appOk_one {d:TD} {n:Nat} {x:AV} (h2:x.cells.length=d.size) (hn:n≤4000000000) (hb:d.bytes≤1000):appOk d n [] [x]:=
 appOk_nil (fun y hy=>by rw[List.mem_singleton.1 hy];exact h2) hn hb
theorem getD_map {α:Type} {f:α→AV} {l:List α} {k:Nat} (h:k<l.length):List.getD (l.map f) (Int.toNat (k:Int)) .top=f l[k]:=by simp[List.getD,h]
def encInts (l:List Int):List AV:=l.map nI
theorem encInts_len (l:List Int):(encInts l).length=l.length:=by simp[encInts]
theorem encInts_getD {l:List Int} {k:Nat} (h:k<l.length):List.getD (encInts l) (Int.toNat (k:Int)) .top=nI l[k]:=getD_map h
def likes:List Int→List Int→Bool
 | [],[]=>true
 |a::l,b::m=>(a==b)&&likes l m
 |_,_=>false
theorem likes_eq (l m:List Int):likes l m=decide (l=m):=by
 induction l generalizing m with
 |nil=>cases m<;>simp[likes]
 |cons a l ih=>cases m with
  |nil=>simp[likes]
  |cons b m=>
   rw[likes,ih]
   by_cases h1:a=b<;>by_cases h2:l=m<;>simp[h1,h2]
inductive Ty where
 |mk (args:List Ty) (base:Int)
mutual
def Ty.enc:Ty→AV
 | .mk l b=>.agg [.sl (Ty.encs l),nI b]
def Ty.encs:List Ty→List AV
 | []=>[]
 |t::l=>Ty.enc t::Ty.encs l
end
mutual
def Ty.size:Ty→Nat
 | .mk l _=>1+Ty.sizes l
def Ty.sizes:List Ty→Nat
 | []=>0
 |t::l=>Ty.size t+Ty.sizes l
end
def Ty.args:Ty→List Ty | .mk l _=>l
def Ty.base:Ty→Int | .mk _ b=>b
theorem Ty.encs_eq (l:List Ty):Ty.encs l=l.map Ty.enc:=by
 induction l with
 |nil=>rfl
 |cons t l ih=>simp[Ty.encs,ih]
theorem Ty.enc_eq (t:Ty):t.enc=.agg [.sl (t.args.map Ty.enc),nI t.base]:=by cases t;simp[Ty.enc,Ty.encs_eq,Ty.args,Ty.base]
theorem Ty.enc_mk (l:List Ty) (b:Int):(Ty.mk l b).enc=.agg [.sl (l.map Ty.enc),nI b]:=Ty.enc_eq _
theorem Ty.enc_getD {l:List Ty} {k:Nat} (h:k<l.length):List.getD (l.map Ty.enc) (Int.toNat (k:Int)) .top=.agg [.sl (l[k].args.map Ty.enc),nI l[k].base]:=by rw[getD_map h,Ty.enc_eq]
theorem Ty.size_eq (t:Ty):t.size=1+Ty.sizes t.args:=by cases t;rfl
theorem Ty.size_pos (t:Ty):1≤t.size:=by rw[t.size_eq];omega
theorem Ty.sizes_len (l:List Ty):l.length≤Ty.sizes l:=by
 induction l with
 |nil=>simp[Ty.sizes]
 |cons t l ih=>have:=t.size_pos;simp[Ty.sizes];omega
theorem Ty.sizes_append (l m:List Ty):Ty.sizes (l++m)=Ty.sizes l+Ty.sizes m:=by
 induction l with
 |nil=>simp[Ty.sizes]
 |cons t l ih=>simp[Ty.sizes,ih];omega
theorem Ty.sizes_mem {l:List Ty} {t:Ty} (h:t∈l):t.size≤Ty.sizes l:=by
 induction l with
 |nil=>cases h
 |cons u l ih=>
  simp only[Ty.sizes]
  rcases List.mem_cons.1 h with rfl|h1
  ·omega
  ·have:=ih h1;omega
theorem Ty.arg_size {t:Ty} {k:Nat} (h:k<t.args.length):t.args[k].size<t.size:=by
 have:=Ty.sizes_mem (List.getElem_mem h)
 rw[t.size_eq];omega
theorem Ty.enc_len (t:Ty):t.enc.cells.length=2:=by cases t;rfl
theorem Ty.enc_cells {l:List Ty}:∀x:AV,x∈l.map Ty.enc→x.cells.length=2:=by
 intro x h
 obtain⟨t,_,rfl⟩:=List.mem_map.1 h
 exact t.enc_len
theorem Ty.enc_snoc (l:List Ty) (t:Ty):l.map Ty.enc++[.agg [.sl (t.args.map Ty.enc),nI t.base]]=(l++[t]).map Ty.enc:=by rw[←Ty.enc_eq];simp
mutual
def Ty.same:Ty→Ty→Bool
 | .mk l a,.mk m b=>(a==b)&&Ty.sames l m
def Ty.sames:List Ty→List Ty→Bool
 | [],[]=>true
 |t::l,u::m=>Ty.same t u&&Ty.sames l m
 |_,_=>false
end
theorem Ty.same_eq (t u:Ty):Ty.same t u=((t.base==u.base)&&Ty.sames t.args u.args):=by cases t;cases u;simp[Ty.same,Ty.base,Ty.args]
theorem Ty.sames_drop {l m:List Ty} {k:Nat} (h1:k<l.length) (h2:k<m.length):Ty.sames (l.drop k) (m.drop k)=(Ty.same l[k] m[k]&&Ty.sames (l.drop (k+1)) (m.drop (k+1))):=by
 rw[List.drop_eq_getElem_cons h1,List.drop_eq_getElem_cons h2,Ty.sames]
theorem Ty.sames_len {l m:List Ty} (h:¬l.length=m.length):Ty.sames l m=false:=by
 induction l generalizing m with
 |nil=>cases m with
  |nil=>exact(h rfl).elim
  |cons=>simp[Ty.sames]
 |cons t l ih=>cases m with
  |nil=>simp[Ty.sames]
  |cons u m=>simp[Ty.sames,ih (m:=m) (by simpa using h)]
mutual
theorem Ty.same_iff:∀(t u:Ty),Ty.same t u=true↔t=u
 | .mk l a,.mk m b=>by rw[Ty.same,Bool.and_eq_true,beq_iff_eq,Ty.sames_iff l m];simp only[Ty.mk.injEq];exact⟨fun h=>⟨h.2,h.1⟩,fun h=>⟨h.2,h.1⟩⟩
theorem Ty.sames_iff:∀(l m:List Ty),Ty.sames l m=true↔l=m
 | [],[]=>by simp[Ty.sames]
 | [],_::_=>by simp[Ty.sames]
 |_::_,[]=>by simp[Ty.sames]
 |t::l,u::m=>by rw[Ty.sames,Bool.and_eq_true,Ty.same_iff t u,Ty.sames_iff l m];simp
end
inductive Tm where
 |mk (binds:List Ty) (kind index:Int) (args:List Tm)
mutual
def Tm.enc:Tm→AV
 | .mk b k i a=>.agg [.sl (b.map Ty.enc),nI k,nI i,.sl (Tm.encs a)]
def Tm.encs:List Tm→List AV
 | []=>[]
 |t::l=>Tm.enc t::Tm.encs l
end
mutual
def Tm.size:Tm→Nat
 | .mk b _ _ a=>1+Ty.sizes b+Tm.sizes a
def Tm.sizes:List Tm→Nat
 | []=>0
 |t::l=>Tm.size t+Tm.sizes l
end
def Tm.binds:Tm→List Ty | .mk b _ _ _=>b
def Tm.kind:Tm→Int | .mk _ k _ _=>k
def Tm.index:Tm→Int | .mk _ _ i _=>i
def Tm.args:Tm→List Tm | .mk _ _ _ a=>a
theorem Tm.encs_eq (l:List Tm):Tm.encs l=l.map Tm.enc:=by
 induction l with
 |nil=>rfl
 |cons t l ih=>simp[Tm.encs,ih]
theorem Tm.enc_eq (t:Tm):t.enc=.agg [.sl (t.binds.map Ty.enc),nI t.kind,nI t.index,.sl (t.args.map Tm.enc)]:=by cases t;simp[Tm.enc,Tm.encs_eq,Tm.binds,Tm.kind,Tm.index,Tm.args]
theorem Tm.enc_mk (b:List Ty) (k i:Int) (a:List Tm):(Tm.mk b k i a).enc=.agg [.sl (b.map Ty.enc),nI k,nI i,.sl (a.map Tm.enc)]:=Tm.enc_eq _
theorem Tm.enc_getD {l:List Tm} {k:Nat} (h:k<l.length):List.getD (l.map Tm.enc) (Int.toNat (k:Int)) .top=.agg [.sl (l[k].binds.map Ty.enc),nI l[k].kind,nI l[k].index,.sl (l[k].args.map Tm.enc)]:=by rw[getD_map h,Tm.enc_eq]
theorem Tm.size_eq (t:Tm):t.size=1+Ty.sizes t.binds+Tm.sizes t.args:=by cases t;rfl
theorem Tm.size_pos (t:Tm):1≤t.size:=by rw[t.size_eq];omega
theorem Tm.sizes_len (l:List Tm):l.length≤Tm.sizes l:=by
 induction l with
 |nil=>simp[Tm.sizes]
 |cons t l ih=>have:=t.size_pos;simp[Tm.sizes];omega
theorem Tm.sizes_append (l m:List Tm):Tm.sizes (l++m)=Tm.sizes l+Tm.sizes m:=by
 induction l with
 |nil=>simp[Tm.sizes]
 |cons t l ih=>simp[Tm.sizes,ih];omega
theorem Tm.sizes_mem {l:List Tm} {t:Tm} (h:t∈l):t.size≤Tm.sizes l:=by
 induction l with
 |nil=>cases h
 |cons u l ih=>
  simp only[Tm.sizes]
  rcases List.mem_cons.1 h with rfl|h1
  ·omega
  ·have:=ih h1;omega
theorem Tm.arg_size {t:Tm} {k:Nat} (h:k<t.args.length):t.args[k].size<t.size:=by
 have:=Tm.sizes_mem (List.getElem_mem h)
 rw[t.size_eq];omega
theorem Tm.enc_snoc (l:List Tm) (t:Tm):l.map Tm.enc++[.agg [.sl (t.binds.map Ty.enc),nI t.kind,nI t.index,.sl (t.args.map Tm.enc)]]=(l++[t]).map Tm.enc:=by rw[←Tm.enc_eq];simp
theorem take_snoc' {α:Type} {l:List α} {k:Nat} (h:k<l.length):l.take k++[l[k]]=l.take (k+1):=by rw[List.take_succ_eq_append_getElem h]
end Go.Proofs.YtjhanogfpkbamaaGreatDoor

namespace Go.Proofs.YtjhanogfpkbamaaGreatDoor
open Go
set_option linter.unusedSimpArgs false
set_option linter.unusedVariables false
theorem equalInts_calls {l m:List Int} (hsz:l.length≤1000000000):PureIs Tryz.prog 104 [.sl (encInts l),.sl (encInts m)] (nB (likes l m)):=by
 refine vc104_ok (ITE.intro (fun h=>?_) fun h=>?_)
 ·have:¬l.length=m.length:=by simp[encInts_len] at h;omega
  rw[likes_eq,decide_eq_false (fun e=>this (by rw[e]))]
 ·have hlm:l.length=m.length:=by simp[encInts_len] at h;omega
  refine LoopP.intro (fun k:Nat=>((encInts l,encInts m,(l.length:Int),(k:Int),()),())) (fun k=>k≤l.length∧l.take k=m.take k) (fun k=>l.length-k) 0 (by rw[encInts_len];rfl) ⟨Nat.zero_le _,rfl⟩ ?_
  intro k ⟨hk,hs⟩ again hag
  dsimp only
  refine ITE.intro (fun h=>?_) fun h=>?_
  ·have hlt:k<l.length:=by simpa using h
   refine⟨by omega,by rw[encInts_len];omega,_,encInts_getD hlt,by omega,by rw[encInts_len];omega,_,encInts_getD (by omega),ITE.intro (fun h=>?_) fun h=>?_⟩
   ·have hne:¬l[k]=m[k]:=by simpa using h
    rw[likes_eq,decide_eq_false]
    rintro rfl
    exact hne rfl
   ·rw[wrap_n (by omega)]
    refine hag (k+1) ⟨by omega,?_⟩ (by omega)
    have he:l[k]=m[k]:=by simpa using h
    rw[List.take_succ_eq_append_getElem hlt,List.take_succ_eq_append_getElem (by omega),hs,he]
  ·have:l.length≤k:=by simpa using h
   rw[List.take_of_length_le this,List.take_of_length_le (by omega)] at hs
   rw[likes_eq,decide_eq_true hs]
theorem equals_calls {l m:List Ty} (hsz:l.length≤1000000000) (ih:∀(k:Nat) (h1:k<l.length) (h2:k<m.length),PureIs Tryz.prog 74 [l[k].enc,m[k].enc] (nB (Ty.same l[k] m[k]))):
  PureIs Tryz.prog 73 [.sl (l.map Ty.enc),.sl (m.map Ty.enc),.clo 74 []] (nB (Ty.sames l m)):=by
 refine vc73_ok (ITE.intro (fun h=>?_) fun h=>?_)
 ·have:¬l.length=m.length:=by simp at h;omega
  rw[Ty.sames_len this]
 ·have hlm:l.length=m.length:=by simp at h;omega
  refine LoopP.intro (fun k:Nat=>((m.map Ty.enc,(),l.map Ty.enc,(l.length:Int),(k:Int),()),())) (fun k=>k≤l.length∧Ty.sames l m=Ty.sames (l.drop k) (m.drop k)) (fun k=>l.length-k) 0 (by rw[List.length_map];rfl) ⟨Nat.zero_le _,rfl⟩ ?_
  intro k ⟨hk,hs⟩ again hag
  dsimp only
  rw[List.length_map,List.length_map]
  refine ITE.intro (fun h=>?_) fun h=>?_
  ·have hlt:k<l.length:=by simpa using h
   rw[Ty.sames_drop hlt (by omega)] at hs
   have hi:=ih k hlt (by omega)
   rw[Ty.enc_eq,Ty.enc_eq] at hi
   refine⟨by omega,by omega,_,_,Ty.enc_getD hlt,by omega,by omega,_,_,Ty.enc_getD (by omega),_,hi,ITE.intro (fun h=>?_) fun h=>?_⟩
   ·have:Ty.same l[k] m[k]=false:=by simpa using h
    rw[hs,this,Bool.false_and]
   ·have he:Ty.same l[k] m[k]=true:=by simpa using h
    rw[he,Bool.true_and] at hs
    rw[wrap_n (by omega)]
    exact hag (k+1) ⟨by omega,hs⟩ (by omega)
  ·have:l.length≤k:=by simpa using h
   rw[List.drop_eq_nil_of_le this,List.drop_eq_nil_of_le (by omega)] at hs
   rw[hs];rfl
theorem equal_calls:∀(n:Nat) (t u:Ty),t.size≤n→n≤1000000000→PureIs Tryz.prog 74 [t.enc,u.enc] (nB (Ty.same t u)):=by
 intro n
 induction n with
 |zero=>intro t u h;have:=t.size_pos;omega
 |succ n ih=>
  intro t u h hn
  have hq:=Ty.sizes_len t.args
  have hts:=t.size_eq
  have he:=equals_calls (l:=t.args) (m:=u.args) (by omega) (fun k h1 h2=>ih _ _ (by have:=Ty.arg_size h1;omega) (by omega))
  rw[Ty.enc_eq,Ty.enc_eq,Ty.same_eq]
  refine vc74_ok (ITE.intro (fun h=>?_) fun h=>?_)
  ·exact⟨_,he,by rw[h,Bool.true_and]⟩
  ·rw[h,Bool.false_and]
end Go.Proofs.YtjhanogfpkbamaaGreatDoor

namespace Go.Proofs.YtjhanogfpkbamaaGreatDoor
open Go
set_option linter.unusedSimpArgs false
set_option linter.unusedVariables false
def I64 (i:Int):Prop := -9223372036854775808≤i∧i<9223372036854775808
end Go.Proofs.YtjhanogfpkbamaaGreatDoor
