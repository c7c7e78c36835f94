/- Texts of ours laid together for a claim: P01 P02 P03 P04. -/
import Derived.Test.YtjhanogfpkbamaaGreatDoorQ45
namespace Go.Proofs.YtjhanogfpkbamaaGreatDoor
open Go
set_option linter.unusedSimpArgs false
set_option linter.unusedVariables false
theorem bH {n:Int} (h1 : -9223372036854775808≤n) (h2:n<9223372036854775808):IntKind.wrap .i64 n=n:=IntWalk.i64_in _ (by omega)
theorem aL {k:Nat} (h:k≤4000000000):IntKind.wrap .i64 ((k:Int)+1)=((k+1:Nat):Int):=K0 (by omega)
theorem FU {d:TD} {n:Nat} {els aG:List AV} (h1:∀x:AV,x∈els→x.cells.length=d.size) (h2:∀x:AV,x∈aG→x.cells.length=d.size) (hn:n≤4000000000) (hb:d.bytes≤1000):bL d n els aG:=by
 refine⟨h1,h2,?_,?_⟩
 ·simp only[maxLen];omega
 ·have:=ajE hn hb;omega
theorem kT {d:TD} {n:Nat} {aG:List AV} (h2:∀x:AV,x∈aG→x.cells.length=d.size) (hn:n≤4000000000) (hb:d.bytes≤1000):bL d n [] aG:=
 FU (fun x hx=>by cases hx) h2 hn hb
theorem aJ {d:TD} {n:Nat} {x:AV} (h2:x.cells.length=d.size) (hn:n≤4000000000) (hb:d.bytes≤1000):bL d n [] [x]:=
 kT (fun y hy=>by rw[air.1 hy];exact h2) hn hb
theorem getD_map {α:Type} {f:α→AV} {l:List α} {k:Nat} (h:k<l.length):List.getD (l.map f) (Int.toNat (k:Int)) .top=f l[k]:=by simp[List.getD,h]
def aK (l:List Int):List AV:=l.map nI
theorem bu (l:List Int):(aK l).length=l.length:=by simp[aK]
theorem cy {l:List Int} {k:Nat} (h:k<l.length):List.getD (aK l) (Int.toNat (k:Int)) .top=nI l[k]:=getD_map h
theorem uf (l:List Int) (i:Int):aK l++[nI i]=aK (l++[i]):=by simp[aK]
theorem Ae {l:List Int}:∀x:AV,x∈aK l→x.cells.length=1:=by
 intro x hx
 obtain⟨t,_,rfl⟩:=aiQ.1 hx
 rfl
def o8:List Int→List Int→Bool
 | [],[]=>true
 |a::l,b::m=>(a==b)&&o8 l m
 |_,_=>false
theorem fM (l m:List Int):o8 l m=decide (l=m):=by
 induction l generalizing m with
 |nil=>cases m<;>simp[o8]
 |cons a l ih=>cases m with
  |nil=>simp[o8]
  |cons b m=>
   rw[o8,ih]
   by_cases h1:a=b<;>by_cases h2:l=m<;>simp[h1,h2]
inductive Ty where
 |mk (args:List Ty) (base:Int)
mutual
def Ty.enc:Ty→AV
 | .mk l b=>.agg [.sl (Ty.CW l),nI b]
def Ty.CW:List Ty→List AV
 | []=>[]
 |t::l=>Ty.enc t::Ty.CW l
end
mutual
def Ty.size:Ty→Nat
 | .mk l _=>1+Ty.sizes l
def Ty.sizes:List Ty→Nat
 | []=>0
 |t::l=>Ty.size t+Ty.sizes l
end
def Ty.args:Ty→List Ty | .mk l _=>l
def Ty.base:Ty→Int | .mk _ b=>b
theorem Ty.Ud (a:List Ty) (b:Int):(Ty.mk a b).args=a:=rfl
theorem Ty.Ue (a:List Ty) (b:Int):(Ty.mk a b).base=b:=rfl
theorem Ty.CX (l:List Ty):Ty.CW l=l.map Ty.enc:=by
 induction l with
 |nil=>rfl
 |cons t l ih=>simp[Ty.CW,ih]
theorem Ty.aF (t:Ty):t.enc=.agg [.sl (t.args.map Ty.enc),nI t.base]:=by cases t;simp[Ty.enc,Ty.CX,Ty.args,Ty.base]
theorem Ty.oA (l:List Ty) (b:Int):(Ty.mk l b).enc=.agg [.sl (l.map Ty.enc),nI b]:=Ty.aF _
theorem Ty.bh {l:List Ty} {k:Nat} (h:k<l.length):List.getD (l.map Ty.enc) (Int.toNat (k:Int)) .top=.agg [.sl (l[k].args.map Ty.enc),nI l[k].base]:=by rw[getD_map h,Ty.aF]
theorem Ty.size_eq (t:Ty):t.size=1+Ty.sizes t.args:=by cases t;rfl
theorem Ty.size_pos (t:Ty):1≤t.size:=by rw[t.size_eq];omega
theorem Ty.bA (l:List Ty):l.length≤Ty.sizes l:=by
 induction l with
 |nil=>simp[Ty.sizes]
 |cons t l ih=>have:=t.size_pos;simp[Ty.sizes];omega
theorem Ty.fC (l m:List Ty):Ty.sizes (l++m)=Ty.sizes l+Ty.sizes m:=by
 induction l with
 |nil=>simp[Ty.sizes]
 |cons t l ih=>simp[Ty.sizes,ih];omega
theorem Ty.cN {l:List Ty} {t:Ty} (h:t∈l):t.size≤Ty.sizes l:=by
 induction l with
 |nil=>cases h
 |cons u l ih=>
  simp only[Ty.sizes]
  rcases aiC.1 h with rfl|h1
  ·omega
  ·have:=ih h1;omega
theorem Ty.fN {t:Ty} {k:Nat} (h:k<t.args.length):t.args[k].size<t.size:=by
 have:=Ty.cN (ah1 h)
 rw[t.size_eq];omega
theorem Ty.Kz (t:Ty):t.enc.cells.length=2:=by cases t;rfl
theorem Ty.Bg {l:List Ty}:∀x:AV,x∈l.map Ty.enc→x.cells.length=2:=by
 intro x h
 obtain⟨t,_,rfl⟩:=aiQ.1 h
 exact t.Kz
theorem Ty.je (l:List Ty) (t:Ty):l.map Ty.enc++[.agg [.sl (t.args.map Ty.enc),nI t.base]]=(l++[t]).map Ty.enc:=by rw[←Ty.aF];simp
mutual
def Ty.same:Ty→Ty→Bool
 | .mk l a,.mk m b=>(a==b)&&Ty.bU l m
def Ty.bU:List Ty→List Ty→Bool
 | [],[]=>true
 |t::l,u::m=>Ty.same t u&&Ty.bU l m
 |_,_=>false
end
theorem Ty.ug (t u:Ty):Ty.same t u=((t.base==u.base)&&Ty.bU t.args u.args):=by cases t;cases u;simp[Ty.same,Ty.base,Ty.args]
theorem Ty.jE {l m:List Ty} {k:Nat} (h1:k<l.length) (h2:k<m.length):Ty.bU (l.drop k) (m.drop k)=(Ty.same l[k] m[k]&&Ty.bU (l.drop (k+1)) (m.drop (k+1))):=by
 rw[ah6 h1,ah6 h2,Ty.bU]
theorem Ty.jF {l m:List Ty} (h:¬l.length=m.length):Ty.bU l m=false:=by
 induction l generalizing m with
 |nil=>cases m with
  |nil=>exact(h rfl).elim
  |cons=>simp[Ty.bU]
 |cons t l ih=>cases m with
  |nil=>simp[Ty.bU]
  |cons u m=>simp[Ty.bU,ih (m:=m) (by simpa using h)]
mutual
theorem Ty.uh:∀(t u:Ty),Ty.same t u=true↔t=u
 | .mk l a,.mk m b=>by rw[Ty.same,ahZ,beq_iff_eq,Ty.jG l m];simp only[Ty.mk.injEq];exact⟨fun h=>⟨h.2,h.1⟩,fun h=>⟨h.2,h.1⟩⟩
theorem Ty.jG:∀(l m:List Ty),Ty.bU l m=true↔l=m
 | [],[]=>by simp[Ty.bU]
 | [],_::_=>by simp[Ty.bU]
 |_::_,[]=>by simp[Ty.bU]
 |t::l,u::m=>by rw[Ty.bU,ahZ,Ty.uh t u,Ty.jG l m];simp
end
inductive Tm where
 |mk (binds:List Ty) (kind index:Int) (args:List Tm)
mutual
def Tm.enc:Tm→AV
 | .mk b k i a=>.agg [.sl (b.map Ty.enc),nI k,nI i,.sl (Tm.CW a)]
def Tm.CW:List Tm→List AV
 | []=>[]
 |t::l=>Tm.enc t::Tm.CW l
end
mutual
def Tm.size:Tm→Nat
 | .mk b _ _ a=>1+Ty.sizes b+Tm.sizes a
def Tm.sizes:List Tm→Nat
 | []=>0
 |t::l=>Tm.size t+Tm.sizes l
end
def Tm.binds:Tm→List Ty | .mk b _ _ _=>b
def Tm.kind:Tm→Int | .mk _ k _ _=>k
def Tm.index:Tm→Int | .mk _ _ i _=>i
def Tm.args:Tm→List Tm | .mk _ _ _ a=>a
theorem Tm.CX (l:List Tm):Tm.CW l=l.map Tm.enc:=by
 induction l with
 |nil=>rfl
 |cons t l ih=>simp[Tm.CW,ih]
theorem Tm.aF (t:Tm):t.enc=.agg [.sl (t.binds.map Ty.enc),nI t.kind,nI t.index,.sl (t.args.map Tm.enc)]:=by cases t;simp[Tm.enc,Tm.CX,Tm.binds,Tm.kind,Tm.index,Tm.args]
theorem Tm.oA (b:List Ty) (k i:Int) (a:List Tm):(Tm.mk b k i a).enc=.agg [.sl (b.map Ty.enc),nI k,nI i,.sl (a.map Tm.enc)]:=Tm.aF _
theorem Tm.bh {l:List Tm} {k:Nat} (h:k<l.length):List.getD (l.map Tm.enc) (Int.toNat (k:Int)) .top=.agg [.sl (l[k].binds.map Ty.enc),nI l[k].kind,nI l[k].index,.sl (l[k].args.map Tm.enc)]:=by rw[getD_map h,Tm.aF]
theorem Tm.size_eq (t:Tm):t.size=1+Ty.sizes t.binds+Tm.sizes t.args:=by cases t;rfl
theorem Tm.size_pos (t:Tm):1≤t.size:=by rw[t.size_eq];omega
theorem Tm.bA (l:List Tm):l.length≤Tm.sizes l:=by
 induction l with
 |nil=>simp[Tm.sizes]
 |cons t l ih=>have:=t.size_pos;simp[Tm.sizes];omega
theorem Tm.fC (l m:List Tm):Tm.sizes (l++m)=Tm.sizes l+Tm.sizes m:=by
 induction l with
 |nil=>simp[Tm.sizes]
 |cons t l ih=>simp[Tm.sizes,ih];omega
theorem Tm.cN {l:List Tm} {t:Tm} (h:t∈l):t.size≤Tm.sizes l:=by
 induction l with
 |nil=>cases h
 |cons u l ih=>
  simp only[Tm.sizes]
  rcases aiC.1 h with rfl|h1
  ·omega
  ·have:=ih h1;omega
theorem Tm.fN {t:Tm} {k:Nat} (h:k<t.args.length):t.args[k].size<t.size:=by
 have:=Tm.cN (ah1 h)
 rw[t.size_eq];omega
theorem Tm.je (l:List Tm) (t:Tm):l.map Tm.enc++[.agg [.sl (t.binds.map Ty.enc),nI t.kind,nI t.index,.sl (t.args.map Tm.enc)]]=(l++[t]).map Tm.enc:=by rw[←Tm.aF];simp
theorem aH {α:Type} {l:List α} {k:Nat} (h:k<l.length):l.take k++[l[k]]=l.take (k+1):=by rw[aiW h]
theorem wX {l m:List Int} (cJ:l.length≤1000000000):av Tryz.prog 104 [.sl (aK l),.sl (aK m)] (nB (o8 l m)):=by
 refine Oh (ak.intro (fun h=>?_) fun h=>?_)
 ·have:¬l.length=m.length:=by simp[bu] at h;omega
  rw[fM,decide_eq_false (fun e=>this (by rw[e]))]
 ·have DH:l.length=m.length:=by simp[bu] at h;omega
  refine aB.intro (fun k:Nat=>((aK l,aK m,(l.length:Int),(k:Int),()),())) (fun k=>k≤l.length∧l.take k=m.take k) (fun k=>l.length-k) 0 (by rw[bu];rfl) ⟨ah3 _,rfl⟩ ?_
  intro k ⟨hk,hs⟩ again bO
  dsimp only
  refine ak.intro (fun h=>?_) fun h=>?_
  ·have ay:k<l.length:=by simpa using h
   refine⟨by omega,by rw[bu];omega,_,cy ay,by omega,by rw[bu];omega,_,cy (by omega),ak.intro (fun h=>?_) fun h=>?_⟩
   ·have bK:¬l[k]=m[k]:=by simpa using h
    rw[fM,decide_eq_false]
    rintro rfl
    exact bK rfl
   ·rw[aL (by omega)]
    refine bO (k+1) ⟨by omega,?_⟩ (by omega)
    have he:l[k]=m[k]:=by simpa using h
    rw[aiW ay,aiW (by omega),hs,he]
  ·have:l.length≤k:=by simpa using h
   rw[ah9 this,ah9 (by omega)] at hs
   rw[fM,decide_eq_true hs]
theorem H8 {l m:List Int} (cJ:l.length≤1000000000):av Tryz.prog 27 [.sl (aK l),.sl (aK m)] (nB (o8 l m)):=by
 refine RI (ak.intro (fun h=>?_) fun h=>?_)
 ·have:¬l.length=m.length:=by simp[bu] at h;omega
  rw[fM,decide_eq_false (fun e=>this (by rw[e]))]
 ·have DH:l.length=m.length:=by simp[bu] at h;omega
  refine aB.intro (fun k:Nat=>((aK l,aK m,(k:Int),()),())) (fun k=>k≤l.length∧l.take k=m.take k) (fun k=>l.length-k) 0 rfl ⟨ah3 _,rfl⟩ ?_
  intro k ⟨hk,hs⟩ again bO
  dsimp only
  rw[bu]
  refine ak.intro (fun h=>?_) fun h=>?_
  ·have ay:k<l.length:=by simpa using h
   refine⟨by omega,by omega,_,cy ay,by omega,by rw[bu];omega,_,cy (by omega),ak.intro (fun h=>?_) fun h=>?_⟩
   ·have bK:¬l[k]=m[k]:=by simpa using h
    rw[fM,decide_eq_false]
    rintro rfl
    exact bK rfl
   ·rw[aL (by omega)]
    refine bO (k+1) ⟨by omega,?_⟩ (by omega)
    have he:l[k]=m[k]:=by simpa using h
    rw[aiW ay,aiW (by omega),hs,he]
  ·have:l.length≤k:=by simpa using h
   rw[ah9 this,ah9 (by omega)] at hs
   rw[fM,decide_eq_true hs]
theorem FV {l:List Int} (cJ:l.length≤1000000000):av Tryz.prog 101 [.sl (aK l)] (.sl (aK l)):=by
 refine Om fun b hb=>ak.intro (fun h=>?_) fun h=>?_
 ·have:aK l=[]:=Classical.byContradiction fun hn=>by rw[hb hn] at h;cases h
  rw[this]
 ·exact⟨fun _=>rfl,kT Ae (by simp[bu];omega) (by decide),rfl,by simp⟩
theorem oB {l m:List Ty} (cJ:l.length≤1000000000) (ih:∀(k:Nat) (h1:k<l.length) (h2:k<m.length),av Tryz.prog 74 [l[k].enc,m[k].enc] (nB (Ty.same l[k] m[k]))):
  av Tryz.prog 73 [.sl (l.map Ty.enc),.sl (m.map Ty.enc),.ck 74 []] (nB (Ty.bU l m)):=by
 refine RM (ak.intro (fun h=>?_) fun h=>?_)
 ·have:¬l.length=m.length:=by simp at h;omega
  rw[Ty.jF this]
 ·have DH:l.length=m.length:=by simp at h;omega
  refine aB.intro (fun k:Nat=>((m.map Ty.enc,(),l.map Ty.enc,(l.length:Int),(k:Int),()),())) (fun k=>k≤l.length∧Ty.bU l m=Ty.bU (l.drop k) (m.drop k)) (fun k=>l.length-k) 0 (by rw[ahX];rfl) ⟨ah3 _,rfl⟩ ?_
  intro k ⟨hk,hs⟩ again bO
  dsimp only
  rw[ahX,ahX]
  refine ak.intro (fun h=>?_) fun h=>?_
  ·have ay:k<l.length:=by simpa using h
   rw[Ty.jE ay (by omega)] at hs
   have hi:=ih k ay (by omega)
   rw[Ty.aF,Ty.aF] at hi
   refine⟨by omega,by omega,_,_,Ty.bh ay,by omega,by omega,_,_,Ty.bh (by omega),_,hi,ak.intro (fun h=>?_) fun h=>?_⟩
   ·have:Ty.same l[k] m[k]=false:=by simpa using h
    rw[hs,this,aih]
   ·have he:Ty.same l[k] m[k]=true:=by simpa using h
    rw[he,aim] at hs
    rw[aL (by omega)]
    exact bO (k+1) ⟨by omega,hs⟩ (by omega)
  ·have:l.length≤k:=by simpa using h
   rw[ah8 this,ah8 (by omega)] at hs
   rw[hs];rfl
theorem vT:∀(n:Nat) (t u:Ty),t.size≤n→n≤1000000000→av Tryz.prog 74 [t.enc,u.enc] (nB (Ty.same t u)):=by
 intro n
 induction n with
 |zero=>intro t u h;have:=t.size_pos;omega
 |succ n ih=>
  intro t u h hn
  have hq:=Ty.bA t.args
  have Lz:=t.size_eq
  have he:=oB (l:=t.args) (m:=u.args) (by omega) (fun k h1 h2=>ih _ _ (by have:=Ty.fN h1;omega) (by omega))
  rw[Ty.aF,Ty.aF,Ty.ug]
  refine RN (ak.intro (fun h=>?_) fun h=>?_)
  ·exact⟨_,he,by rw[h,aim]⟩
  ·rw[h,aih]
theorem CY:∀(n:Nat) (t:Ty),t.size≤n→n≤1000000000→av Tryz.prog 157 [t.enc] t.enc:=by
 intro n
 induction n with
 |zero=>intro t h;have:=t.size_pos;omega
 |succ n ih=>
  intro t h hn
  have hq:=Ty.bA t.args
  have Lz:=t.size_eq
  rw[Ty.aF]
  refine Oj ⟨rfl,?_⟩
  refine aB.intro (fun k:Nat=>(((),(),t.args.map Ty.enc,(t.args.length:Int),(k:Int),()),((t.args.map Ty.enc,t.base,()),((),0,()),((),t.base,()),(t.args.take k).map Ty.enc,())))
   (fun k=>k≤t.args.length) (fun k=>t.args.length-k) 0 (by rw[ahX];rfl) (ah3 _) ?_
  intro k hk again bO
  dsimp only
  rw[ahX]
  refine ak.intro (fun h=>?_) fun h=>?_
  ·have ay:k<t.args.length:=by simpa using h
   have hi:=ih t.args[k] (by have:=Ty.fN ay;omega) (by omega)
   rw[Ty.aF] at hi
   refine⟨by omega,by omega,_,_,Ty.bh ay,_,_,hi,rfl,aJ rfl (by simp;omega) (by decide),rfl,?_⟩
   rw[aL (by omega),Ty.je,aH ay]
   exact bO (k+1) (by omega) (by omega)
  ·have:t.args.length≤k:=by simpa using h
   refine⟨rfl,?_⟩
   rw[ah9 this]
theorem H9 {n:Nat} (hn:n≤1000000000):
  cG Tryz.prog 165 [.ah (.slice none 0 0),nI (n:Nat)] [] (fun r q=>if n=0 then r=.ah (.slice none 0 0)∧q=[] else r=.own 0 0∧q=[.row 101 2 []]):=by
 have e:IntKind.wrap .i64 ((n:Int)-IntKind.wrap .i64 (0-((List.length ([]:List AV):Nat):Int)))=(n:Int):=by
  rw[show IntKind.wrap .i64 (0-((List.length ([]:List AV):Nat):Int))=0 from by decide,Int.sub_zero,bH (by omega) (by omega)]
 refine Ov (ak.neg (decide_eq_false (by omega)) ?_)
 rw[e,ajl]
 refine ak.intro (fun h=>⟨⟨of_decide_eq_true h,by simp only[maxLen];omega,?_⟩,?_⟩) fun h=>?_
 ·have:TD.bytes qp≤1000:=by decide
  have h2:n*TD.bytes qp≤n*1000:=Nat.mul_le_mul_left _ this
  omega
 ·have:=of_decide_eq_true h
  dsimp only;rw[if_neg (by omega)];exact⟨rfl,rfl⟩
 ·have:=of_decide_eq_false h
  dsimp only;rw[if_pos (by omega)];exact⟨rfl,rfl⟩
def jf (ll:List (List Ty)):List AV:=ll.map fun l=>.sl (l.map Ty.enc)
theorem uj {ll:List (List Ty)} {k:Nat} (h:k<ll.length):List.getD (jf ll) (Int.toNat (k:Int)) .top=.sl (ll[k].map Ty.enc):=by
 simp[jf,List.getD,h]
theorem vU (ll:List (List Ty)):(jf ll).length=ll.length:=by simp[jf]
theorem Bh {ll:List (List Ty)} {k:Nat} (h:k<ll.length):(ll.take (k+1)).flatten=(ll.take k).flatten++ll[k]:=by
 rw[aiW h,aj0,List.flatten_singleton]
theorem oC (ll:List (List Ty)) (k:Nat):(ll.take k).flatten.length≤ll.flatten.length:=by
 have h:ll.flatten=(ll.take k).flatten++(ll.drop k).flatten:=by rw[←aj0,aiq]
 rw[h,ah0];omega
theorem Af {l:List Ty} {x:AV} (h:x∈l.map Ty.enc):x.cells.length=2:=by
 obtain⟨t,_,rfl⟩:=aiQ.1 h
 exact t.Kz
theorem CZ {ll:List (List Ty)} (h0:ll.length≤1000000000) (hn:ll.flatten.length≤1000000000):
  av Tryz.prog 158 [.sl (jf ll)] (.sl (ll.flatten.map Ty.enc)):=by
 refine Ou ?_
 refine aB.intro (fun k:Nat=>((jf ll,((ll.take k).flatten.length:Nat),jf ll,((jf ll).length:Int),(k:Int),()),())) (fun k=>k≤ll.length) (fun k=>ll.length-k) 0 rfl (ah3 _) ?_
 intro k hk again bO
 dsimp only
 have hle:=oC ll k
 unfold E7
 rw[vU] at *
 refine ak.intro (fun h=>?_) fun h=>?_
 ·have ay:k<ll.length:=by simpa using h
  have uM:=oC ll (k+1)
  have aV:=bO (k+1) (by omega) (by omega)
  rw[Bh ay,ah0] at uM aV
  refine⟨by omega,by omega,_,uj ay,?_⟩
  rw[ahX,bH (n:=(((ll.take k).flatten.length:Nat):Int)+_) (by omega) (by omega),aL (by omega)]
  exact ak.neg (decide_eq_false (by omega)) aV
 ·have gQ:ll.length≤k:=by simpa using h
  clear bO
  rw[ah9 gQ]
  suffices hL:vg (((),jf ll,(ll.length:Int),0,()),([],())) (fun r=>r=.sl (ll.flatten.map Ty.enc)) from
   ⟨_,H9 hn,fun r q hq=>by
    by_cases hz:ll.flatten.length=0
    ·rw[if_pos hz] at hq;exact .inr ⟨hq,rfl,hL⟩
    ·rw[if_neg hz] at hq;exact .inl ⟨[],hq,rfl,hL⟩⟩
  refine aB.intro (fun k:Nat=>(((),jf ll,(ll.length:Int),(k:Int),()),((ll.take k).flatten.map Ty.enc,()))) (fun k=>k≤ll.length) (fun k=>ll.length-k) 0 rfl (ah3 _) ?_
  intro j hj kr gX
  dsimp only
  have uM:=oC ll (j+1)
  unfold A9
  refine ak.intro (fun h=>?_) fun h=>?_
  ·have ay:j<ll.length:=by simpa using h
   have aV:=gX (j+1) (by omega) (by omega)
   rw[Bh ay] at uM aV
   rw[aii] at aV
   rw[ah0] at uM
   refine⟨by omega,by rw[vU];omega,_,uj ay,rfl,kT (fun x hx=>Af hx) (by rw[ah0,ahX,ahX];omega) (by decide),rfl,?_⟩
   rw[aL (by omega)]
   exact aV
  ·have gQ:ll.length≤j:=by simpa using h
   exact⟨rfl,by rw[ah9 gQ]⟩
def Ty.arrow (t:Ty) (l:List Ty):Ty:=.mk (l++t.args) t.base
theorem vV {t:Ty} {l:List Ty} (h:Ty.sizes l+t.size≤1000000000):av Tryz.prog 150 [t.enc,.sl (l.map Ty.enc)] (t.arrow l).enc:=by
 have hl:=Ty.bA l
 have uM:=Ty.bA t.args
 have hs:=t.size_eq
 have IW:=CZ (ll:=[l,t.args]) (by simp) (by simp;omega)
 have Mb:=CY _ (.mk (l++t.args) t.base) (ah5 _) (by simp only[Ty.size,Ty.fC];omega)
 simp only[jf,ais,aiY,List.flatten_cons,List.flatten_nil,aiH] at IW
 rw[Ty.oA] at Mb
 rw[Ty.arrow,Ty.oA,Ty.aF t]
 exact Ol ⟨_,IW,_,_,Mb,rfl⟩
mutual
def Tm.var:Tm→Option (Int×Int)
 | .mk b k i a=>if a.length=b.length∧¬(k=0∧i<b.length) then(if Tm.KA b.length 0 b a=true then some (k,if k=0 then IntKind.wrap .i64 (i-b.length) else i) else none) else none
def Tm.KA (n:Nat):Nat→List Ty→List Tm→Bool
 |k,t::b,a::l=>(match Tm.var a with
  |some (q,j)=>q==0&&j==(n:Int)-1-k&&Ty.bU a.binds t.args
  |none=>false)&&Tm.KA n (k+1) b l
 |_,_,_=>true
end
theorem FW (i:Int):av Tryz.prog 138 [nI i] (nI i):=Oo rfl
def ke (i:Int):Prop := -9223372036854775808≤i∧i<9223372036854775808
mutual
def Tm.Ok:Tm→Prop
 | .mk _ k i a=>ke k∧ke i∧Tm.FX a
def Tm.FX:List Tm→Prop
 | []=>True
 |t::l=>Tm.Ok t∧Tm.FX l
end
theorem Tm.Uf {l:List Tm} (h:Tm.FX l) {t:Tm} (ht:t∈l):t.Ok:=by
 induction l with
 |nil=>cases ht
 |cons u l ih=>
  obtain⟨h1,h2⟩:=h
  rcases aiC.1 ht with rfl|h3
  ·exact h1
  ·exact ih h2 h3
theorem Tm.ok_eq {t:Tm} (h:t.Ok):ke t.kind∧ke t.index∧Tm.FX t.args:=by cases t;exact h
theorem Ag:∀(n:Nat) (t:Tm) (a:Nat),t.size≤n→n≤1000000000→t.Ok→a+t.size≤2000000000→av Tryz.prog 137 [t.enc,nI a,.ck 138 []] t.enc:=by
 intro n
 induction n with
 |zero=>intro t a h;have:=t.size_pos;omega
 |succ n ih=>
  intro t a h hn hk ha
  have hq:=Tm.bA t.args
  have hq2:=Ty.bA t.binds
  have Lz:=t.size_eq
  obtain⟨pJ,QD,hk3⟩:=Tm.ok_eq hk
  have k6:=vV (t:=.mk [] 0) (l:=t.binds) (by simp[Ty.size,Ty.sizes];omega)
  rw[Ty.arrow,Ty.Ud,Ty.Ue,aiH,Ty.oA,Ty.oA,aiY] at k6
  have hw:IntKind.wrap .i64 ((a:Int)+((List.length (t.binds.map Ty.enc):Nat):Int))=((a+t.binds.length:Nat):Int):=by rw[ahX,bH (by omega) (by omega)];omega
  have loop:tR ((((a+t.binds.length:Nat):Int),(),(),(),t.args.map Tm.enc,((List.length (t.args.map Tm.enc):Nat):Int),0,()),((t.binds.map Ty.enc,t.kind,t.index,t.args.map Tm.enc,()),((),0,0,(),()),(t.binds.map Ty.enc,t.kind,t.index,(),()),[],())) (fun x=>x=t.enc):=by
   refine aB.intro (fun k:Nat=>((((a+t.binds.length:Nat):Int),(),(),(),t.args.map Tm.enc,(t.args.length:Int),(k:Int),()),((t.binds.map Ty.enc,t.kind,t.index,t.args.map Tm.enc,()),((),0,0,(),()),(t.binds.map Ty.enc,t.kind,t.index,(),()),(t.args.take k).map Tm.enc,())))
    (fun k=>k≤t.args.length) (fun k=>t.args.length-k) 0 (by rw[ahX];rfl) (ah3 _) ?_
   intro k hk again bO
   dsimp only
   refine ak.intro (fun h=>?_) fun h=>?_
   ·have ay:k<t.args.length:=by simpa using h
    have hz:=Tm.fN ay
    have hi:=ih t.args[k] (a+t.binds.length) (by omega) (by omega) (Tm.Uf hk3 (ah1 ay)) (by have:=Tm.cN (ah1 ay);omega)
    rw[Tm.aF] at hi
    refine⟨by omega,by rw[ahX];omega,_,_,_,_,Tm.bh ay,_,_,_,_,hi,rfl,aJ rfl (by simp;omega) (by decide),rfl,?_⟩
    rw[aL (by omega),Tm.je,aH ay]
    exact bO (k+1) (by omega) (by omega)
   ·have:t.args.length≤k:=by simpa using h
    refine⟨rfl,?_⟩
    rw[ah9 this,←Tm.aF]
  rw[Tm.aF]
  rw[Tm.aF] at loop
  refine On ⟨_,_,k6,?_⟩
  rw[hw]
  refine ak.intro (fun h=>?_) fun h=>⟨rfl,loop⟩
  refine ak.intro (fun h=>?_) fun h=>⟨rfl,loop⟩
  have gQ:((a+t.binds.length:Nat):Int)≤t.index:=by simpa using h
  refine⟨_,FW _,rfl,?_⟩
  unfold ke at QD
  rw[bH (n:=t.index-((a+t.binds.length:Nat):Int)) (by omega) (by omega),show ((a+t.binds.length:Nat):Int)+(t.index-((a+t.binds.length:Nat):Int))=t.index from by omega,bH QD.1 QD.2]
  exact loop
theorem sG {t:Tm} (h:t.size≤1000000000) (hk:t.Ok):av Tryz.prog 102 [t.enc] t.enc:=by
 have:=Ag _ t 0 (ah5 _) h hk (by omega)
 rw[Tm.aF] at this ⊢
 exact Oq ⟨_,_,_,_,this,rfl⟩
end Go.Proofs.YtjhanogfpkbamaaGreatDoor
