/- Texts of ours laid together for a claim: P01 P02 P03 P04 P05 P06. -/
import Derived.Test.YtdcikhleahfknaaGreatDoorQ45
namespace Go.Proofs.YtdcikhleahfknaaGreatDoor
open Go
set_option linter.unusedSimpArgs false
set_option linter.unusedVariables false
theorem bV {n:Int} (h1 : -9223372036854775808<=n) (h2:n<9223372036854775808):IntKind.wrap .i64 n=n:=IntWalk.i64_in _ (by omega)
theorem aA {k:Nat} (h:k<=4000000000):IntKind.wrap .i64 ((k:Int)+1)=((k+1:Nat):Int):=Ll (by omega)
theorem xT {d:TD} {n:Nat} {els aD:List AV} (h1:∀x:AV,x∈els->x.cells.length=d.size) (h2:∀x:AV,x∈aD->x.cells.length=d.size) (hn:n<=4000000000) (hb:d.bytes<=1000):bd d n els aD:=by
 refine⟨h1,h2,?_,?_⟩
 ·simp only[maxLen];omega
 ·have:=am1 hn hb;omega
theorem cg {d:TD} {n:Nat} {aD:List AV} (h2:∀x:AV,x∈aD->x.cells.length=d.size) (hn:n<=4000000000) (hb:d.bytes<=1000):bd d n [] aD:=
 xT (fun x hx=>by cases hx) h2 hn hb
theorem bc {d:TD} {n:Nat} {x:AV} (h2:x.cells.length=d.size) (hn:n<=4000000000) (hb:d.bytes<=1000):bd d n [] [x]:=
 cg (fun y hy=>by rw[amc.1 hy];exact h2) hn hb
theorem getD_map {α:Type} {f:α->AV} {l:List α} {k:Nat} (h:k<l.length):List.getD (l.map f) (Int.toNat (k:Int)) .top=f l[k]:=by simp[List.getD,h]
def ai (l:List Int):List AV:=l.map nI
theorem dM (l:List Int):(ai l).length=l.length:=by simp[ai]
theorem Cp {l:List Int} {k:Nat} (h:k<l.length):List.getD (ai l) (Int.toNat (k:Int)) .top=nI l[k]:=getD_map h
theorem ie (l:List Int) (i:Int):ai l++[nI i]=ai (l++[i]):=by simp[ai]
theorem uX (l m:List Int):ai l++ai m=ai (l++m):=by simp[ai]
theorem cC {l:List Int}:∀x:AV,x∈ai l->x.cells.length=1:=by
 intro x hx;obtain⟨t,_,rfl⟩:=amz.1 hx;rfl
def adb:List Int->List Int->Bool
 | [],[]=>true
 |a::l,b::m=>(a==b)&&adb l m
 |_,_=>false
inductive Ty where
 |mk (args:List Ty) (base:Int)
mutual
def Ty.enc:Ty->AV
 | .mk l b=>.agg [.sl (Ty.Cq l),nI b]
def Ty.Cq:List Ty->List AV
 | []=>[]
 |t::l=>Ty.enc t::Ty.Cq l
end
mutual
def Ty.size:Ty->Nat
 | .mk l _=>1+Ty.sizes l
def Ty.sizes:List Ty->Nat
 | []=>0
 |t::l=>Ty.size t+Ty.sizes l
end
def Ty.args:Ty->List Ty | .mk l _=>l
def Ty.base:Ty->Int | .mk _ b=>b
theorem Ty.pT (a:List Ty) (b:Int):(Ty.mk a b).args=a:=rfl
theorem Ty.KM (a:List Ty) (b:Int):(Ty.mk a b).base=b:=rfl
theorem Ty.eta (t:Ty):Ty.mk t.args t.base=t:=by cases t;rfl
theorem Ty.Cr (l:List Ty):Ty.Cq l=l.map Ty.enc:=by
 induction l with
 |nil=>rfl
 |cons t l ih=>simp[Ty.Cq,ih]
theorem Ty.aC (t:Ty):t.enc=.agg [.sl (t.args.map Ty.enc),nI t.base]:=by cases t;simp[Ty.enc,Ty.Cr,Ty.args,Ty.base]
theorem Ty.dD (l:List Ty) (b:Int):(Ty.mk l b).enc=.agg [.sl (l.map Ty.enc),nI b]:=Ty.aC _
theorem Ty.aq {l:List Ty} {k:Nat} (h:k<l.length):List.getD (l.map Ty.enc) (Int.toNat (k:Int)) .top=.agg [.sl (l[k].args.map Ty.enc),nI l[k].base]:=by rw[getD_map h,Ty.aC]
theorem Ty.size_eq (t:Ty):t.size=1+Ty.sizes t.args:=by cases t;rfl
theorem Ty.size_pos (t:Ty):1<=t.size:=by rw[t.size_eq];omega
theorem Ty.aw (l:List Ty):l.length<=Ty.sizes l:=by
 induction l with
 |nil=>simp[Ty.sizes]
 |cons t l ih=>have:=t.size_pos;simp[Ty.sizes];omega
theorem Ty.bQ (l m:List Ty):Ty.sizes (l++m)=Ty.sizes l+Ty.sizes m:=by
 induction l with
 |nil=>simp[Ty.sizes]
 |cons t l ih=>simp[Ty.sizes,ih];omega
theorem Ty.aK {l:List Ty} {t:Ty} (h:t∈l):t.size<=Ty.sizes l:=by
 induction l with
 |nil=>cases h
 |cons u l ih=>
  simp only[Ty.sizes];rcases al6.1 h with rfl|h1
  ·omega
  ·have:=ih h1;omega
theorem Ty.bY {t:Ty} {k:Nat} (h:k<t.args.length):t.args[k].size<t.size:=by
 have:=Ty.aK (alG h);rw[t.size_eq];omega
theorem Ty.wq (t:Ty):t.enc.cells.length=2:=by cases t;rfl
theorem Ty.eN {l:List Ty}:∀x:AV,x∈l.map Ty.enc->x.cells.length=2:=by
 intro x h;obtain⟨t,_,rfl⟩:=amz.1 h;exact t.wq
theorem Ty.fm (l:List Ty) (t:Ty):l.map Ty.enc++[.agg [.sl (t.args.map Ty.enc),nI t.base]]=(l++[t]).map Ty.enc:=by rw[<-Ty.aC];simp
mutual
def Ty.same:Ty->Ty->Bool
 | .mk l a,.mk m b=>(a==b)&&Ty.bA l m
def Ty.bA:List Ty->List Ty->Bool
 | [],[]=>true
 |t::l,u::m=>Ty.same t u&&Ty.bA l m
 |_,_=>false
end
theorem Ty.sH (t u:Ty):Ty.same t u=((t.base==u.base)&&Ty.bA t.args u.args):=by cases t;cases u;simp[Ty.same,Ty.base,Ty.args]
theorem Ty.iG {l m:List Ty} {k:Nat} (h1:k<l.length) (h2:k<m.length):Ty.bA (l.drop k) (m.drop k)=(Ty.same l[k] m[k]&&Ty.bA (l.drop (k+1)) (m.drop (k+1))):=by
 rw[alC h1,alC h2,Ty.bA]
theorem Ty.iH {l m:List Ty} (h:¬l.length=m.length):Ty.bA l m=false:=by
 induction l generalizing m with
 |nil=>cases m with
  |nil=>exact(h rfl).elim
  |cons=>simp[Ty.bA]
 |cons t l ih=>cases m with
  |nil=>simp[Ty.bA]
  |cons u m=>simp[Ty.bA,ih (m:=m) (by simpa using h)]
mutual
theorem Ty.fo:∀(t u:Ty),Ty.same t u=true↔t=u
 | .mk l a,.mk m b=>by rw[Ty.same,alB,beq_iff_eq,Ty.gC l m];simp only[Ty.mk.injEq];exact⟨fun h=>⟨h.2,h.1⟩,fun h=>⟨h.2,h.1⟩⟩
theorem Ty.gC:∀(l m:List Ty),Ty.bA l m=true↔l=m
 | [],[]=>by simp[Ty.bA]
 | [],_::_=>by simp[Ty.bA]
 |_::_,[]=>by simp[Ty.bA]
 |t::l,u::m=>by rw[Ty.bA,alB,Ty.fo t u,Ty.gC l m];simp
end
inductive Tm where
 |mk (binds:List Ty) (kind index:Int) (args:List Tm)
mutual
def Tm.enc:Tm->AV
 | .mk b k i a=>.agg [.sl (b.map Ty.enc),nI k,nI i,.sl (Tm.Cq a)]
def Tm.Cq:List Tm->List AV
 | []=>[]
 |t::l=>Tm.enc t::Tm.Cq l
end
mutual
def Tm.size:Tm->Nat
 | .mk b _ _ a=>1+Ty.sizes b+Tm.sizes a
def Tm.sizes:List Tm->Nat
 | []=>0
 |t::l=>Tm.size t+Tm.sizes l
end
def Tm.binds:Tm->List Ty | .mk b _ _ _=>b
def Tm.kind:Tm->Int | .mk _ k _ _=>k
def Tm.index:Tm->Int | .mk _ _ i _=>i
def Tm.args:Tm->List Tm | .mk _ _ _ a=>a
theorem Tm.Rp (b:List Ty) (k i:Int) (a:List Tm):(Tm.mk b k i a).binds=b:=rfl
theorem Tm.KN (b:List Ty) (k i:Int) (a:List Tm):(Tm.mk b k i a).kind=k:=rfl
theorem Tm.pT (b:List Ty) (k i:Int) (a:List Tm):(Tm.mk b k i a).args=a:=rfl
theorem Tm.eta (t:Tm):Tm.mk t.binds t.kind t.index t.args=t:=by cases t;rfl
theorem Tm.Cr (l:List Tm):Tm.Cq l=l.map Tm.enc:=by
 induction l with
 |nil=>rfl
 |cons t l ih=>simp[Tm.Cq,ih]
theorem Tm.aC (t:Tm):t.enc=.agg [.sl (t.binds.map Ty.enc),nI t.kind,nI t.index,.sl (t.args.map Tm.enc)]:=by cases t;simp[Tm.enc,Tm.Cr,Tm.binds,Tm.kind,Tm.index,Tm.args]
theorem Tm.dD (b:List Ty) (k i:Int) (a:List Tm):(Tm.mk b k i a).enc=.agg [.sl (b.map Ty.enc),nI k,nI i,.sl (a.map Tm.enc)]:=Tm.aC _
theorem Tm.aq {l:List Tm} {k:Nat} (h:k<l.length):List.getD (l.map Tm.enc) (Int.toNat (k:Int)) .top=.agg [.sl (l[k].binds.map Ty.enc),nI l[k].kind,nI l[k].index,.sl (l[k].args.map Tm.enc)]:=by rw[getD_map h,Tm.aC]
theorem Tm.size_eq (t:Tm):t.size=1+Ty.sizes t.binds+Tm.sizes t.args:=by cases t;rfl
theorem Tm.size_pos (t:Tm):1<=t.size:=by rw[t.size_eq];omega
theorem Tm.aw (l:List Tm):l.length<=Tm.sizes l:=by
 induction l with
 |nil=>simp[Tm.sizes]
 |cons t l ih=>have:=t.size_pos;simp[Tm.sizes];omega
theorem Tm.bQ (l m:List Tm):Tm.sizes (l++m)=Tm.sizes l+Tm.sizes m:=by
 induction l with
 |nil=>simp[Tm.sizes]
 |cons t l ih=>simp[Tm.sizes,ih];omega
theorem Tm.aK {l:List Tm} {t:Tm} (h:t∈l):t.size<=Tm.sizes l:=by
 induction l with
 |nil=>cases h
 |cons u l ih=>
  simp only[Tm.sizes];rcases al6.1 h with rfl|h1
  ·omega
  ·have:=ih h1;omega
theorem Tm.bY {t:Tm} {k:Nat} (h:k<t.args.length):t.args[k].size<t.size:=by
 have:=Tm.aK (alG h);rw[t.size_eq];omega
theorem Tm.wq (t:Tm):t.enc.cells.length=4:=by cases t;rfl
theorem Tm.eN {l:List Tm}:∀x:AV,x∈l.map Tm.enc->x.cells.length=4:=by
 intro x h;obtain⟨t,_,rfl⟩:=amz.1 h;exact t.wq
theorem Tm.fm (l:List Tm) (t:Tm):l.map Tm.enc++[.agg [.sl (t.binds.map Ty.enc),nI t.kind,nI t.index,.sl (t.args.map Tm.enc)]]=(l++[t]).map Tm.enc:=by rw[<-Tm.aC];simp
theorem cY {α:Type} {l:List α} {k:Nat} (h:k<l.length):l.take k++[l[k]]=l.take (k+1):=by rw[alL h]
theorem Fz {l:List Int} (bN:l.length<=1000000000):ag Tryz.prog 199 [.sl (ai l)] (.sl (ai l)):=by
 refine OT fun b hb=>ah.intro (fun h=>?_) fun h=>?_
 ·have:ai l=[]:=am0 fun hn=>by rw[hb hn] at h;cases h
  rw[this]
 ·exact⟨fun _=>rfl,cg cC (by simp[dM];omega) (by decide),rfl,by simp⟩
theorem Ib {l:List Int}:ag Tryz.prog 200 [.sl (ai l)] (.clip (ai l)):=by
 refine Pure.of_heap (OU ⟨⟨by omega,by omega,rfl,by omega,cC⟩,rfl,?_⟩);simp
theorem q7 (t:Tm):ag Tryz.prog 181 [t.enc] (nB (t.kind==2)):=by
 rw[Tm.aC];exact OQ rfl
theorem ig {l m:List Ty} (bN:l.length<=1000000000) (ih:∀(k:Nat) (h1:k<l.length) (h2:k<m.length),ag Tryz.prog 138 [l[k].enc,m[k].enc] (nB (Ty.same l[k] m[k]))):
  ag Tryz.prog 137 [.sl (l.map Ty.enc),.sl (m.map Ty.enc),.aY 138 []] (nB (Ty.bA l m)):=by
 refine OW (ah.intro (fun h=>?_) fun h=>?_)
 ·have:¬l.length=m.length:=by simp at h;omega
  rw[Ty.iH this]
 ·have hlm:l.length=m.length:=by simp at h;omega
  refine av.intro (fun k:Nat=>((m.map Ty.enc,(),l.map Ty.enc,(l.length:Int),(k:Int),()),())) (fun k=>k<=l.length/\Ty.bA l m=Ty.bA (l.drop k) (m.drop k)) (fun k=>l.length-k) 0 (by rw[alv];rfl) ⟨alE _,rfl⟩ ?_;intro k ⟨hk,hs⟩ again bw;dsimp only;rw[alv,alv];refine ah.intro (fun h=>?_) fun h=>?_
  ·have ak:k<l.length:=by simpa using h
   rw[Ty.iG ak (by omega)] at hs;have hi:=ih k ak (by omega);rw[Ty.aC,Ty.aC] at hi;refine⟨by omega,by omega,_,_,Ty.aq ak,by omega,by omega,_,_,Ty.aq (by omega),_,hi,ah.intro (fun h=>?_) fun h=>?_⟩
   ·have:Ty.same l[k] m[k]=false:=by simpa using h
    rw[hs,this,alP]
   ·have he:Ty.same l[k] m[k]=true:=by simpa using h
    rw[he,alN] at hs;rw[aA (by omega)];exact bw (k+1) ⟨by omega,hs⟩ (by omega)
  ·have:l.length<=k:=by simpa using h
   rw[alD this,alD (by omega)] at hs;rw[hs];rfl
theorem ld:∀(n:Nat) (t u:Ty),t.size<=n->n<=1000000000->ag Tryz.prog 138 [t.enc,u.enc] (nB (Ty.same t u)):=by
 intro n
 induction n with
 |zero=>intro t u h;have:=t.size_pos;omega
 |succ n ih=>
  intro t u h hn;have hq:=Ty.aw t.args;have pU:=t.size_eq;have he:=ig (l:=t.args) (m:=u.args) (by omega) (fun k h1 h2=>ih _ _ (by have:=Ty.bY h1;omega) (by omega));rw[Ty.aC,Ty.aC,Ty.sH];refine OX (ah.intro (fun h=>?_) fun h=>?_)
  ·exact⟨_,he,by rw[h,alN]⟩
  ·rw[h,alP]
theorem nu:∀(n:Nat) (t:Ty),t.size<=n->n<=1000000000->ag Tryz.prog 72 [t.enc] t.enc:=by
 intro n
 induction n with
 |zero=>intro t h;have:=t.size_pos;omega
 |succ n ih=>
  intro t h hn;have hq:=Ty.aw t.args;have pU:=t.size_eq;rw[Ty.aC];refine TM ⟨rfl,?_⟩;refine av.intro (fun k:Nat=>(((),(),t.args.map Ty.enc,(t.args.length:Int),(k:Int),()),((t.args.map Ty.enc,t.base,()),((),0,()),((),t.base,()),(t.args.take k).map Ty.enc,())))
   (fun k=>k<=t.args.length) (fun k=>t.args.length-k) 0 (by rw[alv];rfl) (alE _) ?_
  intro k hk again bw;dsimp only;rw[alv];refine ah.intro (fun h=>?_) fun h=>?_
  ·have ak:k<t.args.length:=by simpa using h
   have hi:=ih t.args[k] (by have:=Ty.bY ak;omega) (by omega);rw[Ty.aC] at hi;refine⟨by omega,by omega,_,_,Ty.aq ak,_,_,hi,rfl,bc rfl (by simp;omega) (by decide),rfl,?_⟩;rw[aA (by omega),Ty.fm,cY ak];exact bw (k+1) (by omega) (by omega)
  ·have:t.args.length<=k:=by simpa using h
   refine⟨rfl,?_⟩;rw[alI this]
theorem Ic {n:Nat} (hn:n<=1000000000):
  bH Tryz.prog 176 [.ae (.slice none 0 0),nI (n:Nat)] [] (fun r q=>if n=0 then r=.ae (.slice none 0 0)/\q=[] else r=.own 0 0/\q=[.row 88 2 []]):=by
 have e:IntKind.wrap .i64 ((n:Int)-IntKind.wrap .i64 (0-((List.length ([]:List AV):Nat):Int)))=(n:Int):=by
  rw[show IntKind.wrap .i64 (0-((List.length ([]:List AV):Nat):Int))=0 from by decide,Int.sub_zero,bV (by omega) (by omega)]
 refine O6 (ah.neg (decide_eq_false (by omega)) ?_);rw[e,amA];refine ah.intro (fun h=>⟨⟨of_decide_eq_true h,by simp only[maxLen];omega,?_⟩,?_⟩) fun h=>?_
 ·have:TD.bytes BS<=1000:=by decide
  have h2:n*TD.bytes BS<=n*1000:=Nat.mul_le_mul_left _ this;omega
 ·have:=of_decide_eq_true h;dsimp only;rw[if_neg (by omega)];exact⟨rfl,rfl⟩
 ·have:=of_decide_eq_false h;dsimp only;rw[if_pos (by omega)];exact⟨rfl,rfl⟩
def eZ (ll:List (List Ty)):List AV:=ll.map fun l=>.sl (l.map Ty.enc)
theorem sI {ll:List (List Ty)} {k:Nat} (h:k<ll.length):List.getD (eZ ll) (Int.toNat (k:Int)) .top=.sl (ll[k].map Ty.enc):=by
 simp[eZ,List.getD,h]
theorem uY (ll:List (List Ty)):(eZ ll).length=ll.length:=by simp[eZ]
theorem Ap {ll:List (List Ty)} {k:Nat} (h:k<ll.length):(ll.take (k+1)).flatten=(ll.take k).flatten++ll[k]:=by
 rw[alL h,List.flatten_append,List.flatten_singleton]
theorem nv (ll:List (List Ty)) (k:Nat):(ll.take k).flatten.length<=ll.flatten.length:=by
 have h:ll.flatten=(ll.take k).flatten++(ll.drop k).flatten:=by rw[<-List.flatten_append,amk]
 rw[h,alz];omega
theorem zo {l:List Ty} {x:AV} (h:x∈l.map Ty.enc):x.cells.length=2:=by
 obtain⟨t,_,rfl⟩:=amz.1 h;exact t.wq
theorem jI {ll:List (List Ty)} (h0:ll.length<=1000000000) (hn:ll.flatten.length<=1000000000):
  ag Tryz.prog 141 [.sl (eZ ll)] (.sl (ll.flatten.map Ty.enc)):=by
 refine O5 ?_;refine av.intro (fun k:Nat=>((eZ ll,((ll.take k).flatten.length:Nat),eZ ll,((eZ ll).length:Int),(k:Int),()),())) (fun k=>k<=ll.length) (fun k=>ll.length-k) 0 rfl (alE _) ?_;intro k hk again bw;dsimp only;have hle:=nv ll k;unfold EM;rw[uY] at *;refine ah.intro (fun h=>?_) fun h=>?_
 ·have ak:k<ll.length:=by simpa using h
  have qg:=nv ll (k+1);have bS:=bw (k+1) (by omega) (by omega);rw[Ap ak,alz] at qg bS;refine⟨by omega,by omega,_,sI ak,?_⟩;rw[alv,bV (n:=(((ll.take k).flatten.length:Nat):Int)+_) (by omega) (by omega),aA (by omega)];exact ah.neg (decide_eq_false (by omega)) bS
 ·have tB:ll.length<=k:=by simpa using h
  clear bw;rw[alI tB]
  suffices hL:tY (((),eZ ll,(ll.length:Int),0,()),([],())) (fun r=>r=.sl (ll.flatten.map Ty.enc)) from
   ⟨_,Ic hn,fun r q hq=>by
    by_cases hz:ll.flatten.length=0
    ·rw[if_pos hz] at hq;exact .inr ⟨hq,rfl,hL⟩
    ·rw[if_neg hz] at hq;exact .inl ⟨[],hq,rfl,hL⟩⟩
  refine av.intro (fun k:Nat=>(((),eZ ll,(ll.length:Int),(k:Int),()),((ll.take k).flatten.map Ty.enc,()))) (fun k=>k<=ll.length) (fun k=>ll.length-k) 0 rfl (alE _) ?_;intro j hj ua xU;dsimp only;have qg:=nv ll (j+1);unfold Ak;refine ah.intro (fun h=>?_) fun h=>?_
  ·have ak:j<ll.length:=by simpa using h
   have bS:=xU (j+1) (by omega) (by omega);rw[Ap ak] at qg bS;rw[ama] at bS;rw[alz] at qg;refine⟨by omega,by rw[uY];omega,_,sI ak,rfl,cg (fun x hx=>zo hx) (by rw[alz,alv,alv];omega) (by decide),rfl,?_⟩;rw[aA (by omega)];exact bS
  ·have tB:ll.length<=j:=by simpa using h
   exact⟨rfl,by rw[alI tB]⟩
def Ty.arrow (t:Ty) (l:List Ty):Ty:=.mk (l++t.args) t.base
theorem jd {t:Ty} {l:List Ty} (h:Ty.sizes l+t.size<=1000000000):ag Tryz.prog 132 [t.enc,.sl (l.map Ty.enc)] (t.arrow l).enc:=by
 have hl:=Ty.aw l;have qg:=Ty.aw t.args;have hs:=t.size_eq;have MT:=jI (ll:=[l,t.args]) (by simp) (by simp;omega);have Js:=nu _ (.mk (l++t.args) t.base) (alA _) (by simp only[Ty.size,Ty.bQ];omega);simp only[eZ,al3,aml,List.flatten_cons,List.flatten_nil,alV] at MT;rw[Ty.dD] at Js;rw[Ty.arrow,Ty.dD,Ty.aC t];exact OS ⟨_,MT,_,_,Js,rfl⟩
mutual
def Tm.var:Tm->Option (Int×Int)
 | .mk b k i a=>if a.length=b.length/\¬(k=0/\i<b.length) then(if Tm.dW b.length 0 b a=true then some (k,if k=0 then IntKind.wrap .i64 (i-b.length) else i) else none) else none
def Tm.dW (n:Nat):Nat->List Ty->List Tm->Bool
 |k,t::b,a::l=>(match Tm.var a with
  |some (q,j)=>q==0&&j==(n:Int)-1-k&&Ty.bA a.binds t.args
  |none=>false)&&Tm.dW n (k+1) b l
 |_,_,_=>true
end
def o8:Option (Int×Int)->AV
 |some (k,i)=>.aL [.agg [nI k,nI i],nB true]
 |none=>.aL [.agg [nI 0,nI 0],nB false]
theorem Tm.var_eq (t:Tm):Tm.var t=if t.args.length=t.binds.length/\¬(t.kind=0/\t.index<t.binds.length) then(if Tm.dW t.binds.length 0 t.binds t.args=true then some (t.kind,if t.kind=0 then IntKind.wrap .i64 (t.index-t.binds.length) else t.index) else none) else none:=by
 cases t;rw[Tm.var];rfl
theorem Tm.Cs {n:Nat} {b:List Ty} {a:List Tm} {k:Nat} (h1:k<b.length) (h2:k<a.length):Tm.dW n k (b.drop k) (a.drop k)=((match Tm.var a[k] with
  |some (q,j)=>q==0&&j==(n:Int)-1-k&&Ty.bA a[k].binds b[k].args
  |none=>false)&&Tm.dW n (k+1) (b.drop (k+1)) (a.drop (k+1))):=by
 rw[alC h1,alC h2,Tm.dW]
theorem L3:∀(n:Nat) (t:Tm),t.size<=n->n<=1000000000->ag Tryz.prog 220 [t.enc] (o8 t.var):=by
 intro n
 induction n with
 |zero=>intro t h;have:=t.size_pos;omega
 |succ n ih=>
  intro t h hn;have hq:=Tm.aw t.args;have M4:=Ty.aw t.binds;have pU:=t.size_eq;rw[Tm.var_eq,Tm.aC];have loop:t.args.length=t.binds.length->¬(t.kind=0/\t.index<t.binds.length)->xH (((),(),((List.length (t.binds.map Ty.enc):Nat):Int),(),t.args.map Tm.enc,((List.length (t.args.map Tm.enc):Nat):Int),0,()),((t.binds.map Ty.enc,t.kind,t.index,t.args.map Tm.enc,()),(0,0,()),(t.kind,t.index,()),())) (fun x=>x=o8 (if t.args.length=t.binds.length/\¬(t.kind=0/\t.index<t.binds.length) then(if Tm.dW t.binds.length 0 t.binds t.args=true then some (t.kind,if t.kind=0 then IntKind.wrap .i64 (t.index-t.binds.length) else t.index) else none) else none)):=by
   intro hlen hk;rw[if_pos ⟨hlen,hk⟩];refine av.intro (fun k:Nat=>(((),(),(t.binds.length:Int),(),t.args.map Tm.enc,(t.args.length:Int),(k:Int),()),((t.binds.map Ty.enc,t.kind,t.index,t.args.map Tm.enc,()),(0,0,()),(t.kind,t.index,()),())))
    (fun k=>k<=t.args.length/\Tm.dW t.binds.length 0 t.binds t.args=Tm.dW t.binds.length k (t.binds.drop k) (t.args.drop k)) (fun k=>t.args.length-k) 0 (by rw[alv,alv];rfl) ⟨alE _,rfl⟩ ?_
   intro k ⟨gK,hs⟩ again bw;dsimp only;refine ah.intro (fun h=>?_) fun h=>?_
   ·have ak:k<t.args.length:=by simpa using h
    rw[Tm.Cs (by omega) ak] at hs;have hi:=ih t.args[k] (by have:=Tm.bY ak;omega) (by omega);have hbs:=Ty.aw t.args[k].binds;have hbz:=t.args[k].size_eq;have iN:=Tm.bY ak;have he:=ig (l:=t.args[k].binds) (m:=(t.binds[k]'(by omega)).args) (by omega) (fun j h1 h2=>ld _ _ _ (alA _) (by have:=Ty.aK (alG h1);omega));rw[Tm.aC] at hi;refine⟨by omega,by rw[alv];omega,_,_,_,_,Tm.aq ak,?_⟩
    cases hv:t.args[k].var with
    |none=>
     rw[hv] at hi hs;refine⟨_,_,_,hi,ah.pos rfl ?_⟩;rw[hs];simp[o8]
    |some p=>
     obtain⟨q,j⟩:=p;rw[hv] at hi hs;refine⟨_,_,_,hi,ah.neg rfl ?_⟩;rw[bV (n:=(t.binds.length:Int)-1) (by omega) (by omega),bV (by omega) (by omega)];dsimp only at hs;refine ah.intro (fun h=>?_) fun h=>?_
     ·have:(q==0&&j==(t.binds.length:Int)-1-k)=false:=by rw[ame] at h;exact h
      rw[hs,this];simp[o8]
     ·have:(q==0&&j==(t.binds.length:Int)-1-k)=true:=by rw[amL] at h;exact h
      rw[this,alN] at hs;refine⟨by omega,by rw[alv];omega,_,_,Ty.aq (by omega),_,he,ah.intro (fun h=>?_) fun h=>?_⟩
      ·have:Ty.bA t.args[k].binds (t.binds[k]'(by omega)).args=false:=by simpa using h
       rw[hs,this];simp[o8]
      ·have:Ty.bA t.args[k].binds (t.binds[k]'(by omega)).args=true:=by simpa using h
       rw[this,alN] at hs;rw[aA (by omega)];exact bw (k+1) ⟨by omega,hs⟩ (by omega)
   ·have:t.args.length<=k:=by simpa using h
    have Tx:Tm.dW t.binds.length k [] []=true:=by simp[Tm.dW]
    rw[alD this,alD (by omega),Tx] at hs;rw[if_pos hs];refine ah.intro (fun h=>?_) fun h=>?_
    ·have h0:t.kind=0:=by simpa using h
     rw[if_pos h0];rfl
    ·have h0:¬t.kind=0:=by simpa using h
     rw[if_neg h0];rfl
  refine OY (ah.intro (fun h=>?_) fun h=>?_)
  ·have:¬t.args.length=t.binds.length:=by simp at h;omega
   rw[if_neg (fun h=>this h.1)];rfl
  ·have hlen:t.args.length=t.binds.length:=by simp at h;omega
   refine ah.intro (fun h=>?_) fun h=>?_
   ·have h0:t.kind=0:=by simpa using h
    refine ah.intro (fun h=>?_) fun h=>?_
    ·have:t.index<t.binds.length:=by simpa using h
     rw[if_neg (fun h=>h.2 ⟨h0,this⟩)];rfl
    ·exact loop hlen fun h1=>by simp at h;omega
   ·exact loop hlen fun h1=>by simp at h;exact h h1.1
theorem FA (i:Int):ag Tryz.prog 82 [nI i] (nI i):=TP rfl
def jm (i:Int):Prop := -9223372036854775808<=i/\i<9223372036854775808
mutual
def Tm.Ok:Tm->Prop
 | .mk _ k i a=>jm k/\jm i/\Tm.L4 a
def Tm.L4:List Tm->Prop
 | []=>True
 |t::l=>Tm.Ok t/\Tm.L4 l
end
theorem Tm.jJ {l:List Tm} (h:Tm.L4 l) {t:Tm} (ht:t∈l):t.Ok:=by
 induction l with
 |nil=>cases ht
 |cons u l ih=>
  obtain⟨h1,h2⟩:=h;rcases al6.1 ht with rfl|h3
  ·exact h1
  ·exact ih h2 h3
theorem Tm.ok_eq {t:Tm} (h:t.Ok):jm t.kind/\jm t.index/\Tm.L4 t.args:=by cases t;exact h
theorem zp:∀(n:Nat) (t:Tm) (a:Nat),t.size<=n->n<=1000000000->t.Ok->a+t.size<=2000000000->ag Tryz.prog 81 [t.enc,nI a,.aY 82 []] t.enc:=by
 intro n
 induction n with
 |zero=>intro t a h;have:=t.size_pos;omega
 |succ n ih=>
  intro t a h hn hk ha;have hq:=Tm.aw t.args;have M4:=Ty.aw t.binds;have pU:=t.size_eq;obtain⟨gK,oX,XJ⟩:=Tm.ok_eq hk;have gG:=jd (t:=.mk [] 0) (l:=t.binds) (by simp[Ty.size,Ty.sizes];omega);rw[Ty.arrow,Ty.pT,Ty.KM,alV,Ty.dD,Ty.dD,aml] at gG;have hw:IntKind.wrap .i64 ((a:Int)+((List.length (t.binds.map Ty.enc):Nat):Int))=((a+t.binds.length:Nat):Int):=by rw[alv,bV (by omega) (by omega)];omega
  have loop:wj ((((a+t.binds.length:Nat):Int),(),(),(),t.args.map Tm.enc,((List.length (t.args.map Tm.enc):Nat):Int),0,()),((t.binds.map Ty.enc,t.kind,t.index,t.args.map Tm.enc,()),((),0,0,(),()),(t.binds.map Ty.enc,t.kind,t.index,(),()),[],())) (fun x=>x=t.enc):=by
   refine av.intro (fun k:Nat=>((((a+t.binds.length:Nat):Int),(),(),(),t.args.map Tm.enc,(t.args.length:Int),(k:Int),()),((t.binds.map Ty.enc,t.kind,t.index,t.args.map Tm.enc,()),((),0,0,(),()),(t.binds.map Ty.enc,t.kind,t.index,(),()),(t.args.take k).map Tm.enc,())))
    (fun k=>k<=t.args.length) (fun k=>t.args.length-k) 0 (by rw[alv];rfl) (alE _) ?_
   intro k hk again bw;dsimp only;refine ah.intro (fun h=>?_) fun h=>?_
   ·have ak:k<t.args.length:=by simpa using h
    have hz:=Tm.bY ak;have hi:=ih t.args[k] (a+t.binds.length) (by omega) (by omega) (Tm.jJ XJ (alG ak)) (by have:=Tm.aK (alG ak);omega);rw[Tm.aC] at hi;refine⟨by omega,by rw[alv];omega,_,_,_,_,Tm.aq ak,_,_,_,_,hi,rfl,bc rfl (by simp;omega) (by decide),rfl,?_⟩;rw[aA (by omega),Tm.fm,cY ak];exact bw (k+1) (by omega) (by omega)
   ·have:t.args.length<=k:=by simpa using h
    refine⟨rfl,?_⟩;rw[alI this,<-Tm.aC]
  rw[Tm.aC];rw[Tm.aC] at loop;refine TN ⟨_,_,gG,?_⟩;rw[hw];refine ah.intro (fun h=>?_) fun h=>⟨rfl,loop⟩;refine ah.intro (fun h=>?_) fun h=>⟨rfl,loop⟩;have tB:((a+t.binds.length:Nat):Int)<=t.index:=by simpa using h
  refine⟨_,FA _,rfl,?_⟩;unfold jm at oX;rw[bV (n:=t.index-((a+t.binds.length:Nat):Int)) (by omega) (by omega),show ((a+t.binds.length:Nat):Int)+(t.index-((a+t.binds.length:Nat):Int))=t.index from by omega,bV oX.1 oX.2];exact loop
theorem Ie {t:Tm} (h:t.size<=1000000000) (hk:t.Ok):ag Tryz.prog 47 [t.enc] t.enc:=by
 have:=zp _ t 0 (alA _) h hk (by omega);rw[Tm.aC] at this ⊢;exact TQ ⟨_,_,_,_,this,rfl⟩
theorem FB {l:List (Int×Value)} {i v:Int} {x:Value} (h:aM l v=none):aM (bU l v x) i=if i=v then some x else aM l i:=by
 induction l with
 |nil=>rfl
 |cons p l ih=>
  obtain⟨k,u⟩:=p;simp only[aM] at h;split at h
  ·cases h
  ·rename_i hk;simp only[bU,if_neg hk,aM,ih h]
   by_cases h1:i=k
   ·subst h1;rw[if_pos rfl,if_neg (fun e=>hk e.symm),if_pos rfl]
   ·rw[if_neg h1,if_neg h1]
def ek (n:Int):List Int->List Tm->Option (List Int)
 |acc,[]=>some acc
 |acc,a::l=>match a.var with
  |some (k,i)=>if k=0/\i<n/\¬i∈acc then ek n (acc++[i]) l else none
  |none=>none
def Tm.vars (t:Tm) (n:Int):List Int×Int:=
 if t.kind=2/\0<=n then(match ek n [] t.args with
  |some l=>(l,0)
  |none=>([],6)) else([],1)
def Rq (p:List Int×Int):AV:=.aL [.sl (ai p.1),nI p.2]
def Ct (es:List (Int×Value)) (l:List Int):Prop:=∀i,aM es i=if i∈l then some (.bool true) else none
theorem Ct.put {es:List (Int×Value)} {l:List Int} {i:Int} (h:Ct es l) (hi:¬i∈l):Ct (bU es i (.bool true)) (l++[i]):=by
 intro j;have hn:aM es i=none:=by rw[h i,if_neg hi]
 rw[FB hn,h j]
 by_cases h1:j=i
 ·subst h1;simp
 ·simp[h1]
theorem Ig {t:Tm} {n:Int} (h:t.size<=1000000000):ag Tryz.prog 198 [t.enc,nI n] (Rq (t.vars n)):=by
 have hla:=Tm.aw t.args;have hs:=t.size_eq;have hfc:=q7 t;rw[Tm.aC] at hfc ⊢;refine OZ ⟨_,hfc,ah.intro (fun h=>?_) fun h=>?_⟩
 ·have:¬t.kind=2:=by simpa using h
  rw[Tm.vars,if_neg (fun h=>this h.1)];rfl
 have hk:t.kind=2:=by simpa using h
 refine ah.intro (fun h=>?_) fun h=>⟨rfl,?_⟩
 ·have:n<0:=by simpa using h
  rw[Tm.vars,if_neg (fun h=>by omega)];rfl
 have hn:0<=n:=by simpa using h
 rw[Tm.vars,if_pos ⟨hk,hn⟩];unfold EI;refine av.intro (fun p:Nat×List Int×List (Int×Value)=>((n,(),(),t.args.map Tm.enc,(t.args.length:Int),(p.1:Int),()),((t.binds.map Ty.enc,t.kind,t.index,t.args.map Tm.enc,()),p.2.2,ai p.2.1,())))
  (fun p=>p.1<=t.args.length/\p.2.1.length=p.1/\Ct p.2.2 p.2.1/\ek n [] t.args=ek n p.2.1 (t.args.drop p.1)) (fun p=>t.args.length-p.1) (0,[],[]) (by rw[alv];rfl) ⟨alE _,rfl,fun i=>rfl,rfl⟩ ?_
 intro ⟨k,acc,es⟩ ⟨gK,hl,hse,hv⟩ again bw;dsimp only at gK hl hse hv ⊢;refine ah.intro (fun h=>?_) fun h=>?_
 ·have ak:k<t.args.length:=by simpa using h
  rw[alC ak,ek] at hv;have hz:=Tm.bY ak;have hc:=L3 _ t.args[k] (alA _) (by omega);rw[Tm.aC] at hc;refine⟨by omega,by rw[alv];omega,_,_,_,_,Tm.aq ak,?_⟩
  cases adg:t.args[k].var with
  |none=>
   rw[adg] at hc hv;dsimp only at hv;refine⟨_,_,_,hc,ah.pos rfl ?_⟩;rw[hv];rfl
  |some p=>
   obtain⟨q,i⟩:=p;rw[adg] at hc hv;dsimp only at hv;refine⟨_,_,_,hc,ah.neg rfl ?_⟩;refine ah.intro (fun h=>?_) fun h=>?_
   ·have:¬q=0:=by simpa using h
    rw[hv,if_neg (fun h=>this h.1)];rfl
   have hq:q=0:=by simpa using h
   refine ah.intro (fun h=>?_) fun h=>?_
   ·have:n<=i:=by simpa using h
    rw[hv,if_neg (fun h=>by omega)];rfl
   have hi:i<n:=by simpa using h
   have hg:=hse i
   by_cases hm:i∈acc
   ·rw[if_pos hm] at hg;rw[hg];refine⟨rfl,ah.pos rfl ?_⟩;rw[hv,if_neg (fun h=>h.2.2 hm)];rfl
   ·rw[if_neg hm] at hg;rw[hg];refine⟨rfl,ah.neg rfl ⟨rfl,bc rfl (by simp[dM];omega) (by decide),rfl,?_⟩⟩;rw[if_pos ⟨hq,hi,hm⟩] at hv;rw[aA (by omega),ie];exact bw (k+1,acc++[i],bU es i (.bool true)) ⟨by simp only;omega,by simp[hl],hse.put hm,hv⟩ (by simp only;omega)
 ·have:t.args.length<=k:=by simpa using h
  rw[alD this,ek] at hv;refine⟨rfl,?_⟩;rw[hv];rfl
structure Us where
 adh:Int
 vars:List Int
 binds:List Ty
 path:List Int
def Us.enc (u:Us):AV:=.agg [nI u.adh,.sl (ai u.vars),.sl (u.binds.map Ty.enc),.sl (ai u.path)]
mutual
def Tm.uses (aI:List Ty) (path:List Int):Tm->Option (List Us)
 | .mk b k i a=>if k=2 then(match Tm.vars (.mk b k i a) (aI++b).length with
  |(v,e)=>if e=0 then some [⟨i,v,aI++b,path⟩] else none) else Tm.je (aI++b) path 0 a
def Tm.je (aI:List Ty) (path:List Int) (n:Nat):List Tm->Option (List Us)
 | []=>some []
 |t::l=>(match Tm.uses aI (path++[(n:Int)]) t with
  |some u=>(match Tm.je aI path (n+1) l with
   |some us=>some (u++us)
   |none=>none)
  |none=>none)
end
theorem Tm.KO (aI:List Ty) (path:List Int) (t:Tm):Tm.uses aI path t=if t.kind=2 then(match t.vars (aI++t.binds).length with
  |(v,e)=>if e=0 then some [⟨t.index,v,aI++t.binds,path⟩] else none) else Tm.je (aI++t.binds) path 0 t.args:=by
 cases t;rw[Tm.uses];rfl
theorem Tm.Ih {aI:List Ty} {path:List Int} {l:List Tm} {k:Nat} (h:k<l.length):Tm.je aI path k (l.drop k)=(match Tm.uses aI (path++[(k:Int)]) l[k] with
  |some u=>(match Tm.je aI path (k+1) (l.drop (k+1)) with
   |some us=>some (u++us)
   |none=>none)
  |none=>none):=by
 rw[alC h,Tm.je]
mutual
theorem Tm.FC:∀{t:Tm} {aI:List Ty} {path:List Int} {u:List Us},Tm.uses aI path t=some u->u.length<=t.size
 | .mk b k i a,aI,path,u,h=>by
  rw[Tm.uses] at h;split at h
  ·dsimp only at h;split at h
   ·cases h;simp[Tm.size];omega
   ·cases h
  ·have:=Tm.Aq h;simp[Tm.size];omega
theorem Tm.Aq:∀{l:List Tm} {aI:List Ty} {path:List Int} {n:Nat} {u:List Us},Tm.je aI path n l=some u->u.length<=Tm.sizes l
 | [],_,_,_,u,h=>by rw[Tm.je] at h;cases h;simp
 |t::l,aI,path,n,u,h=>by
  rw[Tm.je] at h;split at h
  ·rename_i u1 h1;split at h
   ·rename_i u2 h2;cases h;have:=Tm.FC h1;have:=Tm.Aq h2;simp[Tm.sizes];omega
   ·cases h
  ·cases h
end
theorem Tm.Rr {t:Tm} {n:Int} (hk:t.kind=2) (hn:0<=n):(t.vars n).2=0\/t.vars n=([],6):=by
 rw[Tm.vars,if_pos ⟨hk,hn⟩];split
 ·exact .inl rfl
 ·exact .inr rfl
theorem Ii:∀(d:Nat) (t:Tm) (us:List Us) (aI:List Ty) (path:List Int),t.size<=d->d<=100000000->us.length+t.size<=200000000->Ty.sizes aI+t.size<=200000000->path.length+t.size<=200000000->
  bH Tryz.prog 186 [.own 0 (us.map Us.enc).length,t.enc,.sl (aI.map Ty.enc),.sl (ai path)] [.row 297 4 (us.map Us.enc)]
   (fun r h=>(∃u,Tm.uses aI path t=some u/\r=.aL [.own 0 ((us++u).map Us.enc).length,nI 0]/\h=[.row 297 4 ((us++u).map Us.enc)])\/(Tm.uses aI path t=none/\∃l,r=.aL [.ae (.slice none 0 0),nI 6]/\h=[.row 297 4 l])):=by
 intro d
 induction d with
 |zero=>intro t us aI path h;have:=t.size_pos;omega
 |succ d ih=>
  intro t us aI path hd vJ h1 h2 h3;have hla:=Tm.aw t.args;have MW:=Ty.aw t.binds;have X7:=Ty.aw aI;have hs:=t.size_eq;have DH:=jI (ll:=[aI,t.binds]) (by simp) (by simp;omega);simp only[eZ,al3,aml,List.flatten_cons,List.flatten_nil,alV] at DH;have hfc:=q7 t;have hvc:=Ig (t:=t) (n:=((aI++t.binds).length:Nat)) (by omega);have gG:=jd (t:=.mk [] 0) (l:=aI++t.binds) (by simp[Ty.size,Ty.sizes,Ty.bQ];omega);rw[Ty.arrow,Ty.pT,Ty.KM,alV,Ty.dD,Ty.dD,aml] at gG;rw[Tm.aC] at hfc hvc ⊢;refine O0 ⟨_,DH,_,hfc,ah.intro (fun h=>?_) fun h=>⟨rfl,?_⟩⟩
  ·have hk:t.kind=2:=by simpa using h
   rw[Tm.KO,if_pos hk,alv];refine⟨_,_,hvc,?_⟩;rcases Tm.Rr hk (show (0:Int)<=(((aI++t.binds).length:Nat):Int) by omega) with h0|h0
   ·dsimp only;rw[h0];refine ah.neg rfl ⟨_,_,gG,_,Fz (by omega),rfl,bc rfl (by simp;omega) (by decide),.inl ⟨_,if_pos rfl,?_⟩⟩;simp[Us.enc]
   ·rw[h0];exact ah.pos rfl (.inr ⟨by simp,_,rfl,rfl⟩)
  ·have hk:¬t.kind=2:=by simpa using h
   rw[Tm.KO,if_neg hk];unfold EJ;refine av.intro (fun p:Nat×List Us=>(((),(aI++t.binds).map Ty.enc,ai path,t.args.map Tm.enc,(t.args.length:Int),(p.1:Int),()),((us++p.2).map Us.enc,(t.binds.map Ty.enc,t.kind,t.index,t.args.map Tm.enc,()),())))
    (fun p=>p.1<=t.args.length/\p.2.length<=Tm.sizes (t.args.take p.1)/\Tm.je (aI++t.binds) path 0 t.args=(match Tm.je (aI++t.binds) path p.1 (t.args.drop p.1) with|some u=>some (p.2++u)|none=>none)) (fun p=>t.args.length-p.1) (0,[]) (by rw[alv];simp) ⟨alE _,by simp,by simp only[List.drop_zero,amq];split<;>simp_all⟩ ?_
   intro ⟨k,u0⟩ ⟨gK,hl,hv⟩ again bw;dsimp only at gK hl hv ⊢;refine ah.intro (fun h=>?_) fun h=>?_
   ·have ak:k<t.args.length:=by simpa using h
    have hz:=Tm.bY ak;have bN:Tm.sizes (t.args.take k)+t.args[k].size<=Tm.sizes t.args:=by
     have e:t.args=t.args.take k++t.args[k]::t.args.drop (k+1):=by rw[<-alC ak,amk]
     have e2:Tm.sizes t.args=Tm.sizes (t.args.take k++t.args[k]::t.args.drop (k+1)):=by rw[<-e]
     rw[e2,Tm.bQ,Tm.sizes];omega
    have zP:Tm.sizes (t.args.take (k+1))=Tm.sizes (t.args.take k)+t.args[k].size:=by
     rw[alL ak,Tm.bQ];simp[Tm.sizes]
    rw[Tm.Ih ak] at hv;have hi:=ih t.args[k] (us++u0) (aI++t.binds) (path++[(k:Int)]) (by omega) (by omega) (by simp;omega) (by rw[Ty.bQ];omega) (by simp;omega);rw[Tm.aC] at hi;refine⟨by omega,by rw[alv];omega,_,_,_,_,Tm.aq ak,_,Ib,fun h=>by simp at h,?_⟩;rw[ie];refine⟨xT cC (fun x hx=>by rw[amc.1 hx];rfl) (by rw[dM];simp;omega) (by decide),rfl,_,hi,?_⟩
    rintro r q (⟨u,hu,rfl,rfl⟩|⟨hu,l,rfl,rfl⟩)
    ·left;refine⟨_,⟨rfl,rfl⟩,rfl,?_⟩;have S5:=Tm.FC hu;rw[hu] at hv;rw[aA (by omega),alU];refine bw (k+1,u0++u) ⟨by simp only;omega,by simp;omega,?_⟩ (by simp only;omega);rw[hv];dsimp only
     cases Tm.je (aI++t.binds) path (k+1) (t.args.drop (k+1)) with
     |none=>rfl
     |some v=>simp
    ·right;rw[hu] at hv;exact⟨_,⟨rfl,rfl⟩,.inr ⟨hv,_,rfl,rfl⟩⟩
   ·have:t.args.length<=k:=by simpa using h
    rw[alD this,Tm.je] at hv;left;refine⟨u0,by rw[hv];simp,rfl,rfl⟩
def Cu:Option (List Us)->AV
 |some u=>.aL [.sl (u.map Us.enc),nI 0]
 |none=>.aL [.sl [],nI 6]
theorem Ij {t:Tm} (h:t.size<=100000000):ag Tryz.prog 160 [t.enc] (Cu (t.uses [] [])):=by
 have hu:=Ii _ t [] [] [] (alA _) h (by simp;omega) (by simp[Ty.sizes];omega) (by simp;omega);have hn:=Pure.of_nil (by decide) hu (by rw[Tm.aC];rfl);have hn2:Pure Tryz.prog 186 [.ae (.slice none 0 0),t.enc,.ae (.slice none 0 0),.ae (.slice none 0 0)] (fun x=>x=Cu (t.uses [] [])):=by
  refine Pure.xE (ys:=[.ae (.slice none 0 0),t.enc,.sl [],.sl []]) ⟨dc.refl _,dc.refl _,ic,ic,True.intro⟩ (hn.mono ?_)
  rintro x ⟨r,hp',(⟨u,e1,rfl,rfl⟩|⟨e1,l,rfl,rfl⟩),rfl⟩
  ·rw[e1];simp[Cu,AV.bB,AV.eI,AV.dS,AV.gN]
  ·rw[e1];simp[Cu,AV.bB,AV.eI,AV.dS]
 rw[Tm.aC] at hn2 ⊢;refine O1 ⟨_,hn2,?_⟩
 rintro r rfl
 cases t.uses [] [] with
 |none=>exact⟨_,_,rfl,rfl⟩
 |some u=>exact⟨_,_,rfl,rfl⟩
theorem Rs {t:Tm} (h:t.size<=100000000):ag Tryz.prog 109 [t.enc] (nB (t.uses [] []).isSome):=by
 have hu:=Ij h;rw[Tm.aC] at hu ⊢;refine O2 ?_
 cases hq:t.uses [] [] with
 |none=>rw[hq] at hu;exact⟨_,_,hu,rfl⟩
 |some u=>rw[hq] at hu;exact⟨_,_,hu,rfl⟩
end Go.Proofs.YtdcikhleahfknaaGreatDoor
