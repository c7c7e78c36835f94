/- Lemmas. -/
import Derived.Test.YthnnplohnceogaaGreatDoorQ12
namespace Go.Proofs.YthnnplohnceogaaGreatDoor
open Go
open _root_.List renaming length->ab,getD->ae
open _root_.Int renaming toNat->af
open Go.IntKind renaming wrap->ag
open Go.Proofs.Tryz renaming prog->aj
set_option linter.unusedSimpArgs false
set_option linter.unusedVariables false
theorem ba{n:Int}(h1 : -9223372036854775808<=n)(h2:n<9223372036854775808):ag .i64 n=n:=IntWalk.i64_in _ (by omega)
theorem bc{k:Nat}(h:k<=4000000000):ag .i64 ((k:Int)+1)=((k+1:Nat):Int):=QA (by omega)
theorem ku{d:TD}{n:Nat}{els aL:List AV}(h1:∀x:AV,x∈els->x.cells.length=d.size)(h2:∀x:AV,x∈aL->x.cells.length=d.size)(hn:n<=4000000000)(hb:d.bytes<=1000):bC d n els aL:=by refine⟨h1,h2,?_,?_⟩;simp only[maxLen];omega;have:=avM hn hb;omega
theorem jH{d:TD}{n:Nat}{aL:List AV}(h2:∀x:AV,x∈aL->x.cells.length=d.size)(hn:n<=4000000000)(hb:d.bytes<=1000):bC d n [] aL:=ku (λx hx=>by cases hx) h2 hn hb
theorem bH{d:TD}{n:Nat}{x:AV}(h2:x.cells.length=d.size)(hn:n<=4000000000)(hb:d.bytes<=1000):bC d n [] [x]:=jH (λy hy=>by rw[auD.1 hy];exact h2) hn hb
theorem getD_map{α:Type}{f:α->AV}{l:List α}{k:Nat}(h:k<l.length):ae (l.map f) (af (k:Int)) .top=f l[k]:=by simp[ae,h]
def cN(l:List Int):List AV:=l.map nI
theorem gA(l:List Int):(cN l).length=l.length:=by simp[cN]
theorem pF{l:List Int}{k:Nat}(h:k<l.length):ae (cN l) (af (k:Int)) .top=nI l[k]:=getD_map h
theorem pG(l:List Int)(i:Int):cN l++[nI i]=cN (l++[i]):=by simp[cN]
theorem nL{l:List Int}:∀x:AV,x∈cN l->x.cells.length=1:=by intro x hx;obtain⟨t,_,rfl⟩:=avs.1 hx;rfl
def aj2:List Int->List Int->Bool
 | [],[]=>true|a::l,b::m=>(a==b)&&aj2 l m|_,_=>false
inductive Ty where
 |mk (args:List Ty) (base:Int)
mutual
def Ty.enc:Ty->AV
 | .mk l b=>.agg [.sl (Ty.pH l),nI b]
def Ty.pH:List Ty->List AV
 | []=>[]|t::l=>Ty.enc t::Ty.pH l
end
mutual
def Ty.size:Ty->Nat
 | .mk l _=>1+Ty.sizes l
def Ty.sizes:List Ty->Nat
 | []=>0|t::l=>Ty.size t+Ty.sizes l
end
def Ty.args:Ty->List Ty| .mk l _=>l
def Ty.base:Ty->Int| .mk _ b=>b
theorem Ty.jc(a:List Ty)(b:Int):(Ty.mk a b).args=a:=rfl
theorem Ty.FE(a:List Ty)(b:Int):(Ty.mk a b).base=b:=rfl
theorem Ty.eta(t:Ty):Ty.mk t.args t.base=t:=by cases t;rfl
theorem Ty.pJ(l:List Ty):Ty.pH l=l.map Ty.enc:=by induction l with|nil=>rfl|cons t l ih=>simp[Ty.pH,ih]
theorem Ty.aP(t:Ty):t.enc=.agg [.sl (t.args.map Ty.enc),nI t.base]:=by cases t;simp[Ty.enc,Ty.pJ,Ty.args,Ty.base]
theorem Ty.jI(l:List Ty)(b:Int):(Ty.mk l b).enc=.agg [.sl (l.map Ty.enc),nI b]:=Ty.aP _
theorem Ty.bx{l:List Ty}{k:Nat}(h:k<l.length):ae (l.map Ty.enc) (af (k:Int)) .top=.agg [.sl (l[k].args.map Ty.enc),nI l[k].base]:=by rw[getD_map h,Ty.aP]
theorem Ty.size_eq(t:Ty):t.size=1+Ty.sizes t.args:=by cases t;rfl
theorem Ty.size_pos(t:Ty):1<=t.size:=by rw[t.size_eq];omega
theorem Ty.aZ(l:List Ty):l.length<=Ty.sizes l:=by induction l with|nil=>simp[Ty.sizes]|cons t l ih=>have:=t.size_pos;simp[Ty.sizes];omega
theorem Ty.cO(l m:List Ty):Ty.sizes (l++m)=Ty.sizes l+Ty.sizes m:=by induction l with|nil=>simp[Ty.sizes]|cons t l ih=>simp[Ty.sizes,ih];omega
theorem Ty.dp{l:List Ty}{t:Ty}(h:t∈l):t.size<=Ty.sizes l:=by induction l with|nil=>cases h|cons u l ih=>simp only[Ty.sizes];rcases auJ.1 h with rfl|h1;omega;have:=ih h1;omega
theorem Ty.eR{t:Ty}{k:Nat}(h:k<t.args.length):t.args[k].size<t.size:=by have:=Ty.dp (auz h);rw[t.size_eq];omega
theorem Ty.Pu(t:Ty):t.enc.cells.length=2:=by cases t;rfl
theorem Ty.lN{l:List Ty}:∀x:AV,x∈l.map Ty.enc->x.cells.length=2:=by intro x h;obtain⟨t,_,rfl⟩:=avs.1 h;exact t.Pu
theorem Ty.oF(l:List Ty)(t:Ty):l.map Ty.enc++[.agg [.sl (t.args.map Ty.enc),nI t.base]]=(l++[t]).map Ty.enc:=by rw[<-Ty.aP];simp
mutual
def Ty.same:Ty->Ty->Bool
 | .mk l a,.mk m b=>(a==b)&&Ty.cB l m
def Ty.cB:List Ty->List Ty->Bool
 | [],[]=>true|t::l,u::m=>Ty.same t u&&Ty.cB l m|_,_=>false
end
theorem Ty.FF(t u:Ty):Ty.same t u=((t.base==u.base)&&Ty.cB t.args u.args):=by cases t;cases u;simp[Ty.same,Ty.base,Ty.args]
theorem Ty.tj{l m:List Ty}{k:Nat}(h1:k<l.length)(h2:k<m.length):Ty.cB (l.drop k) (m.drop k)=(Ty.same l[k] m[k]&&Ty.cB (l.drop (k+1)) (m.drop (k+1))):=by rw[auw h1,auw h2,Ty.cB]
theorem Ty.wo{l m:List Ty}(h:¬l.length=m.length):Ty.cB l m=false:=by
 induction l generalizing m with
  |nil=>cases m with|nil=>exact(h rfl).elim|cons=>simp[Ty.cB]
  |cons t l ih=>cases m with|nil=>simp[Ty.cB]|cons u m=>simp[Ty.cB,ih (m:=m) (by simpa using h)]
mutual
theorem Ty.mD:∀(t u:Ty),Ty.same t u=true↔t=u
 | .mk l a,.mk m b=>by rw[Ty.same,auq,beq_iff_eq,Ty.jJ l m];simp only[Ty.mk.injEq];exact⟨λh=>⟨h.2,h.1⟩,λh=>⟨h.2,h.1⟩⟩
theorem Ty.jJ:∀(l m:List Ty),Ty.cB l m=true↔l=m
 | [],[]=>by simp[Ty.cB]| [],_::_=>by simp[Ty.cB]|_::_,[]=>by simp[Ty.cB]|t::l,u::m=>by rw[Ty.cB,auq,Ty.mD t u,Ty.jJ l m];simp
end
inductive Tm where
 |mk (binds:List Ty) (kind index:Int) (args:List Tm)
mutual
def Tm.enc:Tm->AV
 | .mk b k i a=>.agg [.sl (b.map Ty.enc),nI k,nI i,.sl (Tm.pH a)]
def Tm.pH:List Tm->List AV
 | []=>[]|t::l=>Tm.enc t::Tm.pH l
end
mutual
def Tm.size:Tm->Nat
 | .mk b _ _ a=>1+Ty.sizes b+Tm.sizes a
def Tm.sizes:List Tm->Nat
 | []=>0|t::l=>Tm.size t+Tm.sizes l
end
def Tm.binds:Tm->List Ty| .mk b _ _ _=>b
def Tm.kind:Tm->Int| .mk _ k _ _=>k
def Tm.index:Tm->Int| .mk _ _ i _=>i
def Tm.args:Tm->List Tm| .mk _ _ _ a=>a
theorem Tm.uW(b:List Ty)(k i:Int)(a:List Tm):(Tm.mk b k i a).binds=b:=rfl
theorem Tm.FG(b:List Ty)(k i:Int)(a:List Tm):(Tm.mk b k i a).kind=k:=rfl
theorem Tm.A8(b:List Ty)(k i:Int)(a:List Tm):(Tm.mk b k i a).index=i:=rfl
theorem Tm.jc(b:List Ty)(k i:Int)(a:List Tm):(Tm.mk b k i a).args=a:=rfl
theorem Tm.pJ(l:List Tm):Tm.pH l=l.map Tm.enc:=by induction l with|nil=>rfl|cons t l ih=>simp[Tm.pH,ih]
theorem Tm.aP(t:Tm):t.enc=.agg [.sl (t.binds.map Ty.enc),nI t.kind,nI t.index,.sl (t.args.map Tm.enc)]:=by cases t;simp[Tm.enc,Tm.pJ,Tm.binds,Tm.kind,Tm.index,Tm.args]
theorem Tm.jI(b:List Ty)(k i:Int)(a:List Tm):(Tm.mk b k i a).enc=.agg [.sl (b.map Ty.enc),nI k,nI i,.sl (a.map Tm.enc)]:=Tm.aP _
theorem Tm.bx{l:List Tm}{k:Nat}(h:k<l.length):ae (l.map Tm.enc) (af (k:Int)) .top=.agg [.sl (l[k].binds.map Ty.enc),nI l[k].kind,nI l[k].index,.sl (l[k].args.map Tm.enc)]:=by rw[getD_map h,Tm.aP]
theorem Tm.size_eq(t:Tm):t.size=1+Ty.sizes t.binds+Tm.sizes t.args:=by cases t;rfl
theorem Tm.size_pos(t:Tm):1<=t.size:=by rw[t.size_eq];omega
theorem Tm.aZ(l:List Tm):l.length<=Tm.sizes l:=by induction l with|nil=>simp[Tm.sizes]|cons t l ih=>have:=t.size_pos;simp[Tm.sizes];omega
theorem Tm.cO(l m:List Tm):Tm.sizes (l++m)=Tm.sizes l+Tm.sizes m:=by induction l with|nil=>simp[Tm.sizes]|cons t l ih=>simp[Tm.sizes,ih];omega
theorem Tm.dp{l:List Tm}{t:Tm}(h:t∈l):t.size<=Tm.sizes l:=by induction l with|nil=>cases h|cons u l ih=>simp only[Tm.sizes];rcases auJ.1 h with rfl|h1;omega;have:=ih h1;omega
theorem Tm.eR{t:Tm}{k:Nat}(h:k<t.args.length):t.args[k].size<t.size:=by have:=Tm.dp (auz h);rw[t.size_eq];omega
theorem Tm.oF(l:List Tm)(t:Tm):l.map Tm.enc++[.agg [.sl (t.binds.map Ty.enc),nI t.kind,nI t.index,.sl (t.args.map Tm.enc)]]=(l++[t]).map Tm.enc:=by rw[<-Tm.aP];simp
theorem bP{α:Type}{l:List α}{k:Nat}(h:k<l.length):l.take k++[l[k]]=l.take (k+1):=by rw[avi h]
theorem Jn{l:List Int}(cY:l.length<=1000000000):az aj 184 [.sl (cN l)] (.sl (cN l)):=by refine Uz λb hb=>aA.intro (λh=>?_) λh=>?_;(have:cN l=[]:=avY λhn=>by rw[hb hn]at h;cases h);rw[this];exact⟨λ_=>rfl,jH nL (by simp[gA];omega) (by decide),rfl,by simp⟩
theorem Mi{l:List Int}:az aj 185 [.sl (cN l)] (.clip (cN l)):=by refine Pure.of_heap (UA ⟨⟨by omega,by omega,rfl,by omega,nL⟩,rfl,?_⟩);simp
theorem A9(t:Tm):az aj 182 [t.enc] (nB (t.kind==2)):=by rw[Tm.aP];exact Uy rfl
theorem jd{l m:List Ty}(cY:l.length<=1000000000)(ih:∀(k:Nat)(h1:k<l.length)(h2:k<m.length),az aj 23 [l[k].enc,m[k].enc] (nB (Ty.same l[k] m[k]))): az aj 26 [.sl (l.map Ty.enc),.sl (m.map Ty.enc),.bz 23 []] (nB (Ty.cB l m)):=by refine ZT (aA.intro (λh=>?_) λh=>?_);(have:¬l.length=m.length:=by simp at h;omega);rw[Ty.wo this];(have hlm:l.length=m.length:=by simp at h;omega);refine aI.intro (λk:Nat=>((m.map Ty.enc,(),l.map Ty.enc,(l.length:Int),(k:Int),()),())) (λk=>k<=l.length/\Ty.cB l m=Ty.cB (l.drop k) (m.drop k)) (λk=>l.length-k) 0 (by rw[aum];rfl) ⟨auv _,rfl⟩ ?_;intro k ⟨hk,hs⟩ again bQ;dsimp only;rw[aum,aum];refine aA.intro (λh=>?_) λh=>?_;(have aF:k<l.length:=by simpa using h);rw[Ty.tj aF (by omega)]at hs;have hi:=ih k aF (by omega);rw[Ty.aP,Ty.aP]at hi;refine⟨by omega,by omega,_,_,Ty.bx aF,by omega,by omega,_,_,Ty.bx (by omega),_,hi,aA.intro (λh=>?_) λh=>?_⟩;(have:Ty.same l[k] m[k]=false:=by simpa using h);rw[hs,this,avk];(have he:Ty.same l[k] m[k]=true:=by simpa using h);rw[he,au5]at hs;rw[bc (by omega)];exact bQ (k+1) ⟨by omega,hs⟩ (by omega);(have:l.length<=k:=by simpa using h);rw[auH this,auH (by omega)]at hs;rw[hs];rfl
theorem gB:∀(n:Nat)(t u:Ty),t.size<=n->n<=1000000000->az aj 23 [t.enc,u.enc] (nB (Ty.same t u)):=by intro n;induction n with|zero=>intro t u h;have:=t.size_pos;omega|succ n ih=>intro t u h hn;have hq:=Ty.aZ t.args;have Mj:=t.size_eq;have he:=jd (l:=t.args) (m:=u.args) (by omega) (λk h1 h2=>ih _ _ (by have:=Ty.eR h1;omega) (by omega));rw[Ty.aP,Ty.aP,Ty.FF];refine ZU (aA.intro (λh=>?_) λh=>?_);exact⟨_,he,by rw[h,au5]⟩;rw[h,avk]
theorem lx:∀(n:Nat)(t:Ty),t.size<=n->n<=1000000000->az aj 50 [t.enc] t.enc:=by intro n;induction n with|zero=>intro t h;have:=t.size_pos;omega|succ n ih=>intro t h hn;have hq:=Ty.aZ t.args;have Mj:=t.size_eq;rw[Ty.aP];refine ZQ ⟨rfl,?_⟩;refine aI.intro (λk:Nat=>(((),(),t.args.map Ty.enc,(t.args.length:Int),(k:Int),()),((t.args.map Ty.enc,t.base,()),((),0,()),((),t.base,()),(t.args.take k).map Ty.enc,()))) (λk=>k<=t.args.length) (λk=>t.args.length-k) 0 (by rw[aum];rfl) (auv _) ?_;intro k hk again bQ;dsimp only;rw[aum];refine aA.intro (λh=>?_) λh=>?_;(have aF:k<t.args.length:=by simpa using h);have hi:=ih t.args[k] (by have:=Ty.eR aF;omega) (by omega);rw[Ty.aP]at hi;refine⟨by omega,by omega,_,_,Ty.bx aF,_,_,hi,rfl,bH rfl (by simp;omega) (by decide),rfl,?_⟩;rw[bc (by omega),Ty.oF,bP aF];exact bQ (k+1) (by omega) (by omega);(have:t.args.length<=k:=by simpa using h);refine⟨rfl,?_⟩;rw[auE this]
theorem Ml{n:Nat}(hn:n<=1000000000): aY aj 144 [.ay (.slice none 0 0),nI (n:Nat)] [] (λr q=>if n=0 then r=.ay (.slice none 0 0)/\q=[]else r=.own 0 0/\q=[.row 75 2 []]):=by (have e:ag .i64 ((n:Int)-ag .i64 (0-((ab ([]:List AV):Nat):Int)))=(n:Int):=by rw[show ag .i64 (0-((ab ([]:List AV):Nat):Int))=0 from by decide,Int.sub_zero,ba (by omega) (by omega)]);refine UJ (aA.neg (decide_eq_false (by omega)) ?_);rw[e,avp];refine aA.intro (λh=>⟨⟨of_decide_eq_true h,by simp only[maxLen];omega,?_⟩,?_⟩) λh=>?_;(have:TD.bytes sx<=1000:=by decide);have h2:n*TD.bytes sx<=n*1000:=Nat.mul_le_mul_left _ this;omega;have:=of_decide_eq_true h;dsimp only;rw[if_neg (by omega)];exact⟨rfl,rfl⟩;have:=of_decide_eq_false h;dsimp only;rw[if_pos (by omega)];exact⟨rfl,rfl⟩
def ff(ll:List (List Ty)):List AV:=ll.map λl=>.sl (l.map Ty.enc)
theorem uX{ll:List (List Ty)}{k:Nat}(h:k<ll.length):ae (ff ll) (af (k:Int)) .top=.sl (ll[k].map Ty.enc):=by simp[ff,ae,h]
theorem xL(ll:List (List Ty)):(ff ll).length=ll.length:=by simp[ff]
theorem DJ{ll:List (List Ty)}{k:Nat}(h:k<ll.length):(ll.take (k+1)).flatten=(ll.take k).flatten++ll[k]:=by rw[avi h,awb,List.flatten_singleton]
theorem pK(ll:List (List Ty))(k:Nat):(ll.take k).flatten.length<=ll.flatten.length:=by (have h:ll.flatten=(ll.take k).flatten++(ll.drop k).flatten:=by rw[<-awb,avl]);rw[h,aut];omega
theorem CO{l:List Ty}{x:AV}(h:x∈l.map Ty.enc):x.cells.length=2:=by obtain⟨t,_,rfl⟩:=avs.1 h;exact t.Pu
theorem gN{ll:List (List Ty)}(h0:ll.length<=1000000000)(hn:ll.flatten.length<=1000000000): az aj 94 [.sl (ff ll)] (.sl (ll.flatten.map Ty.enc)):=by
 refine ZX ?_;refine aI.intro (λk:Nat=>((ff ll,((ll.take k).flatten.length:Nat),ff ll,((ff ll).length:Int),(k:Int),()),())) (λk=>k<=ll.length) (λk=>ll.length-k) 0 rfl (auv _) ?_;intro k hk again bQ;dsimp only;have hle:=pK ll k;unfold Ow;rw[xL]at *;refine aA.intro (λh=>?_) λh=>?_;have aF:k<ll.length:=by simpa using h
 have sS:=pK ll (k+1);have dv:=bQ (k+1) (by omega) (by omega);rw[DJ aF,aut]at sS dv;refine⟨by omega,by omega,_,uX aF,?_⟩;rw[aum,ba (n:=(((ll.take k).flatten.length:Nat):Int)+_) (by omega) (by omega),bc (by omega)];exact aA.neg (decide_eq_false (by omega)) dv;have fb:ll.length<=k:=by simpa using h
 clear bQ;rw[auE fb];suffices hL:AK (((),ff ll,(ll.length:Int),0,()),([],())) (λr=>r=.sl (ll.flatten.map Ty.enc))from
  ⟨_,Ml hn,λr q hq=>by
   by_cases hz:ll.flatten.length=0
   ·rw[if_pos hz]at hq;exact .inr ⟨hq,rfl,hL⟩
   ·rw[if_neg hz]at hq;exact .inl ⟨[],hq,rfl,hL⟩⟩
 refine aI.intro (λk:Nat=>(((),ff ll,(ll.length:Int),(k:Int),()),((ll.take k).flatten.map Ty.enc,()))) (λk=>k<=ll.length) (λk=>ll.length-k) 0 rfl (auv _) ?_;intro j hj W9 Mm;dsimp only;have sS:=pK ll (j+1);unfold Iw;refine aA.intro (λh=>?_) λh=>?_;have aF:j<ll.length:=by simpa using h
 have dv:=Mm (j+1) (by omega) (by omega);rw[DJ aF]at sS dv;rw[auY]at dv;rw[aut]at sS;refine⟨by omega,by rw[xL];omega,_,uX aF,rfl,jH (λx hx=>CO hx) (by rw[aut,aum,aum];omega) (by decide),rfl,?_⟩;rw[bc (by omega)];exact dv;have fb:ll.length<=j:=by simpa using h
 exact⟨rfl,by rw[auE fb]⟩
def Ty.arrow(t:Ty)(l:List Ty):Ty:=.mk (l++t.args) t.base
theorem kx{t:Ty}{l:List Ty}(h:Ty.sizes l+t.size<=1000000000):az aj 49 [t.enc,.sl (l.map Ty.enc)] (t.arrow l).enc:=by have hl:=Ty.aZ l;have sS:=Ty.aZ t.args;have hs:=t.size_eq;have Lh:=gN (ll:=[l,t.args]) (by simp) (by simp;omega);have hc2:=lx _ (.mk (l++t.args) t.base) (aur _) (by simp only[Ty.size,Ty.cO];omega);simp only[ff,auR,au1,av0,av4,auF]at Lh;rw[Ty.jI]at hc2;rw[Ty.arrow,Ty.jI,Ty.aP t];exact ZR ⟨_,Lh,_,_,hc2,rfl⟩
mutual
def Tm.var:Tm->Option (Int×Int)
 | .mk b k i a=>if a.length=b.length/\¬(k=0/\i<b.length)then(if Tm.je b.length 0 b a=true then some (k,if k=0 then ag .i64 (i-b.length)else i)else none)else none
def Tm.je(n:Nat):Nat->List Ty->List Tm->Bool
 |k,t::b,a::l=>(match Tm.var a with|some (q,j)=>q==0&&j==(n:Int)-1-k&&Ty.cB a.binds t.args|none=>false)&&Tm.je n (k+1) b l|_,_,_=>true
end
def Ba:Option (Int×Int)->AV
 |some (k,i)=>.aG [.agg [nI k,nI i],nB true]|none=>.aG [.agg [nI 0,nI 0],nB false]
theorem Tm.var_eq(t:Tm):Tm.var t=if t.args.length=t.binds.length/\¬(t.kind=0/\t.index<t.binds.length)then(if Tm.je t.binds.length 0 t.binds t.args=true then some (t.kind,if t.kind=0 then ag .i64 (t.index-t.binds.length)else t.index)else none)else none:=by cases t;rw[Tm.var];rfl
theorem Tm.FH{n:Nat}{b:List Ty}{a:List Tm}{k:Nat}(h1:k<b.length)(h2:k<a.length):Tm.je n k (b.drop k) (a.drop k)=((match Tm.var a[k]with
  |some (q,j)=>q==0&&j==(n:Int)-1-k&&Ty.cB a[k].binds b[k].args
  |none=>false)&&Tm.je n (k+1) (b.drop (k+1)) (a.drop (k+1))):=by
 rw[auw h1,auw h2,Tm.je]
theorem Rf:∀(n:Nat)(t:Tm),t.size<=n->n<=1000000000->az aj 202 [t.enc] (Ba t.var):=by intro n;induction n with|zero=>intro t h;have:=t.size_pos;omega|succ n ih=>(intro t h hn;have hq:=Tm.aZ t.args;have hq2:=Ty.aZ t.binds;have Mj:=t.size_eq;rw[Tm.var_eq,Tm.aP];have loop:t.args.length=t.binds.length->¬(t.kind=0/\t.index<t.binds.length)->AJ (((),(),((ab (t.binds.map Ty.enc):Nat):Int),(),t.args.map Tm.enc,((ab (t.args.map Tm.enc):Nat):Int),0,()),((t.binds.map Ty.enc,t.kind,t.index,t.args.map Tm.enc,()),(0,0,()),(t.kind,t.index,()),())) (λx=>x=Ba (if t.args.length=t.binds.length/\¬(t.kind=0/\t.index<t.binds.length)then(if Tm.je t.binds.length 0 t.binds t.args=true then some (t.kind,if t.kind=0 then ag .i64 (t.index-t.binds.length)else t.index)else none)else none)):=by intro hlen hk;rw[if_pos ⟨hlen,hk⟩];refine aI.intro (λk:Nat=>(((),(),(t.binds.length:Int),(),t.args.map Tm.enc,(t.args.length:Int),(k:Int),()),((t.binds.map Ty.enc,t.kind,t.index,t.args.map Tm.enc,()),(0,0,()),(t.kind,t.index,()),()))) (λk=>k<=t.args.length/\Tm.je t.binds.length 0 t.binds t.args=Tm.je t.binds.length k (t.binds.drop k) (t.args.drop k)) (λk=>t.args.length-k) 0 (by rw[aum,aum];rfl) ⟨auv _,rfl⟩ ?_;intro k ⟨eA,hs⟩ again bQ;dsimp only;refine aA.intro (λh=>?_) λh=>?_;(have aF:k<t.args.length:=by simpa using h);rw[Tm.FH (by omega) aF]at hs;have hi:=ih t.args[k] (by have:=Tm.eR aF;omega) (by omega);have hbs:=Ty.aZ t.args[k].binds;have hbz:=t.args[k].size_eq;have tV:=Tm.eR aF;have he:=jd (l:=t.args[k].binds) (m:=(t.binds[k]'(by omega)).args) (by omega) (λj h1 h2=>gB _ _ _ (aur _) (by have:=Ty.dp (auz h1);omega));rw[Tm.aP]at hi;refine⟨by omega,by rw[aum];omega,_,_,_,_,Tm.bx aF,?_⟩;(cases hv:t.args[k].var with|none=>rw[hv]at hi hs;refine⟨_,_,_,hi,aA.pos rfl ?_⟩;rw[hs];simp[Ba]|some p=>obtain⟨q,j⟩:=p;rw[hv]at hi hs;refine⟨_,_,_,hi,aA.neg rfl ?_⟩;rw[ba (n:=(t.binds.length:Int)-1) (by omega) (by omega),ba (by omega) (by omega)];dsimp only at hs;refine aA.intro (λh=>?_) λh=>?_;(have:(q==0&&j==(t.binds.length:Int)-1-k)=false:=by rw[avd]at h;exact h);rw[hs,this];simp[Ba];(have:(q==0&&j==(t.binds.length:Int)-1-k)=true:=by rw[Bool.not_eq_false']at h;exact h);rw[this,au5]at hs;refine⟨by omega,by rw[aum];omega,_,_,Ty.bx (by omega),_,he,aA.intro (λh=>?_) λh=>?_⟩;(have:Ty.cB t.args[k].binds (t.binds[k]'(by omega)).args=false:=by simpa using h);rw[hs,this];simp[Ba];(have:Ty.cB t.args[k].binds (t.binds[k]'(by omega)).args=true:=by simpa using h);rw[this,au5]at hs;rw[bc (by omega)];exact bQ (k+1) ⟨by omega,hs⟩ (by omega));(have:t.args.length<=k:=by simpa using h);(have aeP:Tm.je t.binds.length k [] []=true:=by simp[Tm.je]);rw[auH this,auH (by omega),aeP]at hs;rw[if_pos hs];refine aA.intro (λh=>?_) λh=>?_;(have h0:t.kind=0:=by simpa using h);rw[if_pos h0];rfl;(have h0:¬t.kind=0:=by simpa using h);rw[if_neg h0];rfl);refine UB (aA.intro (λh=>?_) λh=>?_);(have:¬t.args.length=t.binds.length:=by simp at h;omega);rw[if_neg (λh=>this h.1)];rfl;(have hlen:t.args.length=t.binds.length:=by simp at h;omega);refine aA.intro (λh=>?_) λh=>?_;(have h0:t.kind=0:=by simpa using h);refine aA.intro (λh=>?_) λh=>?_;(have:t.index<t.binds.length:=by simpa using h);rw[if_neg (λh=>h.2 ⟨h0,this⟩)];rfl;(exact loop hlen λh1=>by simp at h;omega);exact loop hlen λh1=>by simp at h;exact h h1.1
theorem Jo(i:Int):az aj 227 [nI i] (nI i):=UG rfl
def jo(i:Int):Prop := -9223372036854775808<=i/\i<9223372036854775808
theorem jo.wrap{i:Int}(h:jo i):ag .i64 i=i:=ba h.1 h.2
mutual
def Tm.Ok:Tm->Prop
 | .mk _ k i a=>jo k/\jo i/\Tm.Pv a
def Tm.Pv:List Tm->Prop
 | []=>True|t::l=>Tm.Ok t/\Tm.Pv l
end
theorem Tm.FI{l:List Tm}(h:Tm.Pv l){t:Tm}(ht:t∈l):t.Ok:=by induction l with|nil=>cases ht|cons u l ih=>obtain⟨h1,h2⟩:=h;rcases auJ.1 ht with rfl|h3;exact h1;exact ih h2 h3
theorem Tm.ok_eq{t:Tm}(h:t.Ok):jo t.kind/\jo t.index/\Tm.Pv t.args:=by cases t;exact h
theorem CP:∀(n:Nat)(t:Tm)(a:Nat),t.size<=n->n<=1000000000->t.Ok->a+t.size<=2000000000->az aj 226 [t.enc,nI a,.bz 227 []] t.enc:=by intro n;induction n with|zero=>intro t a h;have:=t.size_pos;omega|succ n ih=>(intro t a h hn hk ha;have hq:=Tm.aZ t.args;have hq2:=Ty.aZ t.binds;have Mj:=t.size_eq;obtain⟨eA,Du,Pw⟩:=Tm.ok_eq hk;have mQ:=kx (t:=.mk [] 0) (l:=t.binds) (by simp[Ty.size,Ty.sizes];omega);rw[Ty.arrow,Ty.jc,Ty.FE,auF,Ty.jI,Ty.jI,au1]at mQ;have hw:ag .i64 ((a:Int)+((ab (t.binds.map Ty.enc):Nat):Int))=((a+t.binds.length:Nat):Int):=by rw[aum,ba (by omega) (by omega)];omega);(have loop:uF ((((a+t.binds.length:Nat):Int),(),(),(),t.args.map Tm.enc,((ab (t.args.map Tm.enc):Nat):Int),0,()),((t.binds.map Ty.enc,t.kind,t.index,t.args.map Tm.enc,()),((),0,0,(),()),(t.binds.map Ty.enc,t.kind,t.index,(),()),[],())) (λx=>x=t.enc):=by refine aI.intro (λk:Nat=>((((a+t.binds.length:Nat):Int),(),(),(),t.args.map Tm.enc,(t.args.length:Int),(k:Int),()),((t.binds.map Ty.enc,t.kind,t.index,t.args.map Tm.enc,()),((),0,0,(),()),(t.binds.map Ty.enc,t.kind,t.index,(),()),(t.args.take k).map Tm.enc,()))) (λk=>k<=t.args.length) (λk=>t.args.length-k) 0 (by rw[aum];rfl) (auv _) ?_;intro k hk again bQ;dsimp only;refine aA.intro (λh=>?_) λh=>?_;(have aF:k<t.args.length:=by simpa using h);have hz:=Tm.eR aF;have hi:=ih t.args[k] (a+t.binds.length) (by omega) (by omega) (Tm.FI Pw (auz aF)) (by have:=Tm.dp (auz aF);omega);rw[Tm.aP]at hi;refine⟨by omega,by rw[aum];omega,_,_,_,_,Tm.bx aF,_,_,_,_,hi,rfl,bH rfl (by simp;omega) (by decide),rfl,?_⟩;rw[bc (by omega),Tm.oF,bP aF];exact bQ (k+1) (by omega) (by omega);(have:t.args.length<=k:=by simpa using h);refine⟨rfl,?_⟩;rw[auE this,<-Tm.aP]);(rw[Tm.aP];rw[Tm.aP]at loop;refine UF ⟨_,_,mQ,?_⟩;rw[hw];refine aA.intro (λh=>?_) λh=>⟨rfl,loop⟩;refine aA.intro (λh=>?_) λh=>⟨rfl,loop⟩;have fb:((a+t.binds.length:Nat):Int)<=t.index:=by simpa using h);refine⟨_,Jo _,rfl,?_⟩;unfold jo at Du;rw[ba (n:=t.index-((a+t.binds.length:Nat):Int)) (by omega) (by omega),show ((a+t.binds.length:Nat):Int)+(t.index-((a+t.binds.length:Nat):Int))=t.index from by omega,ba Du.1 Du.2];exact loop
theorem Mo{t:Tm}(h:t.size<=1000000000)(hk:t.Ok):az aj 218 [t.enc] t.enc:=by have:=CP _ t 0 (aur _) h hk (by omega);rw[Tm.aP]at this ⊢;exact UH ⟨_,_,_,_,this,rfl⟩
theorem Jp{l:List (Int×Value)}{i v:Int}{x:Value}(h:aK l v=none):aK (cD l v x) i=if i=v then some x else aK l i:=by induction l with|nil=>rfl|cons p l ih=>obtain⟨k,u⟩:=p;simp only[aK]at h;split at h;cases h;rename_i hk;simp only[cD,if_neg hk,aK,ih h];by_cases h1:i=k;subst h1;rw[if_pos rfl,if_neg (λe=>hk e.symm),if_pos rfl];rw[if_neg h1,if_neg h1]
def oG(n:Int):List Int->List Tm->Option (List Int)
 |acc,[]=>some acc|acc,a::l=>match a.var with|some (k,i)=>if k=0/\i<n/\¬i∈acc then oG n (acc++[i]) l else none|none=>none
def Tm.vars(t:Tm)(n:Int):List Int×Int:=
 if t.kind=2/\0<=n then(match oG n [] t.args with
  |some l=>(l,0)
  |none=>([],6))else([],1)
def aj3(p:List Int×Int):AV:=.aG [.sl (cN p.1),nI p.2]
def FJ(es:List (Int×Value))(l:List Int):Prop:=∀i,aK es i=if i∈l then some (.bool true)else none
theorem FJ.put{es:List (Int×Value)}{l:List Int}{i:Int}(h:FJ es l)(hi:¬i∈l):FJ (cD es i (.bool true)) (l++[i]):=by (intro j;have hn:aK es i=none:=by rw[h i,if_neg hi]);rw[Jp hn,h j];by_cases h1:j=i;subst h1;simp;simp[h1]
theorem Mp{t:Tm}{n:Int}(h:t.size<=1000000000):az aj 183 [t.enc,nI n] (aj3 (t.vars n)):=by have hla:=Tm.aZ t.args;have hs:=t.size_eq;have hfc:=A9 t;rw[Tm.aP]at hfc ⊢;refine UC ⟨_,hfc,aA.intro (λh=>?_) λh=>?_⟩;(have:¬t.kind=2:=by simpa using h);rw[Tm.vars,if_neg (λh=>this h.1)];rfl;(have hk:t.kind=2:=by simpa using h);refine aA.intro (λh=>?_) λh=>⟨rfl,?_⟩;(have:n<0:=by simpa using h);rw[Tm.vars,if_neg (λh=>by omega)];rfl;(have hn:0<=n:=by simpa using h);rw[Tm.vars,if_pos ⟨hk,hn⟩];unfold Iu;refine aI.intro (λp:Nat×List Int×List (Int×Value)=>((n,(),(),t.args.map Tm.enc,(t.args.length:Int),(p.1:Int),()),((t.binds.map Ty.enc,t.kind,t.index,t.args.map Tm.enc,()),p.2.2,cN p.2.1,()))) (λp=>p.1<=t.args.length/\p.2.1.length=p.1/\FJ p.2.2 p.2.1/\oG n [] t.args=oG n p.2.1 (t.args.drop p.1)) (λp=>t.args.length-p.1) (0,[],[]) (by rw[aum];rfl) ⟨auv _,rfl,λi=>rfl,rfl⟩ ?_;intro ⟨k,acc,es⟩ ⟨eA,hl,hse,hv⟩ again bQ;dsimp only at eA hl hse hv ⊢;refine aA.intro (λh=>?_) λh=>?_;(have aF:k<t.args.length:=by simpa using h);rw[auw aF,oG]at hv;have hz:=Tm.eR aF;have hc:=Rf _ t.args[k] (aur _) (by omega);rw[Tm.aP]at hc;refine⟨by omega,by rw[aum];omega,_,_,_,_,Tm.bx aF,?_⟩;(cases aj5:t.args[k].var with|none=>rw[aj5]at hc hv;dsimp only at hv;refine⟨_,_,_,hc,aA.pos rfl ?_⟩;rw[hv];rfl|some p=>obtain⟨q,i⟩:=p;rw[aj5]at hc hv;dsimp only at hv;refine⟨_,_,_,hc,aA.neg rfl ?_⟩;refine aA.intro (λh=>?_) λh=>?_;(have:¬q=0:=by simpa using h);rw[hv,if_neg (λh=>this h.1)];rfl;(have hq:q=0:=by simpa using h);refine aA.intro (λh=>?_) λh=>?_;(have:n<=i:=by simpa using h);rw[hv,if_neg (λh=>by omega)];rfl;(have hi:i<n:=by simpa using h);have hg:=hse i;by_cases hm:i∈acc;rw[if_pos hm]at hg;rw[hg];refine⟨rfl,aA.pos rfl ?_⟩;rw[hv,if_neg (λh=>h.2.2 hm)];rfl;rw[if_neg hm]at hg;rw[hg];refine⟨rfl,aA.neg rfl ⟨rfl,bH rfl (by simp[gA];omega) (by decide),rfl,?_⟩⟩;rw[if_pos ⟨hq,hi,hm⟩]at hv;rw[bc (by omega),pG];exact bQ (k+1,acc++[i],cD es i (.bool true)) ⟨by simp only;omega,by simp[hl],hse.put hm,hv⟩ (by simp only;omega));(have:t.args.length<=k:=by simpa using h);rw[auH this,oG]at hv;refine⟨rfl,?_⟩;rw[hv];rfl
structure Us where
 aj6:Int
 vars:List Int
 binds:List Ty
 path:List Int
def Us.enc(u:Us):AV:=.agg [nI u.aj6,.sl (cN u.vars),.sl (u.binds.map Ty.enc),.sl (cN u.path)]
mutual
def Tm.uses(around:List Ty)(path:List Int):Tm->Option (List Us)
 | .mk b k i a=>if k=2 then(match Tm.vars (.mk b k i a) (around++b).length with|(v,e)=>if e=0 then some [⟨i,v,around++b,path⟩]else none)else Tm.oH (around++b) path 0 a
def Tm.oH(around:List Ty)(path:List Int)(n:Nat):List Tm->Option (List Us)
 | []=>some []|t::l=>(match Tm.uses around (path++[(n:Int)]) t with|some u=>(match Tm.oH around path (n+1) l with|some us=>some (u++us)|none=>none)|none=>none)
end
theorem Tm.Px(around:List Ty)(path:List Int)(t:Tm):Tm.uses around path t=if t.kind=2 then(match t.vars (around++t.binds).length with
  |(v,e)=>if e=0 then some [⟨t.index,v,around++t.binds,path⟩]else none)else Tm.oH (around++t.binds) path 0 t.args:=by
 cases t;rw[Tm.uses];rfl
theorem Tm.Mq{around:List Ty}{path:List Int}{l:List Tm}{k:Nat}(h:k<l.length):Tm.oH around path k (l.drop k)=(match Tm.uses around (path++[(k:Int)]) l[k]with
  |some u=>(match Tm.oH around path (k+1) (l.drop (k+1))with
   |some us=>some (u++us)
   |none=>none)
  |none=>none):=by
 rw[auw h,Tm.oH]
mutual
theorem Tm.Jq:∀{t:Tm}{around:List Ty}{path:List Int}{u:List Us},Tm.uses around path t=some u->u.length<=t.size
 | .mk b k i a,around,path,u,h=>by rw[Tm.uses]at h;split at h;dsimp only at h;split at h;cases h;simp[Tm.size];omega;cases h;have:=Tm.DK h;simp[Tm.size];omega
theorem Tm.DK:∀{l:List Tm}{around:List Ty}{path:List Int}{n:Nat}{u:List Us},Tm.oH around path n l=some u->u.length<=Tm.sizes l
 | [],_,_,_,u,h=>by rw[Tm.oH]at h;cases h;simp|t::l,around,path,n,u,h=>by rw[Tm.oH]at h;split at h;rename_i u1 h1;split at h;rename_i u2 h2;cases h;have:=Tm.Jq h1;have:=Tm.DK h2;simp[Tm.sizes];omega;cases h;cases h
end
theorem Tm.Xa{t:Tm}{n:Int}(hk:t.kind=2)(hn:0<=n):(t.vars n).2=0\/t.vars n=([],6):=by rw[Tm.vars,if_pos ⟨hk,hn⟩];split;exact .inl rfl;exact .inr rfl
theorem Mr:∀(d:Nat)(t:Tm)(us:List Us)(around:List Ty)(path:List Int),t.size<=d->d<=400000000->us.length+t.size<=800000000->Ty.sizes around+t.size<=800000000->path.length+t.size<=800000000-> aY aj 168 [.own 0 (us.map Us.enc).length,t.enc,.sl (around.map Ty.enc),.sl (cN path)] [.row 275 4 (us.map Us.enc)] (λr h=>(∃u,Tm.uses around path t=some u/\r=.aG [.own 0 ((us++u).map Us.enc).length,nI 0]/\h=[.row 275 4 ((us++u).map Us.enc)])\/(Tm.uses around path t=none/\∃l,r=.aG [.ay (.slice none 0 0),nI 6]/\h=[.row 275 4 l])):=by intro d;induction d with|zero=>intro t us around path h;have:=t.size_pos;omega|succ d ih=>intro t us around path hd hd2 h1 h2 h3;have hla:=Tm.aZ t.args;have hlb:=Ty.aZ t.binds;have Sj:=Ty.aZ around;have hs:=t.size_eq;have CB:=gN (ll:=[around,t.binds]) (by simp) (by simp;omega);simp only[ff,auR,au1,av0,av4,auF]at CB;have hfc:=A9 t;have hvc:=Mp (t:=t) (n:=((around++t.binds).length:Nat)) (by omega);have mQ:=kx (t:=.mk [] 0) (l:=around++t.binds) (by simp[Ty.size,Ty.sizes,Ty.cO];omega);rw[Ty.arrow,Ty.jc,Ty.FE,auF,Ty.jI,Ty.jI,au1]at mQ;rw[Tm.aP]at hfc hvc ⊢;refine UD ⟨_,CB,_,hfc,aA.intro (λh=>?_) λh=>⟨rfl,?_⟩⟩;(have hk:t.kind=2:=by simpa using h);rw[Tm.Px,if_pos hk,aum];refine⟨_,_,hvc,?_⟩;rcases Tm.Xa hk (show (0:Int)<=(((around++t.binds).length:Nat):Int) by omega)with h0|h0;dsimp only;rw[h0];refine aA.neg rfl ⟨_,_,mQ,_,Jn (by omega),rfl,bH rfl (by simp;omega) (by decide),.inl ⟨_,if_pos rfl,?_⟩⟩;simp[Us.enc];rw[h0];exact aA.pos rfl (.inr ⟨by simp,_,rfl,rfl⟩);(have hk:¬t.kind=2:=by simpa using h);rw[Tm.Px,if_neg hk];unfold Iv;refine aI.intro (λp:Nat×List Us=>(((),(around++t.binds).map Ty.enc,cN path,t.args.map Tm.enc,(t.args.length:Int),(p.1:Int),()),((us++p.2).map Us.enc,(t.binds.map Ty.enc,t.kind,t.index,t.args.map Tm.enc,()),()))) (λp=>p.1<=t.args.length/\p.2.length<=Tm.sizes (t.args.take p.1)/\Tm.oH (around++t.binds) path 0 t.args=(match Tm.oH (around++t.binds) path p.1 (t.args.drop p.1)with|some u=>some (p.2++u)|none=>none)) (λp=>t.args.length-p.1) (0,[]) (by rw[aum];simp) ⟨auv _,by simp,by simp only[avI,avF];split<;>simp_all⟩ ?_;intro ⟨k,u0⟩ ⟨eA,hl,hv⟩ again bQ;dsimp only at eA hl hv ⊢;refine aA.intro (λh=>?_) λh=>?_;(have aF:k<t.args.length:=by simpa using h);(have hz:=Tm.eR aF;have cY:Tm.sizes (t.args.take k)+t.args[k].size<=Tm.sizes t.args:=by (have e:t.args=t.args.take k++t.args[k]::t.args.drop (k+1):=by rw[<-auw aF,avl]);(have e2:Tm.sizes t.args=Tm.sizes (t.args.take k++t.args[k]::t.args.drop (k+1)):=by rw[<-e]);rw[e2,Tm.cO,Tm.sizes];omega);(have htk:Tm.sizes (t.args.take (k+1))=Tm.sizes (t.args.take k)+t.args[k].size:=by rw[avi aF,Tm.cO];simp[Tm.sizes]);rw[Tm.Mq aF]at hv;have hi:=ih t.args[k] (us++u0) (around++t.binds) (path++[(k:Int)]) (by omega) (by omega) (by simp;omega) (by rw[Ty.cO];omega) (by simp;omega);rw[Tm.aP]at hi;refine⟨by omega,by rw[aum];omega,_,_,_,_,Tm.bx aF,_,Mi,λh=>by simp at h,?_⟩;rw[pG];refine⟨ku nL (λx hx=>by rw[auD.1 hx];rfl) (by rw[gA];simp;omega) (by decide),rfl,_,hi,?_⟩;rintro r q (⟨u,hu,rfl,rfl⟩|⟨hu,l,rfl,rfl⟩);left;refine⟨_,⟨rfl,rfl⟩,rfl,?_⟩;have hul:=Tm.Jq hu;rw[hu]at hv;rw[bc (by omega),auM];refine bQ (k+1,u0++u) ⟨by simp only;omega,by simp;omega,?_⟩ (by simp only;omega);rw[hv];dsimp only;(cases Tm.oH (around++t.binds) path (k+1) (t.args.drop (k+1))with|none=>rfl|some v=>simp);right;rw[hu]at hv;exact⟨_,⟨rfl,rfl⟩,.inr ⟨hv,_,rfl,rfl⟩⟩;(have:t.args.length<=k:=by simpa using h);rw[auH this,Tm.oH]at hv;left;refine⟨u0,by rw[hv];simp,rfl,rfl⟩
def FK:Option (List Us)->AV
 |some u=>.aG [.sl (u.map Us.enc),nI 0]|none=>.aG [.sl [],nI 6]
theorem Ms{t:Tm}(h:t.size<=400000000):az aj 136 [t.enc] (FK (t.uses [] [])):=by (have hu:=Mr _ t [] [] [] (aur _) h (by simp;omega) (by simp[Ty.sizes];omega) (by simp;omega);have hn:=Pure.of_nil (by decide) hu (by rw[Tm.aP];rfl);have hn2:Pure aj 168 [.ay (.slice none 0 0),t.enc,.ay (.slice none 0 0),.ay (.slice none 0 0)] (λx=>x=FK (t.uses [] [])):=by refine Pure.xA (ys:=[.ay (.slice none 0 0),t.enc,.sl [],.sl []]) ⟨aX.refl _,aX.refl _,bX,bX,True.intro⟩ (hn.mono ?_);rintro x ⟨r,hp',(⟨u,e1,rfl,rfl⟩|⟨e1,l,rfl,rfl⟩),rfl⟩;rw[e1];simp[FK,AV.cd,AV.fE,AV.eN,AV.jr];rw[e1];simp[FK,AV.cd,AV.fE,AV.eN]);rw[Tm.aP]at hn2 ⊢;refine UE ⟨_,hn2,?_⟩;rintro r rfl;cases t.uses [] []with|none=>exact⟨_,_,rfl,rfl⟩|some u=>exact⟨_,_,rfl,rfl⟩
theorem Xb{t:Tm}(h:t.size<=400000000):az aj 80 [t.enc] (nB (t.uses [] []).isSome):=by have hu:=Ms h;rw[Tm.aP]at hu ⊢;refine ZV ?_;cases hq:t.uses [] []with|none=>rw[hq]at hu;exact⟨_,_,hu,rfl⟩|some u=>rw[hq]at hu;exact⟨_,_,hu,rfl⟩
end Go.Proofs.YthnnplohnceogaaGreatDoor
