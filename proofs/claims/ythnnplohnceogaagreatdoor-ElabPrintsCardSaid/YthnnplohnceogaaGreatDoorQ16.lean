/- Lemmas. -/
import Derived.Lib.Strings
import Derived.Lib.ItoaLen
import Derived.KernelRfl
import Derived.Test.YthnnplohnceogaaGreatDoorQ15
namespace Go.Proofs.YthnnplohnceogaaGreatDoor
open Go
open _root_.List renaming length->ab,getD->ae
open _root_.Int renaming toNat->af
open Go.IntKind renaming wrap->ag
open Go.Proofs.Tryz renaming prog->aj
set_option linter.unusedSimpArgs false
set_option linter.unusedVariables false
set_option maxRecDepth 100000
open Go Go.Shelf
inductive Nd where
 |mk (kind:Int) (word:aw) (at_:Int) (kids:List Nd)
mutual
def Nd.enc:Nd->AV
 | .mk k w a l=>.agg [nI k,nS w,nI a,.sl (Nd.pF l)]
def Nd.pF:List Nd->List AV
 | []=>[]|t::l=>Nd.enc t::Nd.pF l
end
def Nd.kind:Nd->Int| .mk k _ _ _=>k
def Nd.word:Nd->aw| .mk _ w _ _=>w
def Nd.at_:Nd->Int| .mk _ _ a _=>a
def Nd.kids:Nd->List Nd| .mk _ _ _ l=>l
theorem Nd.pG(l:List Nd):Nd.pF l=l.map Nd.enc:=by induction l with|nil=>rfl|cons t l ih=>simp[Nd.pF,ih]
theorem Nd.aP(t:Nd):t.enc=.agg [nI t.kind,nS t.word,nI t.at_,.sl (t.kids.map Nd.enc)]:=by cases t;simp[Nd.enc,Nd.pG,Nd.kind,Nd.word,Nd.at_,Nd.kids]
mutual
def Nd.size:Nd->Nat
 | .mk _ _ _ l=>1+Nd.sizes l
def Nd.sizes:List Nd->Nat
 | []=>0|t::l=>Nd.size t+Nd.sizes l
end
theorem Nd.size_eq(t:Nd):t.size=1+Nd.sizes t.kids:=by cases t;rfl
theorem Nd.size_pos(t:Nd):1<=t.size:=by rw[t.size_eq];omega
theorem mB{a b:Bool}(h:a=true↔b=true):nB a=nB b:=congrArg nB (avL.2 h)
def il(c:Int):Bool:=decide (97<=c/\c<=122)||decide (65<=c/\c<=90)
def isDigit(c:Int):Bool:=decide (48<=c/\c<=57)
def iz(c:Int):Bool:=il c||(isDigit c||(c==95||c==39))
def ly(c:Int):Bool:=c==32||(c==9||(c==10||(c==13||c==35)))
def aF(s:aw):List Int:=s.data.toList.map λb=>(b.toNat:Int)
theorem cG(s:aw):(aF s).length=s.size:=by simp[aF]
theorem uZ{s:aw}{k:Nat}(h:k<(aF s).length):dX s (k:Int)=(aF s)[k]:=by (have h2:k<s.data.size:=by rw[cG]at h;exact h);unfold dX;simp only[avk,aF,List.getElem_map,Array.getElem_toList];rw[ava h2];rfl
theorem u5(s:aw):∀c∈aF s,0<=c/\c<=255:=by intro c hc;simp only[aF,avg]at hc;obtain⟨b,_,rfl⟩:=hc;have:=b.toNat_lt;omega
theorem mC{s t:aw}(h:aF s=aF t):s=t:=by obtain⟨s⟩:=s;obtain⟨t⟩:=t;congr 1;apply avy;exact(List.map_inj_right (λa b (hab:(a.toNat:Int)=b.toNat)=>UInt8.toNat_inj.1 (by omega))).1 h
theorem ej(a b:aw):gk a b=decide (a=b):=by obtain⟨a⟩:=a;obtain⟨b⟩:=b;simp only[gk];by_cases h:a=b;subst h;simp;have h1:¬(ByteArray.mk a=ByteArray.mk b):=λe=>h (by injection e);rw[decide_eq_false h1,beq_eq_false_iff_ne];intro e;apply h1;have e1:=congrArg ab e;apply mC;rw[Lib.toList_data,Lib.toList_data]at e;exact congrArg (List.map λb:UInt8=>(b.toNat:Int)) e
def isWord(s:aw):Bool:=match aF s with
 | []=>false
 |c::l=>decide (l.length<=29)&&il c&&l.all iz
theorem pJ{c:Int}:az aj 153 [.ay (.int .u8 c)] (nB (il c)):=by (refine UO ?_;have two:aA (decide (c>=65)) (nB (decide (c<=90))=nB (decide (65<=c/\c<=90))) (nB false=nB (decide (65<=c/\c<=90))):=by refine aA.intro (λh=>?_) λh=>?_;(have h:c>=65:=by simpa using h);exact mB (by simp;omega);(have h:¬c>=65:=by simpa using h);exact mB (by simp;omega));refine aA.intro (λh=>aA.intro (λh1=>?_) λh1=>?_) λh=>?_;(have h:c>=97:=by simpa using h);(have h1:c<=122:=by simpa using h1);simp[il];omega;(have h1:¬c<=122:=by simpa using h1);(have:il c=decide (65<=c/\c<=90):=by unfold il;rw[decide_eq_false (by omega),avu]);rw[this];exact two;(have h:¬c>=97:=by simpa using h);(have:il c=decide (65<=c/\c<=90):=by unfold il;rw[decide_eq_false (by omega),avu]);rw[this];exact two
theorem rb{c:Int}:az aj 163 [.ay (.int .u8 c)] (nB (isDigit c)):=by refine UQ (aA.intro (λh=>?_) λh=>?_);(have h:c>=48:=by simpa using h);exact mB (by simp[isDigit];omega);(have h:¬c>=48:=by simpa using h);exact mB (by simp[isDigit];omega)
theorem Ju{c:Int}:az aj 155 [.ay (.int .u8 c)] (nB (iz c)):=by refine UR ⟨_,pJ,aA.intro (λh=>?_) λh=>⟨_,rb,aA.intro (λh1=>?_) λh1=>aA.intro (λh2=>?_) λh2=>?_⟩⟩;simp[iz,h];simp[iz,h,h1];simp[iz,h,h1,h2];simp[iz,h,h1,h2]
def runN(l:List Int):Nat:=(l.takeWhile iz).length
theorem wv(c:Int)(l:List Int):runN (c::l)=if iz c=true then runN l+1 else 0:=by unfold runN;rw[awb];split<;>simp
theorem Xf(l:List Int):(runN l=l.length)↔l.all iz=true:=by induction l with|nil=>simp[runN]|cons c l ih=>simp only[runN,awb,avI]at ih ⊢;cases h:iz c<;>simp[ih]
theorem DM{s:aw}(hs:s.size<=1000000000):az aj 154 [nS s,.bw 155 []] (nI (runN (aF s):Nat)):=by refine US ?_;unfold adC IA;have hl:=cG s;refine aI.intro (λk:Nat=>((s,(),(k:Int),()),())) (λk=>k<=s.size/\runN (aF s)=k+runN ((aF s).drop k)) (λk=>s.size-k) 0 rfl ⟨aus _,by simp⟩ ?_;intro k ⟨hk,hm⟩ again bP;dsimp only;refine aA.intro (λh=>?_) λh=>?_;(have aE:k<s.size:=by simpa using h);(have vZ:k<(aF s).length:=by omega);rw[aut vZ]at hm;refine⟨⟨by omega,by omega⟩,_,Ju,?_⟩;rw[uZ vZ];refine aA.intro (λh=>?_) λh=>?_;rw[bf (by omega)];refine bP (k+1) ⟨by omega,?_⟩ (by omega);rw[hm,wv,if_pos h];omega;rw[hm,wv,if_neg (by rw[h];simp)];rfl;(have:s.size<=k:=by simpa using h);rw[auF (by omega)]at hm;rw[hm];simp[runN]
theorem FN{c:Int}(h:il c=true):iz c=true:=by simp[iz,h]
theorem u6{s:aw}:az aj 107 [nS s] (nB (isWord s)):=by have hl:=cG s;refine UN (aA.intro (λh=>aA.intro (λh1=>?_) λh1=>?_) λh=>?_);(have h1:s.size<=30:=by(have:(s.size:Int)<=30:=by simpa using h1);omega);(cases hb:aF s with|nil=>exfalso;have:s=⟨#[]⟩:=mC hb;subst this;simp[gk]at h|cons c l=>(rw[hb,aur]at hl;have hc:dX s (0:Int)=c:=by have:=uZ (s:=s) (k:=0) (by rw[hb];simp);simp only[hb,List.getElem_cons_zero]at this;exact this);(refine⟨⟨by omega,by omega⟩,_,pJ,?_⟩;rw[hc];have hd:decide (l.length<=29)=true:=by simp;omega);refine aA.intro (λh2=>⟨_,DM (by omega),?_⟩) λh2=>?_;refine mB ?_;have hr:=Xf (aF s);rw[hb,avI,FN h2,au5,aur]at hr;simp only[isWord,hb,hd,h2,au5,beq_iff_eq];rw[<-hr,<-hl];omega;simp[isWord,hb,hd,h2]);(have h1:¬s.size<=30:=by(have:¬(s.size:Int)<=30:=by simpa using h1);omega);(cases hb:aF s with|nil=>simp[isWord,hb]|cons c l=>rw[hb,aur]at hl;simp[isWord,hb];omega);(have:s=⟨#[]⟩:=by rw[ej]at h;simpa using h);subst this;rfl
section
def nh:Int×Int->List Int->Int×Int
 |m,[]=>m|m,c::l=>nh (if c==10 then(m.1+1,1)else(m.1,m.2+1)) l
theorem mD(s:aw)(i j:Nat):aF (s.extract i j)=((aF s).drop i).take (j-i):=by simp only[aF,ByteArray.data_extract,Array.toList_extract,List.extract_eq_take_drop,List.map_take,List.map_drop]
abbrev Tk:=Int×aw×Int
def cQ(t:Tk):AV:=.agg [nI t.1,nS t.2.1,nI t.2.2]
theorem ace(l:List Int):runN l<=l.length:=by induction l with|nil=>simp[runN]|cons c l ih=>rw[wv,aur];split<;>omega
variable {s:aw}
theorem acf(l:List Tk)(t:Tk):l.map cQ++[.agg [nI t.1,nS t.2.1,nI t.2.2]]=(l++[t]).map cQ:=by simp[cQ]
end
theorem lt0{x y:Nd}:(0:Int)<([x,y].map Nd.enc).length:=by simp
theorem NP{x y:Nd}:(1:Int)<([x,y].map Nd.enc).length:=by simp
theorem Bf{w:aw}:gk w (⟨#[]⟩:aw)=decide (w.size=0):=by rw[ej];by_cases h:w.size=0;rw[decide_eq_true h,decide_eq_true (mC (auU (by rw[cG];exact h)))];rw[decide_eq_false h,decide_eq_false (λe=>h (by rw[e];rfl))]
theorem bsz(a b:aw):(a++b).size=a.size+b.size:=ByteArray.size_append
theorem sz1{c:UInt8}:(⟨#[c]⟩:aw).size=1:=rfl
theorem Jv{n:Nat}(hn:n<=1000000000): aZ aj 146 [.ay (.slice none 0 0),nI (n:Nat)] [] (λr q=>if n=0 then r=.ay (.slice none 0 0)/\q=[]else r=.own 0 0/\q=[.row 9 1 []]):=by (have e:ag .i64 ((n:Int)-ag .i64 (0-((ab ([]:List AV):Nat):Int)))=(n:Int):=by rw[show ag .i64 (0-((ab ([]:List AV):Nat):Int))=0 from by decide,Int.sub_zero,bb (by omega) (by omega)]);refine UM (aA.neg (decide_eq_false (by omega)) ?_);rw[e,avk];refine aA.intro (λh=>⟨⟨of_decide_eq_true h,by simp only[maxLen];omega,?_⟩,?_⟩) λh=>?_;(have:TD.bytes L7<=1000:=by decide);have h2:n*TD.bytes L7<=n*1000:=Nat.mul_le_mul_left _ this;omega;have:=of_decide_eq_true h;dsimp only;rw[if_neg (by omega)];exact⟨rfl,rfl⟩;have:=of_decide_eq_false h;dsimp only;rw[if_pos (by omega)];exact⟨rfl,rfl⟩
def rf(ll:List (List aw)):List AV:=ll.map λl=>.sl (l.map nS)
theorem Bg{ll:List (List aw)}{k:Nat}(h:k<ll.length):ae (rf ll) (af (k:Int)) .top=.sl (ll[k].map nS):=by simp[rf,ae,h]
theorem DN(ll:List (List aw)):(rf ll).length=ll.length:=by simp[rf]
theorem Bh{ll:List (List aw)}{k:Nat}(h:k<ll.length):(ll.take (k+1)).flatten=(ll.take k).flatten++ll[k]:=by rw[avf h,awa,List.flatten_singleton]
theorem nJ(ll:List (List aw))(k:Nat):(ll.take k).flatten.length<=ll.flatten.length:=by (have h:ll.flatten=(ll.take k).flatten++(ll.drop k).flatten:=by rw[<-awa,avi]);rw[h,auo];omega
theorem MB{l:List aw}{x:AV}(h:x∈l.map nS):x.cells.length=1:=by obtain⟨t,_,rfl⟩:=avg.1 h;exact rfl
theorem CU{ll:List (List aw)}(h0:ll.length<=1000000000)(hn:ll.flatten.length<=1000000000): az aj 98 [.sl (rf ll)] (.sl (ll.flatten.map nS)):=by
 refine Z9 ?_;refine aI.intro (λk:Nat=>((rf ll,((ll.take k).flatten.length:Nat),rf ll,((rf ll).length:Int),(k:Int),()),())) (λk=>k<=ll.length) (λk=>ll.length-k) 0 rfl (aus _) ?_;intro k hk again bP;dsimp only;have hle:=nJ ll k;unfold OE;rw[DN]at *;refine aA.intro (λh=>?_) λh=>?_;have aE:k<ll.length:=by simpa using h
 have rN:=nJ ll (k+1);have dv:=bP (k+1) (by omega) (by omega);rw[Bh aE,auo]at rN dv;refine⟨by omega,by omega,_,Bg aE,?_⟩;rw[aui,bb (n:=(((ll.take k).flatten.length:Nat):Int)+_) (by omega) (by omega),bf (by omega)];exact aA.neg (decide_eq_false (by omega)) dv;have fh:ll.length<=k:=by simpa using h
 clear bP;rw[auA fh];suffices hL:AP (((),rf ll,(ll.length:Int),0,()),([],())) (λr=>r=.sl (ll.flatten.map nS))from
  ⟨_,Jv hn,λr q hq=>by
   by_cases hz:ll.flatten.length=0
   ·rw[if_pos hz]at hq;exact .inr ⟨hq,rfl,hL⟩
   ·rw[if_neg hz]at hq;exact .inl ⟨[],hq,rfl,hL⟩⟩
 refine aI.intro (λk:Nat=>(((),rf ll,(ll.length:Int),(k:Int),()),((ll.take k).flatten.map nS,()))) (λk=>k<=ll.length) (λk=>ll.length-k) 0 rfl (aus _) ?_;intro j hj Xb Ms;dsimp only;have rN:=nJ ll (j+1);unfold Iz;refine aA.intro (λh=>?_) λh=>?_;have aE:j<ll.length:=by simpa using h
 have dv:=Ms (j+1) (by omega) (by omega);rw[Bh aE]at rN dv;rw[auZ]at dv;rw[auo]at rN;refine⟨by omega,by rw[DN];omega,_,Bg aE,rfl,jK (λx hx=>MB hx) (by rw[auo,aui,aui];omega) (by decide),rfl,?_⟩;rw[bf (by omega)];exact dv;have fh:ll.length<=j:=by simpa using h
 exact⟨rfl,by rw[auA fh]⟩
theorem YJ{l:List Int}{i:Int}{k:Nat}(h:k<l.length):(l.take (k+1)).contains i=((l.take k).contains i||(l[k]==i)):=by rw[<-bO h,avL];simp only[av4,avh,auQ,auy,beq_iff_eq];exact or_congr av9 eq_comm
mutual
def Tm.same:Tm->Tm->Bool
 | .mk b k i a,.mk b' k' i' a'=>(k==k'&&i==i')&&(Ty.cB b b'&&Tm.cB a a')
def Tm.cB:List Tm->List Tm->Bool
 | [],[]=>true|t::l,u::m=>Tm.same t u&&Tm.cB l m|_,_=>false
end
theorem Tm.FH(t u:Tm):Tm.same t u=((t.kind==u.kind&&t.index==u.index)&&(Ty.cB t.binds u.binds&&Tm.cB t.args u.args)):=by cases t;cases u;simp[Tm.same,Tm.kind,Tm.index,Tm.binds,Tm.args]
theorem Tm.tk{l m:List Tm}{k:Nat}(h1:k<l.length)(h2:k<m.length):Tm.cB (l.drop k) (m.drop k)=(Tm.same l[k] m[k]&&Tm.cB (l.drop (k+1)) (m.drop (k+1))):=by rw[aut h1,aut h2,Tm.cB]
theorem Tm.wu{l m:List Tm}(h:¬l.length=m.length):Tm.cB l m=false:=by
 induction l generalizing m with
  |nil=>cases m with|nil=>simp at h|cons u m=>rfl
  |cons t l ih=>cases m with|nil=>rfl|cons u m=>rw[Tm.cB,ih (by simpa using h),Bool.and_false]
mutual
theorem Tm.mA:∀(t u:Tm),Tm.same t u=true↔t=u
 | .mk b k i a,.mk b' k' i' a'=>by simp only[Tm.same,aul,beq_iff_eq,Tm.mk.injEq,Ty.jM,Tm.jM a a'];constructor;rintro⟨⟨h1,h2⟩,h3,h4⟩;exact⟨h3,h1,h2,h4⟩;rintro⟨h3,h1,h2,h4⟩;exact⟨⟨h1,h2⟩,h3,h4⟩
theorem Tm.jM:∀(l m:List Tm),Tm.cB l m=true↔l=m
 | [],[]=>by simp[Tm.cB]| [],_::_=>by simp[Tm.cB]|_::_,[]=>by simp[Tm.cB]|t::l,u::m=>by simp only[Tm.cB,aul,List.cons.injEq,Tm.mA t u,Tm.jM l m]
end
theorem Tm.Rh(t:Tm):Tm.same t t=true:=(Tm.mA t t).2 rfl
inductive Rw where
 |mk (kind:Int) (type:Ty) (index:Int) (kids:List Rw)
mutual
def Rw.enc:Rw->AV
 | .mk k t i l=>.agg [nI k,.sl (t.args.map Ty.enc),nI t.base,nI i,.sl (Rw.pF l)]
def Rw.pF:List Rw->List AV
 | []=>[]|t::l=>Rw.enc t::Rw.pF l
end
mutual
def Rw.total:Rw->Nat
 | .mk _ t _ l=>1+t.size+Rw.gE l
def Rw.gE:List Rw->Nat
 | []=>0|t::l=>Rw.total t+Rw.gE l
end
mutual
def Rw.size:Rw->Nat
 | .mk _ _ _ l=>1+Rw.sizes l
def Rw.sizes:List Rw->Nat
 | []=>0|t::l=>Rw.size t+Rw.sizes l
end
def Rw.kind:Rw->Int| .mk k _ _ _=>k
def Rw.type:Rw->Ty| .mk _ t _ _=>t
def Rw.index:Rw->Int| .mk _ _ i _=>i
def Rw.kids:Rw->List Rw| .mk _ _ _ l=>l
theorem Rw.FI(k:Int)(t:Ty)(i:Int)(l:List Rw):(Rw.mk k t i l).kind=k:=rfl
theorem Rw.acg(k:Int)(t:Ty)(i:Int)(l:List Rw):(Rw.mk k t i l).type=t:=rfl
theorem Rw.Bc(k:Int)(t:Ty)(i:Int)(l:List Rw):(Rw.mk k t i l).index=i:=rfl
theorem Rw.FO(k:Int)(t:Ty)(i:Int)(l:List Rw):(Rw.mk k t i l).kids=l:=rfl
theorem Rw.pG(l:List Rw):Rw.pF l=l.map Rw.enc:=by induction l with|nil=>rfl|cons t l ih=>simp[Rw.pF,ih]
theorem Rw.aP(r:Rw):r.enc=.agg [nI r.kind,.sl (r.type.args.map Ty.enc),nI r.type.base,nI r.index,.sl (r.kids.map Rw.enc)]:=by cases r;simp[Rw.enc,Rw.pG,Rw.kind,Rw.type,Rw.index,Rw.kids]
theorem Rw.bx{l:List Rw}{k:Nat}(h:k<l.length):ae (l.map Rw.enc) (af (k:Int)) .top=.agg [nI l[k].kind,.sl (l[k].type.args.map Ty.enc),nI l[k].type.base,nI l[k].index,.sl (l[k].kids.map Rw.enc)]:=by rw[getD_map h,Rw.aP]
theorem Rw.rh(r:Rw):r.total=1+r.type.size+Rw.gE r.kids:=by cases r;rfl
theorem Rw.lO(r:Rw):2<=r.total:=by have:=r.type.size_pos;rw[r.rh];omega
theorem Rw.MC(l:List Rw):l.length<=Rw.gE l:=by induction l with|nil=>simp[Rw.gE]|cons t l ih=>have:=t.lO;simp[Rw.gE];omega
theorem Rw.MD{l:List Rw}{t:Rw}(h:t∈l):t.total<=Rw.gE l:=by induction l with|nil=>cases h|cons u l ih=>simp only[Rw.gE];rcases auJ.1 h with rfl|h1;omega;have:=ih h1;omega
theorem Rw.Ri{t:Rw}{k:Nat}(h:k<t.kids.length):t.kids[k].total<t.total:=by have:=Rw.MD (auv h);rw[t.rh];omega
theorem Rw.size_eq(r:Rw):r.size=1+Rw.sizes r.kids:=by cases r;rfl
theorem oH{t:Ty}(h:t.size<=900000000):az aj 49 [.agg [.sl (t.args.map Ty.enc),nI t.base],.sl []] (.agg [.sl (t.args.map Ty.enc),nI t.base]):=by have:=ky (t:=t) (l:=[]) (by simp only[Ty.sizes];omega);rw[Ty.arrow,avr,Ty.eta,Ty.aP]at this;exact this
def arity(k:Int):Int:=if k=0\/k=1\/k=2 then 0 else if k=3 then 1 else if k=4 then 2 else -1
theorem MF(k:Int):az aj 204 [nI k] (nI (arity k)):=by refine Vk ?_;unfold adH arity;by_cases h0:k=0;subst h0;exact aA.pos rfl (aA.pos rfl rfl);refine aA.neg (by simpa using h0) ?_;by_cases h1:k=1;subst h1;exact aA.pos rfl (aA.pos rfl rfl);refine aA.neg (by simpa using h1) ?_;by_cases h2:k=2;subst h2;exact aA.pos rfl rfl;refine aA.neg (by simpa using h2) ?_;rw[if_neg (by omega)];by_cases h3:k=3;subst h3;exact aA.pos rfl rfl;refine aA.neg (by simpa using h3) ?_;rw[if_neg h3];by_cases h4:k=4;subst h4;exact aA.pos rfl rfl;refine aA.neg (by simpa using h4) ?_;rw[if_neg h4]
mutual
def Rw.shaped:Rw->Bool
 | .mk k _ _ l=>decide (arity k=l.length)&&Rw.dI l
def Rw.dI:List Rw->Bool
 | []=>true|t::l=>Rw.shaped t&&Rw.dI l
end
theorem Rw.wx(t:Rw):Rw.shaped t=(decide (arity t.kind=t.kids.length)&&Rw.dI t.kids):=by cases t;rfl
theorem Rw.pK{l:List Rw}{k:Nat}(h:k<l.length):Rw.dI (l.drop k)=(Rw.shaped l[k]&&Rw.dI (l.drop (k+1))):=by rw[aut h,Rw.dI]
mutual
def Rw.depth:Rw->Nat
 | .mk _ _ _ l=>Rw.wy 0 l+1
def Rw.wy:Nat->List Rw->Nat
 |n,[]=>n|n,t::l=>Rw.wy (if Rw.depth t>n then Rw.depth t else n) l
end
theorem Rw.Xg(t:Rw):t.depth=Rw.wy 0 t.kids+1:=by cases t;rfl
theorem Rw.tl{n m:Nat}:∀{l:List Rw},Rw.wy n l<=m↔n<=m/\∀t∈l,t.depth<=m
 | []=>by simp[Rw.wy]|t::l=>by rw[Rw.wy,Rw.tl (l:=l)];simp only[auJ,forall_eq_or_imp];split<;>constructor;rintro⟨h1,h2⟩;exact⟨by omega,h1,h2⟩;rintro⟨h1,h2,h3⟩;exact⟨h2,h3⟩;rintro⟨h1,h2⟩;exact⟨h1,by omega,h2⟩;rintro⟨h1,h2,h3⟩;exact⟨h1,h3⟩
def Rw.bH(t:Rw):Bool:=t.shaped&&(decide (t.size<=5000)&&decide (t.depth<=60))
mutual
def Rw.sound(d left:Int):Rw->Bool×Int
 | .mk k _ _ l=>if left-1<0\/d>60\/¬arity k=l.length then(false,left-1)else Rw.gF (d+1) (left-1) l
def Rw.gF(d left:Int):List Rw->Bool×Int
 | []=>(true,left)|t::l=>if(Rw.sound d left t).1=true then Rw.gF d (Rw.sound d left t).2 l else(false,(Rw.sound d left t).2)
end
theorem Rw.Xh(d left:Int)(t:Rw):Rw.sound d left t=if left-1<0\/d>60\/¬arity t.kind=t.kids.length then(false,left-1)else Rw.gF (d+1) (left-1) t.kids:=by cases t;rfl
theorem Rw.Jw{d left:Int}{l:List Rw}{k:Nat}(h:k<l.length):Rw.gF d left (l.drop k)=if(Rw.sound d left l[k]).1=true then Rw.gF d (Rw.sound d left l[k]).2 (l.drop (k+1))else(false,(Rw.sound d left l[k]).2):=by rw[aut h,Rw.gF]
mutual
theorem Rw.Bi:∀(t:Rw)(d left:Nat),1<=d->d<=61->((Rw.sound d left t).1=true↔(t.shaped=true/\t.size<=left/\t.depth+d<=61))/\((Rw.sound d left t).1=true->(Rw.sound d left t).2=(left:Int)-t.size)/\ -1<=(Rw.sound d left t).2/\(Rw.sound d left t).2<=left
 | .mk k ty i l,d,left,hd,hd2=>by rw[Rw.sound,Rw.shaped,Rw.size,Rw.depth];by_cases hc:(left:Int)-1<0\/(d:Int)>60\/¬arity k=l.length;rw[if_pos hc];refine⟨⟨λh=>(by cases h),fun⟨h1,h2,h3⟩=>?_⟩,λh=>(by cases h),by dsimp only;omega,by dsimp only;omega⟩;rw[aul,decide_eq_true_eq]at h1;rcases hc with hc|hc|hc;omega;omega;exact(hc h1.1).elim;(rw[if_neg hc];simp only[not_or,Int.not_lt,avP]at hc;obtain⟨c1,c2,c3⟩:=hc;have e1:(left:Int)-1=((left-1:Nat):Int):=by omega);(have e2:(d:Int)+1=((d+1:Nat):Int):=by omega);rw[e1,e2];obtain⟨g1,g2,g3,g4⟩:=Rw.DO l (d+1) (left-1) (by omega) (by omega);refine⟨?_,?_,g3,by omega⟩;rw[g1,c3];simp only[decide_true,au5];have:=Rw.tl (n:=0) (m:=60-d) (l:=l);constructor;rintro⟨h1,h2,h3⟩;refine⟨h1,by omega,?_⟩;have:=this.2 ⟨aus _,λt ht=>by have:=h3 t ht;omega⟩;omega;rintro⟨h1,h2,h3⟩;exact⟨h1,by omega,λt ht=>by have:=(this.1 (by omega)).2 t ht;omega⟩;intro h;rw[g2 h];omega
theorem Rw.DO:∀(l:List Rw)(d left:Nat),1<=d->d<=61->((Rw.gF d left l).1=true↔(Rw.dI l=true/\Rw.sizes l<=left/\∀t∈l,t.depth+d<=61))/\((Rw.gF d left l).1=true->(Rw.gF d left l).2=(left:Int)-Rw.sizes l)/\ -1<=(Rw.gF d left l).2/\(Rw.gF d left l).2<=left
 | [],d,left,_,_=>by refine⟨⟨λ_=>⟨rfl,aus _,λt ht=>(by cases ht)⟩,λ_=>rfl⟩,λ_=>?_,?_,?_⟩;simp[Rw.gF,Rw.sizes];simp only[Rw.gF];omega;simp only[Rw.gF];omega|t::l,d,left,hd,hd2=>by obtain⟨g1,g2,g3,g4⟩:=Rw.Bi t d left hd hd2;rw[Rw.gF,Rw.dI,Rw.sizes];by_cases hc:(Rw.sound d left t).1=true;(rw[if_pos hc];obtain⟨c1,c2,c3⟩:=g1.1 hc;have e:(Rw.sound d left t).2=((left-t.size:Nat):Int):=by rw[g2 hc];omega);rw[e];obtain⟨k1,k2,k3,k4⟩:=Rw.DO l d (left-t.size) hd hd2;refine⟨?_,?_,k3,by omega⟩;rw[k1,aul];simp only[auJ,forall_eq_or_imp];constructor;rintro⟨h1,h2,h3⟩;exact⟨⟨c1,h1⟩,by omega,c3,h3⟩;rintro⟨⟨_,h1⟩,h2,_,h3⟩;exact⟨h1,by omega,h3⟩;intro h;rw[k2 h];omega;rw[if_neg hc];refine⟨⟨λh=>(by cases h),fun⟨h1,h2,h3⟩=>(hc (g1.2 ?_)).elim⟩,λh=>(by cases h),g3,g4⟩;rw[aul]at h1;exact⟨h1.1,by omega,h3 t auw⟩
end
theorem Jx:∀(n:Nat)(t:Rw)(d left:Nat)(h0:Int)(h1:List AV)(h2 h3:Int)(h4:List AV),t.total<=n->n<=500000000->1<=d->d<=61->left<=5000-> aZ aj 188 [t.enc,nI d,.ptr 1 0] [.box [nI h0,.sl h1,nI h2,nI h3,.sl h4],.box [nI left]] (λr q=>r=nB (Rw.sound d left t).1/\q=[.box [nI h0,.sl h1,nI h2,nI h3,.sl h4],.box [nI (Rw.sound d left t).2]]):=by intro n;induction n with|zero=>intro t d left h0 h1 h2 h3 h4 h;have:=t.lO;omega|succ n ih=>intro t d left h0 h1 h2 h3 h4 h hn hd hd2 hl;have hq:=Rw.MC t.kids;have Mq:=t.rh;have hsd:=Rw.Xh d left t;rw[Rw.aP];refine Vj ?_;unfold adG;rw[bb (n:=(left:Int)-1) (by omega) (by omega)];refine aA.intro (λh=>?_) λh=>?_;(have:(left:Int)-1<0:=by simpa using h);rw[if_pos (.inl this)]at hsd;rw[hsd];exact⟨rfl,rfl⟩;(have c1:¬(left:Int)-1<0:=by simpa using h);refine aA.intro (λh=>?_) λh=>?_;(have:(d:Int)>60:=by simpa using h);rw[if_pos (.inr (.inl this))]at hsd;rw[hsd];exact⟨rfl,rfl⟩;(have c2:¬(d:Int)>60:=by simpa using h);refine⟨_,MF _,aA.intro (λh=>?_) λh=>?_⟩;(have:¬arity t.kind=t.kids.length:=by simpa using h);rw[if_pos (.inr (.inr this))]at hsd;rw[hsd];exact⟨rfl,rfl⟩;(have c3:arity t.kind=t.kids.length:=by simpa using h);rw[if_neg (by simp only[not_or,avP];exact⟨c1,c2,c3⟩)]at hsd;rw[hsd,show (d:Int)+1=((d+1:Nat):Int)from by omega,show (left:Int)-1=((left-1:Nat):Int)from by omega];refine aI.intro (λp:Nat×Nat=>(((d:Int),(),t.kids.map Rw.enc,(t.kids.length:Int),(p.1:Int),()),((h0,h1,h2,h3,h4,()),((p.2:Int),()),(t.kind,t.type.args.map Ty.enc,t.type.base,t.index,t.kids.map Rw.enc,()),()))) (λp=>p.1<=t.kids.length/\p.2<=5000/\Rw.gF ((d+1:Nat):Int) ((left-1:Nat):Int) t.kids=Rw.gF ((d+1:Nat):Int) (p.2:Int) (t.kids.drop p.1)) (λp=>t.kids.length-p.1) (0,left-1) (by rw[aui];rfl) ⟨aus _,by dsimp only;omega,rfl⟩ ?_;intro ⟨k,m⟩ ⟨hk,hm,hs⟩ again bP;dsimp only at hk hm hs ⊢;rw[aui];refine aA.intro (λh=>?_) λh=>?_;(have aE:k<t.kids.length:=by simpa using h);have hi:=ih t.kids[k] (d+1) m h0 h1 h2 h3 h4 (by have:=Rw.Ri aE;omega) (by omega) (by omega) (by omega) hm;obtain⟨g1,g2,g3,g4⟩:=Rw.Bi t.kids[k] (d+1) m (by omega) (by omega);rw[Rw.aP]at hi;rw[Rw.Jw aE]at hs;rw[bf (by omega)];refine⟨by omega,by omega,_,_,_,_,_,Rw.bx aE,_,hi,λr q ⟨hr,hq⟩=>⟨_,_,_,_,_,_,_,⟨hr,hq⟩,aA.intro (λh=>?_) λh=>?_⟩⟩;(have hf:(Rw.sound ((d+1:Nat):Int) m t.kids[k]).1=false:=by simpa using h);rw[hf]at hs;simp only[auE,if_false]at hs;rw[hs];exact⟨rfl,rfl⟩;(have hf:(Rw.sound ((d+1:Nat):Int) m t.kids[k]).1=true:=by simpa using h);(rw[if_pos hf]at hs;obtain⟨_,k2,_⟩:=g1.1 hf;have e:(Rw.sound ((d+1:Nat):Int) m t.kids[k]).2=((m-t.kids[k].size:Nat):Int):=by rw[g2 hf];omega);rw[e]at hs ⊢;rw[bf (by omega)];exact bP (k+1,m-t.kids[k].size) ⟨by dsimp only;omega,by dsimp only;omega,hs⟩ (by dsimp only;omega);(have:t.kids.length<=k:=by simpa using h);rw[auF this]at hs;rw[hs];exact⟨rfl,rfl⟩
theorem Jy{t:Rw}(h:t.total<=500000000):az aj 171 [t.enc] (nB t.bH):=by (have h1:=Jx _ t 1 5000 t.kind (t.type.args.map Ty.enc) t.type.base t.index (t.kids.map Rw.enc) (aum _) h (by omega) (by omega) (by omega);have e:(Rw.sound ((1:Nat):Int) ((5000:Nat):Int) t).1=t.bH:=by have:=(Rw.Bi t 1 5000 (by omega) (by omega)).1;rw[avL,this,Rw.bH];simp only[aul,decide_eq_true_eq];constructor;rintro⟨h1,h2,h3⟩;exact⟨h1,h2,by omega⟩;rintro⟨h1,h2,h3⟩;exact⟨h1,h2,by omega⟩);rw[Rw.aP]at h1 ⊢;refine Vf ⟨_,h1,λr q ⟨hr,hq⟩=>⟨_,_,_,_,_,_,_,⟨hr,hq⟩,?_⟩⟩;rw[e]
mutual
def Ty.pre(d:Nat):Ty->List (Nat×Ty)
 | .mk l b=>(d,.mk l b)::Ty.gG (d+1) l
def Ty.gG(d:Nat):List Ty->List (Nat×Ty)
 | []=>[]|t::l=>Ty.pre d t++Ty.gG d l
end
theorem Ty.FP(d:Nat)(t:Ty):t.pre d=(d,t)::Ty.gG (d+1) t.args:=by cases t;rfl
theorem Ty.wz{d:Nat}{l:List Ty}{k:Nat}(h:k<l.length):Ty.gG d (l.drop k)=l[k].pre d++Ty.gG d (l.drop (k+1)):=by rw[aut h,Ty.gG]
mutual
theorem Ty.pL:∀(d:Nat)(t:Ty),(t.pre d).length=t.size
 |d,.mk l b=>by rw[Ty.pre,aur,Ty.ri (d+1) l,Ty.size];omega
theorem Ty.ri:∀(d:Nat)(l:List Ty),(Ty.gG d l).length=Ty.sizes l
 |d,[]=>rfl|d,t::l=>by rw[Ty.gG,auo,Ty.pL d t,Ty.ri d l,Ty.sizes]
end
def Jz(p:Nat×Ty):List AV:=[nI p.1,.agg [.sl (p.2.args.map Ty.enc),nI p.2.base]]
def Bj(p:Nat×Ty):Int×(List AV×Int×Unit)×Unit:=(p.1,(p.2.args.map Ty.enc,p.2.base,()),())
theorem JA:∀(n:Nat)(t:Ty)(d:Nat),t.size<=n->d+n<=1000000000->vO aj 167 (λv=>[.agg [.sl (t.args.map Ty.enc),nI t.base],nI d,v]) ((t.pre d).map Jz) true:=by intro n;induction n with|zero=>intro t d h;have:=t.size_pos;omega|succ n ih=>intro t d h hn;have hq:=Ty.ba t.args;have Mq:=t.size_eq;refine U6 λyv more=>⟨rfl,(Ty.gG (d+1) t.args).map Jz++more,by rw[Ty.FP];rfl,λb=>aA.intro (λh=>?_) λh=>?_⟩;(have:b=false:=by simpa using h);subst this;rfl;(have:b=true:=by simpa using h);subst this;refine aI.intro (λk:Nat=>((((d:Int),yv,t.args.map Ty.enc,(t.args.length:Int),(k:Int),()),((t.args.map Ty.enc,t.base,()),())),some ((Ty.gG (d+1) (t.args.drop k)).map Jz++more))) (λk=>k<=t.args.length) (λk=>t.args.length-k) 0 (by rw[aui];rfl) (aus _) ?_;intro k hk again bP;dsimp only;rw[aui];refine aA.intro (λh=>?_) λh=>?_;(have aE:k<t.args.length:=by simpa using h);have hi:=ih t.args[k] (d+1) (by have:=Ty.eS aE;omega) (by omega);refine⟨by omega,by omega,_,_,Ty.bx aE,_,_,(Ty.gG (d+1) (t.args.drop (k+1))).map Jz++more,?_,hi,?_,λb=>aA.intro (λh=>?_) λh=>?_⟩;rw[bf (by omega)];rw[Ty.wz aE,auZ,auH];(have:b=false:=by simpa using h);subst this;rfl;(have:b=true:=by simpa using h);subst this;rw[bf (by omega)];exact bP (k+1) (by omega) (by omega);(have:t.args.length<=k:=by simpa using h);rw[auF this];rfl
theorem FQ{t:Ty}(h:t.size<=500000000):vO aj 166 (λv=>[v,.aV (.agg [.sl (t.args.map Ty.enc),nI t.base]) 0]) ((t.pre 1).map Jz) false:=U4 λyv more=>⟨_,_,more,rfl,JA _ t 1 (aum _) (by omega),rfl,λb=>⟨b,rfl⟩⟩
theorem xJ(t:Ty):az aj 135 [.agg [.sl (t.args.map Ty.enc),nI t.base]] (.bw 166 [.aV (.agg [.sl (t.args.map Ty.enc),nI t.base]) 0]):=Vc rfl
theorem DP{t:Ty}(h:t.size<=500000000):kU aj 166 [.aV (.agg [.sl (t.args.map Ty.enc),nI t.base]) 0] [.v (.c (.i .i64)),.v (.a [.l,.i .i64])] ((t.pre 1).map Bj):=qZ (prm:=[.v (.c (.i .i64)),.v (.a [.l,.i .i64])]) Bj (FQ h)
theorem rj{t:Ty}(h:t.size<=500000000):az aj 190 [.agg [.sl (t.args.map Ty.enc),nI t.base]] (nI (t.size:Nat)):=by refine Vd ⟨xJ t,?_⟩;refine fO.q7 (λn:Nat=>((t.args.map Ty.enc,t.base,()),((n:Int),()),())) Bj (t.pre 1) (DP h) (λrest n=>n+rest.length=t.size) 0 rfl (by rw[Ty.pL];omega) (λe rest n hI again bP=>?_) λn hI=>?_;rw[aur]at hI;dsimp only;rw[bf (by omega)];exact bP (n+1) (by omega);(have:n=t.size:=by simpa using hI);rw[this]
def xK(aJ:Int)(p:Nat×Ty):Bool:=decide (p.1<=60)&&(decide (0<=p.2.base)&&decide (p.2.base<aJ))
def Bk(aJ:Int):Nat->List (Nat×Ty)->Bool
 |_,[]=>true|n,p::l=>if p.1>60\/n+1>1000\/p.2.base<0\/p.2.base>=aJ then false else Bk aJ (n+1) l
theorem JB(aJ:Int):∀(l:List (Nat×Ty))(n:Nat),n<=1000->Bk aJ n l=(decide (n+l.length<=1000)&&l.all (xK aJ))
 | [],n,hn=>by simp[Bk,hn]|p::l,n,hn=>by rw[Bk];split;rename_i hc;symm;rw[Bool.and_eq_false_iff];by_cases h1:n+1>1000;left;rw[decide_eq_false];rw[aur];omega;(right;rw[avI];have:xK aJ p=false:=by unfold xK;rw[Bool.and_eq_false_iff,Bool.and_eq_false_iff];rcases hc with hc|hc|hc|hc;left;exact decide_eq_false (by omega);omega;right;left;exact decide_eq_false (by omega);right;right;exact decide_eq_false (by omega));rw[this,ave];(rename_i hc;simp only[not_or]at hc;obtain⟨h1,h2,h3,h4⟩:=hc;have hg:xK aJ p=true:=by unfold xK;rw[decide_eq_true (by omega),decide_eq_true (by omega),decide_eq_true (by omega)];rfl);rw[JB aJ l (n+1) (by omega),avI,hg,au5,aur,show n+1+l.length=n+(l.length+1)from by omega]
def Ty.bH(aJ:Int)(t:Ty):Bool:=decide (t.size<=1000)&&(t.pre 1).all (xK aJ)
theorem lz{t:Ty}{aJ:Int}(h:t.size<=500000000):az aj 75 [.agg [.sl (t.args.map Ty.enc),nI t.base],nI aJ] (nB (t.bH aJ)):=by (refine aaj ⟨xJ t,?_⟩;have hr:t.bH aJ=Bk aJ 0 (t.pre 1):=by rw[JB aJ _ 0 (by omega),Ty.pL,Ty.bH,auO]);refine fO.q7 (λn:Nat=>((t.args.map Ty.enc,t.base,()),(aJ,()),(false,()),((n:Int),()),())) Bj (t.pre 1) (DP h) (λr n=>n+r.length=t.size/\t.bH aJ=Bk aJ n r) 0 rfl ⟨by rw[Ty.pL];omega,hr⟩ (λp r n ⟨hI,hk⟩ again bP=>?_) λn ⟨hI,hk⟩=>?_;rw[aur]at hI;rw[Bk]at hk;dsimp only[Bj];rw[bf (by omega)];refine aA.intro (λh1=>?_) λh1=>aA.intro (λh2=>?_) λh2=>aA.intro (λh3=>?_) λh3=>aA.intro (λh4=>?_) λh4=>?_;(have:p.1>60:=by simp at h1;omega);rw[if_pos (.inl this)]at hk;rw[hk];(have:n+1>1000:=by simp at h2;omega);rw[if_pos (.inr (.inl this))]at hk;rw[hk];have:p.2.base<0:=of_decide_eq_true h3;rw[if_pos (.inr (.inr (.inl this)))]at hk;rw[hk];(have:p.2.base>=aJ:=by simpa using h4);rw[if_pos (.inr (.inr (.inr this)))]at hk;rw[hk];(have g1:¬p.1>60:=by simp at h1;omega);(have g2:¬n+1>1000:=by simp at h2;omega);(have g3:¬p.2.base<0:=of_decide_eq_false h3;have g4:¬p.2.base>=aJ:=by simpa using h4);rw[if_neg (by simp only[not_or];exact⟨g1,g2,g3,g4⟩)]at hk;exact bP (n+1) ⟨by omega,hk⟩;rw[hk];rfl
def bt(c m x:List Ty)(k i:Int):Option Ty:=if i<0 then none else if k=0 then(if i<x.length then x[x.length-1-i.toNat]? else none)else if k=1 then c[i.toNat]? else if k=2 then m[i.toNat]? else none
def aj7:Option Ty->AV
 |some t=>.aG [.agg [.sl (t.args.map Ty.enc),nI t.base],nB true]|none=>.aG [.agg [.sl [],nI 0],nB false]
theorem tm{l:List Ty}{n:Nat}(h:n<l.length):ae (l.map Ty.enc) n .top=.agg [.sl (l[n].args.map Ty.enc),nI l[n].base]:=by have:=Ty.bx h;simpa using this
theorem rk{b:Int}{c m x:List Ty}{k i:Int}(hi:jt i)(hx:x.length<=1000000000):az aj 93 [.agg [nI b,.sl (c.map Ty.enc),.sl (m.map Ty.enc)],.sl (x.map Ty.enc),.agg [nI k,nI i]] (aj7 (bt c m x k i)):=by unfold jt at hi;refine aam ?_;unfold ai5 bt;simp only[aui];refine aA.intro (λh1=>?_) λh1=>?_;(have e1:k=1:=by simpa using h1);refine aA.intro (λh=>?_) λh2=>aA.intro (λh=>?_) λh3=>?_;(have:i<0:=by simpa using h);rw[if_pos this];rfl;(have PF:¬i<0:=by simpa using h2);(have h3':(c.length:Int)<=i:=by simpa using h);rw[if_neg PF,if_neg (by omega),if_pos e1,auP (by omega)];rfl;(have PF:¬i<0:=by simpa using h2);(have h3':i<(c.length:Int):=by simpa using h3);(have aE:i.toNat<c.length:=by omega);refine⟨by omega,by omega,_,_,tm aE,?_⟩;rw[if_neg PF,if_neg (by omega),if_pos e1,aun aE];rfl;(have n1:¬k=1:=by simpa using h1);refine aA.intro (λh4=>?_) λh4=>?_;(have e2:k=2:=by simpa using h4);refine aA.intro (λh=>?_) λh2=>aA.intro (λh=>?_) λh3=>?_;(have:i<0:=by simpa using h);rw[if_pos this];rfl;(have PF:¬i<0:=by simpa using h2);(have h3':(m.length:Int)<=i:=by simpa using h);rw[if_neg PF,if_neg (by omega),if_neg n1,if_pos e2,auP (by omega)];rfl;(have PF:¬i<0:=by simpa using h2);(have h3':i<(m.length:Int):=by simpa using h3);(have aE:i.toNat<m.length:=by omega);refine⟨by omega,by omega,_,_,tm aE,?_⟩;rw[if_neg PF,if_neg (by omega),if_neg n1,if_pos e2,aun aE];rfl;(have n2:¬k=2:=by simpa using h4);refine aA.intro (λh5=>?_) λh5=>?_;(have e0:k=0:=by simpa using h5);refine aA.intro (λh=>?_) λh2=>?_;(have:i<0:=by simpa using h);rw[if_pos this];rfl;(have PF:¬i<0:=by simpa using h2);rw[bb (n:=(x.length:Int)-1) (by omega) (by omega),bb (by omega) (by omega)];refine aA.intro (λh=>?_) λh3=>aA.intro (λh=>?_) λh6=>?_;(have h3':(x.length:Int)-1-i<0:=by simpa using h);rw[if_neg PF,if_pos e0,if_neg (by omega)];rfl;(have h3':(x.length:Int)-1-i>=x.length:=by simpa using h);omega;(have h3':¬(x.length:Int)-1-i<0:=by simpa using h3);(have aE:x.length-1-i.toNat<x.length:=by omega);refine⟨by omega,by omega,_,_,by rw[show af ((x.length:Int)-1-i)=x.length-1-i.toNat from by omega];exact tm aE,?_⟩;rw[if_neg PF,if_pos e0,if_pos (by omega),aun aE];rfl;(have n0:¬k=0:=by simpa using h5);rw[if_neg n0,if_neg n1,if_neg n2];split<;>rfl
theorem tn{c m x:List Ty}{k i:Int}{t:Ty}(h:bt c m x k i=some t):t∈x\/t∈c\/t∈m:=by unfold bt at h;split at h;cases h;split at h;split at h;exact .inl (auq h);cases h;split at h;exact .inr (.inl (auq h));split at h;exact .inr (.inr (auq h));cases h
def hTy:Option Ty->AV
 |some t=>.aG [.agg [.sl (t.args.map Ty.enc),nI t.base],nI 0]|none=>.aG [.agg [.sl [],nI 0],nI 10]
theorem rn{b:Int}{c m x:List Ty}{k i:Int}(hi:jt i)(hx:x.length<=1000000000)(hs:∀t,bt c m x k i=some t->t.size<=500000000): az aj 192 [.agg [nI b,.sl (c.map Ty.enc),.sl (m.map Ty.enc)],.sl (x.map Ty.enc),.agg [nI k,nI i]] (hTy (bt c m x k i)):=by have h1:=rk (b:=b) (c:=c) (m:=m) (x:=x) (k:=k) (i:=i) hi hx;cases ht:bt c m x k i with|none=>rw[ht]at h1;exact IF ⟨_,_,_,h1,aA.pos rfl rfl⟩|some t=>rw[ht]at h1;exact IF ⟨_,_,_,h1,aA.neg rfl ⟨_,_,oH (by have:=hs t ht;omega),rfl⟩⟩
mutual
def Rw.Ok:Rw->Prop
 | .mk k _ i l=>jt k/\jt i/\Rw.PA l
def Rw.PA:List Rw->Prop
 | []=>True|t::l=>Rw.Ok t/\Rw.PA l
end
theorem Rw.ok_eq{t:Rw}(h:t.Ok):jt t.kind/\jt t.index/\Rw.PA t.kids:=by cases t;exact h
theorem xL{l:List Ty}:az aj 189 [.sl (l.map Ty.enc)] (.clip (l.map Ty.enc)):=by refine Pure.of_heap (Vn ⟨⟨by omega,by omega,rfl,by omega,Ty.lN⟩,rfl,?_⟩);simp[auA]
theorem MG{t:Ty}(h:t.size<=500000000)(h1:1<=t.args.length):az aj 191 [.agg [.sl (t.args.map Ty.enc),nI t.base],nI 1] (.aG [.agg [.sl ((t.args.drop 1).map Ty.enc),nI t.base],nI 0]):=by (have Mq:=t.size_eq;have cP:Ty.sizes (t.args.drop 1)<=Ty.sizes t.args:=by have e:=Ty.cO (t.args.take 1) (t.args.drop 1);rw[avi]at e;omega);(have hc:=lx _ (.mk (t.args.drop 1) t.base) (aum _) (by simp only[Ty.size];omega);rw[Ty.jL]at hc;have hd:List.drop (af 1) (List.take (af ((ab (t.args.map Ty.enc):Nat):Int)) (t.args.map Ty.enc))=(t.args.drop 1).map Ty.enc:=by simp[auA]);refine Vo (aA.neg rfl (aA.neg (by simp;omega) ⟨⟨by omega,by rw[aui];omega,by omega,Ty.lN⟩,_,_,by rw[hd];exact hc,rfl⟩))
abbrev kO:Ty:=.mk [] 0
def rp(t:Ty):List (Ty×Int)->Ty×Int
 |p::_=>if p.2≠0 then(kO,p.2)else if(p.1.arrow [t]).size>1000 then(kO,2)else(p.1.arrow [t],0)| []=>(kO,0)
def pM:List (Ty×Int)->Ty×Int
 |p::q::_=>if p.2≠0 then(kO,p.2)else if q.2≠0 then(kO,q.2)else(match p.1.args with| []=>(kO,5)|u::us=>if Ty.same u q.1=true then(.mk us p.1.base,0)else(kO,5))|_=>(kO,0)
def ni:Option Ty->Ty×Int
 |some t=>if t.size>1000 then(kO,2)else(t,0)|none=>(kO,10)
mutual
def Rw.infer(b:Int)(c m:List Ty):List Ty->Rw->Ty×Int
 |x,.mk k t i l=>if k=3 then(if t.bH b=true then rp t (Rw.eC b c m (x++[t]) l)else(kO,2))else if k=4 then pM (Rw.eC b c m x l)else ni (bt c m x k i)
def Rw.eC(b:Int)(c m:List Ty):List Ty->List Rw->List (Ty×Int)
 |_,[]=>[]|x,r::l=>Rw.infer b c m x r::Rw.eC b c m x l
end
theorem Rw.Xi(b:Int)(c m x:List Ty)(r:Rw):r.infer b c m x=if r.kind=3 then(if r.type.bH b=true then rp r.type (Rw.eC b c m (x++[r.type]) r.kids)else(kO,2))else if r.kind=4 then pM (Rw.eC b c m x r.kids)else ni (bt c m x r.kind r.index):=by cases r;rw[Rw.infer];rfl
mutual
theorem Rw.jN(b:Int)(c m:List Ty):∀(r:Rw)(x:List Ty),(r.infer b c m x).1.size<=1000
 | .mk k t i l,x=>by rw[Rw.infer];split;split;have:=Rw.rq b c m l (x++[t]);generalize Rw.eC b c m (x++[t]) l=q at this;(cases q with|nil=>simp[rp,Ty.size,Ty.sizes]|cons p q=>simp only[rp];split;simp[Ty.size,Ty.sizes];split;simp[Ty.size,Ty.sizes];rename_i h;exact Nat.not_lt.1 h);simp[Ty.size,Ty.sizes];split;have:=Rw.rq b c m l x;generalize Rw.eC b c m x l=q at this;(match q,this with| [],_=>simp[pM,Ty.size,Ty.sizes]| [p],_=>simp[pM,Ty.size,Ty.sizes]|p::p2::q,h=>have hp:=h p auw;simp only[pM];split;simp[Ty.size,Ty.sizes];split;simp[Ty.size,Ty.sizes];split;simp[Ty.size,Ty.sizes];rename_i u us hu;split;have:=p.1.size_eq;rw[hu,Ty.sizes]at this;simp only[Ty.size];omega;simp[Ty.size,Ty.sizes]);cases bt c m x k i with|none=>simp[ni,Ty.size,Ty.sizes]|some u=>simp only[ni];split;simp[Ty.size,Ty.sizes];rename_i h;exact Nat.not_lt.1 h
theorem Rw.rq(b:Int)(c m:List Ty):∀(l:List Rw)(x:List Ty),∀p∈Rw.eC b c m x l,p.1.size<=1000
 | [],x,p,hp=>by cases hp|r::l,x,p,hp=>by rw[Rw.eC]at hp;rcases auJ.1 hp with rfl|hp;exact Rw.jN b c m r x;exact Rw.rq b c m l x p hp
end
def PG(p:Ty×Int):AV:=.aG [.agg [.sl (p.1.args.map Ty.enc),nI p.1.base],nI p.2]
theorem Xj{l:List Rw}{k:Int}(hk:k=3)(h:arity k=l.length):∃a,l=[a]:=by (subst hk;have:l.length=1:=by have:arity 3=1:=rfl;omega);match l,this with| [a],_=>exact⟨a,rfl⟩
theorem Xk{l:List Rw}{k:Int}(hk:k=4)(h:arity k=l.length):∃a b,l=[a,b]:=by (subst hk;have:l.length=2:=by have:arity 4=2:=rfl;omega);match l,this with| [a,b],_=>exact⟨a,b,rfl⟩
theorem Ty.wA(t:Ty):Ty.sizes [t]=t.size:=by simp[Ty.sizes]
theorem zi(t:Ty):[AV.agg [.sl (t.args.map Ty.enc),nI t.base]]=[t].map Ty.enc:=by rw[<-Ty.aP];rfl
theorem JC{b:Int}{c m:List Ty}(hc:∀t∈c,t.size<=500000000)(hm:∀t∈m,t.size<=500000000):∀(n:Nat)(r:Rw)(x:List Ty),r.total<=n->r.shaped=true->r.Ok->Ty.sizes x+r.total<=400000000-> az aj 172 [.agg [nI b,.sl (c.map Ty.enc),.sl (m.map Ty.enc)],.sl (x.map Ty.enc),r.enc] (PG (r.infer b c m x)):=by intro n;induction n with|zero=>intro t x h;have:=t.lO;omega|succ n ih=>intro r x h tP aK hx;have Mq:=r.rh;have hxl:=Ty.ba x;rw[Rw.wx,aul,decide_eq_true_eq]at tP;obtain⟨ha,Xl⟩:=tP;obtain⟨_,hi,aK⟩:=Rw.ok_eq aK;have eG:=Rw.Xi b c m x r;rw[Rw.aP];refine Vh (aA.intro (λh3=>?_) λh3=>aA.intro (λh4=>?_) λh4=>?_);(have e3:r.kind=3:=by simpa using h3);rw[if_pos e3]at eG;refine⟨_,lz (by omega),aA.intro (λh=>?_) λh=>?_⟩;(have:¬r.type.bH b=true:=by simpa using h);rw[if_neg this]at eG;rw[eG];rfl;(have hr:r.type.bH b=true:=by simpa using h);(rw[if_pos hr]at eG;obtain⟨a,hl⟩:=Xj e3 ha;rw[hl]at eG Xl aK Mq;rw[Rw.dI,Rw.dI,Bool.and_true]at Xl;simp only[Rw.gE]at Mq;have hx2:Ty.sizes (x++[r.type])=Ty.sizes x+r.type.size:=by rw[Ty.cO,Ty.wA]);(have eg:=ih a (x++[r.type]) (by omega) Xl aK.1 (by omega);rw[Rw.aP,auZ,<-zi]at eg;rw[Rw.eC,Rw.eC]at eG;generalize ha2:a.infer b c m (x++[r.type])=p at eg eG;have YH:p.1.size<=1000:=by rw[<-ha2];exact Rw.jN ..);(have both:AQ (r.type.args.map Ty.enc) r.type.base (x.map Ty.enc) b (c.map Ty.enc) (m.map Ty.enc) a.kind (a.type.args.map Ty.enc) a.type.base a.index (a.kids.map Rw.enc) (λy=>y=PG (r.infer b c m x)):=by refine⟨λh=>(by cases h),kx Ty.lN (by rw[zi];exact Ty.lN) (by simp;omega) (by decide),rfl,_,_,_,eg,aA.intro (λh=>?_) λh=>?_⟩;(have he:p.2≠0:=by simpa using h);rw[eG,rp,if_pos he];rfl;(have he:¬p.2≠0:=by simpa using h);(simp only[rp,if_neg he]at eG;have gZ:=ky (t:=p.1) (l:=[r.type]) (by rw[Ty.wA];omega);rw[Ty.aP,<-zi,Ty.arrow,Ty.jL]at gZ;have cP:(p.1.arrow [r.type]).size<=500000000:=by have:=p.1.size_eq;simp only[Ty.arrow,Ty.size,Ty.cO,Ty.wA];omega);refine⟨_,_,gZ,_,rj cP,aA.intro (λh=>?_) λh=>?_⟩;(have hg:(p.1.arrow [r.type]).size>1000:=by have:=of_decide_eq_true h;omega);rw[eG,if_pos hg];rfl;(have hg:¬(p.1.arrow [r.type]).size>1000:=by have:=of_decide_eq_false h;omega);rw[eG,if_neg hg];rfl);refine⟨_,xL,by omega,by rw[hl];simp,_,_,_,_,_,by rw[hl];exact Rw.bx (l:=[a]) (k:=0) (by simp),both,both⟩;(have e3:¬r.kind=3:=by simpa using h3);(have e4:r.kind=4:=by simpa using h4);(rw[if_neg e3,if_pos e4]at eG;obtain⟨f,a,hl⟩:=Xk e4 ha;rw[hl]at eG Xl aK Mq;rw[Rw.dI,Rw.dI,Rw.dI,Bool.and_true,aul]at Xl;simp only[Rw.gE]at Mq;have hf:=ih f x (by omega) Xl.1 aK.1 (by omega);have hac:=ih a x (by omega) Xl.2 aK.2.1 (by omega);rw[Rw.aP]at hf hac;rw[Rw.eC,Rw.eC,Rw.eC]at eG;generalize MH:f.infer b c m x=p at hf eG;generalize ha2:a.infer b c m x=q at hac eG;have YH:p.1.size<=1000:=by rw[<-MH];exact Rw.jN ..);(have hqs:q.1.size<=1000:=by rw[<-ha2];exact Rw.jN ..);refine⟨by omega,by rw[hl];simp,_,_,_,_,_,by rw[hl];exact Rw.bx (l:=[f,a]) (k:=0) (by simp),_,_,_,hf,aA.intro (λh=>?_) λh=>?_⟩;(have he:p.2≠0:=by simpa using h);rw[eG,pM,if_pos he];rfl;(have he:¬p.2≠0:=by simpa using h);simp only[pM,if_neg he]at eG;refine⟨by omega,by rw[hl];simp,_,_,_,_,_,by rw[hl];exact Rw.bx (l:=[f,a]) (k:=1) (by simp),_,_,_,hac,aA.intro (λh=>?_) λh=>?_⟩;(have KY:q.2≠0:=by simpa using h);rw[eG,if_pos KY];rfl;(have KY:¬q.2≠0:=by simpa using h);rw[if_neg KY]at eG;rw[aui];have hpe:=p.1.size_eq;(cases Cr:p.1.args with|nil=>rw[Cr]at eG;refine aA.pos rfl ?_;rw[eG];rfl|cons u us=>rw[Cr]at eG hpe;rw[Ty.sizes]at hpe;have Cs:=u.size_pos;have heq:=gD _ u q.1 (aum _) (by omega);rw[Ty.aP,Ty.aP]at heq;refine aA.neg (by simp;omega) ⟨by omega,by simp,_,_,Ty.bx (l:=u::us) (k:=0) (by simp),_,heq,aA.intro (λh=>?_) λh=>?_⟩;(have hs:¬Ty.same u q.1=true:=by simpa using h);rw[eG];simp only[if_neg hs];rfl;(have hs:Ty.same u q.1=true:=by simpa using h);have hre:=MG (t:=p.1) (by omega) (by rw[Cr];simp);rw[Cr]at hre;refine⟨_,_,_,hre,?_⟩;rw[eG];simp only[if_pos hs];rfl);(have e3:¬r.kind=3:=by simpa using h3);(have e4:¬r.kind=4:=by simpa using h4);(rw[if_neg e3,if_neg e4]at eG;have hbd:∀t,bt c m x r.kind r.index=some t->t.size<=500000000:=by intro t ht;rcases tn ht with h1|h1|h1;have:=Ty.dp h1;omega;exact hc t h1;exact hm t h1);have hh:=rn (b:=b) (c:=c) (m:=m) (x:=x) (k:=r.kind) (i:=r.index) hi (by omega) hbd;cases ht:bt c m x r.kind r.index with|none=>rw[ht]at hh eG;refine⟨_,_,_,hh,aA.neg rfl ?_⟩;rw[eG];rfl|some t=>rw[ht]at hh eG;refine⟨_,_,_,hh,aA.pos rfl ⟨_,rj (hbd t ht),aA.intro (λh=>?_) λh=>?_⟩⟩;(have hg:t.size>1000:=by have:=of_decide_eq_true h;omega);rw[eG,ni,if_pos hg];rfl;(have hg:¬t.size>1000:=by have:=of_decide_eq_false h;omega);rw[eG,ni,if_neg hg];rfl
theorem JD{b:Int}{c m x:List Ty}{r:Rw}(hc:∀t∈c,t.size<=500000000)(hm:∀t∈m,t.size<=500000000)(aK:r.Ok)(hx:Ty.sizes x+r.total<=400000000): az aj 140 [.agg [nI b,.sl (c.map Ty.enc),.sl (m.map Ty.enc)],.sl (x.map Ty.enc),r.enc] (PG (if r.bH=true then r.infer b c m x else(kO,1))):=by have h1:=Jy (t:=r) (by omega);rw[Rw.aP]at h1;cases hr:r.bH with|false=>rw[hr]at h1;rw[Rw.aP];exact IC ⟨_,h1,aA.pos rfl rfl⟩|true=>(have hs:r.shaped=true:=by rw[Rw.bH,aul]at hr;exact hr.1);have h2:=JC (b:=b) hc hm _ r x (aum _) hs aK hx;rw[hr]at h1;rw[Rw.aP]at h2 ⊢;exact IC ⟨_,h1,aA.neg rfl ⟨_,_,_,h2,rfl⟩⟩
theorem FR{x l:List Ty}(h:x.length+l.length<=1000000000):az aj 92 [.sl (x.map Ty.enc),.sl (l.map Ty.enc)] (.sl ((x++l).map Ty.enc)):=by have hc:=gQ (ll:=[x,l]) (by simp) (by simp;omega);simp only[fj,auL,auY,avZ,av2,auD]at hc;exact aan ⟨_,hc,rfl⟩
theorem FT{b:Int}{l:List Ty}(h:Ty.sizes l<=500000000):az aj 15 [nI b,.sl (l.map Ty.enc)] (.agg [.sl (l.map Ty.enc),nI b]):=by have hc:=lx _ (.mk l b) (aum _) (by simp only[Ty.size];omega);rw[Ty.jL]at hc;exact OH ⟨_,_,hc,rfl⟩
def Tm.typ(c m x:List Ty)(t:Tm):Ty×Int:=match bt c m (x++t.binds) t.kind t.index with
 |some h=>(.mk t.binds h.base,0)
 |none=>(kO,10)
mutual
def Tm.Sr(c m x:List Ty):Tm->Ty->Bool
 | .mk b k i l,of=>Ty.cB b of.args&&(match bt c m (x++b) k i with|some h=>(h.base==of.base)&&((h.args.length==l.length)&&Tm.Bl c m (x++b) l h.args)|none=>false)
def Tm.Bl(c m x:List Ty):List Tm->List Ty->Bool
 |t::l,u::us=>Tm.Sr c m x t u&&Tm.Bl c m x l us|_,_=>true
end
theorem Tm.afu(c m x:List Ty)(t:Tm)(of:Ty):t.Sr c m x of=(Ty.cB t.binds of.args&&(match bt c m (x++t.binds) t.kind t.index with
  |some h=>(h.base==of.base)&&((h.args.length==t.args.length)&&Tm.Bl c m (x++t.binds) t.args h.args)
  |none=>false)):=by cases t;rw[Tm.Sr];rfl
theorem Tm.Rj{c m x:List Ty}{l:List Tm}{us:List Ty}{k:Nat}(h1:k<l.length)(h2:k<us.length):Tm.Bl c m x (l.drop k) (us.drop k)=(Tm.Sr c m x l[k] us[k]&&Tm.Bl c m x (l.drop (k+1)) (us.drop (k+1))):=by rw[aut h1,aut h2,Tm.Bl]
theorem Xm{b:Int}{c m:List Ty}(hc:∀t∈c,t.size<=200000000)(hm:∀t∈m,t.size<=200000000):∀(n:Nat)(t:Tm)(of:Ty)(x:List Ty),t.size<=n->t.Ok->(∀u∈x,u.size<=200000000)->x.length+t.size<=200000000->of.size<=200000000-> az aj 48 [.agg [nI b,.sl (c.map Ty.enc),.sl (m.map Ty.enc)],.sl (x.map Ty.enc),.agg [.sl (t.binds.map Ty.enc),nI t.kind,nI t.index,.sl (t.args.map Tm.enc)],.agg [.sl (of.args.map Ty.enc),nI of.base]] (nB (t.Sr c m x of)):=by intro n;induction n with|zero=>intro t of x h;have:=t.size_pos;omega|succ n ih=>(intro t of x h aK hx hn hof;have Mq:=t.size_eq;have hq:=Ty.ba t.binds;have hq2:=Tm.ba t.args;have hi:jt t.index:=by cases t;exact aK.2.1);(have hks:Tm.PA t.args:=by cases t;exact aK.2.2);(have heq:=jg (l:=t.binds) (m:=of.args) (by omega) (λk h1 h2=>gD _ _ _ (aum _) (by have:=Ty.dp (auv h1);omega));have hx2:∀u∈x++t.binds,u.size<=200000000:=λu hu=>by rcases auQ.1 hu with hu|hu;exact hx u hu;have:=Ty.dp hu;omega);(have hh:=rk (b:=b) (c:=c) (m:=m) (x:=x++t.binds) (k:=t.kind) hi (by rw[auo];omega);have cP:∀u,bt c m (x++t.binds) t.kind t.index=some u->u.size<=200000000:=λu hu=>by rcases tn hu with hu|hu|hu;exact hx2 u hu;exact hc u hu;exact hm u hu);have Xn:=Tm.afu c m x t of;refine aap ⟨_,heq,aA.intro (λh=>?_) λh=>?_⟩;(have h0:Ty.cB t.binds of.args=false:=by simpa using h);rw[Xn,h0,ave];(have h0:Ty.cB t.binds of.args=true:=by simpa using h);rw[h0,au5]at Xn;refine⟨_,FR (by omega),?_⟩;cases ht:bt c m (x++t.binds) t.kind t.index with|none=>rw[ht]at hh Xn;exact⟨_,_,_,hh,aA.pos rfl (by rw[Xn])⟩|some u=>rw[ht]at hh Xn;dsimp only at Xn;have hu:=cP u ht;have Cs:=u.size_eq;have hul:=Ty.ba u.args;refine⟨_,_,_,hh,aA.neg rfl (aA.intro (λh=>?_) λh=>?_)⟩;(have:(u.base==of.base)=false:=by simpa using h);rw[Xn,this,ave];(have h1:(u.base==of.base)=true:=by simpa using h);rw[h1,au5]at Xn;rw[aui,aui];refine aA.intro (λh=>?_) λh=>?_;(have:¬u.args.length=t.args.length:=by simp at h;omega);rw[Xn,show (u.args.length==t.args.length)=false from by simpa using this,ave];(have h2:u.args.length=t.args.length:=by simp at h;omega);rw[show (u.args.length==t.args.length)=true from by simpa using h2,au5]at Xn;refine aI.intro (λk:Nat=>(((),(x++t.binds).map Ty.enc,(),t.args.map Tm.enc,(t.args.length:Int),(k:Int),()),((b,c.map Ty.enc,m.map Ty.enc,()),(t.binds.map Ty.enc,t.kind,t.index,t.args.map Tm.enc,()),(of.args.map Ty.enc,of.base,()),(u.args.map Ty.enc,u.base,()),()))) (λk=>k<=t.args.length/\t.Sr c m x of=Tm.Bl c m (x++t.binds) (t.args.drop k) (u.args.drop k)) (λk=>t.args.length-k) 0 rfl ⟨aus _,Xn⟩ ?_;intro k ⟨hk,hs⟩ again bP;dsimp only;refine aA.intro (λh=>?_) λh=>?_;(have aE:k<t.args.length:=by simpa using h);(have hlu:k<u.args.length:=by omega);rw[Tm.Rj aE hlu]at hs;have xa:=Tm.dp (auv aE);have hi:=ih t.args[k] u.args[k] (x++t.binds) (by omega) (Tm.FK hks (auv aE)) hx2 (by rw[auo];omega) (by have:=Ty.eS hlu;omega);refine⟨by omega,by rw[aui];omega,_,_,_,_,Tm.bx aE,by omega,by rw[aui];omega,_,_,Ty.bx hlu,_,hi,aA.intro (λh=>?_) λh=>?_⟩;(have:Tm.Sr c m (x++t.binds) t.args[k] u.args[k]=false:=by simpa using h);rw[hs,this,ave];(have:Tm.Sr c m (x++t.binds) t.args[k] u.args[k]=true:=by simpa using h);rw[this,au5]at hs;rw[bf (by omega)];exact bP (k+1) ⟨by omega,hs⟩ (by omega);(have:t.args.length<=k:=by simpa using h);rw[auF this,Tm.Bl]at hs;rw[hs];intro _ _ _ _ h;cases h
mutual
def Tm.pre(a d:Nat):Tm->List ((Nat×Nat)×Tm)
 | .mk b k i l=>((a+b.length,d),.mk b k i l)::Tm.gG (a+b.length) (d+1) l
def Tm.gG(a d:Nat):List Tm->List ((Nat×Nat)×Tm)
 | []=>[]|t::l=>Tm.pre a d t++Tm.gG a d l
end
theorem Tm.FP(a d:Nat)(t:Tm):t.pre a d=((a+t.binds.length,d),t)::Tm.gG (a+t.binds.length) (d+1) t.args:=by cases t;rfl
theorem Tm.wz{a d:Nat}{l:List Tm}{k:Nat}(h:k<l.length):Tm.gG a d (l.drop k)=l[k].pre a d++Tm.gG a d (l.drop (k+1)):=by rw[aut h,Tm.gG]
def Xo(p:(Nat×Nat)×Tm):List AV:=[.agg [nI p.1.1,nI p.1.2],.agg [.sl (p.2.binds.map Ty.enc),nI p.2.kind,nI p.2.index,.sl (p.2.args.map Tm.enc)]]
def Bm(p:(Nat×Nat)×Tm):(Int×Int×Unit)×(List AV×Int×Int×List AV×Unit)×Unit:=((p.1.1,p.1.2,()),(p.2.binds.map Ty.enc,p.2.kind,p.2.index,p.2.args.map Tm.enc,()),())
theorem JE:∀(n:Nat)(t:Tm)(a d:Nat),t.size<=n->a+t.size<=1000000000->d+t.size<=1000000000->vO aj 143 (λv=>[.agg [.sl (t.binds.map Ty.enc),nI t.kind,nI t.index,.sl (t.args.map Tm.enc)],.agg [nI a,nI d],v]) ((t.pre a d).map Xo) true:=by intro n;induction n with|zero=>intro t a d h;have:=t.size_pos;omega|succ n ih=>(intro t a d h ha hd;have hq:=Tm.ba t.args;have hq2:=Ty.ba t.binds;have Mq:=t.size_eq;have hw:ag .i64 ((a:Int)+((ab (t.binds.map Ty.enc):Nat):Int))=((a+t.binds.length:Nat):Int):=by rw[aui,bb (by omega) (by omega)];omega);refine U9 λyv more=>?_;unfold adE;rw[hw,bf (by omega)];refine⟨rfl,(Tm.gG (a+t.binds.length) (d+1) t.args).map Xo++more,by rw[Tm.FP];rfl,λb=>aA.intro (λh=>?_) λh=>?_⟩;(have:b=false:=by simpa using h);subst this;rfl;(have:b=true:=by simpa using h);subst this;refine aI.intro (λk:Nat=>(((yv,(),t.args.map Tm.enc,(t.args.length:Int),(k:Int),()),((t.binds.map Ty.enc,t.kind,t.index,t.args.map Tm.enc,()),(((a+t.binds.length:Nat):Int),((d+1:Nat):Int),()),())),some ((Tm.gG (a+t.binds.length) (d+1) (t.args.drop k)).map Xo++more))) (λk=>k<=t.args.length) (λk=>t.args.length-k) 0 (by rw[aui];rfl) (aus _) ?_;intro k hk again bP;dsimp only;rw[aui];refine aA.intro (λh=>?_) λh=>?_;(have aE:k<t.args.length:=by simpa using h);have xa:=Tm.dp (auv aE);have hi:=ih t.args[k] (a+t.binds.length) (d+1) (by omega) (by omega) (by omega);refine⟨by omega,by omega,_,_,_,_,Tm.bx aE,_,_,(Tm.gG (a+t.binds.length) (d+1) (t.args.drop (k+1))).map Xo++more,rfl,hi,?_,λb=>aA.intro (λh=>?_) λh=>?_⟩;rw[Tm.wz aE,auZ,auH];(have:b=false:=by simpa using h);subst this;rfl;(have:b=true:=by simpa using h);subst this;rw[bf (by omega)];exact bP (k+1) (by omega) (by omega);(have:t.args.length<=k:=by simpa using h);rw[auF this];rfl
theorem FU{t:Tm}(h:t.size<=500000000):vO aj 142 (λv=>[v,.aV (.agg [.sl (t.binds.map Ty.enc),nI t.kind,nI t.index,.sl (t.args.map Tm.enc)]) 0]) ((t.pre 0 1).map Xo) false:=U7 λyv more=>⟨_,_,more,rfl,JE _ t 0 1 (aum _) (by omega) (by omega),rfl,λb=>⟨b,rfl⟩⟩
theorem xM(t:Tm):az aj 91 [.agg [.sl (t.binds.map Ty.enc),nI t.kind,nI t.index,.sl (t.args.map Tm.enc)]] (.bw 142 [.aV (.agg [.sl (t.binds.map Ty.enc),nI t.kind,nI t.index,.sl (t.args.map Tm.enc)]) 0]):=aai rfl
theorem DQ{t:Tm}(h:t.size<=500000000):kU aj 142 [.aV (.agg [.sl (t.binds.map Ty.enc),nI t.kind,nI t.index,.sl (t.args.map Tm.enc)]) 0] [.v (.a [.i .i64,.i .i64]),.v (.a [.l,.i .i64,.i .i64,.l])] ((t.pre 0 1).map Bm):=qZ (prm:=[.v (.a [.i .i64,.i .i64]),.v (.a [.l,.i .i64,.i .i64,.l])]) Bm (FU h)
def im:Nat->List ((Nat×Nat)×Tm)->Bool
 |_,[]=>true|n,p::l=>if n+1>5000 then false else if p.1.2>60 then false else im (n+1) l
theorem pN{t:Tm}(h:t.size<=500000000):az aj 47 [.agg [.sl (t.binds.map Ty.enc),nI t.kind,nI t.index,.sl (t.args.map Tm.enc)]] (nB (im 0 (t.pre 0 1))):=by refine aak ⟨xM t,?_⟩;refine fO.q7 (λn:Nat=>((t.binds.map Ty.enc,t.kind,t.index,t.args.map Tm.enc,()),(false,()),((n:Int),()),())) Bm (t.pre 0 1) (DQ h) (λr n=>n<=5000/\im 0 (t.pre 0 1)=im n r) 0 rfl ⟨by omega,rfl⟩ (λp r n ⟨hI,hk⟩ again bP=>?_) λn ⟨hI,hk⟩=>?_;rw[im]at hk;dsimp only[Bm];rw[bf (by omega)];refine aA.intro (λh1=>?_) λh1=>aA.intro (λh2=>?_) λh2=>?_;(have:n+1>5000:=by have:=of_decide_eq_true h1;omega);rw[hk,if_pos this];(have g:¬n+1>5000:=by have:=of_decide_eq_false h1;omega);(have:p.1.2>60:=by have:=of_decide_eq_true h2;omega);rw[hk,if_neg g,if_pos this];(have g:¬n+1>5000:=by have:=of_decide_eq_false h1;omega);(have g2:¬p.1.2>60:=by have:=of_decide_eq_false h2;omega);rw[if_neg g,if_neg g2]at hk;exact bP (n+1) ⟨by omega,hk⟩;rw[hk];rfl
theorem JF{b:Int}{c m x:List Ty}{t:Tm}{of:Ty}(hc:∀t∈c,t.size<=200000000)(hm:∀t∈m,t.size<=200000000)(aK:t.Ok)(hx:∀u∈x,u.size<=200000000)(hn:x.length+t.size<=200000000)(hof:of.size<=200000000): az aj 13 [.agg [nI b,.sl (c.map Ty.enc),.sl (m.map Ty.enc)],.sl (x.map Ty.enc),.agg [.sl (t.binds.map Ty.enc),nI t.kind,nI t.index,.sl (t.args.map Tm.enc)],.agg [.sl (of.args.map Ty.enc),nI of.base]] (nI (if im 0 (t.pre 0 1)=true then(if t.Sr c m x of=true then 0 else 5)else 2)):=by have h1:=pN (t:=t) (by omega);have h2:=Xm (b:=b) hc hm _ t of x (aum _) aK hx hn hof;refine aal ⟨_,h1,aA.intro (λh=>?_) λh=>⟨_,h2,aA.intro (λh3=>?_) λh3=>?_⟩⟩;rw[if_neg (by simpa using h)];rw[if_pos (by simpa using h),if_neg (by simpa using h3)];rw[if_pos (by simpa using h),if_pos (by simpa using h3)]
theorem Rk{b:Int}{c m:List Ty}{t:Ty}(h:t.size<=500000000):az aj 224 [.agg [.sl (t.args.map Ty.enc),nI t.base],.aV (.agg [nI b,.sl (c.map Ty.enc),.sl (m.map Ty.enc)]) 0] (nB (!(t.bH b))):=Vm ⟨_,lz h,rfl⟩
def fT(b:Int):Nat->List Ty->Int
 |_,[] => -1|k,t::l=>if t.bH b=true then fT b (k+1) l else k
theorem Bn{b:Int}{c m l:List Ty}(h:Ty.sizes l<=500000000):az aj 225 [.sl (l.map Ty.enc),.bw 224 [.aV (.agg [nI b,.sl (c.map Ty.enc),.sl (m.map Ty.enc)]) 0]] (nI (fT b 0 l)):=by have hl:=Ty.ba l;refine Vq ⟨rfl,?_⟩;refine aI.intro (λk:Nat=>((l.map Ty.enc,((),()),(l.length:Int),(k:Int),()),())) (λk=>k<=l.length/\fT b 0 l=fT b k (l.drop k)) (λk=>l.length-k) 0 (by rw[aui];rfl) ⟨aus _,rfl⟩ ?_;intro k ⟨hk,hs⟩ again bP;dsimp only;rw[aui];refine aA.intro (λh=>?_) λh=>?_;(have aE:k<l.length:=by simpa using h);rw[aut aE,fT]at hs;refine⟨by omega,by omega,_,_,Ty.bx aE,_,Rk (by have:=Ty.dp (auv aE);omega),aA.intro (λh=>?_) λh=>⟨rfl,?_⟩⟩;rw[hs,if_neg (by simpa using h)];rw[if_pos (by simpa using h)]at hs;rw[bf (by omega)];exact bP (k+1) ⟨by omega,hs⟩ (by omega);(have:l.length<=k:=by simpa using h);rw[auF this]at hs;rw[hs];rfl
theorem wB{b:Int}{c m:List Ty}(hc:c.length<=500)(hm:m.length<=500)(h:Ty.sizes (c++m)<=500000000):az aj 214 [.agg [nI b,.sl (c.map Ty.enc),.sl (m.map Ty.enc)]] (nB (!(decide (fT b 0 (c++m)>=0)))):=by have xf:=gQ (ll:=[c,m]) (by simp) (by simp;omega);simp only[fj,auL,auY,avZ,av2,auD]at xf;have hi:=Bn (b:=b) (c:=c) (m:=m) (l:=c++m) h;refine Vg ?_;unfold adF;rw[aui,aui,bb (by omega) (by omega)];refine aA.neg (decide_eq_false (by omega)) (aA.neg (decide_eq_false (by omega)) ⟨_,xf,_,Vl ⟨_,hi,rfl⟩,rfl⟩)
theorem Rw.Rl{t:Rw}{k:Nat}(h:k<t.kids.length):t.kids[k].depth<t.depth:=by have h1:=t.Xg;have:=(Rw.tl (n:=0) (m:=t.depth-1) (l:=t.kids)).1 (by omega);have:=this.2 _ (auv h);omega
abbrev jO(k i:Int):Rw:=.mk k kO i []
theorem tq(k i:Int):az aj 187 [nI k,nI i] (.agg [nI k,.sl [],nI 0,nI i,.sl []]):=Ve rfl
def Ss(l:List Ty):Nat->List (Nat×Ty)
 |0=>[]|k+1=>(k,l.getD k kO)::Ss l k
theorem FV{l:List Ty}{k:Nat}(h:k<l.length):l.getD k kO=l[k]:=by simp[ae,h]
theorem rr(l:List Ty):az aj 96 [.sl (l.map Ty.enc)] (.bw 145 [.aV (.sl (l.map Ty.enc)) 0]):=aah rfl
theorem yG{l:List Ty}(h:l.length<=1000000000):vO aj 145 (λv=>[v,.aV (.sl (l.map Ty.enc)) 0]) ((Ss l l.length).map Jz) false:=by refine Vb λyv more=>⟨rfl,?_⟩;refine aI.intro (λk:Nat=>(((yv,(),(k:Int)-1,()),()),some ((Ss l k).map Jz++more))) (λk=>k<=l.length) (λk=>k) l.length (by rw[aui,bb (by omega) (by omega)]) (aum _) ?_;intro k hk again bP;dsimp only;rw[aui];refine aA.intro (λh=>?_) λh=>?_;(have h':(k:Int)-1>=0:=of_decide_eq_true h;obtain⟨j,rfl⟩:∃j,k=j+1:=⟨k-1,by omega⟩;have aE:j<l.length:=by omega);(have e:((j+1:Nat):Int)-1=(j:Int):=by omega);rw[e];refine⟨by omega,by omega,_,_,Ty.bx aE,rfl,(Ss l j).map Jz++more,by rw[Ss,FV aE];rfl,λb=>aA.intro (λh=>?_) λh=>?_⟩;(have:b=false:=by simpa using h);subst this;exact⟨false,rfl⟩;(have:b=true:=by simpa using h);subst this;refine⟨rfl,?_⟩;rw[bb (n:=(j:Int)-1) (by omega) (by omega)];exact bP j (by omega) (by omega);(have h':¬(k:Int)-1>=0:=of_decide_eq_false h;have:k=0:=by omega);subst this;exact⟨true,rfl⟩
theorem u7{l:List Ty}(h:l.length<=1000000000):kU aj 145 [.aV (.sl (l.map Ty.enc)) 0] [.v (.c (.i .i64)),.v (.a [.l,.i .i64])] ((Ss l l.length).map Bj):=qZ (prm:=[.v (.c (.i .i64)),.v (.a [.l,.i .i64])]) Bj (yG h)
theorem pO(b:Int):az aj 15 [nI b,.sl []] (.agg [.sl [],nI b]):=by have hc:=lx _ (.mk [] b) (aum _) (by simp[Ty.size,Ty.sizes]);rw[Ty.jL]at hc;exact OH ⟨_,_,hc,rfl⟩
mutual
def sB:Int->Int->Ty->Tm
 |k,i,.mk l _=>.mk l k (if k=0 then ag .i64 (i+(l.length:Nat))else i) (jD l.length 0 l)
def jD(n:Nat):Nat->List Ty->List Tm
 |_,[]=>[]|j,t::r=>sB 0 ((n:Int)-1-j) t::jD n (j+1) r
end
theorem FW(k i:Int)(t:Ty):sB k i t=.mk t.args k (if k=0 then ag .i64 (i+(t.args.length:Nat))else i) (jD t.args.length 0 t.args):=by cases t;rw[sB];rfl
theorem rY(n:Nat):∀(l:List Ty)(j:Nat),(jD n j l).length=l.length
 | [],_=>rfl|t::l,j=>by rw[jD,aur,aur,rY n l]
theorem DR(n:Nat):∀(l:List Ty)(j k:Nat)(h:k<l.length),(jD n j l)[k]?=some (sB 0 ((n:Int)-1-(j+k:Nat)) l[k])
 |t::l,j,0,_=>by rw[jD];rfl|t::l,j,k+1,h=>by rw[jD,au3,DR n l (j+1) k (by simpa using h),List.getElem_cons_succ,show j+1+k=j+(k+1) by omega]
theorem MK{n:Nat}{l:List Ty}{k:Nat}(h:k<l.length):(jD n 0 l).take (k+1)=(jD n 0 l).take k++[sB 0 ((n:Int)-1-(k:Nat)) l[k]]:=by (have hk:k<(jD n 0 l).length:=by rw[rY];exact h);have hg:=DR n l 0 k h;rw[aun hk,auO]at hg;rw[<-bO hk,auj hg]
theorem ML:∀(d:Nat)(t:Ty)(k i:Int),t.size<=d->d<=1000->(k=0->0<=i/\i<=1000)->az aj 221 [.agg [nI k,nI i],t.enc] (sB k i t).enc:=by intro d;induction d with|zero=>intro t k i h;have:=t.size_pos;omega|succ d ih=>(intro t k i h hd h0;have hq:=Ty.ba t.args;have Mq:=t.size_eq;have gZ:=ky (t:=t) (l:=[]) (by simp[Ty.sizes];omega);rw[Ty.arrow,avr,Ty.jL,Ty.aP,auY]at gZ;have loop:∀ix:Int,ix=(if k=0 then ag .i64 (i+(t.args.length:Nat))else i)->qY (((),((ab (t.args.map Ty.enc):Nat):Int),(),t.args.map Ty.enc,((ab (t.args.map Ty.enc):Nat):Int),0,()),((k,i,()),(t.args.map Ty.enc,t.base,()),((),0,0,(),()),(t.args.map Ty.enc,k,ix,(),()),[],())) (λx=>x=(sB k i t).enc):=by intro ix Rm;refine aI.intro (λj:Nat=>(((),(t.args.length:Int),(),t.args.map Ty.enc,(t.args.length:Int),(j:Int),()),((k,i,()),(t.args.map Ty.enc,t.base,()),((),0,0,(),()),(t.args.map Ty.enc,k,ix,(),()),((jD t.args.length 0 t.args).take j).map Tm.enc,()))) (λj=>j<=t.args.length) (λj=>t.args.length-j) 0 (by rw[aui];rfl) (aus _) ?_;intro j hj again bP;dsimp only;rw[aui];refine aA.intro (λh=>?_) λh=>?_;(have aE:j<t.args.length:=by simpa using h);(have hi:=ih t.args[j] 0 ((t.args.length:Int)-1-(j:Nat)) (by have:=Ty.eS aE;omega) (by omega) (λ_=>⟨by omega,by omega⟩);rw[Ty.aP,Tm.aP]at hi;have hw:ag .i64 (ag .i64 ((t.args.length:Int)-1)-(j:Int))=(t.args.length:Int)-1-(j:Nat):=by rw[bb (n:=(t.args.length:Int)-1) (by omega) (by omega),bb (by omega) (by omega)]);rw[hw];refine⟨by omega,by omega,_,_,Ty.bx aE,_,_,_,_,hi,rfl,bG rfl (by simp;omega) (by decide),rfl,?_⟩;rw[bf (by omega),Tm.oE,<-MK aE];exact bP (j+1) (by omega) (by omega);(have hle:t.args.length<=j:=by simpa using h);refine⟨rfl,?_⟩;rw[auA (by rw[rY];exact hle),FW,Tm.jL,Rm]);rw[Ty.aP];refine UK (aA.intro (λh=>?_) λh=>?_);(have hk:k=0:=by simpa using h);have:=h0 hk;refine aA.neg (decide_eq_false (by omega)) (aA.neg (decide_eq_false (by omega)) ⟨_,_,gZ,aA.pos h ⟨rfl,loop _ ?_⟩⟩);rw[if_pos hk,aui];(have hk:¬k=0:=by simpa using h);exact⟨_,_,gZ,aA.neg h ⟨rfl,loop _ (by rw[if_neg hk])⟩⟩
abbrev ee(n:Nd):AV:=.agg [nI n.kind,nS n.word,nI n.at_,.sl (n.kids.map Nd.enc)]
abbrev xN:Nd:=.mk 0 ⟨#[]⟩ 0 []
abbrev nK(l:List aw):AV:=.sl (l.map nS)
abbrev FX(b c m:List aw):AV:=.agg [nK b,nK c,nK m]
def Xp(l:List aw)(i:Int):Option Nd:=if i<0 then none else(l[i.toNat]?).map λw=>.mk 1 w 0 []
def adP(o:Option Nd):AV:=.aG [ee (o.getD xN),nB o.isSome]
theorem Bo{l:List aw}{i:Int}:az aj 95 [.sl (l.map nS),nI i] (adP (Xp l i)):=by refine aaa (aA.intro (λh=>?_) λh=>aA.intro (λh2=>?_) λh2=>?_);(have:i<0:=by simpa using h);rw[Xp,if_pos this];rfl;(have:¬i<0:=by simpa using h);(have h3:l.length<=i.toNat:=by(have:((l.length:Nat):Int)<=i:=by simpa using h2);omega);rw[Xp,if_neg this,auP h3];rfl;(have h0:¬i<0:=by simpa using h);(have h3:i.toNat<l.length:=by(have:i<((l.length:Nat):Int):=by simpa using h2);omega);refine⟨by omega,by rw[aui];omega,_,by rw[avc,auu,aun h3];rfl,?_⟩;rw[Xp,if_neg h0,aun h3];rfl
mutual
def wC(b:List aw):Ty->Option Nd
 | .mk l k=>match Xp b k with|none=>none|some n=>kV b n l
def kV(b:List aw)(n:Nd):List Ty->Option Nd
 | []=>some n|a::l=>match kV b n l with|none=>none|some m=>(match wC b a with|none=>none|some x=>some (.mk 2 ⟨#[]⟩ 0 [x,m]))
end
theorem ach(b:List aw)(t:Ty):wC b t=match Xp b t.base with|none=>none|some n=>kV b n t.args:=by cases t;rw[wC];rfl
theorem Bp{b:List aw}{n:Nd}:∀{l:List Ty}{k:Nat}(h:k<l.length),wC b l[k]=none->kV b n l=none
 | [],k,h,_=>by simp at h|a::l,0,h,e=>by rw[kV];cases kV b n l with|none=>rfl|some m=>simp only[List.getElem_cons_zero]at e;rw[e]
 |a::l,k+1,h,e=>by rw[kV,Bp (l:=l) (k:=k) (by simpa using h) (by simpa using e)]
theorem MN{b:List aw}{n s x:Nd}{l:List Ty}{k:Nat}(h:k<l.length)(h1:kV b n (l.drop (k+1))=some s)(h2:wC b l[k]=some x):kV b n (l.drop k)=some (.mk 2 ⟨#[]⟩ 0 [x,s]):=by rw[aut h,kV,h1,h2]
def Bq(o:Option Nd):AV:=.aG [ee (o.getD xN),nI (if o.isSome then 0 else 10)]
theorem MQ(x y:Nd):[ee x,ee y]=[x,y].map Nd.enc:=by simp[ee,<-Nd.aP]
theorem u9{b c m:List aw}:∀(n:Nat)(t:Ty),t.size<=n->n<=500000000->az aj 51 [FX b c m,.agg [.sl (t.args.map Ty.enc),nI t.base]] (Bq (wC b t)):=by intro n;induction n with|zero=>intro t h;have:=t.size_pos;omega|succ n ih=>intro t hn hm;refine aab ⟨_,_,_,_,_,Bo,?_⟩;rw[ach];cases ha:Xp b t.base with|none=>exact aA.pos rfl rfl|some n0=>have hl:=Ty.ba t.args;have hs:=t.size_eq;refine aA.neg rfl ⟨rr t.args,?_⟩;refine fO.q7 (λs:Nd=>((b.map nS,c.map nS,m.map nS,()),(t.args.map Ty.enc,t.base,()),(0,⟨#[]⟩,0,(),()),(0,()),(s.kind,s.word,s.at_,s.kids.map Nd.enc,()),())) Bj (Ss t.args t.args.length) (u7 (by omega)) (λrest s=>∃k,k<=t.args.length/\rest=Ss t.args k/\kV b n0 (t.args.drop k)=some s) n0 rfl ⟨t.args.length,aum _,rfl,by rw[List.drop_length,kV]⟩ (λg rest s ⟨k,hk,he,hs⟩ again bP=>?_) λs ⟨k,hk,he,hs⟩=>?_;(cases k with|zero=>cases he|succ k=>(simp only[Ss,List.cons.injEq]at he;obtain⟨rfl,rfl⟩:=he;have aE:k<t.args.length:=by omega);rw[FV aE];dsimp only[Bj];have hz:=Ty.eS aE;refine⟨_,_,_,_,_,ih t.args[k] (by omega) (by omega),?_⟩;cases hx:wC b t.args[k]with|none=>exact aA.pos rfl (by rw[Bp aE hx];rfl)|some x=>refine aA.neg rfl ?_;have:=bP (.mk 2 ⟨#[]⟩ 0 [x,s]) ⟨k,by omega,rfl,MN aE hs hx⟩;rw[show (Nd.mk 2 ⟨#[]⟩ 0 [x,s]).kids.map Nd.enc=[ee x,ee s]from(MQ x s).symm]at this;exact this);cases k with|zero=>rw[avG]at hs;show _=Bq (kV b n0 t.args);rw[hs];rfl|succ k=>cases he
def sP(B:Int->aw)(c m:List aw)(around:Nat)(k i:Int):Option Nd:=if k=0 then some (.mk 1 (B ((around:Int)-1-i)) 0 [])else if k=1 then Xp c i else if k=2 then Xp m i else none
def qt(B:Int->aw)(b:List aw)(n:Nd):Nat->List Ty->Option Nd
 |_,[]=>some n|a,t::l=>match qt B b n (a+1) l with|none=>none|some m=>(match wC b t with|none=>none|some x=>some (.mk 3 (B a) 0 [x,m]))
mutual
def ru(B:Int->aw)(b c m:List aw):Nat->Tm->Option Nd
 |a,.mk bs k i l=>match sP B c m (a+bs.length) k i with|none=>none|some n=>(match wD B b c m (a+bs.length) l n with|none=>none|some s=>qt B b s a bs)
def wD(B:Int->aw)(b c m:List aw):Nat->List Tm->Nd->Option Nd
 |_,[],n=>some n|a,t::l,n=>match ru B b c m a t with|none=>none|some x=>wD B b c m a l (.mk 4 ⟨#[]⟩ 0 [n,x])
end
theorem Xq(B:Int->aw)(b c m:List aw)(a:Nat)(t:Tm):ru B b c m a t=match sP B c m (a+t.binds.length) t.kind t.index with
  |none=>none
  |some n=>(match wD B b c m (a+t.binds.length) t.args n with|none=>none|some s=>qt B b s a t.binds):=by cases t;rw[ru];rfl
theorem DS{B:Int->aw}{b c m:List aw}{a:Nat}{l:List Tm}{k:Nat}{s:Nd}(h:k<l.length):wD B b c m a (l.drop k) s=match ru B b c m a l[k]with|none=>none|some x=>wD B b c m a (l.drop (k+1)) (.mk 4 ⟨#[]⟩ 0 [s,x]):=by rw[aut h,wD]
theorem DT{B:Int->aw}{b:List aw}{n:Nd}:∀{l:List Ty}{k a:Nat}(h:k<l.length),wC b l[k]=none->qt B b n a l=none
 | [],k,a,h,_=>by simp at h|t::l,0,a,h,e=>by rw[qt];cases qt B b n (a+1) l with|none=>rfl|some m=>simp only[List.getElem_cons_zero]at e;rw[e]
 |t::l,k+1,a,h,e=>by rw[qt,DT (l:=l) (k:=k) (by simpa using h) (by simpa using e)]
theorem Rn{B:Int->aw}{b:List aw}{n s x:Nd}{a:Nat}{l:List Ty}{k:Nat}(h:k<l.length)(h1:qt B b n (a+(k+1)) (l.drop (k+1))=some s)(h2:wC b l[k]=some x): qt B b n (a+k) (l.drop k)=some (.mk 3 (B (a+k:Nat)) 0 [x,s]):=by rw[aut h,qt,show a+k+1=a+(k+1)from rfl,h1,h2]
mutual
def Tm.named:Tm->Bool
 | .mk _ k i l=>!((k==0)&&decide (i<0))&&Tm.jP l
def Tm.jP:List Tm->Bool
 | []=>true|t::l=>t.named&&Tm.jP l
end
theorem Tm.va(t:Tm):t.named=(!((t.kind==0)&&decide (t.index<0))&&Tm.jP t.args):=by cases t;rw[Tm.named];rfl
theorem Tm.MS(l:List Tm):Tm.jP l=l.all Tm.named:=by induction l with|nil=>rfl|cons t l ih=>rw[Tm.jP,ih];rfl
abbrev Xr(b c m:List aw)(es:List (aw×Value)):AV:=.agg [nK b,nK c,nK m,.eo (.s es)]
theorem MT{b c m:List aw}{es:List (aw×Value)}{B:Int->aw}{k i:Int}{around:Nat}(ha:around<=1000000000)(hi:jt i)(h0:k=0->0<=i)(hB:∀k,jt k->az aj 150 [Xr b c m es,nI k] (nS (B k))): az aj 149 [Xr b c m es,.agg [nI k,nI i],nI (around:Nat)] (adP (sP B c m around k i)):=by have jz:=hi.1;have qv:=hi.2;refine UT (aA.intro (λh=>?_) λh=>aA.intro (λh1=>?_) λh1=>aA.intro (λh2=>?_) λh2=>?_);(have hk:k=0:=by simpa using h);have:=h0 hk;refine⟨_,hB _ ?_,?_⟩;rw[bb (n:=(around:Int)-1) (by omega) (by omega),bb (by omega) (by omega)];exact⟨by omega,by omega⟩;rw[bb (n:=(around:Int)-1) (by omega) (by omega),bb (by omega) (by omega),sP,if_pos hk];rfl;(have hk:¬k=0:=by simpa using h);(have eB:k=1:=by simpa using h1);refine⟨_,_,_,_,_,Bo,?_⟩;rw[sP,if_neg hk,if_pos eB];rfl;(have hk:¬k=0:=by simpa using h);(have eB:¬k=1:=by simpa using h1);(have Du:k=2:=by simpa using h2);refine⟨_,_,_,_,_,Bo,?_⟩;rw[sP,if_neg hk,if_neg eB,if_pos Du];rfl;(have hk:¬k=0:=by simpa using h);(have eB:¬k=1:=by simpa using h1);(have Du:¬k=2:=by simpa using h2);rw[sP,if_neg hk,if_neg eB,if_neg Du];rfl
theorem FY{b c m:List aw}{t:Tm}(ih:az aj 99 [FX b c m,.agg [.sl (t.binds.map Ty.enc),nI t.kind,nI t.index,.sl (t.args.map Tm.enc)]] (nB t.named)): az aj 148 [.agg [.sl (t.binds.map Ty.enc),nI t.kind,nI t.index,.sl (t.args.map Tm.enc)],.aV (FX b c m) 0] (nB (!t.named)):=UY ⟨_,ih,rfl⟩
def JG:List Tm->Nat->Int
 | [],_ => -1|t::l,k=>if t.named then JG l (k+1)else k
theorem DU:∀(l:List Tm)(k:Nat),decide (JG l k>=0)=!(Tm.jP l)
 | [],_=>rfl|t::l,k=>by rw[JG,Tm.jP];cases t.named;rw[if_neg (by decide)];exact decide_eq_true (Int.natCast_nonneg k);rw[if_pos rfl,DU l (k+1)];rfl
theorem FZ{b c m:List aw}{l:List Tm}(hl:l.length<=1000000000)(ih:∀t∈l,az aj 99 [FX b c m,.agg [.sl (t.binds.map Ty.enc),nI t.kind,nI t.index,.sl (t.args.map Tm.enc)]] (nB t.named)): az aj 175 [.sl (l.map Tm.enc),.bw 148 [.aV (FX b c m) 0]] (nI (JG l 0)):=by refine U0 ⟨rfl,?_⟩;refine aI.intro (λk:Nat=>((l.map Tm.enc,((),()),((l.length:Nat):Int),(k:Int),()),())) (λk=>k<=l.length/\JG l 0=JG (l.drop k) k) (λk=>l.length-k) 0 (by rw[aui];rfl) ⟨aus _,by rw[avG]⟩ ?_;intro k ⟨hk,hd⟩ again bP;dsimp only;rw[aui];refine aA.intro (λh=>?_) λh=>?_;(have aE:k<l.length:=by simpa using h);refine⟨by omega,by omega,_,_,_,_,Tm.bx aE,_,FY (ih _ (auv aE)),aA.intro (λh1=>?_) λh1=>⟨rfl,?_⟩⟩;(have:l[k].named=false:=by simpa using h1);rw[hd,aut aE,JG,this];rfl;(have:l[k].named=true:=by simpa using h1);rw[bf (by omega)];exact bP (k+1) ⟨by omega,by rw[hd,aut aE,JG,this];rfl⟩ (by omega);(have:l.length<=k:=by simpa using h);rw[hd,auF this];rfl
theorem yH{b c m:List aw}{l:List Tm}(hl:l.length<=1000000000)(ih:∀t∈l,az aj 99 [FX b c m,.agg [.sl (t.binds.map Ty.enc),nI t.kind,nI t.index,.sl (t.args.map Tm.enc)]] (nB t.named)): az aj 147 [.sl (l.map Tm.enc),.bw 148 [.aV (FX b c m) 0]] (nB (!(Tm.jP l))):=U1 ⟨_,FZ hl ih,by rw[DU]⟩
theorem JH{b c m:List aw}:∀(n:Nat)(t:Tm),t.size<=n->n<=500000000->az aj 99 [FX b c m,.agg [.sl (t.binds.map Ty.enc),nI t.kind,nI t.index,.sl (t.args.map Tm.enc)]] (nB t.named):=by intro n;induction n with|zero=>intro t h;have:=t.size_pos;omega|succ n ih=>intro t hn hm;have hl:=Tm.ba t.args;have hs:=t.size_eq;have hc:=yH (b:=b) (c:=c) (m:=m) (l:=t.args) (by omega) λu hu=>ih u (by have:=Tm.dp hu;omega) (by omega);refine aae (aA.intro (λh=>aA.intro (λh1=>?_) λh1=>⟨_,hc,?_⟩) λh=>⟨_,hc,?_⟩);rw[Tm.va,h,h1];rfl;rw[Tm.va,h,h1];cases Tm.jP t.args<;>rfl;rw[Tm.va,h];cases Tm.jP t.args<;>rfl
theorem wE{b c m:List aw}{es:List (aw×Value)}{B:Int->aw}(hB:∀k,jt k->az aj 150 [Xr b c m es,nI k] (nS (B k))): ∀(n:Nat)(t:Tm)(a:Nat),t.size<=n->a+t.size<=500000000->t.Ok->t.named=true-> az aj 100 [Xr b c m es,.agg [.sl (t.binds.map Ty.enc),nI t.kind,nI t.index,.sl (t.args.map Tm.enc)],nI (a:Nat)] (Bq (ru B b c m a t)):=by intro n;induction n with|zero=>intro t a h;have:=t.size_pos;omega|succ n ih=>(intro t a hn hm hk K8;have hl:=Tm.ba t.args;have rN:=Ty.ba t.binds;have hs:=t.size_eq;have vQ:=Tm.ok_eq hk;rw[Tm.va,aul]at K8;have h0:t.kind=0->0<=t.index:=λe=>by have:=K8.1;rw[e]at this;simp at this;exact this);(have hw:ag .i64 ((a:Int)+((t.binds.length:Nat):Int))=((a+t.binds.length:Nat):Int):=by rw[bb (by omega) (by omega)];omega);have hh:=MT (b:=b) (c:=c) (m:=m) (es:=es) (B:=B) (k:=t.kind) (i:=t.index) (around:=a+t.binds.length) (by omega) vQ.2.1 h0 hB;refine UX ⟨_,_,_,_,_,by rw[aui,hw];exact hh,?_⟩;rw[Xq];cases ha:sP B c m (a+t.binds.length) t.kind t.index with|none=>exact aA.pos rfl rfl|some n0=>refine aA.neg rfl ?_;rw[aui,hw,aui];show IB _ (λr=>r=Bq (match wD B b c m (a+t.binds.length) t.args n0 with|none=>none|some s=>qt B b s a t.binds));refine aI.intro (λp:Nat×Nd=>(((),(),(),(),(),((a+t.binds.length:Nat):Int),(),(),(),t.args.map Tm.enc,((t.args.length:Nat):Int),(p.1:Int),(),(),()),((b.map nS,c.map nS,m.map nS,es,()),(t.binds.map Ty.enc,t.kind,t.index,t.args.map Tm.enc,()),((a:Int),()),(0,⟨#[]⟩,0,(),()),(0,()),(p.2.kind,p.2.word,p.2.at_,p.2.kids.map Nd.enc,()),()))) (λp=>p.1<=t.args.length/\wD B b c m (a+t.binds.length) t.args n0=wD B b c m (a+t.binds.length) (t.args.drop p.1) p.2) (λp=>t.args.length-p.1) (0,n0) rfl ⟨aus _,by rw[avG]⟩ ?_;intro ⟨k,s⟩ ⟨eB,hd⟩ again bP;dsimp only at eB hd ⊢;refine aA.intro (λh=>?_) λh=>?_;(have aE:k<t.args.length:=by simpa using h);(have hz:=Tm.eS aE;have Hz:=Tm.dp (auv aE);have hnk:t.args[k].named=true:=by have:=K8.2;rw[Tm.MS,auB]at this;exact this _ (auv aE));refine⟨by omega,by rw[aui];omega,_,_,_,_,Tm.bx aE,_,_,_,_,_,ih t.args[k] (a+t.binds.length) (by omega) (by omega) (Tm.FK vQ.2.2 (auv aE)) hnk,?_⟩;rw[hd,DS aE];(cases hx:ru B b c m (a+t.binds.length) t.args[k]with|none=>exact aA.pos rfl rfl|some x=>refine aA.neg rfl ?_;rw[bf (by omega)];have:=bP (k+1,.mk 4 ⟨#[]⟩ 0 [s,x]) ⟨by show k+1<=_;omega,by rw[hd,DS aE,hx]⟩ (by show t.args.length-(k+1)<t.args.length-k;omega);dsimp only at this;rw[show (Nd.mk 4 ⟨#[]⟩ 0 [s,x]).kids.map Nd.enc=[ee s,ee x]from(MQ s x).symm]at this;exact this);(have fh:t.args.length<=k:=by simpa using h);rw[hd,auF fh,wD];refine⟨rr t.binds,?_⟩;refine fO.q7 (λu:Nd=>((b.map nS,c.map nS,m.map nS,es,()),(t.binds.map Ty.enc,t.kind,t.index,t.args.map Tm.enc,()),((a:Int),()),(0,⟨#[]⟩,0,(),()),(0,()),(u.kind,u.word,u.at_,u.kids.map Nd.enc,()),())) Bj (Ss t.binds t.binds.length) (u7 (by omega)) (λrest u=>∃k,k<=t.binds.length/\rest=Ss t.binds k/\qt B b s (a+k) (t.binds.drop k)=some u) s rfl ⟨t.binds.length,aum _,rfl,by rw[List.drop_length,qt]⟩ (λg rest u ⟨k,hk,he,hs⟩ again bP=>?_) λu ⟨k,hk,he,hs⟩=>?_;(cases k with|zero=>cases he|succ k=>(simp only[Ss,List.cons.injEq]at he;obtain⟨rfl,rfl⟩:=he;have aE:k<t.binds.length:=by omega);rw[FV aE];dsimp only[Bj];have hz:=Ty.dp (auv aE);refine⟨_,_,_,_,_,u9 _ t.binds[k] (aum _) (by omega),?_⟩;have hs':=hs;cases hx:wC b t.binds[k]with|none=>exact aA.pos rfl (by rw[DT aE hx];rfl)|some x=>(have YK:ag .i64 ((a:Int)+(k:Int))=((a+k:Nat):Int):=by rw[bb (by omega) (by omega)];omega);refine aA.neg rfl ⟨_,by rw[YK];exact hB _ ⟨by omega,by omega⟩,?_⟩;have:=bP (.mk 3 (B ((a+k:Nat):Int)) 0 [x,u]) ⟨k,by omega,rfl,Rn aE hs hx⟩;rw[show (Nd.mk 3 (B ((a+k:Nat):Int)) 0 [x,u]).kids.map Nd.enc=[ee x,ee u]from(MQ x u).symm]at this;exact this);cases k with|zero=>rw[avG]at hs;show _=Bq (qt B b s a t.binds);rw[show qt B b s a t.binds=some u from hs];rfl|succ k=>cases he
theorem tr{κ:Type}[DecidableEq κ]{l:List (κ×Value)}{i v:κ}{x:Value}:aL (cD l v x) i=if i=v then some x else aL l i:=by induction l with|nil=>simp only[cD,aL]|cons p l ih=>obtain⟨k,u⟩:=p;simp only[cD];by_cases h:v=k;subst h;simp only[if_pos,aL];by_cases h2:i=v<;>simp[h2];rw[if_neg h,aL,ih,aL];by_cases h2:i=k;subst h2;simp[avU h];simp[h2]
def bg(l:List (Int×Int)):List AV:=l.map λp=>.agg [nI p.1,nI p.2]
theorem pP{l:List (Int×Int)}{k:Nat}(h:k<l.length):ae (bg l) (af (k:Int)) .top=.agg [nI l[k].1,nI l[k].2]:=getD_map h
theorem fZ(l:List (Int×Int)):(bg l).length=l.length:=by simp[bg]
inductive mE (ps:List (Int×Int)):Int->Int->Prop where
 |one {a b:Int} (h:(a,b)∈ps):mE ps a b
 |more {a c b:Int} (h1:mE ps a c) (h2:(c,b)∈ps):mE ps a b
def qj(a:Int)(u:List Int)(p:Int×Int):List Int:=if((p.1==a)||u.contains p.1)&&!u.contains p.2 then u++[p.2]else u
def jQ(a:Int)(l:List (Int×Int))(u:List Int):List Int:=l.foldl (qj a) u
def dJ(a:Int)(l:List (Int×Int)):Nat->List Int
 |0=>[]|k+1=>jQ a l (dJ a l k)
def nL(l:List (Int×Int))(a b:Int):Bool:=(dJ a l (l.length+1)).contains b
theorem Ro(a:Int)(u:List Int)(p:Int×Int):u.length<=(qj a u p).length/\((qj a u p).length=u.length->qj a u p=u):=by unfold qj;split;simp;exact⟨aum _,λ_=>rfl⟩
theorem tt(a:Int):∀(l:List (Int×Int))(u:List Int),u.length<=(jQ a l u).length/\((jQ a l u).length=u.length->jQ a l u=u/\∀p∈l,qj a u p=u)
 | [],u=>⟨aum _,λ_=>⟨rfl,λp h=>by cases h⟩⟩|p::l,u=>by have h1:=Ro a u p;have h2:=tt a l (qj a u p);have e:jQ a (p::l) u=jQ a l (qj a u p):=rfl;rw[e];refine⟨by omega,λh=>?_⟩;have h3:=h1.2 (by omega);rw[h3]at h2 h ⊢;have h4:=h2.2 h;refine⟨h4.1,λq hq=>?_⟩;rcases auJ.1 hq with rfl|hq;exact h3;exact h4.2 q hq
structure qk(a:Int)(l:List (Int×Int))(u:List Int):Prop where
 nd:u.Nodup
 sub:∀x∈u,x∈l.map Prod.snd
 reach:∀x∈u,mE l a x
theorem qk.step{a:Int}{l:List (Int×Int)}{u:List Int}(h:qk a l u){p:Int×Int}(hp:p∈l):qk a l (qj a u p):=by unfold qj;split;rename_i hc;simp only[aul,avh,beq_iff_eq,av4,au7,List.contains_eq_mem,decide_eq_false_iff_not,decide_eq_true_eq]at hc;refine⟨List.nodup_append.2 ⟨h.nd,by simp,λx hx y hy=>?_⟩,λx hx=>?_,λx hx=>?_⟩;rw[auy]at hy;subst hy;exact λe=>hc.2 (e▸hx);rcases auQ.1 hx with hx|hx;exact h.sub x hx;rw[auy]at hx;subst hx;exact avg.2 ⟨p,hp,rfl⟩;rcases auQ.1 hx with hx|hx;exact h.reach x hx;rw[auy]at hx;subst hx;rcases hc.1 with h1|h1;exact .one (by rw[<-h1];exact hp);exact .more (h.reach _ h1) hp;exact h
theorem qk.round{a:Int}{l:List (Int×Int)}:∀(m:List (Int×Int))(u:List Int),(∀p∈m,p∈l)->qk a l u->qk a l (jQ a m u)
 | [],u,_,h=>h|p::m,u,hm,h=>qk.round m (qj a u p) (λq hq=>hm q (auz _ hq)) (h.step (hm p auw))
theorem qk.rounds(a:Int)(l:List (Int×Int)):∀k,qk a l (dJ a l k)
 |0=>⟨List.nodup_nil,λx h=>(by cases h),λx h=>(by cases h)⟩|k+1=>qk.round l _ (λ_ h=>h) (qk.rounds a l k)
theorem Xs{u v:List Int}(h:u.Nodup)(hs:∀x∈u,x∈v):u.length<=v.length:=by induction u generalizing v with|nil=>exact aus _|cons x u ih=>(rw[List.nodup_cons]at h;have hx:=hs x auw;have:=ih (v:=v.erase x) h.2 λy hy=>by have bV:y≠x:=λe=>h.1 (e▸hy);exact(List.mem_erase_of_ne bV).2 (hs y (auz _ hy)));rw[List.length_erase_of_mem hx]at this;have Zi:=List.length_pos_of_mem hx;simp only[aur];omega
theorem xO(a:Int)(l:List (Int×Int)):∀k,(∃j,j<k/\jQ a l (dJ a l j)=dJ a l j)\/k<=(dJ a l k).length
 |0=>.inr (aus _)|k+1=>by rcases xO a l k with⟨j,h1,h2⟩|h;exact .inl ⟨j,by omega,h2⟩;have h1:=tt a l (dJ a l k);by_cases e:(jQ a l (dJ a l k)).length=(dJ a l k).length;exact .inl ⟨k,by omega,(h1.2 e).1⟩;exact .inr (by show k+1<=(jQ a l (dJ a l k)).length;omega)
theorem xP(a:Int)(l:List (Int×Int)){j:Nat}(h:jQ a l (dJ a l j)=dJ a l j):∀d,dJ a l (j+d)=dJ a l j
 |0=>rfl|d+1=>by show jQ a l (dJ a l (j+d))=_;rw[xP a l h d,h]
theorem Br(l:List (Int×Int))(a b:Int):nL l a b=true↔mE l a b:=by (have hg:=qk.rounds a l (l.length+1);rw[nL,av4];refine⟨λh=>hg.reach b h,λh=>?_⟩;have hle:(dJ a l (l.length+1)).length<=l.length:=by have:=Xs hg.nd hg.sub;rwa [aui]at this);(obtain⟨j,h1,h2⟩:∃j,j<l.length+1/\jQ a l (dJ a l j)=dJ a l j:=by rcases xO a l (l.length+1)with h|h;exact h;omega);(have tV:=xP a l h2 (l.length+1-j);rw[show j+(l.length+1-j)=l.length+1 by omega]at tV;have dL:=((tt a l (dJ a l j)).2 (by rw[h2])).2;rw[<-tV]at dL;have bw:∀p∈l,(p.1=a\/p.1∈dJ a l (l.length+1))->p.2∈dJ a l (l.length+1):=by intro p hp hc;have:=dL p hp;unfold qj at this;split at this;have:=congrArg ab this;simp at this;rename_i hn;refine avW λh3=>hn ?_;simp only[aul,avh,beq_iff_eq,av4,au7,List.contains_eq_mem,decide_eq_false_iff_not,decide_eq_true_eq];exact⟨hc,h3⟩);induction h with|one h=>exact bw _ h (.inl rfl)|more _ h2 ih=>exact bw _ h2 (.inr ih)
theorem aci{w:World}(h:oU w):Lib.TabIs aj w "internal/strconv.uint64pow10" .u64 Lib.pow10Tab:=by obtain⟨T,h1⟩:=h (Hc.head (by decide)) (List.head_mem _);unfold Lib.TabIs World.var?;rw[show aj.globalNamed "internal/strconv.uint64pow10"=some (Hc.head (by decide)).1 from by kernel_rfl];simp only[Option.bind_some,h1];rfl
def acj(k:Int):aw:=⟨(Lib.itoa k).toArray⟩
theorem MU{k:Int}(hk:jt k):az aj 112 [nI k] (nS (acj k)):=by refine⟨⟨_,Tryz.func112,by kernel_rfl,by kernel_rfl⟩,λw F vals hF hg hv=>?_⟩;match vals,hv with| [v0],⟨r0,_⟩=>cases r0;refine callsIn_wide.2 ((Any.strconv_Itoa aaf k hk.1 (by have:=hk.2;omega) w (aci hg)).mono ?_);rintro e w' ⟨rfl,n,os,rfl⟩;refine⟨_,_,rfl,rfl,⟨rfl,rfl,rfl,?_,λj hj=>?_⟩,.ay _⟩;show w.heap.size<=(w.heap++os).size;rw[Array.size_append];omega;show (w.heap++os)[j]?=_;rw[Array.getElem?_append_left hj]
theorem Rp{k:Int}(hk:jt k):(acj k).size<=30:=by have h1:=hk.1;have h2:=hk.2;have:=Lib.itoa_length_le k h1 (by omega);show (Lib.itoa k).toArray.size<=30;rw[avO];omega
def Xt(l:List aw)(w:aw):Bool:=l.any λx=>decide (x=w)
theorem ack{l:List aw}{w:aw}:Xt l w=true↔w∈l:=by simp only[Xt,List.any_eq_true,decide_eq_true_eq];exact⟨fun⟨x,h1,h2⟩=>h2▸h1,λh=>⟨w,h,rfl⟩⟩
def vc(es:List (aw×Value))(l:List aw):Prop:=∀w,aL es w=if Xt l w=true then some (.bool true)else none
theorem vc.nil:vc [] []:=λw=>rfl
theorem vc.put{es:List (aw×Value)}{l:List aw}{x:aw}(h:vc es l):vc (cD es x (.bool true)) (l++[x]):=by (intro w;rw[tr,h w];have e:Xt (l++[x]) w=(Xt l w||decide (x=w)):=by simp[Xt]);rw[e];by_cases h1:w=x;subst h1;simp;have:¬x=w:=λe=>h1 e.symm;simp[h1,this]
def JI(l:List aw):Nat->aw->aw
 |0,w=>w|n+1,w=>if Xt l w=true then JI l n (w++(⟨#[39]⟩:aw))else w
def tu(l:List aw)(k:Int):aw:=JI l (l.length+1) ((⟨#[118]⟩:aw)++acj k)
theorem DV{w:aw}:∀{l:List aw},w∈l->l.countP (λx=>decide (w.size+1<=x.size))<l.countP (λx=>decide (w.size<=x.size))
 |x::l,h=>by (have hm:l.countP (λx=>decide (w.size+1<=x.size))<=l.countP (λx=>decide (w.size<=x.size)):=List.countP_mono_left λy _ hy=>by simp only[decide_eq_true_eq]at hy ⊢;omega);rcases auJ.1 h with rfl|h;rw[List.countP_cons_of_neg (by simp),List.countP_cons_of_pos (by simp)];omega;have:=DV h;rw[List.countP_cons,List.countP_cons];by_cases h1:w.size+1<=x.size;rw[if_pos (by simpa using h1),if_pos (by(have:w.size<=x.size:=by omega);simpa using this)];omega;rw[if_neg (by simpa using h1)];split<;>omega
theorem JJ{b c m:List aw}{es:List (aw×Value)}{l:List aw}{k:Int}(hk:jt k)(he:vc es l)(hl:l.length<=1000000): az aj 150 [Xr b c m es,nI k] (nS (tu l k)):=by (have hz:=Rp hk;have hg:∀w,(aL es w).getD (.bool false)=.bool (Xt l w):=λw=>by rw[he w];cases Xt l w<;>rfl);refine UW ⟨_,MU hk,by rw[sz1];omega,?_⟩;refine aI.intro (λw:aw=>(((),w,()),((b.map nS,c.map nS,m.map nS,es,()),()))) (λw=>∃n,l.countP (λx=>decide (w.size<=x.size))<=n/\w.size+n<=2000000/\tu l k=JI l (n+1) w) (λw=>l.countP (λx=>decide (w.size<=x.size))) ((⟨#[118]⟩:aw)++acj k) rfl ⟨l.length,List.countP_le_length,by rw[bsz,sz1];omega,rfl⟩ ?_;intro w ⟨n,h1,h2,h3⟩ again bP;dsimp only;rw[hg];refine⟨rfl,aA.intro (λh=>?_) λh=>?_⟩;have hw:Xt l w=true:=h;have ht:=DV (ack.1 hw);refine⟨by rw[sz1];omega,bP _ ⟨n-1,?_,?_,?_⟩ ?_⟩;rw[bsz,sz1];omega;rw[bsz,sz1];omega;obtain⟨j,rfl⟩:∃j,n=j+1:=⟨n-1,by omega⟩;rw[h3,JI,if_pos hw];rfl;rw[bsz,sz1];exact ht;have hw:Xt l w=false:=h;rw[h3,JI,hw];rfl
def rv(n:Int)(p:(Nat×Nat)×Tm):Int:=if p.2.kind=0/\p.2.index>=(p.1.1:Nat)then(if(if 1000<p.2.index-(p.1.1:Nat)then 1000 else p.2.index-(p.1.1:Nat))+1>n then(if 1000<p.2.index-(p.1.1:Nat)then 1000 else p.2.index-(p.1.1:Nat))+1 else n)else n
def pQ:Int->List ((Nat×Nat)×Tm)->Int
 |n,[]=>n|n,p::l=>pQ (rv n p) l
def ry(p:(Nat×Nat)×Tm):Bool:=(p.2.kind==0)&&decide (p.2.index>=(p.1.1:Nat))
def pR(t:Tm):Bool:=(t.pre 0 1).any ry
theorem pS:∀(l:List ((Nat×Nat)×Tm))(n:Int),0<=n->decide (pQ n l>0)=(decide (n>0)||l.any ry)
 | [],n,_=>by simp[pQ]|p::l,n,h=>by rw[pQ,List.any_cons];by_cases hp:p.2.kind=0/\p.2.index>=(p.1.1:Nat);(have e:ry p=true:=by simp[ry,hp.1,hp.2]);(have hs:0<rv n p:=by unfold rv;rw[if_pos hp];have:=hp.2;split<;>split<;>omega);rw[pS l _ (by omega),e,decide_eq_true hs];simp;(have e:ry p=false:=by by_cases h1:p.2.kind=0;have:¬p.2.index>=(p.1.1:Nat):=λh2=>hp ⟨h1,h2⟩;simp[ry,this];simp[ry,h1]);rw[show rv n p=n from if_neg hp,pS l n h,e];simp
theorem afv:∀(t:Tm)(a d:Nat),t.Ok->∀p∈t.pre a d,jt p.2.index:=by (have key:∀(n:Nat),(∀(t:Tm)(a d:Nat),t.size<=n->t.Ok->∀p∈t.pre a d,jt p.2.index):=by intro n;induction n with|zero=>intro t a d h;have:=t.size_pos;omega|succ n ih=>intro t a d hn hk p hp;have hs:=t.size_eq;have vQ:=Tm.ok_eq hk;rw[Tm.FP]at hp;rcases auJ.1 hp with rfl|hp;exact vQ.2.1;(have:∀(l:List Tm),Tm.sizes l<=n->Tm.PA l->∀p∈Tm.gG (a+t.binds.length) (d+1) l,jt p.2.index:=by intro l;induction l with|nil=>intro _ _ p hp;rw[Tm.gG]at hp;cases hp|cons u l ihl=>intro hz aK p hp;have SA:Tm.sizes (u::l)=u.size+Tm.sizes l:=rfl;rw[Tm.gG]at hp;rcases auQ.1 hp with hp|hp;exact ih u _ _ (by omega) aK.1 p hp;exact ihl (by omega) aK.2 p hp);exact this t.args (by omega) vQ.2.2 p hp);exact λt a d=>key _ t a d (aum _)
theorem F4{t:Tm}(h:t.size<=500000000)(hk:t.Ok):az aj 97 [.agg [.sl (t.binds.map Ty.enc),nI t.kind,nI t.index,.sl (t.args.map Tm.enc)]] (nI (pQ 0 (t.pre 0 1))):=by refine aaq ⟨xM t,?_⟩;refine fO.q7 (λn:Int=>((t.binds.map Ty.enc,t.kind,t.index,t.args.map Tm.enc,()),(n,()),())) Bm (t.pre 0 1) (DQ h) (λr n=>pQ 0 (t.pre 0 1)=pQ n r/\∀p∈r,jt p.2.index) 0 rfl ⟨rfl,afv t 0 1 hk⟩ (λp r n hI again bP=>?_) λn hI=>?_;have go:=bP (rv n p) ⟨by rw[hI.1,pQ],λq hq=>hI.2 q (auz _ hq)⟩;obtain⟨i1,i2⟩:=hI.2 p auw;dsimp only[Bm];refine aA.intro (λh1=>aA.intro (λh2=>?_) λh2=>?_) λh1=>?_;(have h1':p.2.kind=0:=by simpa using h1);(have PF:p.2.index>=(p.1.1:Nat):=by simpa using h2);(have w1:ag .i64 (p.2.index-((p.1.1:Nat):Int))=p.2.index-((p.1.1:Nat):Int):=bb (by omega) (by omega);have w2:ag .i64 ((if 1000<p.2.index-((p.1.1:Nat):Int)then 1000 else p.2.index-((p.1.1:Nat):Int))+1)=(if 1000<p.2.index-((p.1.1:Nat):Int)then 1000 else p.2.index-((p.1.1:Nat):Int))+1:=bb (by split<;>omega) (by split<;>omega);simp only[Bm,w1,w2];have e:rv n p=if(if 1000<p.2.index-(p.1.1:Nat)then 1000 else p.2.index-(p.1.1:Nat))+1>n then(if 1000<p.2.index-(p.1.1:Nat)then 1000 else p.2.index-(p.1.1:Nat))+1 else n:=if_pos ⟨h1',PF⟩;rw[e]at go;exact go);(have PF:¬p.2.index>=(p.1.1:Nat):=by simpa using h2);rw[show rv n p=n from if_neg λe=>PF e.2]at go;exact go;(have h1':¬p.2.kind=0:=by simpa using h1);rw[show rv n p=n from if_neg λe=>h1' e.1]at go;exact go;show nI n=nI (pQ 0 (t.pre 0 1));rw[hI.1];rfl
def pT(b c m:List aw)(t:Tm):Nd×Int:=
 if(im 0 (t.pre 0 1)&&!(pR t))=true then
  (match (if t.named=true then ru (tu (c++m)) b c m 0 t else none)with|some n=>(n,0)|none=>(xN,10))
 else(xN,1)
def acm(p:Nd×Int):AV:=.aG [ee p.1,nI p.2]
theorem afw(c m:List aw):rf [c,m]=[nK c,nK m]:=rfl
theorem F5{b c m:List aw}{t:Tm}(h:t.size<=100000000)(hk:t.Ok)(hl:c.length+m.length<=1000000): az aj 53 [FX b c m,.agg [.sl (t.binds.map Ty.enc),nI t.kind,nI t.index,.sl (t.args.map Tm.enc)]] (acm (pT b c m t)):=by have aj9:=CU (ll:=[c,m]) (by simp) (by simp;omega);rw[show [c,m].flatten=c++m by simp,afw]at aj9;refine aad ⟨_,pN (by omega),aA.intro (λh1=>?_) λh1=>⟨_,F4 (by omega) hk,aA.intro (λh2=>?_) λh2=>⟨_,aj9,?_⟩⟩⟩;(have e:im 0 (t.pre 0 1)=false:=by simpa using h1);rw[pT,e];rfl;(rw[pS _ _ (Int.le_refl 0)]at h2;have e:pR t=true:=by simpa [pR]using h2);rw[pT,e];simp;rfl;(have e1:im 0 (t.pre 0 1)=true:=by simpa using h1);(rw[pS _ _ (Int.le_refl 0)]at h2;have e2:pR t=false:=by simpa [pR]using h2);(have er:pT b c m t=match (if t.named=true then ru (tu (c++m)) b c m 0 t else none)with|some n=>(n,0)|none=>(xN,10):=by rw[pT,e1,e2];rfl);rw[er];rw[aui];refine aI.intro (λp:Nat×List (aw×Value)=>(((),(),(),(),(c++m).map nS,(((c++m).length:Nat):Int),(p.1:Int),()),((b.map nS,c.map nS,m.map nS,()),(t.binds.map Ty.enc,t.kind,t.index,t.args.map Tm.enc,()),(0,⟨#[]⟩,0,(),()),p.2,()))) (λp=>p.1<=(c++m).length/\vc p.2 ((c++m).take p.1)) (λp=>(c++m).length-p.1) (0,[]) rfl ⟨aus _,vc.nil⟩ ?_;intro ⟨k,es⟩ ⟨eB,hd⟩ again bP;dsimp only at eB hd ⊢;have hlen:(c++m).length=c.length+m.length:=auo;refine aA.intro (λh=>?_) λh=>?_;(have aE:k<(c++m).length:=by have:=of_decide_eq_true h;omega);refine⟨by omega,by rw[aui];omega,_,getD_map aE,?_⟩;rw[bf (by omega)];exact bP (k+1,_) ⟨by show k+1<=_;omega,by show vc _ ((c++m).take (k+1));rw[<-List.take_append_getElem aE];exact hd.put⟩ (by show (c++m).length-(k+1)<(c++m).length-k;omega);(have fh:(c++m).length<=k:=by have:=of_decide_eq_false h;omega);rw[auA fh]at hd;refine⟨_,JH _ t (aum _) (by omega),aA.intro (λh3=>?_) λh3=>?_⟩;(have e3:t.named=false:=by simpa using h3);rw[e3];rfl;(have e3:t.named=true:=by simpa using h3);have tV:=wE (b:=b) (c:=c) (m:=m) (es:=es) (B:=tu (c++m)) (λk hk=>JJ hk hd (by omega)) _ t 0 (aum _) (by omega) hk e3;refine⟨_,_,_,_,_,tV,?_⟩;rw[if_pos e3];cases ru (tu (c++m)) b c m 0 t<;>rfl
abbrev wd(w:aw):Nd:=.mk 1 w 0 []
theorem Bs(w:aw):gk w w=true:=by rw[ej];exact decide_eq_true rfl
end Go.Proofs.YthnnplohnceogaaGreatDoor
