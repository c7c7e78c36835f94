/- Lemmas. -/
import Derived.Lib.Strings
import Derived.Lib.ItoaLen
import Derived.KernelRfl
import Derived.Test.YthnnplohnceogaaGreatDoorQ15
namespace Go.Proofs.YthnnplohnceogaaGreatDoor
open Go
open _root_.List renaming length->ab,getD->ae
open _root_.Int renaming toNat->af
open Go.IntKind renaming wrap->ag
open Go.Proofs.Tryz renaming prog->aj
set_option linter.unusedSimpArgs false
set_option linter.unusedVariables false
set_option maxRecDepth 100000
open Go Go.Shelf
inductive Nd where
 |mk (kind:Int) (word:aw) (at_:Int) (kids:List Nd)
mutual
def Nd.enc:Nd->AV
 | .mk k w a l=>.agg [nI k,nS w,nI a,.sl (Nd.pH l)]
def Nd.pH:List Nd->List AV
 | []=>[]|t::l=>Nd.enc t::Nd.pH l
end
def Nd.kind:Nd->Int| .mk k _ _ _=>k
def Nd.word:Nd->aw| .mk _ w _ _=>w
def Nd.at_:Nd->Int| .mk _ _ a _=>a
def Nd.kids:Nd->List Nd| .mk _ _ _ l=>l
theorem Nd.pJ(l:List Nd):Nd.pH l=l.map Nd.enc:=by induction l with|nil=>rfl|cons t l ih=>simp[Nd.pH,ih]
theorem Nd.aP(t:Nd):t.enc=.agg [nI t.kind,nS t.word,nI t.at_,.sl (t.kids.map Nd.enc)]:=by cases t;simp[Nd.enc,Nd.pJ,Nd.kind,Nd.word,Nd.at_,Nd.kids]
mutual
def Nd.size:Nd->Nat
 | .mk _ _ _ l=>1+Nd.sizes l
def Nd.sizes:List Nd->Nat
 | []=>0|t::l=>Nd.size t+Nd.sizes l
end
theorem Nd.size_eq(t:Nd):t.size=1+Nd.sizes t.kids:=by cases t;rfl
theorem Nd.size_pos(t:Nd):1<=t.size:=by rw[t.size_eq];omega
theorem mE{a b:Bool}(h:a=true↔b=true):nB a=nB b:=congrArg nB (avO.2 h)
def ij(c:Int):Bool:=decide (97<=c/\c<=122)||decide (65<=c/\c<=90)
def isDigit(c:Int):Bool:=decide (48<=c/\c<=57)
def iw(c:Int):Bool:=ij c||(isDigit c||(c==95||c==39))
def ly(c:Int):Bool:=c==32||(c==9||(c==10||(c==13||c==35)))
def aE(s:aw):List Int:=s.data.toList.map λb=>(b.toNat:Int)
theorem cG(s:aw):(aE s).length=s.size:=by simp[aE]
theorem uY{s:aw}{k:Nat}(h:k<(aE s).length):dV s (k:Int)=(aE s)[k]:=by (have h2:k<s.data.size:=by rw[cG]at h;exact h);unfold dV;simp only[avp,aE,List.getElem_map,Array.getElem_toList];rw[avc h2];rfl
theorem uZ(s:aw):∀c∈aE s,0<=c/\c<=255:=by intro c hc;simp only[aE,avs]at hc;obtain⟨b,_,rfl⟩:=hc;have:=b.toNat_lt;omega
theorem mF{s t:aw}(h:aE s=aE t):s=t:=by obtain⟨s⟩:=s;obtain⟨t⟩:=t;congr 1;apply avR;exact(List.map_inj_right (λa b (hab:(a.toNat:Int)=b.toNat)=>UInt8.toNat_inj.1 (by omega))).1 h
theorem ei(a b:aw):gi a b=decide (a=b):=by obtain⟨a⟩:=a;obtain⟨b⟩:=b;simp only[gi];by_cases h:a=b;subst h;simp;have h1:¬(ByteArray.mk a=ByteArray.mk b):=λe=>h (by injection e);rw[decide_eq_false h1,beq_eq_false_iff_ne];intro e;apply h1;have e1:=congrArg ab e;apply mF;rw[Lib.toList_data,Lib.toList_data]at e;exact congrArg (List.map λb:UInt8=>(b.toNat:Int)) e
def isWord(s:aw):Bool:=match aE s with
 | []=>false
 |c::l=>decide (l.length<=29)&&ij c&&l.all iw
theorem pL{c:Int}:az aj 153 [.ay (.int .u8 c)] (nB (ij c)):=by (refine UM ?_;have two:aA (decide (c>=65)) (nB (decide (c<=90))=nB (decide (65<=c/\c<=90))) (nB false=nB (decide (65<=c/\c<=90))):=by refine aA.intro (λh=>?_) λh=>?_;(have h:c>=65:=by simpa using h);exact mE (by simp;omega);(have h:¬c>=65:=by simpa using h);exact mE (by simp;omega));refine aA.intro (λh=>aA.intro (λh1=>?_) λh1=>?_) λh=>?_;(have h:c>=97:=by simpa using h);(have h1:c<=122:=by simpa using h1);simp[ij];omega;(have h1:¬c<=122:=by simpa using h1);(have:ij c=decide (65<=c/\c<=90):=by unfold ij;rw[decide_eq_false (by omega),avA]);rw[this];exact two;(have h:¬c>=97:=by simpa using h);(have:ij c=decide (65<=c/\c<=90):=by unfold ij;rw[decide_eq_false (by omega),avA]);rw[this];exact two
theorem rj{c:Int}:az aj 163 [.ay (.int .u8 c)] (nB (isDigit c)):=by refine UN (aA.intro (λh=>?_) λh=>?_);(have h:c>=48:=by simpa using h);exact mE (by simp[isDigit];omega);(have h:¬c>=48:=by simpa using h);exact mE (by simp[isDigit];omega)
theorem Js{c:Int}:az aj 155 [.ay (.int .u8 c)] (nB (iw c)):=by refine UO ⟨_,pL,aA.intro (λh=>?_) λh=>⟨_,rj,aA.intro (λh1=>?_) λh1=>aA.intro (λh2=>?_) λh2=>?_⟩⟩;simp[iw,h];simp[iw,h,h1];simp[iw,h,h1,h2];simp[iw,h,h1,h2]
def runN(l:List Int):Nat:=(l.takeWhile iw).length
theorem wq(c:Int)(l:List Int):runN (c::l)=if iw c=true then runN l+1 else 0:=by unfold runN;rw[awc];split<;>simp
theorem Xd(l:List Int):(runN l=l.length)↔l.all iw=true:=by induction l with|nil=>simp[runN]|cons c l ih=>simp only[runN,awc,avL]at ih ⊢;cases h:iw c<;>simp[ih]
theorem DM{s:aw}(hs:s.size<=1000000000):az aj 154 [nS s,.bz 155 []] (nI (runN (aE s):Nat)):=by refine UQ ?_;unfold adx Iy;have hl:=cG s;refine aI.intro (λk:Nat=>((s,(),(k:Int),()),())) (λk=>k<=s.size/\runN (aE s)=k+runN ((aE s).drop k)) (λk=>s.size-k) 0 rfl ⟨auv _,by simp⟩ ?_;intro k ⟨hk,hm⟩ again bQ;dsimp only;refine aA.intro (λh=>?_) λh=>?_;(have aF:k<s.size:=by simpa using h);(have vY:k<(aE s).length:=by omega);rw[auw vY]at hm;refine⟨⟨by omega,by omega⟩,_,Js,?_⟩;rw[uY vY];refine aA.intro (λh=>?_) λh=>?_;rw[bc (by omega)];refine bQ (k+1) ⟨by omega,?_⟩ (by omega);rw[hm,wq,if_pos h];omega;rw[hm,wq,if_neg (by rw[h];simp)];rfl;(have:s.size<=k:=by simpa using h);rw[auH (by omega)]at hm;rw[hm];simp[runN]
theorem FL{c:Int}(h:ij c=true):iw c=true:=by simp[iw,h]
theorem u5{s:aw}:az aj 107 [nS s] (nB (isWord s)):=by have hl:=cG s;refine UL (aA.intro (λh=>aA.intro (λh1=>?_) λh1=>?_) λh=>?_);(have h1:s.size<=30:=by(have:(s.size:Int)<=30:=by simpa using h1);omega);(cases hb:aE s with|nil=>exfalso;have:s=⟨#[]⟩:=mF hb;subst this;simp[gi]at h|cons c l=>(rw[hb,auy]at hl;have hc:dV s (0:Int)=c:=by have:=uY (s:=s) (k:=0) (by rw[hb];simp);simp only[hb,List.getElem_cons_zero]at this;exact this);(refine⟨⟨by omega,by omega⟩,_,pL,?_⟩;rw[hc];have hd:decide (l.length<=29)=true:=by simp;omega);refine aA.intro (λh2=>⟨_,DM (by omega),?_⟩) λh2=>?_;refine mE ?_;have hr:=Xd (aE s);rw[hb,avL,FL h2,au5,auy]at hr;simp only[isWord,hb,hd,h2,au5,beq_iff_eq];rw[<-hr,<-hl];omega;simp[isWord,hb,hd,h2]);(have h1:¬s.size<=30:=by(have:¬(s.size:Int)<=30:=by simpa using h1);omega);(cases hb:aE s with|nil=>simp[isWord,hb]|cons c l=>rw[hb,auy]at hl;simp[isWord,hb];omega);(have:s=⟨#[]⟩:=by rw[ei]at h;simpa using h);subst this;rfl
section
def nk:Int×Int->List Int->Int×Int
 |m,[]=>m|m,c::l=>nk (if c==10 then(m.1+1,1)else(m.1,m.2+1)) l
theorem mG(s:aw)(i j:Nat):aE (s.extract i j)=((aE s).drop i).take (j-i):=by simp only[aE,ByteArray.data_extract,Array.toList_extract,List.extract_eq_take_drop,List.map_take,List.map_drop]
abbrev Tk:=Int×aw×Int
def cP(t:Tk):AV:=.agg [nI t.1,nS t.2.1,nI t.2.2]
theorem ab3(l:List Int):runN l<=l.length:=by induction l with|nil=>simp[runN]|cons c l ih=>rw[wq,auy];split<;>omega
variable {s:aw}
theorem ab4(l:List Tk)(t:Tk):l.map cP++[.agg [nI t.1,nS t.2.1,nI t.2.2]]=(l++[t]).map cP:=by simp[cP]
end
theorem lt0{x y:Nd}:(0:Int)<([x,y].map Nd.enc).length:=by simp
theorem NI{x y:Nd}:(1:Int)<([x,y].map Nd.enc).length:=by simp
theorem Bb{w:aw}:gi w (⟨#[]⟩:aw)=decide (w.size=0):=by rw[ei];by_cases h:w.size=0;rw[decide_eq_true h,decide_eq_true (mF (auV (by rw[cG];exact h)))];rw[decide_eq_false h,decide_eq_false (λe=>h (by rw[e];rfl))]
theorem bsz(a b:aw):(a++b).size=a.size+b.size:=ByteArray.size_append
theorem sz1{c:UInt8}:(⟨#[c]⟩:aw).size=1:=rfl
theorem Jt{n:Nat}(hn:n<=1000000000): aY aj 146 [.ay (.slice none 0 0),nI (n:Nat)] [] (λr q=>if n=0 then r=.ay (.slice none 0 0)/\q=[]else r=.own 0 0/\q=[.row 9 1 []]):=by (have e:ag .i64 ((n:Int)-ag .i64 (0-((ab ([]:List AV):Nat):Int)))=(n:Int):=by rw[show ag .i64 (0-((ab ([]:List AV):Nat):Int))=0 from by decide,Int.sub_zero,ba (by omega) (by omega)]);refine UK (aA.neg (decide_eq_false (by omega)) ?_);rw[e,avp];refine aA.intro (λh=>⟨⟨of_decide_eq_true h,by simp only[maxLen];omega,?_⟩,?_⟩) λh=>?_;(have:TD.bytes L2<=1000:=by decide);have h2:n*TD.bytes L2<=n*1000:=Nat.mul_le_mul_left _ this;omega;have:=of_decide_eq_true h;dsimp only;rw[if_neg (by omega)];exact⟨rfl,rfl⟩;have:=of_decide_eq_false h;dsimp only;rw[if_pos (by omega)];exact⟨rfl,rfl⟩
def rk(ll:List (List aw)):List AV:=ll.map λl=>.sl (l.map nS)
theorem Bc{ll:List (List aw)}{k:Nat}(h:k<ll.length):ae (rk ll) (af (k:Int)) .top=.sl (ll[k].map nS):=by simp[rk,ae,h]
theorem DN(ll:List (List aw)):(rk ll).length=ll.length:=by simp[rk]
theorem Bd{ll:List (List aw)}{k:Nat}(h:k<ll.length):(ll.take (k+1)).flatten=(ll.take k).flatten++ll[k]:=by rw[avi h,awb,List.flatten_singleton]
theorem nM(ll:List (List aw))(k:Nat):(ll.take k).flatten.length<=ll.flatten.length:=by (have h:ll.flatten=(ll.take k).flatten++(ll.drop k).flatten:=by rw[<-awb,avl]);rw[h,aut];omega
theorem Mw{l:List aw}{x:AV}(h:x∈l.map nS):x.cells.length=1:=by obtain⟨t,_,rfl⟩:=avs.1 h;exact rfl
theorem CQ{ll:List (List aw)}(h0:ll.length<=1000000000)(hn:ll.flatten.length<=1000000000): az aj 98 [.sl (rk ll)] (.sl (ll.flatten.map nS)):=by
 refine ZZ ?_;refine aI.intro (λk:Nat=>((rk ll,((ll.take k).flatten.length:Nat),rk ll,((rk ll).length:Int),(k:Int),()),())) (λk=>k<=ll.length) (λk=>ll.length-k) 0 rfl (auv _) ?_;intro k hk again bQ;dsimp only;have hle:=nM ll k;unfold Oz;rw[DN]at *;refine aA.intro (λh=>?_) λh=>?_;have aF:k<ll.length:=by simpa using h
 have sS:=nM ll (k+1);have dv:=bQ (k+1) (by omega) (by omega);rw[Bd aF,aut]at sS dv;refine⟨by omega,by omega,_,Bc aF,?_⟩;rw[aum,ba (n:=(((ll.take k).flatten.length:Nat):Int)+_) (by omega) (by omega),bc (by omega)];exact aA.neg (decide_eq_false (by omega)) dv;have fb:ll.length<=k:=by simpa using h
 clear bQ;rw[auE fb];suffices hL:AL (((),rk ll,(ll.length:Int),0,()),([],())) (λr=>r=.sl (ll.flatten.map nS))from
  ⟨_,Jt hn,λr q hq=>by
   by_cases hz:ll.flatten.length=0
   ·rw[if_pos hz]at hq;exact .inr ⟨hq,rfl,hL⟩
   ·rw[if_neg hz]at hq;exact .inl ⟨[],hq,rfl,hL⟩⟩
 refine aI.intro (λk:Nat=>(((),rk ll,(ll.length:Int),(k:Int),()),((ll.take k).flatten.map nS,()))) (λk=>k<=ll.length) (λk=>ll.length-k) 0 rfl (auv _) ?_;intro j hj W9 Mm;dsimp only;have sS:=nM ll (j+1);unfold Ix;refine aA.intro (λh=>?_) λh=>?_;have aF:j<ll.length:=by simpa using h
 have dv:=Mm (j+1) (by omega) (by omega);rw[Bd aF]at sS dv;rw[auY]at dv;rw[aut]at sS;refine⟨by omega,by rw[DN];omega,_,Bc aF,rfl,jH (λx hx=>Mw hx) (by rw[aut,aum,aum];omega) (by decide),rfl,?_⟩;rw[bc (by omega)];exact dv;have fb:ll.length<=j:=by simpa using h
 exact⟨rfl,by rw[auE fb]⟩
theorem YG{l:List Int}{i:Int}{k:Nat}(h:k<l.length):(l.take (k+1)).contains i=((l.take k).contains i||(l[k]==i)):=by rw[<-bP h,avO];simp only[av5,avo,auU,auD,beq_iff_eq];exact or_congr av9 eq_comm
mutual
def Tm.same:Tm->Tm->Bool
 | .mk b k i a,.mk b' k' i' a'=>(k==k'&&i==i')&&(Ty.cB b b'&&Tm.cB a a')
def Tm.cB:List Tm->List Tm->Bool
 | [],[]=>true|t::l,u::m=>Tm.same t u&&Tm.cB l m|_,_=>false
end
theorem Tm.FF(t u:Tm):Tm.same t u=((t.kind==u.kind&&t.index==u.index)&&(Ty.cB t.binds u.binds&&Tm.cB t.args u.args)):=by cases t;cases u;simp[Tm.same,Tm.kind,Tm.index,Tm.binds,Tm.args]
theorem Tm.tj{l m:List Tm}{k:Nat}(h1:k<l.length)(h2:k<m.length):Tm.cB (l.drop k) (m.drop k)=(Tm.same l[k] m[k]&&Tm.cB (l.drop (k+1)) (m.drop (k+1))):=by rw[auw h1,auw h2,Tm.cB]
theorem Tm.wo{l m:List Tm}(h:¬l.length=m.length):Tm.cB l m=false:=by
 induction l generalizing m with
  |nil=>cases m with|nil=>simp at h|cons u m=>rfl
  |cons t l ih=>cases m with|nil=>rfl|cons u m=>rw[Tm.cB,ih (by simpa using h),Bool.and_false]
mutual
theorem Tm.mD:∀(t u:Tm),Tm.same t u=true↔t=u
 | .mk b k i a,.mk b' k' i' a'=>by simp only[Tm.same,auq,beq_iff_eq,Tm.mk.injEq,Ty.jJ,Tm.jJ a a'];constructor;rintro⟨⟨h1,h2⟩,h3,h4⟩;exact⟨h3,h1,h2,h4⟩;rintro⟨h3,h1,h2,h4⟩;exact⟨⟨h1,h2⟩,h3,h4⟩
theorem Tm.jJ:∀(l m:List Tm),Tm.cB l m=true↔l=m
 | [],[]=>by simp[Tm.cB]| [],_::_=>by simp[Tm.cB]|_::_,[]=>by simp[Tm.cB]|t::l,u::m=>by simp only[Tm.cB,auq,List.cons.injEq,Tm.mD t u,Tm.jJ l m]
end
theorem Tm.Rh(t:Tm):Tm.same t t=true:=(Tm.mD t t).2 rfl
inductive Rw where
 |mk (kind:Int) (type:Ty) (index:Int) (kids:List Rw)
mutual
def Rw.enc:Rw->AV
 | .mk k t i l=>.agg [nI k,.sl (t.args.map Ty.enc),nI t.base,nI i,.sl (Rw.pH l)]
def Rw.pH:List Rw->List AV
 | []=>[]|t::l=>Rw.enc t::Rw.pH l
end
mutual
def Rw.total:Rw->Nat
 | .mk _ t _ l=>1+t.size+Rw.gC l
def Rw.gC:List Rw->Nat
 | []=>0|t::l=>Rw.total t+Rw.gC l
end
mutual
def Rw.size:Rw->Nat
 | .mk _ _ _ l=>1+Rw.sizes l
def Rw.sizes:List Rw->Nat
 | []=>0|t::l=>Rw.size t+Rw.sizes l
end
def Rw.kind:Rw->Int| .mk k _ _ _=>k
def Rw.type:Rw->Ty| .mk _ t _ _=>t
def Rw.index:Rw->Int| .mk _ _ i _=>i
def Rw.kids:Rw->List Rw| .mk _ _ _ l=>l
theorem Rw.FG(k:Int)(t:Ty)(i:Int)(l:List Rw):(Rw.mk k t i l).kind=k:=rfl
theorem Rw.ab5(k:Int)(t:Ty)(i:Int)(l:List Rw):(Rw.mk k t i l).type=t:=rfl
theorem Rw.A8(k:Int)(t:Ty)(i:Int)(l:List Rw):(Rw.mk k t i l).index=i:=rfl
theorem Rw.FM(k:Int)(t:Ty)(i:Int)(l:List Rw):(Rw.mk k t i l).kids=l:=rfl
theorem Rw.pJ(l:List Rw):Rw.pH l=l.map Rw.enc:=by induction l with|nil=>rfl|cons t l ih=>simp[Rw.pH,ih]
theorem Rw.aP(r:Rw):r.enc=.agg [nI r.kind,.sl (r.type.args.map Ty.enc),nI r.type.base,nI r.index,.sl (r.kids.map Rw.enc)]:=by cases r;simp[Rw.enc,Rw.pJ,Rw.kind,Rw.type,Rw.index,Rw.kids]
theorem Rw.bx{l:List Rw}{k:Nat}(h:k<l.length):ae (l.map Rw.enc) (af (k:Int)) .top=.agg [nI l[k].kind,.sl (l[k].type.args.map Ty.enc),nI l[k].type.base,nI l[k].index,.sl (l[k].kids.map Rw.enc)]:=by rw[getD_map h,Rw.aP]
theorem Rw.rn(r:Rw):r.total=1+r.type.size+Rw.gC r.kids:=by cases r;rfl
theorem Rw.lO(r:Rw):2<=r.total:=by have:=r.type.size_pos;rw[r.rn];omega
theorem Rw.Mx(l:List Rw):l.length<=Rw.gC l:=by induction l with|nil=>simp[Rw.gC]|cons t l ih=>have:=t.lO;simp[Rw.gC];omega
theorem Rw.My{l:List Rw}{t:Rw}(h:t∈l):t.total<=Rw.gC l:=by induction l with|nil=>cases h|cons u l ih=>simp only[Rw.gC];rcases auJ.1 h with rfl|h1;omega;have:=ih h1;omega
theorem Rw.Ri{t:Rw}{k:Nat}(h:k<t.kids.length):t.kids[k].total<t.total:=by have:=Rw.My (auz h);rw[t.rn];omega
theorem Rw.size_eq(r:Rw):r.size=1+Rw.sizes r.kids:=by cases r;rfl
theorem oI{t:Ty}(h:t.size<=900000000):az aj 49 [.agg [.sl (t.args.map Ty.enc),nI t.base],.sl []] (.agg [.sl (t.args.map Ty.enc),nI t.base]):=by have:=kx (t:=t) (l:=[]) (by simp only[Ty.sizes];omega);rw[Ty.arrow,avF,Ty.eta,Ty.aP]at this;exact this
def arity(k:Int):Int:=if k=0\/k=1\/k=2 then 0 else if k=3 then 1 else if k=4 then 2 else -1
theorem Mz(k:Int):az aj 204 [nI k] (nI (arity k)):=by refine Vi ?_;unfold adC arity;by_cases h0:k=0;subst h0;exact aA.pos rfl (aA.pos rfl rfl);refine aA.neg (by simpa using h0) ?_;by_cases h1:k=1;subst h1;exact aA.pos rfl (aA.pos rfl rfl);refine aA.neg (by simpa using h1) ?_;by_cases h2:k=2;subst h2;exact aA.pos rfl rfl;refine aA.neg (by simpa using h2) ?_;rw[if_neg (by omega)];by_cases h3:k=3;subst h3;exact aA.pos rfl rfl;refine aA.neg (by simpa using h3) ?_;rw[if_neg h3];by_cases h4:k=4;subst h4;exact aA.pos rfl rfl;refine aA.neg (by simpa using h4) ?_;rw[if_neg h4]
mutual
def Rw.shaped:Rw->Bool
 | .mk k _ _ l=>decide (arity k=l.length)&&Rw.dI l
def Rw.dI:List Rw->Bool
 | []=>true|t::l=>Rw.shaped t&&Rw.dI l
end
theorem Rw.wu(t:Rw):Rw.shaped t=(decide (arity t.kind=t.kids.length)&&Rw.dI t.kids):=by cases t;rfl
theorem Rw.pM{l:List Rw}{k:Nat}(h:k<l.length):Rw.dI (l.drop k)=(Rw.shaped l[k]&&Rw.dI (l.drop (k+1))):=by rw[auw h,Rw.dI]
mutual
def Rw.depth:Rw->Nat
 | .mk _ _ _ l=>Rw.wv 0 l+1
def Rw.wv:Nat->List Rw->Nat
 |n,[]=>n|n,t::l=>Rw.wv (if Rw.depth t>n then Rw.depth t else n) l
end
theorem Rw.Xe(t:Rw):t.depth=Rw.wv 0 t.kids+1:=by cases t;rfl
theorem Rw.tk{n m:Nat}:∀{l:List Rw},Rw.wv n l<=m↔n<=m/\∀t∈l,t.depth<=m
 | []=>by simp[Rw.wv]|t::l=>by rw[Rw.wv,Rw.tk (l:=l)];simp only[auJ,forall_eq_or_imp];split<;>constructor;rintro⟨h1,h2⟩;exact⟨by omega,h1,h2⟩;rintro⟨h1,h2,h3⟩;exact⟨h2,h3⟩;rintro⟨h1,h2⟩;exact⟨h1,by omega,h2⟩;rintro⟨h1,h2,h3⟩;exact⟨h1,h3⟩
def Rw.bJ(t:Rw):Bool:=t.shaped&&(decide (t.size<=5000)&&decide (t.depth<=60))
mutual
def Rw.sound(d left:Int):Rw->Bool×Int
 | .mk k _ _ l=>if left-1<0\/d>60\/¬arity k=l.length then(false,left-1)else Rw.gD (d+1) (left-1) l
def Rw.gD(d left:Int):List Rw->Bool×Int
 | []=>(true,left)|t::l=>if(Rw.sound d left t).1=true then Rw.gD d (Rw.sound d left t).2 l else(false,(Rw.sound d left t).2)
end
theorem Rw.Xf(d left:Int)(t:Rw):Rw.sound d left t=if left-1<0\/d>60\/¬arity t.kind=t.kids.length then(false,left-1)else Rw.gD (d+1) (left-1) t.kids:=by cases t;rfl
theorem Rw.Ju{d left:Int}{l:List Rw}{k:Nat}(h:k<l.length):Rw.gD d left (l.drop k)=if(Rw.sound d left l[k]).1=true then Rw.gD d (Rw.sound d left l[k]).2 (l.drop (k+1))else(false,(Rw.sound d left l[k]).2):=by rw[auw h,Rw.gD]
mutual
theorem Rw.Be:∀(t:Rw)(d left:Nat),1<=d->d<=61->((Rw.sound d left t).1=true↔(t.shaped=true/\t.size<=left/\t.depth+d<=61))/\((Rw.sound d left t).1=true->(Rw.sound d left t).2=(left:Int)-t.size)/\ -1<=(Rw.sound d left t).2/\(Rw.sound d left t).2<=left
 | .mk k ty i l,d,left,hd,hd2=>by rw[Rw.sound,Rw.shaped,Rw.size,Rw.depth];by_cases hc:(left:Int)-1<0\/(d:Int)>60\/¬arity k=l.length;rw[if_pos hc];refine⟨⟨λh=>(by cases h),fun⟨h1,h2,h3⟩=>?_⟩,λh=>(by cases h),by dsimp only;omega,by dsimp only;omega⟩;rw[auq,decide_eq_true_eq]at h1;rcases hc with hc|hc|hc;omega;omega;exact(hc h1.1).elim;(rw[if_neg hc];simp only[not_or,Int.not_lt,avS]at hc;obtain⟨c1,c2,c3⟩:=hc;have e1:(left:Int)-1=((left-1:Nat):Int):=by omega);(have e2:(d:Int)+1=((d+1:Nat):Int):=by omega);rw[e1,e2];obtain⟨g1,g2,g3,g4⟩:=Rw.DO l (d+1) (left-1) (by omega) (by omega);refine⟨?_,?_,g3,by omega⟩;rw[g1,c3];simp only[decide_true,au5];have:=Rw.tk (n:=0) (m:=60-d) (l:=l);constructor;rintro⟨h1,h2,h3⟩;refine⟨h1,by omega,?_⟩;have:=this.2 ⟨auv _,λt ht=>by have:=h3 t ht;omega⟩;omega;rintro⟨h1,h2,h3⟩;exact⟨h1,by omega,λt ht=>by have:=(this.1 (by omega)).2 t ht;omega⟩;intro h;rw[g2 h];omega
theorem Rw.DO:∀(l:List Rw)(d left:Nat),1<=d->d<=61->((Rw.gD d left l).1=true↔(Rw.dI l=true/\Rw.sizes l<=left/\∀t∈l,t.depth+d<=61))/\((Rw.gD d left l).1=true->(Rw.gD d left l).2=(left:Int)-Rw.sizes l)/\ -1<=(Rw.gD d left l).2/\(Rw.gD d left l).2<=left
 | [],d,left,_,_=>by refine⟨⟨λ_=>⟨rfl,auv _,λt ht=>(by cases ht)⟩,λ_=>rfl⟩,λ_=>?_,?_,?_⟩;simp[Rw.gD,Rw.sizes];simp only[Rw.gD];omega;simp only[Rw.gD];omega|t::l,d,left,hd,hd2=>by obtain⟨g1,g2,g3,g4⟩:=Rw.Be t d left hd hd2;rw[Rw.gD,Rw.dI,Rw.sizes];by_cases hc:(Rw.sound d left t).1=true;(rw[if_pos hc];obtain⟨c1,c2,c3⟩:=g1.1 hc;have e:(Rw.sound d left t).2=((left-t.size:Nat):Int):=by rw[g2 hc];omega);rw[e];obtain⟨k1,k2,k3,k4⟩:=Rw.DO l d (left-t.size) hd hd2;refine⟨?_,?_,k3,by omega⟩;rw[k1,auq];simp only[auJ,forall_eq_or_imp];constructor;rintro⟨h1,h2,h3⟩;exact⟨⟨c1,h1⟩,by omega,c3,h3⟩;rintro⟨⟨_,h1⟩,h2,_,h3⟩;exact⟨h1,by omega,h3⟩;intro h;rw[k2 h];omega;rw[if_neg hc];refine⟨⟨λh=>(by cases h),fun⟨h1,h2,h3⟩=>(hc (g1.2 ?_)).elim⟩,λh=>(by cases h),g3,g4⟩;rw[auq]at h1;exact⟨h1.1,by omega,h3 t auC⟩
end
theorem Jv:∀(n:Nat)(t:Rw)(d left:Nat)(h0:Int)(h1:List AV)(h2 h3:Int)(h4:List AV),t.total<=n->n<=500000000->1<=d->d<=61->left<=5000-> aY aj 188 [t.enc,nI d,.ptr 1 0] [.box [nI h0,.sl h1,nI h2,nI h3,.sl h4],.box [nI left]] (λr q=>r=nB (Rw.sound d left t).1/\q=[.box [nI h0,.sl h1,nI h2,nI h3,.sl h4],.box [nI (Rw.sound d left t).2]]):=by intro n;induction n with|zero=>intro t d left h0 h1 h2 h3 h4 h;have:=t.lO;omega|succ n ih=>intro t d left h0 h1 h2 h3 h4 h hn hd hd2 hl;have hq:=Rw.Mx t.kids;have Mj:=t.rn;have hsd:=Rw.Xf d left t;rw[Rw.aP];refine Vh ?_;unfold adB;rw[ba (n:=(left:Int)-1) (by omega) (by omega)];refine aA.intro (λh=>?_) λh=>?_;(have:(left:Int)-1<0:=by simpa using h);rw[if_pos (.inl this)]at hsd;rw[hsd];exact⟨rfl,rfl⟩;(have c1:¬(left:Int)-1<0:=by simpa using h);refine aA.intro (λh=>?_) λh=>?_;(have:(d:Int)>60:=by simpa using h);rw[if_pos (.inr (.inl this))]at hsd;rw[hsd];exact⟨rfl,rfl⟩;(have c2:¬(d:Int)>60:=by simpa using h);refine⟨_,Mz _,aA.intro (λh=>?_) λh=>?_⟩;(have:¬arity t.kind=t.kids.length:=by simpa using h);rw[if_pos (.inr (.inr this))]at hsd;rw[hsd];exact⟨rfl,rfl⟩;(have c3:arity t.kind=t.kids.length:=by simpa using h);rw[if_neg (by simp only[not_or,avS];exact⟨c1,c2,c3⟩)]at hsd;rw[hsd,show (d:Int)+1=((d+1:Nat):Int)from by omega,show (left:Int)-1=((left-1:Nat):Int)from by omega];refine aI.intro (λp:Nat×Nat=>(((d:Int),(),t.kids.map Rw.enc,(t.kids.length:Int),(p.1:Int),()),((h0,h1,h2,h3,h4,()),((p.2:Int),()),(t.kind,t.type.args.map Ty.enc,t.type.base,t.index,t.kids.map Rw.enc,()),()))) (λp=>p.1<=t.kids.length/\p.2<=5000/\Rw.gD ((d+1:Nat):Int) ((left-1:Nat):Int) t.kids=Rw.gD ((d+1:Nat):Int) (p.2:Int) (t.kids.drop p.1)) (λp=>t.kids.length-p.1) (0,left-1) (by rw[aum];rfl) ⟨auv _,by dsimp only;omega,rfl⟩ ?_;intro ⟨k,m⟩ ⟨hk,hm,hs⟩ again bQ;dsimp only at hk hm hs ⊢;rw[aum];refine aA.intro (λh=>?_) λh=>?_;(have aF:k<t.kids.length:=by simpa using h);have hi:=ih t.kids[k] (d+1) m h0 h1 h2 h3 h4 (by have:=Rw.Ri aF;omega) (by omega) (by omega) (by omega) hm;obtain⟨g1,g2,g3,g4⟩:=Rw.Be t.kids[k] (d+1) m (by omega) (by omega);rw[Rw.aP]at hi;rw[Rw.Ju aF]at hs;rw[bc (by omega)];refine⟨by omega,by omega,_,_,_,_,_,Rw.bx aF,_,hi,λr q ⟨hr,hq⟩=>⟨_,_,_,_,_,_,_,⟨hr,hq⟩,aA.intro (λh=>?_) λh=>?_⟩⟩;(have hf:(Rw.sound ((d+1:Nat):Int) m t.kids[k]).1=false:=by simpa using h);rw[hf]at hs;simp only[auO,if_false]at hs;rw[hs];exact⟨rfl,rfl⟩;(have hf:(Rw.sound ((d+1:Nat):Int) m t.kids[k]).1=true:=by simpa using h);(rw[if_pos hf]at hs;obtain⟨_,k2,_⟩:=g1.1 hf;have e:(Rw.sound ((d+1:Nat):Int) m t.kids[k]).2=((m-t.kids[k].size:Nat):Int):=by rw[g2 hf];omega);rw[e]at hs ⊢;rw[bc (by omega)];exact bQ (k+1,m-t.kids[k].size) ⟨by dsimp only;omega,by dsimp only;omega,hs⟩ (by dsimp only;omega);(have:t.kids.length<=k:=by simpa using h);rw[auH this]at hs;rw[hs];exact⟨rfl,rfl⟩
theorem Jw{t:Rw}(h:t.total<=500000000):az aj 171 [t.enc] (nB t.bJ):=by (have h1:=Jv _ t 1 5000 t.kind (t.type.args.map Ty.enc) t.type.base t.index (t.kids.map Rw.enc) (aur _) h (by omega) (by omega) (by omega);have e:(Rw.sound ((1:Nat):Int) ((5000:Nat):Int) t).1=t.bJ:=by have:=(Rw.Be t 1 5000 (by omega) (by omega)).1;rw[avO,this,Rw.bJ];simp only[auq,decide_eq_true_eq];constructor;rintro⟨h1,h2,h3⟩;exact⟨h1,h2,by omega⟩;rintro⟨h1,h2,h3⟩;exact⟨h1,h2,by omega⟩);rw[Rw.aP]at h1 ⊢;refine Vd ⟨_,h1,λr q ⟨hr,hq⟩=>⟨_,_,_,_,_,_,_,⟨hr,hq⟩,?_⟩⟩;rw[e]
mutual
def Ty.pre(d:Nat):Ty->List (Nat×Ty)
 | .mk l b=>(d,.mk l b)::Ty.gE (d+1) l
def Ty.gE(d:Nat):List Ty->List (Nat×Ty)
 | []=>[]|t::l=>Ty.pre d t++Ty.gE d l
end
theorem Ty.FN(d:Nat)(t:Ty):t.pre d=(d,t)::Ty.gE (d+1) t.args:=by cases t;rfl
theorem Ty.wx{d:Nat}{l:List Ty}{k:Nat}(h:k<l.length):Ty.gE d (l.drop k)=l[k].pre d++Ty.gE d (l.drop (k+1)):=by rw[auw h,Ty.gE]
mutual
theorem Ty.pN:∀(d:Nat)(t:Ty),(t.pre d).length=t.size
 |d,.mk l b=>by rw[Ty.pre,auy,Ty.rp (d+1) l,Ty.size];omega
theorem Ty.rp:∀(d:Nat)(l:List Ty),(Ty.gE d l).length=Ty.sizes l
 |d,[]=>rfl|d,t::l=>by rw[Ty.gE,aut,Ty.pN d t,Ty.rp d l,Ty.sizes]
end
def Jx(p:Nat×Ty):List AV:=[nI p.1,.agg [.sl (p.2.args.map Ty.enc),nI p.2.base]]
def Bf(p:Nat×Ty):Int×(List AV×Int×Unit)×Unit:=(p.1,(p.2.args.map Ty.enc,p.2.base,()),())
theorem Jy:∀(n:Nat)(t:Ty)(d:Nat),t.size<=n->d+n<=1000000000->vL aj 167 (λv=>[.agg [.sl (t.args.map Ty.enc),nI t.base],nI d,v]) ((t.pre d).map Jx) true:=by intro n;induction n with|zero=>intro t d h;have:=t.size_pos;omega|succ n ih=>intro t d h hn;have hq:=Ty.aZ t.args;have Mj:=t.size_eq;refine U4 λyv more=>⟨rfl,(Ty.gE (d+1) t.args).map Jx++more,by rw[Ty.FN];rfl,λb=>aA.intro (λh=>?_) λh=>?_⟩;(have:b=false:=by simpa using h);subst this;rfl;(have:b=true:=by simpa using h);subst this;refine aI.intro (λk:Nat=>((((d:Int),yv,t.args.map Ty.enc,(t.args.length:Int),(k:Int),()),((t.args.map Ty.enc,t.base,()),())),some ((Ty.gE (d+1) (t.args.drop k)).map Jx++more))) (λk=>k<=t.args.length) (λk=>t.args.length-k) 0 (by rw[aum];rfl) (auv _) ?_;intro k hk again bQ;dsimp only;rw[aum];refine aA.intro (λh=>?_) λh=>?_;(have aF:k<t.args.length:=by simpa using h);have hi:=ih t.args[k] (d+1) (by have:=Ty.eR aF;omega) (by omega);refine⟨by omega,by omega,_,_,Ty.bx aF,_,_,(Ty.gE (d+1) (t.args.drop (k+1))).map Jx++more,?_,hi,?_,λb=>aA.intro (λh=>?_) λh=>?_⟩;rw[bc (by omega)];rw[Ty.wx aF,auY,auM];(have:b=false:=by simpa using h);subst this;rfl;(have:b=true:=by simpa using h);subst this;rw[bc (by omega)];exact bQ (k+1) (by omega) (by omega);(have:t.args.length<=k:=by simpa using h);rw[auH this];rfl
theorem FO{t:Ty}(h:t.size<=500000000):vL aj 166 (λv=>[v,.aU (.agg [.sl (t.args.map Ty.enc),nI t.base]) 0]) ((t.pre 1).map Jx) false:=U2 λyv more=>⟨_,_,more,rfl,Jy _ t 1 (aur _) (by omega),rfl,λb=>⟨b,rfl⟩⟩
theorem xM(t:Ty):az aj 135 [.agg [.sl (t.args.map Ty.enc),nI t.base]] (.bz 166 [.aU (.agg [.sl (t.args.map Ty.enc),nI t.base]) 0]):=Va rfl
theorem DP{t:Ty}(h:t.size<=500000000):kR aj 166 [.aU (.agg [.sl (t.args.map Ty.enc),nI t.base]) 0] [.v (.c (.i .i64)),.v (.a [.l,.i .i64])] ((t.pre 1).map Bf):=rb (prm:=[.v (.c (.i .i64)),.v (.a [.l,.i .i64])]) Bf (FO h)
theorem rq{t:Ty}(h:t.size<=500000000):az aj 190 [.agg [.sl (t.args.map Ty.enc),nI t.base]] (nI (t.size:Nat)):=by refine Vb ⟨xM t,?_⟩;refine fK.rf (λn:Nat=>((t.args.map Ty.enc,t.base,()),((n:Int),()),())) Bf (t.pre 1) (DP h) (λrest n=>n+rest.length=t.size) 0 rfl (by rw[Ty.pN];omega) (λe rest n hI again bQ=>?_) λn hI=>?_;rw[auy]at hI;dsimp only;rw[bc (by omega)];exact bQ (n+1) (by omega);(have:n=t.size:=by simpa using hI);rw[this]
def xN(aJ:Int)(p:Nat×Ty):Bool:=decide (p.1<=60)&&(decide (0<=p.2.base)&&decide (p.2.base<aJ))
def Bg(aJ:Int):Nat->List (Nat×Ty)->Bool
 |_,[]=>true|n,p::l=>if p.1>60\/n+1>1000\/p.2.base<0\/p.2.base>=aJ then false else Bg aJ (n+1) l
theorem Jz(aJ:Int):∀(l:List (Nat×Ty))(n:Nat),n<=1000->Bg aJ n l=(decide (n+l.length<=1000)&&l.all (xN aJ))
 | [],n,hn=>by simp[Bg,hn]|p::l,n,hn=>by rw[Bg];split;rename_i hc;symm;rw[Bool.and_eq_false_iff];by_cases h1:n+1>1000;left;rw[decide_eq_false];rw[auy];omega;(right;rw[avL];have:xN aJ p=false:=by unfold xN;rw[Bool.and_eq_false_iff,Bool.and_eq_false_iff];rcases hc with hc|hc|hc|hc;left;exact decide_eq_false (by omega);omega;right;left;exact decide_eq_false (by omega);right;right;exact decide_eq_false (by omega));rw[this,avk];(rename_i hc;simp only[not_or]at hc;obtain⟨h1,h2,h3,h4⟩:=hc;have hg:xN aJ p=true:=by unfold xN;rw[decide_eq_true (by omega),decide_eq_true (by omega),decide_eq_true (by omega)];rfl);rw[Jz aJ l (n+1) (by omega),avL,hg,au5,auy,show n+1+l.length=n+(l.length+1)from by omega]
def Ty.bJ(aJ:Int)(t:Ty):Bool:=decide (t.size<=1000)&&(t.pre 1).all (xN aJ)
theorem lz{t:Ty}{aJ:Int}(h:t.size<=500000000):az aj 75 [.agg [.sl (t.args.map Ty.enc),nI t.base],nI aJ] (nB (t.bJ aJ)):=by (refine Z9 ⟨xM t,?_⟩;have hr:t.bJ aJ=Bg aJ 0 (t.pre 1):=by rw[Jz aJ _ 0 (by omega),Ty.pN,Ty.bJ,auZ]);refine fK.rf (λn:Nat=>((t.args.map Ty.enc,t.base,()),(aJ,()),(false,()),((n:Int),()),())) Bf (t.pre 1) (DP h) (λr n=>n+r.length=t.size/\t.bJ aJ=Bg aJ n r) 0 rfl ⟨by rw[Ty.pN];omega,hr⟩ (λp r n ⟨hI,hk⟩ again bQ=>?_) λn ⟨hI,hk⟩=>?_;rw[auy]at hI;rw[Bg]at hk;dsimp only[Bf];rw[bc (by omega)];refine aA.intro (λh1=>?_) λh1=>aA.intro (λh2=>?_) λh2=>aA.intro (λh3=>?_) λh3=>aA.intro (λh4=>?_) λh4=>?_;(have:p.1>60:=by simp at h1;omega);rw[if_pos (.inl this)]at hk;rw[hk];(have:n+1>1000:=by simp at h2;omega);rw[if_pos (.inr (.inl this))]at hk;rw[hk];have:p.2.base<0:=of_decide_eq_true h3;rw[if_pos (.inr (.inr (.inl this)))]at hk;rw[hk];(have:p.2.base>=aJ:=by simpa using h4);rw[if_pos (.inr (.inr (.inr this)))]at hk;rw[hk];(have g1:¬p.1>60:=by simp at h1;omega);(have g2:¬n+1>1000:=by simp at h2;omega);(have g3:¬p.2.base<0:=of_decide_eq_false h3;have g4:¬p.2.base>=aJ:=by simpa using h4);rw[if_neg (by simp only[not_or];exact⟨g1,g2,g3,g4⟩)]at hk;exact bQ (n+1) ⟨by omega,hk⟩;rw[hk];rfl
def bu(c m x:List Ty)(k i:Int):Option Ty:=if i<0 then none else if k=0 then(if i<x.length then x[x.length-1-i.toNat]? else none)else if k=1 then c[i.toNat]? else if k=2 then m[i.toNat]? else none
def aj8:Option Ty->AV
 |some t=>.aG [.agg [.sl (t.args.map Ty.enc),nI t.base],nB true]|none=>.aG [.agg [.sl [],nI 0],nB false]
theorem tl{l:List Ty}{n:Nat}(h:n<l.length):ae (l.map Ty.enc) n .top=.agg [.sl (l[n].args.map Ty.enc),nI l[n].base]:=by have:=Ty.bx h;simpa using this
theorem rr{b:Int}{c m x:List Ty}{k i:Int}(hi:jo i)(hx:x.length<=1000000000):az aj 93 [.agg [nI b,.sl (c.map Ty.enc),.sl (m.map Ty.enc)],.sl (x.map Ty.enc),.agg [nI k,nI i]] (aj8 (bu c m x k i)):=by unfold jo at hi;refine aac ?_;unfold ai6 bu;simp only[aum];refine aA.intro (λh1=>?_) λh1=>?_;(have e1:k=1:=by simpa using h1);refine aA.intro (λh=>?_) λh2=>aA.intro (λh=>?_) λh3=>?_;(have:i<0:=by simpa using h);rw[if_pos this];rfl;(have Pz:¬i<0:=by simpa using h2);(have h3':(c.length:Int)<=i:=by simpa using h);rw[if_neg Pz,if_neg (by omega),if_pos e1,auQ (by omega)];rfl;(have Pz:¬i<0:=by simpa using h2);(have h3':i<(c.length:Int):=by simpa using h3);(have aF:i.toNat<c.length:=by omega);refine⟨by omega,by omega,_,_,tl aF,?_⟩;rw[if_neg Pz,if_neg (by omega),if_pos e1,aus aF];rfl;(have n1:¬k=1:=by simpa using h1);refine aA.intro (λh4=>?_) λh4=>?_;(have e2:k=2:=by simpa using h4);refine aA.intro (λh=>?_) λh2=>aA.intro (λh=>?_) λh3=>?_;(have:i<0:=by simpa using h);rw[if_pos this];rfl;(have Pz:¬i<0:=by simpa using h2);(have h3':(m.length:Int)<=i:=by simpa using h);rw[if_neg Pz,if_neg (by omega),if_neg n1,if_pos e2,auQ (by omega)];rfl;(have Pz:¬i<0:=by simpa using h2);(have h3':i<(m.length:Int):=by simpa using h3);(have aF:i.toNat<m.length:=by omega);refine⟨by omega,by omega,_,_,tl aF,?_⟩;rw[if_neg Pz,if_neg (by omega),if_neg n1,if_pos e2,aus aF];rfl;(have n2:¬k=2:=by simpa using h4);refine aA.intro (λh5=>?_) λh5=>?_;(have e0:k=0:=by simpa using h5);refine aA.intro (λh=>?_) λh2=>?_;(have:i<0:=by simpa using h);rw[if_pos this];rfl;(have Pz:¬i<0:=by simpa using h2);rw[ba (n:=(x.length:Int)-1) (by omega) (by omega),ba (by omega) (by omega)];refine aA.intro (λh=>?_) λh3=>aA.intro (λh=>?_) λh6=>?_;(have h3':(x.length:Int)-1-i<0:=by simpa using h);rw[if_neg Pz,if_pos e0,if_neg (by omega)];rfl;(have h3':(x.length:Int)-1-i>=x.length:=by simpa using h);omega;(have h3':¬(x.length:Int)-1-i<0:=by simpa using h3);(have aF:x.length-1-i.toNat<x.length:=by omega);refine⟨by omega,by omega,_,_,by rw[show af ((x.length:Int)-1-i)=x.length-1-i.toNat from by omega];exact tl aF,?_⟩;rw[if_neg Pz,if_pos e0,if_pos (by omega),aus aF];rfl;(have n0:¬k=0:=by simpa using h5);rw[if_neg n0,if_neg n1,if_neg n2];split<;>rfl
theorem tm{c m x:List Ty}{k i:Int}{t:Ty}(h:bu c m x k i=some t):t∈x\/t∈c\/t∈m:=by unfold bu at h;split at h;cases h;split at h;split at h;exact .inl (auu h);cases h;split at h;exact .inr (.inl (auu h));split at h;exact .inr (.inr (auu h));cases h
def hTy:Option Ty->AV
 |some t=>.aG [.agg [.sl (t.args.map Ty.enc),nI t.base],nI 0]|none=>.aG [.agg [.sl [],nI 0],nI 10]
theorem ru{b:Int}{c m x:List Ty}{k i:Int}(hi:jo i)(hx:x.length<=1000000000)(hs:∀t,bu c m x k i=some t->t.size<=500000000): az aj 192 [.agg [nI b,.sl (c.map Ty.enc),.sl (m.map Ty.enc)],.sl (x.map Ty.enc),.agg [nI k,nI i]] (hTy (bu c m x k i)):=by have h1:=rr (b:=b) (c:=c) (m:=m) (x:=x) (k:=k) (i:=i) hi hx;cases ht:bu c m x k i with|none=>rw[ht]at h1;exact ID ⟨_,_,_,h1,aA.pos rfl rfl⟩|some t=>rw[ht]at h1;exact ID ⟨_,_,_,h1,aA.neg rfl ⟨_,_,oI (by have:=hs t ht;omega),rfl⟩⟩
mutual
def Rw.Ok:Rw->Prop
 | .mk k _ i l=>jo k/\jo i/\Rw.Pv l
def Rw.Pv:List Rw->Prop
 | []=>True|t::l=>Rw.Ok t/\Rw.Pv l
end
theorem Rw.ok_eq{t:Rw}(h:t.Ok):jo t.kind/\jo t.index/\Rw.Pv t.kids:=by cases t;exact h
theorem xO{l:List Ty}:az aj 189 [.sl (l.map Ty.enc)] (.clip (l.map Ty.enc)):=by refine Pure.of_heap (Vl ⟨⟨by omega,by omega,rfl,by omega,Ty.lN⟩,rfl,?_⟩);simp[auE]
theorem MA{t:Ty}(h:t.size<=500000000)(h1:1<=t.args.length):az aj 191 [.agg [.sl (t.args.map Ty.enc),nI t.base],nI 1] (.aG [.agg [.sl ((t.args.drop 1).map Ty.enc),nI t.base],nI 0]):=by (have Mj:=t.size_eq;have cY:Ty.sizes (t.args.drop 1)<=Ty.sizes t.args:=by have e:=Ty.cO (t.args.take 1) (t.args.drop 1);rw[avl]at e;omega);(have hc:=lx _ (.mk (t.args.drop 1) t.base) (aur _) (by simp only[Ty.size];omega);rw[Ty.jI]at hc;have hd:List.drop (af 1) (List.take (af ((ab (t.args.map Ty.enc):Nat):Int)) (t.args.map Ty.enc))=(t.args.drop 1).map Ty.enc:=by simp[auE]);refine Vm (aA.neg rfl (aA.neg (by simp;omega) ⟨⟨by omega,by rw[aum];omega,by omega,Ty.lN⟩,_,_,by rw[hd];exact hc,rfl⟩))
abbrev kL:Ty:=.mk [] 0
def rv(t:Ty):List (Ty×Int)->Ty×Int
 |p::_=>if p.2≠0 then(kL,p.2)else if(p.1.arrow [t]).size>1000 then(kL,2)else(p.1.arrow [t],0)| []=>(kL,0)
def pO:List (Ty×Int)->Ty×Int
 |p::q::_=>if p.2≠0 then(kL,p.2)else if q.2≠0 then(kL,q.2)else(match p.1.args with| []=>(kL,5)|u::us=>if Ty.same u q.1=true then(.mk us p.1.base,0)else(kL,5))|_=>(kL,0)
def np:Option Ty->Ty×Int
 |some t=>if t.size>1000 then(kL,2)else(t,0)|none=>(kL,10)
mutual
def Rw.infer(b:Int)(c m:List Ty):List Ty->Rw->Ty×Int
 |x,.mk k t i l=>if k=3 then(if t.bJ b=true then rv t (Rw.eB b c m (x++[t]) l)else(kL,2))else if k=4 then pO (Rw.eB b c m x l)else np (bu c m x k i)
def Rw.eB(b:Int)(c m:List Ty):List Ty->List Rw->List (Ty×Int)
 |_,[]=>[]|x,r::l=>Rw.infer b c m x r::Rw.eB b c m x l
end
theorem Rw.Xg(b:Int)(c m x:List Ty)(r:Rw):r.infer b c m x=if r.kind=3 then(if r.type.bJ b=true then rv r.type (Rw.eB b c m (x++[r.type]) r.kids)else(kL,2))else if r.kind=4 then pO (Rw.eB b c m x r.kids)else np (bu c m x r.kind r.index):=by cases r;rw[Rw.infer];rfl
mutual
theorem Rw.jK(b:Int)(c m:List Ty):∀(r:Rw)(x:List Ty),(r.infer b c m x).1.size<=1000
 | .mk k t i l,x=>by rw[Rw.infer];split;split;have:=Rw.ry b c m l (x++[t]);generalize Rw.eB b c m (x++[t]) l=q at this;(cases q with|nil=>simp[rv,Ty.size,Ty.sizes]|cons p q=>simp only[rv];split;simp[Ty.size,Ty.sizes];split;simp[Ty.size,Ty.sizes];rename_i h;exact Nat.not_lt.1 h);simp[Ty.size,Ty.sizes];split;have:=Rw.ry b c m l x;generalize Rw.eB b c m x l=q at this;(match q,this with| [],_=>simp[pO,Ty.size,Ty.sizes]| [p],_=>simp[pO,Ty.size,Ty.sizes]|p::p2::q,h=>have hp:=h p auC;simp only[pO];split;simp[Ty.size,Ty.sizes];split;simp[Ty.size,Ty.sizes];split;simp[Ty.size,Ty.sizes];rename_i u us hu;split;have:=p.1.size_eq;rw[hu,Ty.sizes]at this;simp only[Ty.size];omega;simp[Ty.size,Ty.sizes]);cases bu c m x k i with|none=>simp[np,Ty.size,Ty.sizes]|some u=>simp only[np];split;simp[Ty.size,Ty.sizes];rename_i h;exact Nat.not_lt.1 h
theorem Rw.ry(b:Int)(c m:List Ty):∀(l:List Rw)(x:List Ty),∀p∈Rw.eB b c m x l,p.1.size<=1000
 | [],x,p,hp=>by cases hp|r::l,x,p,hp=>by rw[Rw.eB]at hp;rcases auJ.1 hp with rfl|hp;exact Rw.jK b c m r x;exact Rw.ry b c m l x p hp
end
def PA(p:Ty×Int):AV:=.aG [.agg [.sl (p.1.args.map Ty.enc),nI p.1.base],nI p.2]
theorem Xh{l:List Rw}{k:Int}(hk:k=3)(h:arity k=l.length):∃a,l=[a]:=by (subst hk;have:l.length=1:=by have:arity 3=1:=rfl;omega);match l,this with| [a],_=>exact⟨a,rfl⟩
theorem Xi{l:List Rw}{k:Int}(hk:k=4)(h:arity k=l.length):∃a b,l=[a,b]:=by (subst hk;have:l.length=2:=by have:arity 4=2:=rfl;omega);match l,this with| [a,b],_=>exact⟨a,b,rfl⟩
theorem Ty.wy(t:Ty):Ty.sizes [t]=t.size:=by simp[Ty.sizes]
theorem zl(t:Ty):[AV.agg [.sl (t.args.map Ty.enc),nI t.base]]=[t].map Ty.enc:=by rw[<-Ty.aP];rfl
theorem JA{b:Int}{c m:List Ty}(hc:∀t∈c,t.size<=500000000)(hm:∀t∈m,t.size<=500000000):∀(n:Nat)(r:Rw)(x:List Ty),r.total<=n->r.shaped=true->r.Ok->Ty.sizes x+r.total<=400000000-> az aj 172 [.agg [nI b,.sl (c.map Ty.enc),.sl (m.map Ty.enc)],.sl (x.map Ty.enc),r.enc] (PA (r.infer b c m x)):=by intro n;induction n with|zero=>intro t x h;have:=t.lO;omega|succ n ih=>intro r x h Cq aN hx;have Mj:=r.rn;have hxl:=Ty.aZ x;rw[Rw.wu,auq,decide_eq_true_eq]at Cq;obtain⟨ha,Xj⟩:=Cq;obtain⟨_,hi,aN⟩:=Rw.ok_eq aN;have eG:=Rw.Xg b c m x r;rw[Rw.aP];refine Vf (aA.intro (λh3=>?_) λh3=>aA.intro (λh4=>?_) λh4=>?_);(have e3:r.kind=3:=by simpa using h3);rw[if_pos e3]at eG;refine⟨_,lz (by omega),aA.intro (λh=>?_) λh=>?_⟩;(have:¬r.type.bJ b=true:=by simpa using h);rw[if_neg this]at eG;rw[eG];rfl;(have hr:r.type.bJ b=true:=by simpa using h);(rw[if_pos hr]at eG;obtain⟨a,hl⟩:=Xh e3 ha;rw[hl]at eG Xj aN Mj;rw[Rw.dI,Rw.dI,Bool.and_true]at Xj;simp only[Rw.gC]at Mj;have hx2:Ty.sizes (x++[r.type])=Ty.sizes x+r.type.size:=by rw[Ty.cO,Ty.wy]);(have ee:=ih a (x++[r.type]) (by omega) Xj aN.1 (by omega);rw[Rw.aP,auY,<-zl]at ee;rw[Rw.eB,Rw.eB]at eG;generalize ha2:a.infer b c m (x++[r.type])=p at ee eG;have hps:p.1.size<=1000:=by rw[<-ha2];exact Rw.jK ..);(have both:AM (r.type.args.map Ty.enc) r.type.base (x.map Ty.enc) b (c.map Ty.enc) (m.map Ty.enc) a.kind (a.type.args.map Ty.enc) a.type.base a.index (a.kids.map Rw.enc) (λy=>y=PA (r.infer b c m x)):=by refine⟨λh=>(by cases h),ku Ty.lN (by rw[zl];exact Ty.lN) (by simp;omega) (by decide),rfl,_,_,_,ee,aA.intro (λh=>?_) λh=>?_⟩;(have he:p.2≠0:=by simpa using h);rw[eG,rv,if_pos he];rfl;(have he:¬p.2≠0:=by simpa using h);(simp only[rv,if_neg he]at eG;have mQ:=kx (t:=p.1) (l:=[r.type]) (by rw[Ty.wy];omega);rw[Ty.aP,<-zl,Ty.arrow,Ty.jI]at mQ;have cY:(p.1.arrow [r.type]).size<=500000000:=by have:=p.1.size_eq;simp only[Ty.arrow,Ty.size,Ty.cO,Ty.wy];omega);refine⟨_,_,mQ,_,rq cY,aA.intro (λh=>?_) λh=>?_⟩;(have hg:(p.1.arrow [r.type]).size>1000:=by have:=of_decide_eq_true h;omega);rw[eG,if_pos hg];rfl;(have hg:¬(p.1.arrow [r.type]).size>1000:=by have:=of_decide_eq_false h;omega);rw[eG,if_neg hg];rfl);refine⟨_,xO,by omega,by rw[hl];simp,_,_,_,_,_,by rw[hl];exact Rw.bx (l:=[a]) (k:=0) (by simp),both,both⟩;(have e3:¬r.kind=3:=by simpa using h3);(have e4:r.kind=4:=by simpa using h4);(rw[if_neg e3,if_pos e4]at eG;obtain⟨f,a,hl⟩:=Xi e4 ha;rw[hl]at eG Xj aN Mj;rw[Rw.dI,Rw.dI,Rw.dI,Bool.and_true,auq]at Xj;simp only[Rw.gC]at Mj;have hf:=ih f x (by omega) Xj.1 aN.1 (by omega);have hac:=ih a x (by omega) Xj.2 aN.2.1 (by omega);rw[Rw.aP]at hf hac;rw[Rw.eB,Rw.eB,Rw.eB]at eG;generalize MB:f.infer b c m x=p at hf eG;generalize ha2:a.infer b c m x=q at hac eG;have hps:p.1.size<=1000:=by rw[<-MB];exact Rw.jK ..);(have hqs:q.1.size<=1000:=by rw[<-ha2];exact Rw.jK ..);refine⟨by omega,by rw[hl];simp,_,_,_,_,_,by rw[hl];exact Rw.bx (l:=[f,a]) (k:=0) (by simp),_,_,_,hf,aA.intro (λh=>?_) λh=>?_⟩;(have he:p.2≠0:=by simpa using h);rw[eG,pO,if_pos he];rfl;(have he:¬p.2≠0:=by simpa using h);simp only[pO,if_neg he]at eG;refine⟨by omega,by rw[hl];simp,_,_,_,_,_,by rw[hl];exact Rw.bx (l:=[f,a]) (k:=1) (by simp),_,_,_,hac,aA.intro (λh=>?_) λh=>?_⟩;(have KX:q.2≠0:=by simpa using h);rw[eG,if_pos KX];rfl;(have KX:¬q.2≠0:=by simpa using h);rw[if_neg KX]at eG;rw[aum];have hpe:=p.1.size_eq;(cases Co:p.1.args with|nil=>rw[Co]at eG;refine aA.pos rfl ?_;rw[eG];rfl|cons u us=>rw[Co]at eG hpe;rw[Ty.sizes]at hpe;have Cp:=u.size_pos;have heq:=gB _ u q.1 (aur _) (by omega);rw[Ty.aP,Ty.aP]at heq;refine aA.neg (by simp;omega) ⟨by omega,by simp,_,_,Ty.bx (l:=u::us) (k:=0) (by simp),_,heq,aA.intro (λh=>?_) λh=>?_⟩;(have hs:¬Ty.same u q.1=true:=by simpa using h);rw[eG];simp only[if_neg hs];rfl;(have hs:Ty.same u q.1=true:=by simpa using h);have hre:=MA (t:=p.1) (by omega) (by rw[Co];simp);rw[Co]at hre;refine⟨_,_,_,hre,?_⟩;rw[eG];simp only[if_pos hs];rfl);(have e3:¬r.kind=3:=by simpa using h3);(have e4:¬r.kind=4:=by simpa using h4);(rw[if_neg e3,if_neg e4]at eG;have hbd:∀t,bu c m x r.kind r.index=some t->t.size<=500000000:=by intro t ht;rcases tm ht with h1|h1|h1;have:=Ty.dp h1;omega;exact hc t h1;exact hm t h1);have hh:=ru (b:=b) (c:=c) (m:=m) (x:=x) (k:=r.kind) (i:=r.index) hi (by omega) hbd;cases ht:bu c m x r.kind r.index with|none=>rw[ht]at hh eG;refine⟨_,_,_,hh,aA.neg rfl ?_⟩;rw[eG];rfl|some t=>rw[ht]at hh eG;refine⟨_,_,_,hh,aA.pos rfl ⟨_,rq (hbd t ht),aA.intro (λh=>?_) λh=>?_⟩⟩;(have hg:t.size>1000:=by have:=of_decide_eq_true h;omega);rw[eG,np,if_pos hg];rfl;(have hg:¬t.size>1000:=by have:=of_decide_eq_false h;omega);rw[eG,np,if_neg hg];rfl
theorem JB{b:Int}{c m x:List Ty}{r:Rw}(hc:∀t∈c,t.size<=500000000)(hm:∀t∈m,t.size<=500000000)(aN:r.Ok)(hx:Ty.sizes x+r.total<=400000000): az aj 140 [.agg [nI b,.sl (c.map Ty.enc),.sl (m.map Ty.enc)],.sl (x.map Ty.enc),r.enc] (PA (if r.bJ=true then r.infer b c m x else(kL,1))):=by have h1:=Jw (t:=r) (by omega);rw[Rw.aP]at h1;cases hr:r.bJ with|false=>rw[hr]at h1;rw[Rw.aP];exact IA ⟨_,h1,aA.pos rfl rfl⟩|true=>(have hs:r.shaped=true:=by rw[Rw.bJ,auq]at hr;exact hr.1);have h2:=JA (b:=b) hc hm _ r x (aur _) hs aN hx;rw[hr]at h1;rw[Rw.aP]at h2 ⊢;exact IA ⟨_,h1,aA.neg rfl ⟨_,_,_,h2,rfl⟩⟩
theorem FP{x l:List Ty}(h:x.length+l.length<=1000000000):az aj 92 [.sl (x.map Ty.enc),.sl (l.map Ty.enc)] (.sl ((x++l).map Ty.enc)):=by have hc:=gN (ll:=[x,l]) (by simp) (by simp;omega);simp only[ff,auR,au1,av0,av4,auF]at hc;exact aad ⟨_,hc,rfl⟩
theorem FQ{b:Int}{l:List Ty}(h:Ty.sizes l<=500000000):az aj 15 [nI b,.sl (l.map Ty.enc)] (.agg [.sl (l.map Ty.enc),nI b]):=by have hc:=lx _ (.mk l b) (aur _) (by simp only[Ty.size];omega);rw[Ty.jI]at hc;exact OB ⟨_,_,hc,rfl⟩
def Tm.typ(c m x:List Ty)(t:Tm):Ty×Int:=match bu c m (x++t.binds) t.kind t.index with
 |some h=>(.mk t.binds h.base,0)
 |none=>(kL,10)
mutual
def Tm.Sq(c m x:List Ty):Tm->Ty->Bool
 | .mk b k i l,of=>Ty.cB b of.args&&(match bu c m (x++b) k i with|some h=>(h.base==of.base)&&((h.args.length==l.length)&&Tm.Bh c m (x++b) l h.args)|none=>false)
def Tm.Bh(c m x:List Ty):List Tm->List Ty->Bool
 |t::l,u::us=>Tm.Sq c m x t u&&Tm.Bh c m x l us|_,_=>true
end
theorem Tm.afn(c m x:List Ty)(t:Tm)(of:Ty):t.Sq c m x of=(Ty.cB t.binds of.args&&(match bu c m (x++t.binds) t.kind t.index with
  |some h=>(h.base==of.base)&&((h.args.length==t.args.length)&&Tm.Bh c m (x++t.binds) t.args h.args)
  |none=>false)):=by cases t;rw[Tm.Sq];rfl
theorem Tm.Rj{c m x:List Ty}{l:List Tm}{us:List Ty}{k:Nat}(h1:k<l.length)(h2:k<us.length):Tm.Bh c m x (l.drop k) (us.drop k)=(Tm.Sq c m x l[k] us[k]&&Tm.Bh c m x (l.drop (k+1)) (us.drop (k+1))):=by rw[auw h1,auw h2,Tm.Bh]
theorem Xk{b:Int}{c m:List Ty}(hc:∀t∈c,t.size<=200000000)(hm:∀t∈m,t.size<=200000000):∀(n:Nat)(t:Tm)(of:Ty)(x:List Ty),t.size<=n->t.Ok->(∀u∈x,u.size<=200000000)->x.length+t.size<=200000000->of.size<=200000000-> az aj 48 [.agg [nI b,.sl (c.map Ty.enc),.sl (m.map Ty.enc)],.sl (x.map Ty.enc),.agg [.sl (t.binds.map Ty.enc),nI t.kind,nI t.index,.sl (t.args.map Tm.enc)],.agg [.sl (of.args.map Ty.enc),nI of.base]] (nB (t.Sq c m x of)):=by intro n;induction n with|zero=>intro t of x h;have:=t.size_pos;omega|succ n ih=>(intro t of x h aN hx hn hof;have Mj:=t.size_eq;have hq:=Ty.aZ t.binds;have hq2:=Tm.aZ t.args;have hi:jo t.index:=by cases t;exact aN.2.1);(have hks:Tm.Pv t.args:=by cases t;exact aN.2.2);(have heq:=jd (l:=t.binds) (m:=of.args) (by omega) (λk h1 h2=>gB _ _ _ (aur _) (by have:=Ty.dp (auz h1);omega));have hx2:∀u∈x++t.binds,u.size<=200000000:=λu hu=>by rcases auU.1 hu with hu|hu;exact hx u hu;have:=Ty.dp hu;omega);(have hh:=rr (b:=b) (c:=c) (m:=m) (x:=x++t.binds) (k:=t.kind) hi (by rw[aut];omega);have cY:∀u,bu c m (x++t.binds) t.kind t.index=some u->u.size<=200000000:=λu hu=>by rcases tm hu with hu|hu|hu;exact hx2 u hu;exact hc u hu;exact hm u hu);have Xl:=Tm.afn c m x t of;refine aaf ⟨_,heq,aA.intro (λh=>?_) λh=>?_⟩;(have h0:Ty.cB t.binds of.args=false:=by simpa using h);rw[Xl,h0,avk];(have h0:Ty.cB t.binds of.args=true:=by simpa using h);rw[h0,au5]at Xl;refine⟨_,FP (by omega),?_⟩;cases ht:bu c m (x++t.binds) t.kind t.index with|none=>rw[ht]at hh Xl;exact⟨_,_,_,hh,aA.pos rfl (by rw[Xl])⟩|some u=>rw[ht]at hh Xl;dsimp only at Xl;have hu:=cY u ht;have Cp:=u.size_eq;have hul:=Ty.aZ u.args;refine⟨_,_,_,hh,aA.neg rfl (aA.intro (λh=>?_) λh=>?_)⟩;(have:(u.base==of.base)=false:=by simpa using h);rw[Xl,this,avk];(have h1:(u.base==of.base)=true:=by simpa using h);rw[h1,au5]at Xl;rw[aum,aum];refine aA.intro (λh=>?_) λh=>?_;(have:¬u.args.length=t.args.length:=by simp at h;omega);rw[Xl,show (u.args.length==t.args.length)=false from by simpa using this,avk];(have h2:u.args.length=t.args.length:=by simp at h;omega);rw[show (u.args.length==t.args.length)=true from by simpa using h2,au5]at Xl;refine aI.intro (λk:Nat=>(((),(x++t.binds).map Ty.enc,(),t.args.map Tm.enc,(t.args.length:Int),(k:Int),()),((b,c.map Ty.enc,m.map Ty.enc,()),(t.binds.map Ty.enc,t.kind,t.index,t.args.map Tm.enc,()),(of.args.map Ty.enc,of.base,()),(u.args.map Ty.enc,u.base,()),()))) (λk=>k<=t.args.length/\t.Sq c m x of=Tm.Bh c m (x++t.binds) (t.args.drop k) (u.args.drop k)) (λk=>t.args.length-k) 0 rfl ⟨auv _,Xl⟩ ?_;intro k ⟨hk,hs⟩ again bQ;dsimp only;refine aA.intro (λh=>?_) λh=>?_;(have aF:k<t.args.length:=by simpa using h);(have hlu:k<u.args.length:=by omega);rw[Tm.Rj aF hlu]at hs;have xa:=Tm.dp (auz aF);have hi:=ih t.args[k] u.args[k] (x++t.binds) (by omega) (Tm.FI hks (auz aF)) hx2 (by rw[aut];omega) (by have:=Ty.eR hlu;omega);refine⟨by omega,by rw[aum];omega,_,_,_,_,Tm.bx aF,by omega,by rw[aum];omega,_,_,Ty.bx hlu,_,hi,aA.intro (λh=>?_) λh=>?_⟩;(have:Tm.Sq c m (x++t.binds) t.args[k] u.args[k]=false:=by simpa using h);rw[hs,this,avk];(have:Tm.Sq c m (x++t.binds) t.args[k] u.args[k]=true:=by simpa using h);rw[this,au5]at hs;rw[bc (by omega)];exact bQ (k+1) ⟨by omega,hs⟩ (by omega);(have:t.args.length<=k:=by simpa using h);rw[auH this,Tm.Bh]at hs;rw[hs];intro _ _ _ _ h;cases h
mutual
def Tm.pre(a d:Nat):Tm->List ((Nat×Nat)×Tm)
 | .mk b k i l=>((a+b.length,d),.mk b k i l)::Tm.gE (a+b.length) (d+1) l
def Tm.gE(a d:Nat):List Tm->List ((Nat×Nat)×Tm)
 | []=>[]|t::l=>Tm.pre a d t++Tm.gE a d l
end
theorem Tm.FN(a d:Nat)(t:Tm):t.pre a d=((a+t.binds.length,d),t)::Tm.gE (a+t.binds.length) (d+1) t.args:=by cases t;rfl
theorem Tm.wx{a d:Nat}{l:List Tm}{k:Nat}(h:k<l.length):Tm.gE a d (l.drop k)=l[k].pre a d++Tm.gE a d (l.drop (k+1)):=by rw[auw h,Tm.gE]
def Xm(p:(Nat×Nat)×Tm):List AV:=[.agg [nI p.1.1,nI p.1.2],.agg [.sl (p.2.binds.map Ty.enc),nI p.2.kind,nI p.2.index,.sl (p.2.args.map Tm.enc)]]
def Bi(p:(Nat×Nat)×Tm):(Int×Int×Unit)×(List AV×Int×Int×List AV×Unit)×Unit:=((p.1.1,p.1.2,()),(p.2.binds.map Ty.enc,p.2.kind,p.2.index,p.2.args.map Tm.enc,()),())
theorem JC:∀(n:Nat)(t:Tm)(a d:Nat),t.size<=n->a+t.size<=1000000000->d+t.size<=1000000000->vL aj 143 (λv=>[.agg [.sl (t.binds.map Ty.enc),nI t.kind,nI t.index,.sl (t.args.map Tm.enc)],.agg [nI a,nI d],v]) ((t.pre a d).map Xm) true:=by intro n;induction n with|zero=>intro t a d h;have:=t.size_pos;omega|succ n ih=>(intro t a d h ha hd;have hq:=Tm.aZ t.args;have hq2:=Ty.aZ t.binds;have Mj:=t.size_eq;have hw:ag .i64 ((a:Int)+((ab (t.binds.map Ty.enc):Nat):Int))=((a+t.binds.length:Nat):Int):=by rw[aum,ba (by omega) (by omega)];omega);refine U7 λyv more=>?_;unfold adz;rw[hw,bc (by omega)];refine⟨rfl,(Tm.gE (a+t.binds.length) (d+1) t.args).map Xm++more,by rw[Tm.FN];rfl,λb=>aA.intro (λh=>?_) λh=>?_⟩;(have:b=false:=by simpa using h);subst this;rfl;(have:b=true:=by simpa using h);subst this;refine aI.intro (λk:Nat=>(((yv,(),t.args.map Tm.enc,(t.args.length:Int),(k:Int),()),((t.binds.map Ty.enc,t.kind,t.index,t.args.map Tm.enc,()),(((a+t.binds.length:Nat):Int),((d+1:Nat):Int),()),())),some ((Tm.gE (a+t.binds.length) (d+1) (t.args.drop k)).map Xm++more))) (λk=>k<=t.args.length) (λk=>t.args.length-k) 0 (by rw[aum];rfl) (auv _) ?_;intro k hk again bQ;dsimp only;rw[aum];refine aA.intro (λh=>?_) λh=>?_;(have aF:k<t.args.length:=by simpa using h);have xa:=Tm.dp (auz aF);have hi:=ih t.args[k] (a+t.binds.length) (d+1) (by omega) (by omega) (by omega);refine⟨by omega,by omega,_,_,_,_,Tm.bx aF,_,_,(Tm.gE (a+t.binds.length) (d+1) (t.args.drop (k+1))).map Xm++more,rfl,hi,?_,λb=>aA.intro (λh=>?_) λh=>?_⟩;rw[Tm.wx aF,auY,auM];(have:b=false:=by simpa using h);subst this;rfl;(have:b=true:=by simpa using h);subst this;rw[bc (by omega)];exact bQ (k+1) (by omega) (by omega);(have:t.args.length<=k:=by simpa using h);rw[auH this];rfl
theorem FR{t:Tm}(h:t.size<=500000000):vL aj 142 (λv=>[v,.aU (.agg [.sl (t.binds.map Ty.enc),nI t.kind,nI t.index,.sl (t.args.map Tm.enc)]) 0]) ((t.pre 0 1).map Xm) false:=U5 λyv more=>⟨_,_,more,rfl,JC _ t 0 1 (aur _) (by omega) (by omega),rfl,λb=>⟨b,rfl⟩⟩
theorem xP(t:Tm):az aj 91 [.agg [.sl (t.binds.map Ty.enc),nI t.kind,nI t.index,.sl (t.args.map Tm.enc)]] (.bz 142 [.aU (.agg [.sl (t.binds.map Ty.enc),nI t.kind,nI t.index,.sl (t.args.map Tm.enc)]) 0]):=Z8 rfl
theorem DQ{t:Tm}(h:t.size<=500000000):kR aj 142 [.aU (.agg [.sl (t.binds.map Ty.enc),nI t.kind,nI t.index,.sl (t.args.map Tm.enc)]) 0] [.v (.a [.i .i64,.i .i64]),.v (.a [.l,.i .i64,.i .i64,.l])] ((t.pre 0 1).map Bi):=rb (prm:=[.v (.a [.i .i64,.i .i64]),.v (.a [.l,.i .i64,.i .i64,.l])]) Bi (FR h)
def il:Nat->List ((Nat×Nat)×Tm)->Bool
 |_,[]=>true|n,p::l=>if n+1>5000 then false else if p.1.2>60 then false else il (n+1) l
theorem pP{t:Tm}(h:t.size<=500000000):az aj 47 [.agg [.sl (t.binds.map Ty.enc),nI t.kind,nI t.index,.sl (t.args.map Tm.enc)]] (nB (il 0 (t.pre 0 1))):=by refine aaa ⟨xP t,?_⟩;refine fK.rf (λn:Nat=>((t.binds.map Ty.enc,t.kind,t.index,t.args.map Tm.enc,()),(false,()),((n:Int),()),())) Bi (t.pre 0 1) (DQ h) (λr n=>n<=5000/\il 0 (t.pre 0 1)=il n r) 0 rfl ⟨by omega,rfl⟩ (λp r n ⟨hI,hk⟩ again bQ=>?_) λn ⟨hI,hk⟩=>?_;rw[il]at hk;dsimp only[Bi];rw[bc (by omega)];refine aA.intro (λh1=>?_) λh1=>aA.intro (λh2=>?_) λh2=>?_;(have:n+1>5000:=by have:=of_decide_eq_true h1;omega);rw[hk,if_pos this];(have g:¬n+1>5000:=by have:=of_decide_eq_false h1;omega);(have:p.1.2>60:=by have:=of_decide_eq_true h2;omega);rw[hk,if_neg g,if_pos this];(have g:¬n+1>5000:=by have:=of_decide_eq_false h1;omega);(have g2:¬p.1.2>60:=by have:=of_decide_eq_false h2;omega);rw[if_neg g,if_neg g2]at hk;exact bQ (n+1) ⟨by omega,hk⟩;rw[hk];rfl
theorem JD{b:Int}{c m x:List Ty}{t:Tm}{of:Ty}(hc:∀t∈c,t.size<=200000000)(hm:∀t∈m,t.size<=200000000)(aN:t.Ok)(hx:∀u∈x,u.size<=200000000)(hn:x.length+t.size<=200000000)(hof:of.size<=200000000): az aj 13 [.agg [nI b,.sl (c.map Ty.enc),.sl (m.map Ty.enc)],.sl (x.map Ty.enc),.agg [.sl (t.binds.map Ty.enc),nI t.kind,nI t.index,.sl (t.args.map Tm.enc)],.agg [.sl (of.args.map Ty.enc),nI of.base]] (nI (if il 0 (t.pre 0 1)=true then(if t.Sq c m x of=true then 0 else 5)else 2)):=by have h1:=pP (t:=t) (by omega);have h2:=Xk (b:=b) hc hm _ t of x (aur _) aN hx hn hof;refine aab ⟨_,h1,aA.intro (λh=>?_) λh=>⟨_,h2,aA.intro (λh3=>?_) λh3=>?_⟩⟩;rw[if_neg (by simpa using h)];rw[if_pos (by simpa using h),if_neg (by simpa using h3)];rw[if_pos (by simpa using h),if_pos (by simpa using h3)]
theorem Rk{b:Int}{c m:List Ty}{t:Ty}(h:t.size<=500000000):az aj 224 [.agg [.sl (t.args.map Ty.enc),nI t.base],.aU (.agg [nI b,.sl (c.map Ty.enc),.sl (m.map Ty.enc)]) 0] (nB (!(t.bJ b))):=Vk ⟨_,lz h,rfl⟩
def fQ(b:Int):Nat->List Ty->Int
 |_,[] => -1|k,t::l=>if t.bJ b=true then fQ b (k+1) l else k
theorem Bj{b:Int}{c m l:List Ty}(h:Ty.sizes l<=500000000):az aj 225 [.sl (l.map Ty.enc),.bz 224 [.aU (.agg [nI b,.sl (c.map Ty.enc),.sl (m.map Ty.enc)]) 0]] (nI (fQ b 0 l)):=by have hl:=Ty.aZ l;refine Vo ⟨rfl,?_⟩;refine aI.intro (λk:Nat=>((l.map Ty.enc,((),()),(l.length:Int),(k:Int),()),())) (λk=>k<=l.length/\fQ b 0 l=fQ b k (l.drop k)) (λk=>l.length-k) 0 (by rw[aum];rfl) ⟨auv _,rfl⟩ ?_;intro k ⟨hk,hs⟩ again bQ;dsimp only;rw[aum];refine aA.intro (λh=>?_) λh=>?_;(have aF:k<l.length:=by simpa using h);rw[auw aF,fQ]at hs;refine⟨by omega,by omega,_,_,Ty.bx aF,_,Rk (by have:=Ty.dp (auz aF);omega),aA.intro (λh=>?_) λh=>⟨rfl,?_⟩⟩;rw[hs,if_neg (by simpa using h)];rw[if_pos (by simpa using h)]at hs;rw[bc (by omega)];exact bQ (k+1) ⟨by omega,hs⟩ (by omega);(have:l.length<=k:=by simpa using h);rw[auH this]at hs;rw[hs];rfl
theorem wz{b:Int}{c m:List Ty}(hc:c.length<=500)(hm:m.length<=500)(h:Ty.sizes (c++m)<=500000000):az aj 214 [.agg [nI b,.sl (c.map Ty.enc),.sl (m.map Ty.enc)]] (nB (!(decide (fQ b 0 (c++m)>=0)))):=by have CB:=gN (ll:=[c,m]) (by simp) (by simp;omega);simp only[ff,auR,au1,av0,av4,auF]at CB;have hi:=Bj (b:=b) (c:=c) (m:=m) (l:=c++m) h;refine Ve ?_;unfold adA;rw[aum,aum,ba (by omega) (by omega)];refine aA.neg (decide_eq_false (by omega)) (aA.neg (decide_eq_false (by omega)) ⟨_,CB,_,Vj ⟨_,hi,rfl⟩,rfl⟩)
theorem Rw.Rl{t:Rw}{k:Nat}(h:k<t.kids.length):t.kids[k].depth<t.depth:=by have h1:=t.Xe;have:=(Rw.tk (n:=0) (m:=t.depth-1) (l:=t.kids)).1 (by omega);have:=this.2 _ (auz h);omega
abbrev jL(k i:Int):Rw:=.mk k kL i []
theorem tn(k i:Int):az aj 187 [nI k,nI i] (.agg [nI k,.sl [],nI 0,nI i,.sl []]):=Vc rfl
def Sr(l:List Ty):Nat->List (Nat×Ty)
 |0=>[]|k+1=>(k,l.getD k kL)::Sr l k
theorem FT{l:List Ty}{k:Nat}(h:k<l.length):l.getD k kL=l[k]:=by simp[ae,h]
theorem rz(l:List Ty):az aj 96 [.sl (l.map Ty.enc)] (.bz 145 [.aU (.sl (l.map Ty.enc)) 0]):=Z7 rfl
theorem yK{l:List Ty}(h:l.length<=1000000000):vL aj 145 (λv=>[v,.aU (.sl (l.map Ty.enc)) 0]) ((Sr l l.length).map Jx) false:=by refine U9 λyv more=>⟨rfl,?_⟩;refine aI.intro (λk:Nat=>(((yv,(),(k:Int)-1,()),()),some ((Sr l k).map Jx++more))) (λk=>k<=l.length) (λk=>k) l.length (by rw[aum,ba (by omega) (by omega)]) (aur _) ?_;intro k hk again bQ;dsimp only;rw[aum];refine aA.intro (λh=>?_) λh=>?_;(have h':(k:Int)-1>=0:=of_decide_eq_true h;obtain⟨j,rfl⟩:∃j,k=j+1:=⟨k-1,by omega⟩;have aF:j<l.length:=by omega);(have e:((j+1:Nat):Int)-1=(j:Int):=by omega);rw[e];refine⟨by omega,by omega,_,_,Ty.bx aF,rfl,(Sr l j).map Jx++more,by rw[Sr,FT aF];rfl,λb=>aA.intro (λh=>?_) λh=>?_⟩;(have:b=false:=by simpa using h);subst this;exact⟨false,rfl⟩;(have:b=true:=by simpa using h);subst this;refine⟨rfl,?_⟩;rw[ba (n:=(j:Int)-1) (by omega) (by omega)];exact bQ j (by omega) (by omega);(have h':¬(k:Int)-1>=0:=of_decide_eq_false h;have:k=0:=by omega);subst this;exact⟨true,rfl⟩
theorem u6{l:List Ty}(h:l.length<=1000000000):kR aj 145 [.aU (.sl (l.map Ty.enc)) 0] [.v (.c (.i .i64)),.v (.a [.l,.i .i64])] ((Sr l l.length).map Bf):=rb (prm:=[.v (.c (.i .i64)),.v (.a [.l,.i .i64])]) Bf (yK h)
theorem pQ(b:Int):az aj 15 [nI b,.sl []] (.agg [.sl [],nI b]):=by have hc:=lx _ (.mk [] b) (aur _) (by simp[Ty.size,Ty.sizes]);rw[Ty.jI]at hc;exact OB ⟨_,_,hc,rfl⟩
mutual
def sy:Int->Int->Ty->Tm
 |k,i,.mk l _=>.mk l k (if k=0 then ag .i64 (i+(l.length:Nat))else i) (jB l.length 0 l)
def jB(n:Nat):Nat->List Ty->List Tm
 |_,[]=>[]|j,t::r=>sy 0 ((n:Int)-1-j) t::jB n (j+1) r
end
theorem FU(k i:Int)(t:Ty):sy k i t=.mk t.args k (if k=0 then ag .i64 (i+(t.args.length:Nat))else i) (jB t.args.length 0 t.args):=by cases t;rw[sy];rfl
theorem r5(n:Nat):∀(l:List Ty)(j:Nat),(jB n j l).length=l.length
 | [],_=>rfl|t::l,j=>by rw[jB,auy,auy,r5 n l]
theorem DR(n:Nat):∀(l:List Ty)(j k:Nat)(h:k<l.length),(jB n j l)[k]?=some (sy 0 ((n:Int)-1-(j+k:Nat)) l[k])
 |t::l,j,0,_=>by rw[jB];rfl|t::l,j,k+1,h=>by rw[jB,ava,DR n l (j+1) k (by simpa using h),List.getElem_cons_succ,show j+1+k=j+(k+1) by omega]
theorem MC{n:Nat}{l:List Ty}{k:Nat}(h:k<l.length):(jB n 0 l).take (k+1)=(jB n 0 l).take k++[sy 0 ((n:Int)-1-(k:Nat)) l[k]]:=by (have hk:k<(jB n 0 l).length:=by rw[r5];exact h);have hg:=DR n l 0 k h;rw[aus hk,auZ]at hg;rw[<-bP hk,auo hg]
theorem MD:∀(d:Nat)(t:Ty)(k i:Int),t.size<=d->d<=1000->(k=0->0<=i/\i<=1000)->az aj 221 [.agg [nI k,nI i],t.enc] (sy k i t).enc:=by intro d;induction d with|zero=>intro t k i h;have:=t.size_pos;omega|succ d ih=>(intro t k i h hd h0;have hq:=Ty.aZ t.args;have Mj:=t.size_eq;have mQ:=kx (t:=t) (l:=[]) (by simp[Ty.sizes];omega);rw[Ty.arrow,avF,Ty.jI,Ty.aP,au1]at mQ;have loop:∀ix:Int,ix=(if k=0 then ag .i64 (i+(t.args.length:Nat))else i)->q9 (((),((ab (t.args.map Ty.enc):Nat):Int),(),t.args.map Ty.enc,((ab (t.args.map Ty.enc):Nat):Int),0,()),((k,i,()),(t.args.map Ty.enc,t.base,()),((),0,0,(),()),(t.args.map Ty.enc,k,ix,(),()),[],())) (λx=>x=(sy k i t).enc):=by intro ix Rm;refine aI.intro (λj:Nat=>(((),(t.args.length:Int),(),t.args.map Ty.enc,(t.args.length:Int),(j:Int),()),((k,i,()),(t.args.map Ty.enc,t.base,()),((),0,0,(),()),(t.args.map Ty.enc,k,ix,(),()),((jB t.args.length 0 t.args).take j).map Tm.enc,()))) (λj=>j<=t.args.length) (λj=>t.args.length-j) 0 (by rw[aum];rfl) (auv _) ?_;intro j hj again bQ;dsimp only;rw[aum];refine aA.intro (λh=>?_) λh=>?_;(have aF:j<t.args.length:=by simpa using h);(have hi:=ih t.args[j] 0 ((t.args.length:Int)-1-(j:Nat)) (by have:=Ty.eR aF;omega) (by omega) (λ_=>⟨by omega,by omega⟩);rw[Ty.aP,Tm.aP]at hi;have hw:ag .i64 (ag .i64 ((t.args.length:Int)-1)-(j:Int))=(t.args.length:Int)-1-(j:Nat):=by rw[ba (n:=(t.args.length:Int)-1) (by omega) (by omega),ba (by omega) (by omega)]);rw[hw];refine⟨by omega,by omega,_,_,Ty.bx aF,_,_,_,_,hi,rfl,bH rfl (by simp;omega) (by decide),rfl,?_⟩;rw[bc (by omega),Tm.oF,<-MC aF];exact bQ (j+1) (by omega) (by omega);(have hle:t.args.length<=j:=by simpa using h);refine⟨rfl,?_⟩;rw[auE (by rw[r5];exact hle),FU,Tm.jI,Rm]);rw[Ty.aP];refine UI (aA.intro (λh=>?_) λh=>?_);(have hk:k=0:=by simpa using h);have:=h0 hk;refine aA.neg (decide_eq_false (by omega)) (aA.neg (decide_eq_false (by omega)) ⟨_,_,mQ,aA.pos h ⟨rfl,loop _ ?_⟩⟩);rw[if_pos hk,aum];(have hk:¬k=0:=by simpa using h);exact⟨_,_,mQ,aA.neg h ⟨rfl,loop _ (by rw[if_neg hk])⟩⟩
abbrev dZ(n:Nd):AV:=.agg [nI n.kind,nS n.word,nI n.at_,.sl (n.kids.map Nd.enc)]
abbrev xQ:Nd:=.mk 0 ⟨#[]⟩ 0 []
abbrev nN(l:List aw):AV:=.sl (l.map nS)
abbrev FV(b c m:List aw):AV:=.agg [nN b,nN c,nN m]
def Xn(l:List aw)(i:Int):Option Nd:=if i<0 then none else(l[i.toNat]?).map λw=>.mk 1 w 0 []
def adK(o:Option Nd):AV:=.aG [dZ (o.getD xQ),nB o.isSome]
theorem Bk{l:List aw}{i:Int}:az aj 95 [.sl (l.map nS),nI i] (adK (Xn l i)):=by refine Z0 (aA.intro (λh=>?_) λh=>aA.intro (λh2=>?_) λh2=>?_);(have:i<0:=by simpa using h);rw[Xn,if_pos this];rfl;(have:¬i<0:=by simpa using h);(have h3:l.length<=i.toNat:=by(have:((l.length:Nat):Int)<=i:=by simpa using h2);omega);rw[Xn,if_neg this,auQ h3];rfl;(have h0:¬i<0:=by simpa using h);(have h3:i.toNat<l.length:=by(have:i<((l.length:Nat):Int):=by simpa using h2);omega);refine⟨by omega,by rw[aum];omega,_,by rw[avv,auA,aus h3];rfl,?_⟩;rw[Xn,if_neg h0,aus h3];rfl
mutual
def wA(b:List aw):Ty->Option Nd
 | .mk l k=>match Xn b k with|none=>none|some n=>kS b n l
def kS(b:List aw)(n:Nd):List Ty->Option Nd
 | []=>some n|a::l=>match kS b n l with|none=>none|some m=>(match wA b a with|none=>none|some x=>some (.mk 2 ⟨#[]⟩ 0 [x,m]))
end
theorem ab6(b:List aw)(t:Ty):wA b t=match Xn b t.base with|none=>none|some n=>kS b n t.args:=by cases t;rw[wA];rfl
theorem Bl{b:List aw}{n:Nd}:∀{l:List Ty}{k:Nat}(h:k<l.length),wA b l[k]=none->kS b n l=none
 | [],k,h,_=>by simp at h|a::l,0,h,e=>by rw[kS];cases kS b n l with|none=>rfl|some m=>simp only[List.getElem_cons_zero]at e;rw[e]
 |a::l,k+1,h,e=>by rw[kS,Bl (l:=l) (k:=k) (by simpa using h) (by simpa using e)]
theorem MF{b:List aw}{n s x:Nd}{l:List Ty}{k:Nat}(h:k<l.length)(h1:kS b n (l.drop (k+1))=some s)(h2:wA b l[k]=some x):kS b n (l.drop k)=some (.mk 2 ⟨#[]⟩ 0 [x,s]):=by rw[auw h,kS,h1,h2]
def Bm(o:Option Nd):AV:=.aG [dZ (o.getD xQ),nI (if o.isSome then 0 else 10)]
theorem MG(x y:Nd):[dZ x,dZ y]=[x,y].map Nd.enc:=by simp[dZ,<-Nd.aP]
theorem u7{b c m:List aw}:∀(n:Nat)(t:Ty),t.size<=n->n<=500000000->az aj 51 [FV b c m,.agg [.sl (t.args.map Ty.enc),nI t.base]] (Bm (wA b t)):=by intro n;induction n with|zero=>intro t h;have:=t.size_pos;omega|succ n ih=>intro t hn hm;refine Z1 ⟨_,_,_,_,_,Bk,?_⟩;rw[ab6];cases ha:Xn b t.base with|none=>exact aA.pos rfl rfl|some n0=>have hl:=Ty.aZ t.args;have hs:=t.size_eq;refine aA.neg rfl ⟨rz t.args,?_⟩;refine fK.rf (λs:Nd=>((b.map nS,c.map nS,m.map nS,()),(t.args.map Ty.enc,t.base,()),(0,⟨#[]⟩,0,(),()),(0,()),(s.kind,s.word,s.at_,s.kids.map Nd.enc,()),())) Bf (Sr t.args t.args.length) (u6 (by omega)) (λrest s=>∃k,k<=t.args.length/\rest=Sr t.args k/\kS b n0 (t.args.drop k)=some s) n0 rfl ⟨t.args.length,aur _,rfl,by rw[List.drop_length,kS]⟩ (λg rest s ⟨k,hk,he,hs⟩ again bQ=>?_) λs ⟨k,hk,he,hs⟩=>?_;(cases k with|zero=>cases he|succ k=>(simp only[Sr,List.cons.injEq]at he;obtain⟨rfl,rfl⟩:=he;have aF:k<t.args.length:=by omega);rw[FT aF];dsimp only[Bf];have hz:=Ty.eR aF;refine⟨_,_,_,_,_,ih t.args[k] (by omega) (by omega),?_⟩;cases hx:wA b t.args[k]with|none=>exact aA.pos rfl (by rw[Bl aF hx];rfl)|some x=>refine aA.neg rfl ?_;have:=bQ (.mk 2 ⟨#[]⟩ 0 [x,s]) ⟨k,by omega,rfl,MF aF hs hx⟩;rw[show (Nd.mk 2 ⟨#[]⟩ 0 [x,s]).kids.map Nd.enc=[dZ x,dZ s]from(MG x s).symm]at this;exact this);cases k with|zero=>rw[avI]at hs;show _=Bm (kS b n0 t.args);rw[hs];rfl|succ k=>cases he
def sP(B:Int->aw)(c m:List aw)(around:Nat)(k i:Int):Option Nd:=if k=0 then some (.mk 1 (B ((around:Int)-1-i)) 0 [])else if k=1 then Xn c i else if k=2 then Xn m i else none
def qw(B:Int->aw)(b:List aw)(n:Nd):Nat->List Ty->Option Nd
 |_,[]=>some n|a,t::l=>match qw B b n (a+1) l with|none=>none|some m=>(match wA b t with|none=>none|some x=>some (.mk 3 (B a) 0 [x,m]))
mutual
def rA(B:Int->aw)(b c m:List aw):Nat->Tm->Option Nd
 |a,.mk bs k i l=>match sP B c m (a+bs.length) k i with|none=>none|some n=>(match wB B b c m (a+bs.length) l n with|none=>none|some s=>qw B b s a bs)
def wB(B:Int->aw)(b c m:List aw):Nat->List Tm->Nd->Option Nd
 |_,[],n=>some n|a,t::l,n=>match rA B b c m a t with|none=>none|some x=>wB B b c m a l (.mk 4 ⟨#[]⟩ 0 [n,x])
end
theorem Xo(B:Int->aw)(b c m:List aw)(a:Nat)(t:Tm):rA B b c m a t=match sP B c m (a+t.binds.length) t.kind t.index with
  |none=>none
  |some n=>(match wB B b c m (a+t.binds.length) t.args n with|none=>none|some s=>qw B b s a t.binds):=by cases t;rw[rA];rfl
theorem DS{B:Int->aw}{b c m:List aw}{a:Nat}{l:List Tm}{k:Nat}{s:Nd}(h:k<l.length):wB B b c m a (l.drop k) s=match rA B b c m a l[k]with|none=>none|some x=>wB B b c m a (l.drop (k+1)) (.mk 4 ⟨#[]⟩ 0 [s,x]):=by rw[auw h,wB]
theorem DT{B:Int->aw}{b:List aw}{n:Nd}:∀{l:List Ty}{k a:Nat}(h:k<l.length),wA b l[k]=none->qw B b n a l=none
 | [],k,a,h,_=>by simp at h|t::l,0,a,h,e=>by rw[qw];cases qw B b n (a+1) l with|none=>rfl|some m=>simp only[List.getElem_cons_zero]at e;rw[e]
 |t::l,k+1,a,h,e=>by rw[qw,DT (l:=l) (k:=k) (by simpa using h) (by simpa using e)]
theorem Rn{B:Int->aw}{b:List aw}{n s x:Nd}{a:Nat}{l:List Ty}{k:Nat}(h:k<l.length)(h1:qw B b n (a+(k+1)) (l.drop (k+1))=some s)(h2:wA b l[k]=some x): qw B b n (a+k) (l.drop k)=some (.mk 3 (B (a+k:Nat)) 0 [x,s]):=by rw[auw h,qw,show a+k+1=a+(k+1)from rfl,h1,h2]
mutual
def Tm.named:Tm->Bool
 | .mk _ k i l=>!((k==0)&&decide (i<0))&&Tm.jM l
def Tm.jM:List Tm->Bool
 | []=>true|t::l=>t.named&&Tm.jM l
end
theorem Tm.u9(t:Tm):t.named=(!((t.kind==0)&&decide (t.index<0))&&Tm.jM t.args):=by cases t;rw[Tm.named];rfl
theorem Tm.MH(l:List Tm):Tm.jM l=l.all Tm.named:=by induction l with|nil=>rfl|cons t l ih=>rw[Tm.jM,ih];rfl
abbrev Xp(b c m:List aw)(es:List (aw×Value)):AV:=.agg [nN b,nN c,nN m,.eo (.s es)]
theorem MK{b c m:List aw}{es:List (aw×Value)}{B:Int->aw}{k i:Int}{around:Nat}(ha:around<=1000000000)(hi:jo i)(h0:k=0->0<=i)(hB:∀k,jo k->az aj 150 [Xp b c m es,nI k] (nS (B k))): az aj 149 [Xp b c m es,.agg [nI k,nI i],nI (around:Nat)] (adK (sP B c m around k i)):=by have jw:=hi.1;have qC:=hi.2;refine UR (aA.intro (λh=>?_) λh=>aA.intro (λh1=>?_) λh1=>aA.intro (λh2=>?_) λh2=>?_);(have hk:k=0:=by simpa using h);have:=h0 hk;refine⟨_,hB _ ?_,?_⟩;rw[ba (n:=(around:Int)-1) (by omega) (by omega),ba (by omega) (by omega)];exact⟨by omega,by omega⟩;rw[ba (n:=(around:Int)-1) (by omega) (by omega),ba (by omega) (by omega),sP,if_pos hk];rfl;(have hk:¬k=0:=by simpa using h);(have eA:k=1:=by simpa using h1);refine⟨_,_,_,_,_,Bk,?_⟩;rw[sP,if_neg hk,if_pos eA];rfl;(have hk:¬k=0:=by simpa using h);(have eA:¬k=1:=by simpa using h1);(have Du:k=2:=by simpa using h2);refine⟨_,_,_,_,_,Bk,?_⟩;rw[sP,if_neg hk,if_neg eA,if_pos Du];rfl;(have hk:¬k=0:=by simpa using h);(have eA:¬k=1:=by simpa using h1);(have Du:¬k=2:=by simpa using h2);rw[sP,if_neg hk,if_neg eA,if_neg Du];rfl
theorem FW{b c m:List aw}{t:Tm}(ih:az aj 99 [FV b c m,.agg [.sl (t.binds.map Ty.enc),nI t.kind,nI t.index,.sl (t.args.map Tm.enc)]] (nB t.named)): az aj 148 [.agg [.sl (t.binds.map Ty.enc),nI t.kind,nI t.index,.sl (t.args.map Tm.enc)],.aU (FV b c m) 0] (nB (!t.named)):=UW ⟨_,ih,rfl⟩
def JE:List Tm->Nat->Int
 | [],_ => -1|t::l,k=>if t.named then JE l (k+1)else k
theorem DU:∀(l:List Tm)(k:Nat),decide (JE l k>=0)=!(Tm.jM l)
 | [],_=>rfl|t::l,k=>by rw[JE,Tm.jM];cases t.named;rw[if_neg (by decide)];exact decide_eq_true (Int.natCast_nonneg k);rw[if_pos rfl,DU l (k+1)];rfl
theorem FX{b c m:List aw}{l:List Tm}(hl:l.length<=1000000000)(ih:∀t∈l,az aj 99 [FV b c m,.agg [.sl (t.binds.map Ty.enc),nI t.kind,nI t.index,.sl (t.args.map Tm.enc)]] (nB t.named)): az aj 175 [.sl (l.map Tm.enc),.bz 148 [.aU (FV b c m) 0]] (nI (JE l 0)):=by refine UY ⟨rfl,?_⟩;refine aI.intro (λk:Nat=>((l.map Tm.enc,((),()),((l.length:Nat):Int),(k:Int),()),())) (λk=>k<=l.length/\JE l 0=JE (l.drop k) k) (λk=>l.length-k) 0 (by rw[aum];rfl) ⟨auv _,by rw[avI]⟩ ?_;intro k ⟨hk,hd⟩ again bQ;dsimp only;rw[aum];refine aA.intro (λh=>?_) λh=>?_;(have aF:k<l.length:=by simpa using h);refine⟨by omega,by omega,_,_,_,_,Tm.bx aF,_,FW (ih _ (auz aF)),aA.intro (λh1=>?_) λh1=>⟨rfl,?_⟩⟩;(have:l[k].named=false:=by simpa using h1);rw[hd,auw aF,JE,this];rfl;(have:l[k].named=true:=by simpa using h1);rw[bc (by omega)];exact bQ (k+1) ⟨by omega,by rw[hd,auw aF,JE,this];rfl⟩ (by omega);(have:l.length<=k:=by simpa using h);rw[hd,auH this];rfl
theorem yL{b c m:List aw}{l:List Tm}(hl:l.length<=1000000000)(ih:∀t∈l,az aj 99 [FV b c m,.agg [.sl (t.binds.map Ty.enc),nI t.kind,nI t.index,.sl (t.args.map Tm.enc)]] (nB t.named)): az aj 147 [.sl (l.map Tm.enc),.bz 148 [.aU (FV b c m) 0]] (nB (!(Tm.jM l))):=UZ ⟨_,FX hl ih,by rw[DU]⟩
theorem JF{b c m:List aw}:∀(n:Nat)(t:Tm),t.size<=n->n<=500000000->az aj 99 [FV b c m,.agg [.sl (t.binds.map Ty.enc),nI t.kind,nI t.index,.sl (t.args.map Tm.enc)]] (nB t.named):=by intro n;induction n with|zero=>intro t h;have:=t.size_pos;omega|succ n ih=>intro t hn hm;have hl:=Tm.aZ t.args;have hs:=t.size_eq;have hc:=yL (b:=b) (c:=c) (m:=m) (l:=t.args) (by omega) λu hu=>ih u (by have:=Tm.dp hu;omega) (by omega);refine Z4 (aA.intro (λh=>aA.intro (λh1=>?_) λh1=>⟨_,hc,?_⟩) λh=>⟨_,hc,?_⟩);rw[Tm.u9,h,h1];rfl;rw[Tm.u9,h,h1];cases Tm.jM t.args<;>rfl;rw[Tm.u9,h];cases Tm.jM t.args<;>rfl
theorem wC{b c m:List aw}{es:List (aw×Value)}{B:Int->aw}(hB:∀k,jo k->az aj 150 [Xp b c m es,nI k] (nS (B k))): ∀(n:Nat)(t:Tm)(a:Nat),t.size<=n->a+t.size<=500000000->t.Ok->t.named=true-> az aj 100 [Xp b c m es,.agg [.sl (t.binds.map Ty.enc),nI t.kind,nI t.index,.sl (t.args.map Tm.enc)],nI (a:Nat)] (Bm (rA B b c m a t)):=by intro n;induction n with|zero=>intro t a h;have:=t.size_pos;omega|succ n ih=>(intro t a hn hm hk K5;have hl:=Tm.aZ t.args;have sS:=Ty.aZ t.binds;have hs:=t.size_eq;have vN:=Tm.ok_eq hk;rw[Tm.u9,auq]at K5;have h0:t.kind=0->0<=t.index:=λe=>by have:=K5.1;rw[e]at this;simp at this;exact this);(have hw:ag .i64 ((a:Int)+((t.binds.length:Nat):Int))=((a+t.binds.length:Nat):Int):=by rw[ba (by omega) (by omega)];omega);have hh:=MK (b:=b) (c:=c) (m:=m) (es:=es) (B:=B) (k:=t.kind) (i:=t.index) (around:=a+t.binds.length) (by omega) vN.2.1 h0 hB;refine UU ⟨_,_,_,_,_,by rw[aum,hw];exact hh,?_⟩;rw[Xo];cases ha:sP B c m (a+t.binds.length) t.kind t.index with|none=>exact aA.pos rfl rfl|some n0=>refine aA.neg rfl ?_;rw[aum,hw,aum];show Iz _ (λr=>r=Bm (match wB B b c m (a+t.binds.length) t.args n0 with|none=>none|some s=>qw B b s a t.binds));refine aI.intro (λp:Nat×Nd=>(((),(),(),(),(),((a+t.binds.length:Nat):Int),(),(),(),t.args.map Tm.enc,((t.args.length:Nat):Int),(p.1:Int),(),(),()),((b.map nS,c.map nS,m.map nS,es,()),(t.binds.map Ty.enc,t.kind,t.index,t.args.map Tm.enc,()),((a:Int),()),(0,⟨#[]⟩,0,(),()),(0,()),(p.2.kind,p.2.word,p.2.at_,p.2.kids.map Nd.enc,()),()))) (λp=>p.1<=t.args.length/\wB B b c m (a+t.binds.length) t.args n0=wB B b c m (a+t.binds.length) (t.args.drop p.1) p.2) (λp=>t.args.length-p.1) (0,n0) rfl ⟨auv _,by rw[avI]⟩ ?_;intro ⟨k,s⟩ ⟨eA,hd⟩ again bQ;dsimp only at eA hd ⊢;refine aA.intro (λh=>?_) λh=>?_;(have aF:k<t.args.length:=by simpa using h);(have hz:=Tm.eR aF;have Lr:=Tm.dp (auz aF);have hnk:t.args[k].named=true:=by have:=K5.2;rw[Tm.MH,auI]at this;exact this _ (auz aF));refine⟨by omega,by rw[aum];omega,_,_,_,_,Tm.bx aF,_,_,_,_,_,ih t.args[k] (a+t.binds.length) (by omega) (by omega) (Tm.FI vN.2.2 (auz aF)) hnk,?_⟩;rw[hd,DS aF];(cases hx:rA B b c m (a+t.binds.length) t.args[k]with|none=>exact aA.pos rfl rfl|some x=>refine aA.neg rfl ?_;rw[bc (by omega)];have:=bQ (k+1,.mk 4 ⟨#[]⟩ 0 [s,x]) ⟨by show k+1<=_;omega,by rw[hd,DS aF,hx]⟩ (by show t.args.length-(k+1)<t.args.length-k;omega);dsimp only at this;rw[show (Nd.mk 4 ⟨#[]⟩ 0 [s,x]).kids.map Nd.enc=[dZ s,dZ x]from(MG s x).symm]at this;exact this);(have fb:t.args.length<=k:=by simpa using h);rw[hd,auH fb,wB];refine⟨rz t.binds,?_⟩;refine fK.rf (λu:Nd=>((b.map nS,c.map nS,m.map nS,es,()),(t.binds.map Ty.enc,t.kind,t.index,t.args.map Tm.enc,()),((a:Int),()),(0,⟨#[]⟩,0,(),()),(0,()),(u.kind,u.word,u.at_,u.kids.map Nd.enc,()),())) Bf (Sr t.binds t.binds.length) (u6 (by omega)) (λrest u=>∃k,k<=t.binds.length/\rest=Sr t.binds k/\qw B b s (a+k) (t.binds.drop k)=some u) s rfl ⟨t.binds.length,aur _,rfl,by rw[List.drop_length,qw]⟩ (λg rest u ⟨k,hk,he,hs⟩ again bQ=>?_) λu ⟨k,hk,he,hs⟩=>?_;(cases k with|zero=>cases he|succ k=>(simp only[Sr,List.cons.injEq]at he;obtain⟨rfl,rfl⟩:=he;have aF:k<t.binds.length:=by omega);rw[FT aF];dsimp only[Bf];have hz:=Ty.dp (auz aF);refine⟨_,_,_,_,_,u7 _ t.binds[k] (aur _) (by omega),?_⟩;have hs':=hs;cases hx:wA b t.binds[k]with|none=>exact aA.pos rfl (by rw[DT aF hx];rfl)|some x=>(have YH:ag .i64 ((a:Int)+(k:Int))=((a+k:Nat):Int):=by rw[ba (by omega) (by omega)];omega);refine aA.neg rfl ⟨_,by rw[YH];exact hB _ ⟨by omega,by omega⟩,?_⟩;have:=bQ (.mk 3 (B ((a+k:Nat):Int)) 0 [x,u]) ⟨k,by omega,rfl,Rn aF hs hx⟩;rw[show (Nd.mk 3 (B ((a+k:Nat):Int)) 0 [x,u]).kids.map Nd.enc=[dZ x,dZ u]from(MG x u).symm]at this;exact this);cases k with|zero=>rw[avI]at hs;show _=Bm (qw B b s a t.binds);rw[show qw B b s a t.binds=some u from hs];rfl|succ k=>cases he
theorem tq{κ:Type}[DecidableEq κ]{l:List (κ×Value)}{i v:κ}{x:Value}:aK (cD l v x) i=if i=v then some x else aK l i:=by induction l with|nil=>simp only[cD,aK]|cons p l ih=>obtain⟨k,u⟩:=p;simp only[cD];by_cases h:v=k;subst h;simp only[if_pos,aK];by_cases h2:i=v<;>simp[h2];rw[if_neg h,aK,ih,aK];by_cases h2:i=k;subst h2;simp[avW h];simp[h2]
def bg(l:List (Int×Int)):List AV:=l.map λp=>.agg [nI p.1,nI p.2]
theorem pR{l:List (Int×Int)}{k:Nat}(h:k<l.length):ae (bg l) (af (k:Int)) .top=.agg [nI l[k].1,nI l[k].2]:=getD_map h
theorem fW(l:List (Int×Int)):(bg l).length=l.length:=by simp[bg]
inductive mH (ps:List (Int×Int)):Int->Int->Prop where
 |one {a b:Int} (h:(a,b)∈ps):mH ps a b
 |more {a c b:Int} (h1:mH ps a c) (h2:(c,b)∈ps):mH ps a b
def qo(a:Int)(u:List Int)(p:Int×Int):List Int:=if((p.1==a)||u.contains p.1)&&!u.contains p.2 then u++[p.2]else u
def jN(a:Int)(l:List (Int×Int))(u:List Int):List Int:=l.foldl (qo a) u
def dJ(a:Int)(l:List (Int×Int)):Nat->List Int
 |0=>[]|k+1=>jN a l (dJ a l k)
def nO(l:List (Int×Int))(a b:Int):Bool:=(dJ a l (l.length+1)).contains b
theorem Ro(a:Int)(u:List Int)(p:Int×Int):u.length<=(qo a u p).length/\((qo a u p).length=u.length->qo a u p=u):=by unfold qo;split;simp;exact⟨aur _,λ_=>rfl⟩
theorem tr(a:Int):∀(l:List (Int×Int))(u:List Int),u.length<=(jN a l u).length/\((jN a l u).length=u.length->jN a l u=u/\∀p∈l,qo a u p=u)
 | [],u=>⟨aur _,λ_=>⟨rfl,λp h=>by cases h⟩⟩|p::l,u=>by have h1:=Ro a u p;have h2:=tr a l (qo a u p);have e:jN a (p::l) u=jN a l (qo a u p):=rfl;rw[e];refine⟨by omega,λh=>?_⟩;have h3:=h1.2 (by omega);rw[h3]at h2 h ⊢;have h4:=h2.2 h;refine⟨h4.1,λq hq=>?_⟩;rcases auJ.1 hq with rfl|hq;exact h3;exact h4.2 q hq
structure qp(a:Int)(l:List (Int×Int))(u:List Int):Prop where
 nd:u.Nodup
 sub:∀x∈u,x∈l.map Prod.snd
 reach:∀x∈u,mH l a x
theorem qp.step{a:Int}{l:List (Int×Int)}{u:List Int}(h:qp a l u){p:Int×Int}(hp:p∈l):qp a l (qo a u p):=by unfold qo;split;rename_i hc;simp only[auq,avo,beq_iff_eq,av5,avd,List.contains_eq_mem,decide_eq_false_iff_not,decide_eq_true_eq]at hc;refine⟨List.nodup_append.2 ⟨h.nd,by simp,λx hx y hy=>?_⟩,λx hx=>?_,λx hx=>?_⟩;rw[auD]at hy;subst hy;exact λe=>hc.2 (e▸hx);rcases auU.1 hx with hx|hx;exact h.sub x hx;rw[auD]at hx;subst hx;exact avs.2 ⟨p,hp,rfl⟩;rcases auU.1 hx with hx|hx;exact h.reach x hx;rw[auD]at hx;subst hx;rcases hc.1 with h1|h1;exact .one (by rw[<-h1];exact hp);exact .more (h.reach _ h1) hp;exact h
theorem qp.round{a:Int}{l:List (Int×Int)}:∀(m:List (Int×Int))(u:List Int),(∀p∈m,p∈l)->qp a l u->qp a l (jN a m u)
 | [],u,_,h=>h|p::m,u,hm,h=>qp.round m (qo a u p) (λq hq=>hm q (auG _ hq)) (h.step (hm p auC))
theorem qp.rounds(a:Int)(l:List (Int×Int)):∀k,qp a l (dJ a l k)
 |0=>⟨List.nodup_nil,λx h=>(by cases h),λx h=>(by cases h)⟩|k+1=>qp.round l _ (λ_ h=>h) (qp.rounds a l k)
theorem Xq{u v:List Int}(h:u.Nodup)(hs:∀x∈u,x∈v):u.length<=v.length:=by induction u generalizing v with|nil=>exact auv _|cons x u ih=>(rw[List.nodup_cons]at h;have hx:=hs x auC;have:=ih (v:=v.erase x) h.2 λy hy=>by have bW:y≠x:=λe=>h.1 (e▸hy);exact(List.mem_erase_of_ne bW).2 (hs y (auG _ hy)));rw[List.length_erase_of_mem hx]at this;have Zb:=List.length_pos_of_mem hx;simp only[auy];omega
theorem xR(a:Int)(l:List (Int×Int)):∀k,(∃j,j<k/\jN a l (dJ a l j)=dJ a l j)\/k<=(dJ a l k).length
 |0=>.inr (auv _)|k+1=>by rcases xR a l k with⟨j,h1,h2⟩|h;exact .inl ⟨j,by omega,h2⟩;have h1:=tr a l (dJ a l k);by_cases e:(jN a l (dJ a l k)).length=(dJ a l k).length;exact .inl ⟨k,by omega,(h1.2 e).1⟩;exact .inr (by show k+1<=(jN a l (dJ a l k)).length;omega)
theorem xS(a:Int)(l:List (Int×Int)){j:Nat}(h:jN a l (dJ a l j)=dJ a l j):∀d,dJ a l (j+d)=dJ a l j
 |0=>rfl|d+1=>by show jN a l (dJ a l (j+d))=_;rw[xS a l h d,h]
theorem Bn(l:List (Int×Int))(a b:Int):nO l a b=true↔mH l a b:=by (have hg:=qp.rounds a l (l.length+1);rw[nO,av5];refine⟨λh=>hg.reach b h,λh=>?_⟩;have hle:(dJ a l (l.length+1)).length<=l.length:=by have:=Xq hg.nd hg.sub;rwa [aum]at this);(obtain⟨j,h1,h2⟩:∃j,j<l.length+1/\jN a l (dJ a l j)=dJ a l j:=by rcases xR a l (l.length+1)with h|h;exact h;omega);(have vR:=xS a l h2 (l.length+1-j);rw[show j+(l.length+1-j)=l.length+1 by omega]at vR;have ej:=((tr a l (dJ a l j)).2 (by rw[h2])).2;rw[<-vR]at ej;have bz:∀p∈l,(p.1=a\/p.1∈dJ a l (l.length+1))->p.2∈dJ a l (l.length+1):=by intro p hp hc;have:=ej p hp;unfold qo at this;split at this;have:=congrArg ab this;simp at this;rename_i hn;refine avY λh3=>hn ?_;simp only[auq,avo,beq_iff_eq,av5,avd,List.contains_eq_mem,decide_eq_false_iff_not,decide_eq_true_eq];exact⟨hc,h3⟩);induction h with|one h=>exact bz _ h (.inl rfl)|more _ h2 ih=>exact bz _ h2 (.inr ih)
theorem ab7{w:World}(h:oW w):Lib.TabIs aj w "internal/strconv.uint64pow10" .u64 Lib.pow10Tab:=by obtain⟨T,h1⟩:=h (G9.head (by decide)) (List.head_mem _);unfold Lib.TabIs World.var?;rw[show aj.globalNamed "internal/strconv.uint64pow10"=some (G9.head (by decide)).1 from by kernel_rfl];simp only[Option.bind_some,h1];rfl
def ab8(k:Int):aw:=⟨(Lib.itoa k).toArray⟩
theorem ML{k:Int}(hk:jo k):az aj 112 [nI k] (nS (ab8 k)):=by refine⟨⟨_,Tryz.func112,by kernel_rfl,by kernel_rfl⟩,λw F vals hF hg hv=>?_⟩;match vals,hv with| [v0],⟨r0,_⟩=>cases r0;refine callsIn_wide.2 ((Any.strconv_Itoa Z5 k hk.1 (by have:=hk.2;omega) w (ab7 hg)).mono ?_);rintro e w' ⟨rfl,n,os,rfl⟩;refine⟨_,_,rfl,rfl,⟨rfl,rfl,rfl,?_,λj hj=>?_⟩,.ay _⟩;show w.heap.size<=(w.heap++os).size;rw[Array.size_append];omega;show (w.heap++os)[j]?=_;rw[Array.getElem?_append_left hj]
theorem Rp{k:Int}(hk:jo k):(ab8 k).size<=30:=by have h1:=hk.1;have h2:=hk.2;have:=Lib.itoa_length_le k h1 (by omega);show (Lib.itoa k).toArray.size<=30;rw[avQ];omega
def Xr(l:List aw)(w:aw):Bool:=l.any λx=>decide (x=w)
theorem ab9{l:List aw}{w:aw}:Xr l w=true↔w∈l:=by simp only[Xr,List.any_eq_true,decide_eq_true_eq];exact⟨fun⟨x,h1,h2⟩=>h2▸h1,λh=>⟨w,h,rfl⟩⟩
def va(es:List (aw×Value))(l:List aw):Prop:=∀w,aK es w=if Xr l w=true then some (.bool true)else none
theorem va.nil:va [] []:=λw=>rfl
theorem va.put{es:List (aw×Value)}{l:List aw}{x:aw}(h:va es l):va (cD es x (.bool true)) (l++[x]):=by (intro w;rw[tq,h w];have e:Xr (l++[x]) w=(Xr l w||decide (x=w)):=by simp[Xr]);rw[e];by_cases h1:w=x;subst h1;simp;have:¬x=w:=λe=>h1 e.symm;simp[h1,this]
def JG(l:List aw):Nat->aw->aw
 |0,w=>w|n+1,w=>if Xr l w=true then JG l n (w++(⟨#[39]⟩:aw))else w
def tt(l:List aw)(k:Int):aw:=JG l (l.length+1) ((⟨#[118]⟩:aw)++ab8 k)
theorem DV{w:aw}:∀{l:List aw},w∈l->l.countP (λx=>decide (w.size+1<=x.size))<l.countP (λx=>decide (w.size<=x.size))
 |x::l,h=>by (have hm:l.countP (λx=>decide (w.size+1<=x.size))<=l.countP (λx=>decide (w.size<=x.size)):=List.countP_mono_left λy _ hy=>by simp only[decide_eq_true_eq]at hy ⊢;omega);rcases auJ.1 h with rfl|h;rw[List.countP_cons_of_neg (by simp),List.countP_cons_of_pos (by simp)];omega;have:=DV h;rw[List.countP_cons,List.countP_cons];by_cases h1:w.size+1<=x.size;rw[if_pos (by simpa using h1),if_pos (by(have:w.size<=x.size:=by omega);simpa using this)];omega;rw[if_neg (by simpa using h1)];split<;>omega
theorem JH{b c m:List aw}{es:List (aw×Value)}{l:List aw}{k:Int}(hk:jo k)(he:va es l)(hl:l.length<=1000000): az aj 150 [Xp b c m es,nI k] (nS (tt l k)):=by (have hz:=Rp hk;have hg:∀w,(aK es w).getD (.bool false)=.bool (Xr l w):=λw=>by rw[he w];cases Xr l w<;>rfl);refine UT ⟨_,ML hk,by rw[sz1];omega,?_⟩;refine aI.intro (λw:aw=>(((),w,()),((b.map nS,c.map nS,m.map nS,es,()),()))) (λw=>∃n,l.countP (λx=>decide (w.size<=x.size))<=n/\w.size+n<=2000000/\tt l k=JG l (n+1) w) (λw=>l.countP (λx=>decide (w.size<=x.size))) ((⟨#[118]⟩:aw)++ab8 k) rfl ⟨l.length,List.countP_le_length,by rw[bsz,sz1];omega,rfl⟩ ?_;intro w ⟨n,h1,h2,h3⟩ again bQ;dsimp only;rw[hg];refine⟨rfl,aA.intro (λh=>?_) λh=>?_⟩;have hw:Xr l w=true:=h;have ht:=DV (ab9.1 hw);refine⟨by rw[sz1];omega,bQ _ ⟨n-1,?_,?_,?_⟩ ?_⟩;rw[bsz,sz1];omega;rw[bsz,sz1];omega;obtain⟨j,rfl⟩:∃j,n=j+1:=⟨n-1,by omega⟩;rw[h3,JG,if_pos hw];rfl;rw[bsz,sz1];exact ht;have hw:Xr l w=false:=h;rw[h3,JG,hw];rfl
def rB(n:Int)(p:(Nat×Nat)×Tm):Int:=if p.2.kind=0/\p.2.index>=(p.1.1:Nat)then(if(if 1000<p.2.index-(p.1.1:Nat)then 1000 else p.2.index-(p.1.1:Nat))+1>n then(if 1000<p.2.index-(p.1.1:Nat)then 1000 else p.2.index-(p.1.1:Nat))+1 else n)else n
def pS:Int->List ((Nat×Nat)×Tm)->Int
 |n,[]=>n|n,p::l=>pS (rB n p) l
def rC(p:(Nat×Nat)×Tm):Bool:=(p.2.kind==0)&&decide (p.2.index>=(p.1.1:Nat))
def pT(t:Tm):Bool:=(t.pre 0 1).any rC
theorem pU:∀(l:List ((Nat×Nat)×Tm))(n:Int),0<=n->decide (pS n l>0)=(decide (n>0)||l.any rC)
 | [],n,_=>by simp[pS]|p::l,n,h=>by rw[pS,List.any_cons];by_cases hp:p.2.kind=0/\p.2.index>=(p.1.1:Nat);(have e:rC p=true:=by simp[rC,hp.1,hp.2]);(have hs:0<rB n p:=by unfold rB;rw[if_pos hp];have:=hp.2;split<;>split<;>omega);rw[pU l _ (by omega),e,decide_eq_true hs];simp;(have e:rC p=false:=by by_cases h1:p.2.kind=0;have:¬p.2.index>=(p.1.1:Nat):=λh2=>hp ⟨h1,h2⟩;simp[rC,this];simp[rC,h1]);rw[show rB n p=n from if_neg hp,pU l n h,e];simp
theorem afo:∀(t:Tm)(a d:Nat),t.Ok->∀p∈t.pre a d,jo p.2.index:=by (have key:∀(n:Nat),(∀(t:Tm)(a d:Nat),t.size<=n->t.Ok->∀p∈t.pre a d,jo p.2.index):=by intro n;induction n with|zero=>intro t a d h;have:=t.size_pos;omega|succ n ih=>intro t a d hn hk p hp;have hs:=t.size_eq;have vN:=Tm.ok_eq hk;rw[Tm.FN]at hp;rcases auJ.1 hp with rfl|hp;exact vN.2.1;(have:∀(l:List Tm),Tm.sizes l<=n->Tm.Pv l->∀p∈Tm.gE (a+t.binds.length) (d+1) l,jo p.2.index:=by intro l;induction l with|nil=>intro _ _ p hp;rw[Tm.gE]at hp;cases hp|cons u l ihl=>intro hz aN p hp;have Sz:Tm.sizes (u::l)=u.size+Tm.sizes l:=rfl;rw[Tm.gE]at hp;rcases auU.1 hp with hp|hp;exact ih u _ _ (by omega) aN.1 p hp;exact ihl (by omega) aN.2 p hp);exact this t.args (by omega) vN.2.2 p hp);exact λt a d=>key _ t a d (aur _)
theorem FY{t:Tm}(h:t.size<=500000000)(hk:t.Ok):az aj 97 [.agg [.sl (t.binds.map Ty.enc),nI t.kind,nI t.index,.sl (t.args.map Tm.enc)]] (nI (pS 0 (t.pre 0 1))):=by refine aag ⟨xP t,?_⟩;refine fK.rf (λn:Int=>((t.binds.map Ty.enc,t.kind,t.index,t.args.map Tm.enc,()),(n,()),())) Bi (t.pre 0 1) (DQ h) (λr n=>pS 0 (t.pre 0 1)=pS n r/\∀p∈r,jo p.2.index) 0 rfl ⟨rfl,afo t 0 1 hk⟩ (λp r n hI again bQ=>?_) λn hI=>?_;have go:=bQ (rB n p) ⟨by rw[hI.1,pS],λq hq=>hI.2 q (auG _ hq)⟩;obtain⟨i1,i2⟩:=hI.2 p auC;dsimp only[Bi];refine aA.intro (λh1=>aA.intro (λh2=>?_) λh2=>?_) λh1=>?_;(have h1':p.2.kind=0:=by simpa using h1);(have Pz:p.2.index>=(p.1.1:Nat):=by simpa using h2);(have w1:ag .i64 (p.2.index-((p.1.1:Nat):Int))=p.2.index-((p.1.1:Nat):Int):=ba (by omega) (by omega);have w2:ag .i64 ((if 1000<p.2.index-((p.1.1:Nat):Int)then 1000 else p.2.index-((p.1.1:Nat):Int))+1)=(if 1000<p.2.index-((p.1.1:Nat):Int)then 1000 else p.2.index-((p.1.1:Nat):Int))+1:=ba (by split<;>omega) (by split<;>omega);simp only[Bi,w1,w2];have e:rB n p=if(if 1000<p.2.index-(p.1.1:Nat)then 1000 else p.2.index-(p.1.1:Nat))+1>n then(if 1000<p.2.index-(p.1.1:Nat)then 1000 else p.2.index-(p.1.1:Nat))+1 else n:=if_pos ⟨h1',Pz⟩;rw[e]at go;exact go);(have Pz:¬p.2.index>=(p.1.1:Nat):=by simpa using h2);rw[show rB n p=n from if_neg λe=>Pz e.2]at go;exact go;(have h1':¬p.2.kind=0:=by simpa using h1);rw[show rB n p=n from if_neg λe=>h1' e.1]at go;exact go;show nI n=nI (pS 0 (t.pre 0 1));rw[hI.1];rfl
def pV(b c m:List aw)(t:Tm):Nd×Int:=
 if(il 0 (t.pre 0 1)&&!(pT t))=true then
  (match (if t.named=true then rA (tt (c++m)) b c m 0 t else none)with|some n=>(n,0)|none=>(xQ,10))
 else(xQ,1)
def aca(p:Nd×Int):AV:=.aG [dZ p.1,nI p.2]
theorem afp(c m:List aw):rk [c,m]=[nN c,nN m]:=rfl
theorem FZ{b c m:List aw}{t:Tm}(h:t.size<=100000000)(hk:t.Ok)(hl:c.length+m.length<=1000000): az aj 53 [FV b c m,.agg [.sl (t.binds.map Ty.enc),nI t.kind,nI t.index,.sl (t.args.map Tm.enc)]] (aca (pV b c m t)):=by have aka:=CQ (ll:=[c,m]) (by simp) (by simp;omega);rw[show [c,m].flatten=c++m by simp,afp]at aka;refine Z3 ⟨_,pP (by omega),aA.intro (λh1=>?_) λh1=>⟨_,FY (by omega) hk,aA.intro (λh2=>?_) λh2=>⟨_,aka,?_⟩⟩⟩;(have e:il 0 (t.pre 0 1)=false:=by simpa using h1);rw[pV,e];rfl;(rw[pU _ _ (Int.le_refl 0)]at h2;have e:pT t=true:=by simpa [pT]using h2);rw[pV,e];simp;rfl;(have e1:il 0 (t.pre 0 1)=true:=by simpa using h1);(rw[pU _ _ (Int.le_refl 0)]at h2;have e2:pT t=false:=by simpa [pT]using h2);(have er:pV b c m t=match (if t.named=true then rA (tt (c++m)) b c m 0 t else none)with|some n=>(n,0)|none=>(xQ,10):=by rw[pV,e1,e2];rfl);rw[er];rw[aum];refine aI.intro (λp:Nat×List (aw×Value)=>(((),(),(),(),(c++m).map nS,(((c++m).length:Nat):Int),(p.1:Int),()),((b.map nS,c.map nS,m.map nS,()),(t.binds.map Ty.enc,t.kind,t.index,t.args.map Tm.enc,()),(0,⟨#[]⟩,0,(),()),p.2,()))) (λp=>p.1<=(c++m).length/\va p.2 ((c++m).take p.1)) (λp=>(c++m).length-p.1) (0,[]) rfl ⟨auv _,va.nil⟩ ?_;intro ⟨k,es⟩ ⟨eA,hd⟩ again bQ;dsimp only at eA hd ⊢;have hlen:(c++m).length=c.length+m.length:=aut;refine aA.intro (λh=>?_) λh=>?_;(have aF:k<(c++m).length:=by have:=of_decide_eq_true h;omega);refine⟨by omega,by rw[aum];omega,_,getD_map aF,?_⟩;rw[bc (by omega)];exact bQ (k+1,_) ⟨by show k+1<=_;omega,by show va _ ((c++m).take (k+1));rw[<-List.take_append_getElem aF];exact hd.put⟩ (by show (c++m).length-(k+1)<(c++m).length-k;omega);(have fb:(c++m).length<=k:=by have:=of_decide_eq_false h;omega);rw[auE fb]at hd;refine⟨_,JF _ t (aur _) (by omega),aA.intro (λh3=>?_) λh3=>?_⟩;(have e3:t.named=false:=by simpa using h3);rw[e3];rfl;(have e3:t.named=true:=by simpa using h3);have vR:=wC (b:=b) (c:=c) (m:=m) (es:=es) (B:=tt (c++m)) (λk hk=>JH hk hd (by omega)) _ t 0 (aur _) (by omega) hk e3;refine⟨_,_,_,_,_,vR,?_⟩;rw[if_pos e3];cases rA (tt (c++m)) b c m 0 t<;>rfl
abbrev wd(w:aw):Nd:=.mk 1 w 0 []
theorem Bo(w:aw):gi w w=true:=by rw[ei];exact decide_eq_true rfl
end Go.Proofs.YthnnplohnceogaaGreatDoor
