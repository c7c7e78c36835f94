/- Texts of ours laid together for a claim: P38 P45 P39 P40 P8I P8J P44 P8K P8L P8M P8N P8E P8O P8P P8Q P8R P8S P8F P8T. -/
import Derived.KernelRfl
import Derived.Test.YtnkjkpmbgoehkaaGreatQ40
namespace Go.Proofs.YtnkjkpmbgoehkaaGreat
open Go
set_option linter.unusedSimpArgs false
set_option linter.unusedVariables false
set_option maxRecDepth 100000
theorem L7 (m:Mt):m.dI 1=m.one:=by
 rw[Mt.dI]
 cases h:m.one.2 with
 |true=>
  rw[if_pos rfl,Mt.dI];obtain⟨_,_,_,h3⟩:=pK h;rw[show m.one=(m.one.1,m.one.2) from rfl,h,h3];rfl
 |false=>
  rw[if_neg (by simp),<-h]
def tm (N:Nat) (m:Mt) (t:Tm) (r:AV) (hp':List ab):Prop:=L6 m hp'/\∃t':Tm,r=.agg [.sl (t'.binds.map Ty.enc),nI t'.kind,nI t'.index,.sl (t'.args.map Tm.enc)]/\(m.err=0->t'=t)/\t'.binds.length<=N
def Sk (B f:Nat):Prop:=∀(m:Mt) (us:List Tm) (bs:List Ty) (k i:Int) (args:List Tm) (n d:Nat) (l u x s y c e:Int),vT m l u x y c e->(m.err=0->100000<f+m.count)->
 Ty.sizes bs<=B->lk k->lk i->args.length<=B->Tm.yC B args->Tm.yC B us->(∀t∈us,t.nodes<=1000000000)->us.length<=n->n<=B->d+B*(f+1)<=4000000000000000000->
 aG Tryz.prog 258 [.agg [.ptr 1 0,.sl (us.map Tm.enc),nI n],.agg [.sl (bs.map Ty.enc),nI k,nI i,.sl (args.map Tm.enc)],nI d] (zQ l u x s y c e)
  (tm bs.length (bJ f m k i args us n (d+bs.length)).1 (.mk bs (bJ f m k i args us n (d+bs.length)).2.kind (bJ f m k i args us n (d+bs.length)).2.index (bJ f m k i args us n (d+bs.length)).2.args))
def ads (B f:Nat):Prop:=∀(m:Mt) (t:Tm) (us:List Tm) (l u x s y c e:Int),vT m l u x y c e->(m.err=0->100000<f+m.count)->t.Lo B->(m.err=0->Tm.yC B us/\∀t∈us,t.nodes<=1000000000)->
 B*(f+1)<=4000000000000000000->
 aG Tryz.prog 229 [.ptr 1 0,.agg [.sl (t.binds.map Ty.enc),nI t.kind,nI t.index,.sl (t.args.map Tm.enc)],.sl (us.map Tm.enc)] (zQ l u x s y c e) (tm t.binds.length (iU f m t us).1 (iU f m t us).2)
theorem iw {N:Nat} {m:Mt} {t:Tm} {hp':List ab} (h:L6 m hp') (he:m.err≠0):∃r2,aB (.agg [.ae (.slice none 0 0),nI 0,nI 0,.ae (.slice none 0 0)]) r2/\tm N m t r2 hp':=
 ⟨_,rK,h,cA,rfl,fun h0=>(he h0).elim,aly _⟩
theorem KD {B f:Nat} (hB:B<=1000000) (ht:Sk B f):ads B f:=by
 intro m t us l u x s y c e hm hf oG I0 hk;have he:=hm.err;have hl:=Tm.ld.1 oG;have hbl:=Ty.aY t.binds;refine aG.L4 (QX (ag.intro (fun h=>?_) fun h=>?_))
 ·have h0:¬e=0:=by simpa using h
  have qt:m.err≠0:=by rw[<-he];exact h0
  refine⟨_,gv 1,fun r q ⟨e1,e2⟩=>⟨l,u,x,0,s,y,c,_,⟨e1,e2⟩,?_⟩⟩;have:iU f m t us=(m,cA):=by unfold iU;rw[if_pos qt]
  rw[this];rw[if_neg h0];exact iw ⟨l,u,x,s,y,c,e,rfl,hm⟩ qt
 ·have h0:e=0:=by simpa using h
  have qt:m.err=0:=by rw[<-he];exact h0
  obtain⟨hu,hn⟩:=I0 qt;refine ag.intro (fun h=>?_) fun h=>?_
  ·have h1:t.binds.length<us.length:=by have:=of_decide_eq_true h;rw[alm,alm] at this;omega
   refine⟨_,gv 1,fun r q ⟨e1,e2⟩=>⟨l,u,x,0,s,y,c,_,⟨e1,e2⟩,?_⟩⟩;have:iU f m t us=(⟨m.left,m.count,1⟩,cA):=by unfold iU;rw[if_neg (by simp[qt]),if_pos h1]
   rw[this,if_pos h0];exact iw ⟨l,u,x,s,y,c,1,rfl,hm.failed c (by decide) (fun h=>by simp at h)⟩ (by simp)
  ·have h1:¬t.binds.length<us.length:=by have:=of_decide_eq_false h;rw[alm,alm] at this;omega
   have hp:iU f m t us=((bJ f m t.kind t.index t.args us t.binds.length 0).1,.mk (t.binds.drop us.length) (bJ f m t.kind t.index t.args us t.binds.length 0).2.kind (bJ f m t.kind t.index t.args us t.binds.length 0).2.index (bJ f m t.kind t.index t.args us t.binds.length 0).2.args):=by
    unfold iU;rw[if_neg (by simp[qt]),if_neg h1]
   have Yt:=ht m us [] t.kind t.index t.args t.binds.length 0 l u x s y c e hm hf (by simp[Ty.sizes]) hl.2.1.1 hl.2.1.2 hl.1.2 hl.2.2 hu hn (by omega) (by omega) (by omega);rw[al5,amh] at Yt;rw[hp];generalize bJ f m t.kind t.index t.args us t.binds.length 0=q at Yt;rw[alm,alm];refine⟨_,aG.args (by exact⟨aB.refl _,aB.agg ⟨yH,aB.refl _,aB.refl _,aB.refl _,True.intro⟩,aB.refl _,True.intro⟩) Yt,fun r hq ⟨⟨l',u',x',s',y',c',e',e2,qX⟩,t',e1,MU,_⟩=>⟨l',u',x',0,s',y',c',e',_,_,_,_,⟨e1,e2⟩,?_⟩⟩;refine⟨⟨by omega,by omega,by omega,fun z hz=>Ty.kr z hz⟩,?_⟩;rw[ams,ams,alI (by rw[alm];omega),<-List.map_drop];refine⟨_,aB.refl _,⟨l',u',x',s',y',c',e',rfl,qX⟩,.mk (t.binds.drop us.length) t'.kind t'.index t'.args,rfl,fun h=>?_,by rw[Tm.sX,alX];omega⟩;rw[MU h];rfl
theorem L8 {B:Nat} (hB:B<=1000000):Sk B 0:=by
 intro m us bs k i args n d l u x s y c e hm hf hbs hk hi hla oG I0 jE hn hnB hd;have qt:m.err≠0:=fun h=>by have:=hf h;have:=hm.yD;omega
 refine aG.L4 (EN ⟨_,rM 1 (by omega) hm,fun r q ⟨e1,l',u',x',s',y',c',e',e2,qX⟩=>⟨l',u',x',0,s',y',c',e',_,⟨e1,e2⟩,?_⟩⟩);rw[rL qt] at qX ⊢;refine ag.pos rfl ?_;rw[(pL 0 m k i args us n (d+bs.length)).stop qt];exact iw ⟨l',u',x',s',y',c',e',rfl,qX⟩ qt
theorem L9 {B f:Nat} (hB:B<=1000000) (ih:Sk B f):Sk B (f+1):=by
 have adt:=KD hB ih;intro m us bs k i args n d l u x s y c e hm hf hbs hk hi hla oG I0 jE hn hnB hd;have hbl:=Ty.aY bs;have hmul:B*(f+1+1)=B*(f+1)+B:=Nat.mul_succ _ _;have hBf:B<=B*(f+1):=Nat.le_mul_of_pos_right _ (Nat.succ_pos f);refine aG.L4 (EN ⟨_,rM 1 (by omega) hm,fun r q ⟨e1,l',u',x',s',y',c',e',e2,qX⟩=>⟨l',u',x',0,s',y',c',e',_,⟨e1,e2⟩,?_⟩⟩);rw[L7] at qX ⊢;have hw:IntKind.wrap .i64 ((d:Int)+((List.length (bs.map Ty.enc):Nat):Int))=((d+bs.length:Nat):Int):=by
  rw[alm,aT (by omega) (by omega)];omega
 rw[hw];generalize hD:d+bs.length=D;have hD2:D+B*(f+1)<=4000000000000000000:=by omega
 refine ag.intro (fun h=>?_) fun h=>⟨rfl,?_⟩
 ·have h:m.one.2=false:=by simpa using h
  have:bJ (f+1) m k i args us n D=(m.one.1,cA):=by rw[bJ,if_pos h]
  rw[this];exact iw ⟨l',u',x',s',y',c',e',rfl,qX⟩ (mX h).1
 have h:m.one.2=true:=by simpa using h
 obtain⟨g0,g1,g2,g3⟩:=pK h;have jD:bJ (f+1) m k i args us n D=FY (bJ f) (cO (dw (bJ f) us n D) m.one.1 args) k i us n D:=by rw[bJ,if_neg (by simp[h])]
 rw[jD];have akc:m.one.1.count=m.count+1:=by rw[g3]
 have WY:∀m':Mt,m.one.1.To m'->m'.err=0->100000<f+m'.count:=fun m' h h0=>by have:=h.more;have:=hf g0;omega
 have sA:=rJ f us n D;have qP:∀(l:List Tm) (m':Mt),(∀t∈l,t∈args)->(cO (dw (bJ f) us n D) m' l).1.err=0->Tm.eU (cO (dw (bJ f) us n D) m' l).2+m'.count<=(cO (dw (bJ f) us n D) m' l).1.count/\Tm.yC B (cO (dw (bJ f) us n D) m' l).2:=by
  intro l m' NS Ab;refine pM sA l m' (fun t ht m'' agO KY=>?_) Ab;have yJ:=Tm.ld.1 (Tm.lK.1 oG t (NS t ht));have:=nW (B:=B) f m'' t.kind t.index t.args us n (D+t.binds.length) yJ.2.1.1 yJ.2.1.2 yJ.1.2 yJ.2.2 I0 hn KY;have hq:=Tm.ld.1 this.1.lo;have WX:=this.1.nodes;rw[Tm.iv] at WX;exact⟨by unfold dw;rw[Tm.iv,Tm.jb];exact WX,Tm.ld.2 ⟨⟨yJ.1.1,hq.1.2⟩,hq.2⟩⟩
 have hlen:=rI (g:=dw (bJ f) us n D) args m.one.1;have Yu:=qP args m.one.1 fun t h=>h;unfold EM;refine ay.intro (β:=Nat×Mt×Int×Int×Int×Int×Int×Int×Int×List Tm) (fun b=>(((D:Int),(),(),(),(),args.map Tm.enc,(args.length:Int),(b.1:Int),()),((b.2.2.1,b.2.2.2.1,b.2.2.2.2.1,(0:Int),b.2.2.2.2.2.1,b.2.2.2.2.2.2.1,()),((),b.2.2.2.2.2.2.2.1,b.2.2.2.2.2.2.2.2.1,()),((),us.map Tm.enc,(n:Int),()),(bs.map Ty.enc,k,i,args.map Tm.enc,()),((),(0:Int),(0:Int),(),()),(bs.map Ty.enc,k,i,(),()),b.2.2.2.2.2.2.2.2.2.map Tm.enc,())))
  (fun b=>b.1<=args.length/\vT b.2.1 b.2.2.1 b.2.2.2.1 b.2.2.2.2.1 b.2.2.2.2.2.2.1 b.2.2.2.2.2.2.2.1 b.2.2.2.2.2.2.2.2.1/\m.one.1.To b.2.1/\b.2.2.2.2.2.2.2.2.2.length=b.1/\
   ∃pre:List Tm,cO (dw (bJ f) us n D) m.one.1 args=((cO (dw (bJ f) us n D) b.2.1 (args.drop b.1)).1,pre++(cO (dw (bJ f) us n D) b.2.1 (args.drop b.1)).2)/\(b.2.1.err=0->b.2.2.2.2.2.2.2.2.2=pre))
  (fun b=>args.length-b.1) (0,m.one.1,l',u',x',s',y',c',e',[]) (by rw[alm];rfl) ⟨aly _,qX,.refl _,rfl,[],by rw[am3,amw],fun _=>rfl⟩ ?_
 rintro⟨j,m',l,u,x,s,y,c,e,acc⟩ ⟨hj,qX,VG,Dl,pre,hgo,bu⟩ again bY
 dsimp only at hj qX VG Dl hgo bu ⊢;have he:=qX.err;refine ag.intro (fun h=>?_) fun h=>?_
 ·have aq:j<args.length:=by simpa using h
  have yJ:=Tm.ld.1 (Tm.lK.1 oG args[j] (alH aq));have uI:xT (((D:Int),(),(),(),(),args.map Tm.enc,(args.length:Int),(j:Int),()),((l,u,x,(0:Int),s,y,()),((),c,e,()),((),us.map Tm.enc,(n:Int),()),(bs.map Ty.enc,k,i,args.map Tm.enc,()),((),(0:Int),(0:Int),(),()),(bs.map Ty.enc,k,i,(),()),acc.map Tm.enc,())) (args[j].binds.map Ty.enc) args[j].kind args[j].index (args[j].args.map Tm.enc) again:=by
   refine⟨_,ih m' us args[j].binds args[j].kind args[j].index args[j].args n D l u x s y c e qX (WY m' VG) yJ.1.1 yJ.2.1.1 yJ.2.1.2 yJ.1.2 yJ.2.2 I0 jE hn hnB hD2,fun r q ⟨⟨l',u',x',s',y',c',e',e2,Sl⟩,t',e1,MU,_⟩=>⟨l',u',x',0,s',y',c',e',_,_,_,_,⟨e1,e2⟩,rfl,mQ (fun z hz=>by simp at hz;subst hz;rfl) (by simp[Dl];omega) (by decide),rfl,?_⟩⟩;have VI:=sA m' args[j];rw[aV (by omega),Tm.kS];refine bY (j+1,(dw (bJ f) us n D m' args[j]).1,l',u',x',s',y',c',e',acc++[t']) ⟨aq,Sl,VG.trans VI,by simp[Dl],pre++[(dw (bJ f) us n D m' args[j]).2],?_,fun h0=>?_⟩ (by simp only;omega)
   ·rw[hgo,F4 aq,al3,am0]
   ·rw[bu (VI.ok h0),MU h0];rfl
  exact⟨by omega,by rw[alm];omega,_,_,_,_,Tm.bb aq,uI,uI⟩
 ·have je:args.length<=j:=by simpa using h
  have tA:j=args.length:=by omega
  subst tA;rw[List.drop_length,cO,ame] at hgo;rw[hgo] at hlen Yu ⊢;simp only at hlen Yu;have adu:m'.err=0->acc=pre:=bu;have fin:∀(i':Int) (T:Mt×Tm),T.1=m'->(m'.err=0->T.2=.mk [] k i' pre)->∃r2,aB (.agg [.sl (bs.map Ty.enc),nI k,nI i',.sl (acc.map Tm.enc)]) r2/\tm bs.length T.1 (.mk bs T.2.kind T.2.index T.2.args) r2 (zQ l u x s y c e):=by
   intro i' T h1 h2;refine⟨_,aB.refl _,⟨l,u,x,s,y,c,e,rfl,by rw[h1];exact qX⟩,.mk bs k i' acc,rfl,fun h0=>?_,alp _⟩;rw[h1] at h0;rw[h2 h0,adu h0];rfl
  unfold FY
  by_cases h0:m'.err=0
  ·rw[if_neg (by simp[h0])];have KE:=adu h0;obtain⟨q1,q2⟩:=Yu h0;refine ag.intro (fun h=>?_) fun h=>?_
   ·have h1:¬k=0:=by simpa using h
    rw[if_pos (.inl h1)];exact⟨rfl,fin i _ rfl fun _=>rfl⟩
   ·have h1:k=0:=by simpa using h
    refine ag.intro (fun h=>?_) fun h=>?_
    ·have h2:i<D:=of_decide_eq_true h;rw[if_pos (.inr h2)];exact⟨rfl,fin i _ rfl fun _=>rfl⟩
    ·have h2:¬i<D:=of_decide_eq_false h;rw[if_neg (fun h=>h.elim (fun h=>h h1) h2)];have qD:=hi.2;have K2:IntKind.wrap .i64 (i-(D:Int))=i-D:=aT (by omega) (by omega);have hw2:IntKind.wrap .i64 ((n:Int)-((List.length (us.map Tm.enc):Nat):Int))=(n:Int)-us.length:=by rw[alm];exact aT (by omega) (by omega)
     have hw3:IntKind.wrap .i64 ((n:Int)-1)=(n:Int)-1:=aT (by omega) (by omega);rw[K2,hw2];refine ag.intro (fun h=>?_) fun h=>?_
     ·have h3:i-(D:Int)<(n:Int)-us.length:=of_decide_eq_true h;rw[if_neg (by omega),if_pos (by omega)];exact⟨rfl,fin i _ rfl fun _=>rfl⟩
     ·have h3:¬i-(D:Int)<(n:Int)-us.length:=of_decide_eq_false h;refine ag.intro (fun h=>?_) fun h=>?_
      ·have h4:i-(D:Int)>=n:=of_decide_eq_true h;rw[if_pos (by omega)];have hw4:IntKind.wrap .i64 (i-((List.length (us.map Tm.enc):Nat):Int))=i-us.length:=by rw[alm];exact aT (by omega) (by omega)
       rw[hw4];exact⟨rfl,fin _ _ rfl fun _=>rfl⟩
      ·have h4:¬i-(D:Int)>=n:=of_decide_eq_false h;rw[if_neg (by omega),if_neg (by omega)];rw[hw3];have hw5:IntKind.wrap .i64 ((n:Int)-1-(i-(D:Int)))=((n-1-(i-D).toNat:Nat):Int):=by rw[aT (by omega) (by omega)];omega
       have hw6:IntKind.wrap .i64 (IntKind.wrap .i64 ((D:Int)+n)-((List.length (us.map Tm.enc):Nat):Int))=((D+n-us.length:Nat):Int):=by
        rw[alm,aT (n:=(D:Int)+n) (by omega) (by omega),aT (by omega) (by omega)];omega
       rw[hw5,hw6];have aq:n-1-(i-D).toNat<us.length:=by omega
       generalize hv:n-1-(i-D).toNat=v at aq;have CV:bR us i n D=us[v].lift (D+n-us.length) 0:=by
        unfold bR;rw[hv,amG,alo aq];rfl
       have Wu:=tl (b:=D+n-us.length) hB (jE _ (alH aq)) (Tm.lK.1 I0 _ (alH aq));rw[<-CV] at Wu;refine⟨by omega,by rw[alm];omega,_,_,_,_,Tm.bb aq,_,_,_,_,Wu,rfl,?_⟩;refine ag.intro (fun h=>?_) fun h=>⟨rfl,?_⟩
       ·have h5:(bR us i n D).binds.length≠pre.length:=by rw[<-KE];intro e;apply (show ¬_ from by simpa using h);omega
        rw[if_pos h5];refine⟨_,gv 1,fun r q ⟨e1,e2⟩=>⟨l,u,x,0,s,y,c,_,⟨e1,e2⟩,?_⟩⟩;rw[if_pos (by rw[he];exact h0)];exact iw ⟨l,u,x,s,y,c,1,rfl,qX.failed c (by decide) (fun h=>by simp at h)⟩ (by simp)
       ·have h5:¬(bR us i n D).binds.length≠pre.length:=by
         have h6:((bR us i n D).binds.length:Int)=acc.length:=by simpa using h
         rw[<-KE];omega
        rw[if_neg h5];have Yv:=adt m' (bR us i n D) acc l u x s y c e qX (WY m' VG) (AQ I0 i n D) (fun _=>by
         rw[KE];refine⟨q2,fun t ht=>?_⟩;have h1:=Tm.yA ht;have h2:=qX.yD
         omega) (by omega)
        rw[KE] at Yv ⊢;have hp:iU f m' (bR us i n D) pre=((bJ f m' (bR us i n D).kind (bR us i n D).index (bR us i n D).args pre (bR us i n D).binds.length 0).1,.mk ((bR us i n D).binds.drop pre.length) (bJ f m' (bR us i n D).kind (bR us i n D).index (bR us i n D).args pre (bR us i n D).binds.length 0).2.kind (bJ f m' (bR us i n D).kind (bR us i n D).index (bR us i n D).args pre (bR us i n D).binds.length 0).2.index (bJ f m' (bR us i n D).kind (bR us i n D).index (bR us i n D).args pre (bR us i n D).binds.length 0).2.args):=by
         unfold iU;rw[if_neg (by simp[h0]),if_neg (by simp at h5;omega)]
        rw[hp] at Yv;generalize bJ f m' (bR us i n D).kind (bR us i n D).index (bR us i n D).args pre (bR us i n D).binds.length 0=T at Yv;refine⟨_,Yv,fun r q ⟨⟨l',u',x',s',y',c',e',e2,Sl⟩,t',e1,MU,_⟩=>⟨l',u',x',0,s',y',c',e',_,_,_,_,⟨e1,e2⟩,?_⟩⟩;refine⟨_,aB.refl _,⟨l',u',x',s',y',c',e',rfl,Sl⟩,.mk bs t'.kind t'.index t'.args,rfl,fun h0=>?_,alp _⟩;rw[MU h0];rfl
  ·rw[if_pos h0];have stop:∀(i':Int) (a:List Tm),∃r2,aB (.agg [.sl (bs.map Ty.enc),nI k,nI i',.sl (a.map Tm.enc)]) r2/\tm bs.length m' (.mk bs cA.kind cA.index cA.args) r2 (zQ l u x s y c e):=fun i' a=>
    ⟨_,aB.refl _,⟨l,u,x,s,y,c,e,rfl,qX⟩,.mk bs k i' a,rfl,fun h=>(h0 h).elim,alp _⟩
   have Ab:¬e=0:=by rw[he];exact h0
   refine ag.intro (fun h=>⟨rfl,stop i acc⟩) fun h=>?_;refine ag.intro (fun h=>⟨rfl,stop i acc⟩) fun h2=>?_;have h2:¬i<D:=of_decide_eq_false h2;have qD:=hi.2;have K2:IntKind.wrap .i64 (i-(D:Int))=i-D:=aT (by omega) (by omega);have hw2:IntKind.wrap .i64 ((n:Int)-((List.length (us.map Tm.enc):Nat):Int))=(n:Int)-us.length:=by rw[alm];exact aT (by omega) (by omega)
   have hw3:IntKind.wrap .i64 ((n:Int)-1)=(n:Int)-1:=aT (by omega) (by omega);rw[K2,hw2];refine ag.intro (fun h=>⟨rfl,stop i acc⟩) fun h3=>?_;have h3:¬i-(D:Int)<(n:Int)-us.length:=of_decide_eq_false h3;refine ag.intro (fun h=>⟨rfl,stop _ acc⟩) fun h4=>?_;have h4:¬i-(D:Int)>=n:=of_decide_eq_false h4;rw[hw3];have hw5:IntKind.wrap .i64 ((n:Int)-1-(i-(D:Int)))=((n-1-(i-D).toNat:Nat):Int):=by rw[aT (by omega) (by omega)];omega
   have hw6:IntKind.wrap .i64 (IntKind.wrap .i64 ((D:Int)+n)-((List.length (us.map Tm.enc):Nat):Int))=((D+n-us.length:Nat):Int):=by
    rw[alm,aT (n:=(D:Int)+n) (by omega) (by omega),aT (by omega) (by omega)];omega
   rw[hw5,hw6];have aq:n-1-(i-D).toNat<us.length:=by omega
   generalize hv:n-1-(i-D).toNat=v at aq;have Wu:=tl (b:=D+n-us.length) hB (jE _ (alH aq)) (Tm.lK.1 I0 _ (alH aq));have adv:=Tm.Cy (b:=D+n-us.length) 0 (Tm.lK.1 I0 _ (alH aq));refine⟨by omega,by rw[alm];omega,_,_,_,_,Tm.bb aq,_,_,_,_,Wu,rfl,?_⟩;generalize us[v].lift (D+n-us.length) 0=g at adv;refine ag.intro (fun h=>?_) fun h=>⟨rfl,?_⟩
   ·refine⟨_,gv 1,fun r q ⟨e1,e2⟩=>⟨l,u,x,0,s,y,c,_,⟨e1,e2⟩,?_⟩⟩;rw[if_neg Ab];exact iw ⟨l,u,x,s,y,c,e,rfl,qX⟩ h0
   ·have Yv:=adt m' g acc l u x s y c e qX (fun h=>(h0 h).elim) adv (fun h=>(h0 h).elim) (by omega);rw[show iU f m' g acc=(m',cA) from by unfold iU;rw[if_pos h0]] at Yv;refine⟨_,Yv,fun r q ⟨⟨l',u',x',s',y',c',e',e2,Sl⟩,t',e1,MU,_⟩=>⟨l',u',x',0,s',y',c',e',_,_,_,_,⟨e1,e2⟩,?_⟩⟩;exact⟨_,aB.refl _,⟨l',u',x',s',y',c',e',rfl,Sl⟩,.mk bs t'.kind t'.index t'.args,rfl,fun h=>(h0 h).elim,alp _⟩
theorem adw {B:Nat} (hB:B<=1000000):∀f,Sk B f
 |0=>L8 hB
 |f+1=>L9 hB (adw hB f)
theorem agV {B:Nat} (hB:B<=1000000) (f:Nat):ads B f:=KD hB (adw hB f)
def KF:List Tm->List Ty->Prop
 | [],[]=>True
 |t::l,u::us=>t.binds=u.args/\KF l us
 |_,_=>False
mutual
theorem lf {S:Nat} {c m:List Ty} (hS:S<=1000):∀(r:Rw) (st:Mt) (x:List Ty) (u:Ty),Rw.qB S c m x r u->r.Ok->(Rw.dX c m st x r).1.err=0->
  Form S st (Rw.dX c m st x r).1 (Rw.dX c m st x r).2/\(Rw.dX c m st x r).2.binds=u.args
 | .mk k t i l,st,x,u,dZ,hk,he=>by
  obtain⟨eJ,Hw,SZ⟩:=hk;rw[Rw.qB] at dZ;obtain⟨hu,dZ⟩:=dZ;rw[Rw.dX] at he ⊢;split at he
  ·rename_i h;exact(h he).elim
  rename_i h;rw[if_neg h]
  by_cases h3:k=3
  ·rw[if_pos h3] at he dZ ⊢;obtain⟨ht,v,rfl,hl⟩:=dZ;obtain⟨a,rfl,ha⟩:=AO hl;have hh:=(KB t _).ok he;have ih:=pN hS [a] st (x++[t]) [v] hl SZ hh;have e:(Rw.dY c m st (x++[t]) [a]).2=[(Rw.dX c m st (x++[t]) a).2]:=by rw[Rw.dY,Rw.dY]
   unfold CA at he ⊢;generalize (Rw.dX c m st (x++[t]) a).2=b at e;generalize Rw.dY c m st (x++[t]) [a]=q at ih he hh e;obtain⟨qm,ql⟩:=q;simp only at e;subst e;rw[if_neg (by simpa using hh)];obtain⟨i1,i2,i3⟩:=ih;obtain⟨i4,_⟩:=i3;have oG:=Tm.ld.1 i2.1;simp only[Tm.eU] at i1;rw[b.iv] at i1;refine⟨⟨?_,Tm.ld.2 ⟨⟨?_,?_⟩,oG.2.1,?_⟩⟩,?_⟩
   ·show (Tm.mk _ _ _ b.args).nodes+st.count<=_;rw[Tm.nodes];omega
   ·show Ty.sizes (t::b.binds)<=_;rw[i4,Ty.sizes];rw[Ty.arrow,Ty.size,am0,Ty.sizes] at hu;omega
   ·exact oG.1.2
   ·exact oG.2.2
   ·show t::b.binds=_;rw[i4];rfl
  ·rw[if_neg h3] at he dZ ⊢
   by_cases h4:k=4
   ·rw[if_pos h4] at he dZ ⊢;obtain⟨v,hl⟩:=dZ;obtain⟨f,a,rfl,hf,ha⟩:=AP hl;have hh:=(KC _).ok he;obtain⟨i1,i2,i3⟩:=pN hS [f,a] st x _ hl SZ hh;have e:∃p q,(Rw.dY c m st x [f,a]).2=[p,q]:=⟨_,_,by rw[Rw.dY,Rw.dY,Rw.dY]⟩;obtain⟨p,b,e⟩:=e;unfold vS at he ⊢;generalize Rw.dY c m st x [f,a]=q at i1 i2 i3 he hh e;obtain⟨qm,ql⟩:=q;simp only at e;subst e;rw[if_neg (by simpa using hh)] at he ⊢;have:=L3 (B:=S) i2.1 (us:=[b]) ⟨i2.2.1,True.intro⟩ he;refine⟨⟨?_,this.lo⟩,?_⟩
    ·have hn:(iU 100001 qm p [b]).2.nodes+qm.count<=(iU 100001 qm p [b]).1.count:=this.nodes;show (iU 100001 qm p [b]).2.nodes+_<=(iU 100001 qm p [b]).1.count;simp only at i1;omega
    ·show (iU 100001 qm p [b]).2.binds=u.args;have he:(iU 100001 qm p [b]).1.err=0:=he;unfold iU at he ⊢;split at he
     ·rename_i h;exact(h he).elim
     rename_i h;rw[if_neg h];split at he
     ·cases he
     rename_i h2;rw[if_neg h2];show p.binds.drop 1=u.args;rw[i3.1];rfl
   ·rw[if_neg h4] at he dZ ⊢;obtain⟨hh,rfl⟩:=dZ;unfold FZ at he ⊢;rw[hh] at he ⊢;simp only[al1] at he ⊢;have hu':=Mt.yF u.size st;split at he
    ·rename_i h5;have:=hu'.1.2 he;rw[h5] at this;cases this
    ·rename_i h5;rw[if_neg h5];have h5:(st.dI u.size).2=true:=by simpa using h5
     have:=hu'.2 h5;exact⟨⟨by show (qA k i u).nodes+st.count<=(Mt.dI u.size st).1.count;rw[yG];omega,KA u k i eJ Hw hu (by omega)⟩,by rw[wy];rfl⟩
theorem pN {S:Nat} {c m:List Ty} (hS:S<=1000):∀(l:List Rw) (st:Mt) (x us:List Ty),Rw.ox S c m x l us->Rw.MT l->(Rw.dY c m st x l).1.err=0->
  Tm.eU (Rw.dY c m st x l).2+st.count<=(Rw.dY c m st x l).1.count/\Tm.yC S (Rw.dY c m st x l).2/\KF (Rw.dY c m st x l).2 us
 | [],st,x,[],_,_,_=>⟨by simp[Rw.dY,Tm.eU],True.intro,True.intro⟩
 |r::l,st,x,u::us,dZ,hk,he=>by
  rw[Rw.dY] at he ⊢;simp only at he ⊢;have h1:=lf hS r st x u dZ.1 hk.1 ((Rw.tk c m l _ x).ok he);have h2:=pN hS l _ x us dZ.2 hk.2 he;have:=h1.1.nodes;exact⟨by rw[Tm.eU];omega,⟨h1.1.lo,h2.2.1⟩,h1.2,h2.2.2⟩
 | [],_,_,_::_,h,_,_=>h.elim
 |_::_,_,_,[],h,_,_=>h.elim
end
theorem Ma {x y:AV} {n:Int} (h:aB x y):aB (.av [x,nI n]) (.av [y,nI n]):=aB.av ⟨h,aB.refl _,True.intro⟩
theorem F6 {m:Mt} {t t':Tm} {l u x s y c e:Int} (hm:vT m l u x y c e) (ht:m.err=0->t'=t) (h:m.err=0->t.size<=500000000/\t.Ok):
  aG Tryz.prog 182 [.ptr 1 0,.agg [.sl (t'.binds.map Ty.enc),nI t'.kind,nI t'.index,.sl (t'.args.map Tm.enc)]] (zQ l u x s y c e)
   (fun r hp'=>L6 (gI (m,t)).1 hp'/\r=.av [.agg [.sl ((gI (m,t)).2.binds.map Ty.enc),nI (gI (m,t)).2.kind,nI (gI (m,t)).2.index,.sl ((gI (m,t)).2.args.map Tm.enc)],nI (gI (m,t)).1.err]):=by
 have he:=hm.err;have zero:∀{m':Mt} {n:Int} {hp':List ab},L6 m' hp'->m'.err=n->gI (m,t)=(m',cA)->∃r2,aB (.av [.agg [.ae (.slice none 0 0),nI 0,nI 0,.ae (.slice none 0 0)],nI n]) r2/\(L6 (gI (m,t)).1 hp'/\r2=.av [.agg [.sl ((gI (m,t)).2.binds.map Ty.enc),nI (gI (m,t)).2.kind,nI (gI (m,t)).2.index,.sl ((gI (m,t)).2.args.map Tm.enc)],nI (gI (m,t)).1.err]):=by
  intro m' n hp' h1 h2 h3;rw[h3];exact⟨_,Ma rK,h1,by rw[<-h2];rfl⟩
 refine aG.L4 (QY (ag.intro (fun h0=>?_) fun h0=>?_))
 ·have Ab:e=0:=by simpa using h0
  have qt:m.err=0:=by rw[<-he];exact Ab
  obtain⟨hs,hk⟩:=h qt;rw[ht qt];have YL:=HY (t:=t) (by omega) hk;rw[Tm.ax] at YL;refine⟨_,s7 hs,ag.intro (fun h1=>?_) fun h1=>?_⟩
  ·have h1:qO 0 (t.pre 0 1)=false:=by simpa using h1
   refine⟨_,gv 2,fun r q ⟨e1,e2⟩=>⟨l,u,x,0,s,y,c,_,⟨e1,e2⟩,?_⟩⟩;rw[if_pos Ab];refine ag.pos rfl ?_;exact zero (m':=⟨m.left,m.count,2⟩) ⟨l,u,x,s,y,c,2,rfl,hm.failed c (by decide) (fun h=>by simp at h)⟩ rfl (by unfold gI;rw[if_neg (by simp[qt]),if_neg (by rw[h1];simp)])
  ·have h1:qO 0 (t.pre 0 1)=true:=by simpa using h1
   refine ag.neg (by rw[Ab];rfl) ⟨_,_,_,_,YL,?_⟩;have hd:gI (m,t)=(m,t):=by unfold gI;rw[if_neg (by simp[qt]),if_pos h1]
   rw[hd];refine⟨_,aB.refl _,⟨l,u,x,s,y,c,e,rfl,hm⟩,?_⟩;rw[qt]
 ·have Ab:¬e=0:=by simpa using h0
  have qt:m.err≠0:=by rw[<-he];exact Ab
  refine ag.pos (by simp[Ab]) ?_;exact zero (m':=m) ⟨l,u,x,s,y,c,e,rfl,hm⟩ he.symm (by unfold gI;rw[if_pos qt])
theorem Sm {c m x:List Ty} {k i:Int} {t u:Ty} {l:List Rw} (h3:¬k=3) (h4:¬k=4) (h:Rw.Typ c m x (.mk k t i l) u):cu c m x k i=some u:=by
 rw[Rw.Typ,if_neg h3,if_neg h4] at h;exact h.1
theorem Mb {c m x:List Ty} {i:Int} {u:Ty} (h:cu c m x 0 i=some u):0<=i/\i<x.length:=by
 unfold cu at h;split at h
 ·cases h
 ·rw[if_pos rfl] at h;split at h
  ·omega
  ·cases h
theorem F7 {S:Nat} {b:Int} {c m:List Ty} (hc:∀t∈c,t.size<=S) (hm:∀t∈m,t.size<=S) (hS:S<=1000):
  ∀(n:Nat) (r:Rw) (st:Mt) (x:List Ty) (ty:Ty) (l u d s y cn e:Int),r.total<=n->r.total<=100000000->Rw.qB S c m x r ty->r.Ok->r.shaped=true->(∀t∈x,t.size<=S)->x.length+r.depth<=1000->vT st l u d y cn e->
  aG Tryz.prog 183 [.ptr 1 0,.agg [nI b,.sl (c.map Ty.enc),.sl (m.map Ty.enc)],.sl (x.map Ty.enc),.agg [nI r.kind,.sl (r.type.args.map Ty.enc),nI r.type.base,nI r.index,.sl (r.kids.map Rw.enc)]] (zQ l u d s y cn e)
   (tm (S+r.total) (Rw.dX c m st x r).1 (Rw.dX c m st x r).2):=by
 intro n
 induction n with
 |zero=>intro r st x ty l u d s y cn e h;have:=r.gG;omega
 |succ n ih=>
  intro r st x ty l u d s y cn e hn hrS dZ al tC hx hxl Yw;have he:=Yw.err;have hrt:=r.kZ;obtain⟨k,t,i,kids⟩:=r;simp only[Rw.B2,Rw.Vy,Rw.xZ,Rw.Ce] at hrt ⊢;have ma:∀r∈kids,r.depth<(Rw.mk k t i kids).depth:=fun r hr=>Rw.Iv hr;obtain⟨eJ,Hw,SZ⟩:=al;refine aG.L4 (QZ (ag.intro (fun h=>?_) fun h=>?_))
  ·have h0:¬e=0:=by simpa using h
   have qt:st.err≠0:=by rw[<-he];exact h0
   rw[Rw.dX,if_pos qt];exact iw ⟨l,u,d,s,y,cn,e,rfl,Yw⟩ qt
  have h0:e=0:=by simpa using h
  have qt:st.err=0:=by rw[<-he];exact h0
  rw[Rw.dX,if_neg (by simp[qt])];refine ag.intro (fun h=>?_) fun h=>?_
  ·have h3:k=3:=by simpa using h
   rw[if_pos h3];rw[Rw.qB,if_pos h3] at dZ;obtain⟨_,htS,v,hv,dZ⟩:=dZ;obtain⟨a,rfl,hta⟩:=AO dZ;have hda:=ma a (by simp);have hsa:a.shaped=true:=by
    rw[Rw.uf,Rw.Ce,show Rw.cS [a]=(a.shaped&&Rw.cS []) from Rw.nQ (l:=[a]) (k:=0) (by simp)] at tC;simp only[aln] at tC;exact tC.2.1
   have Kn:Rw.dL [a]=a.total:=by simp[Rw.dL]
   have htz:=t.size_pos;rw[Kn] at hrt;have hi:=ih a st (x++[t]) v l u d s y cn e (by omega) (by omega) hta SZ.1 hsa (fun w hw=>(amc.1 hw).elim (hx w) fun h=>by rw[alG.1 h];exact htS) (by rw[alA,amt];omega) Yw;have zk:[AV.agg [.sl (t.args.map Ty.enc),nI t.base]]=[t].map Ty.enc:=wx t;rw[ami,<-zk] at hi;have hL:xU (x.map Ty.enc) (t.args.map Ty.enc) t.base b (c.map Ty.enc) (m.map Ty.enc) a.kind (a.type.args.map Ty.enc) a.type.base a.index (a.kids.map Rw.enc) l u d 0 s y cn e (fun r hp'=>∃r2,aB r r2/\tm (S+(Rw.mk k t i [a]).total) (CA t (Rw.dY c m st (x++[t]) [a])).1 (CA t (Rw.dY c m st (x++[t]) [a])).2 r2 hp'):=by
    refine⟨rfl,_,hi,fun r q ⟨⟨l',u',d',s',y',c',e',e2,qX⟩,t',e1,MU,DK⟩=>⟨l',u',d',0,s',y',c',e',_,_,_,_,⟨e1,e2⟩,?_⟩⟩;have uH:=fV (ll:=[[t],t'.binds]) (by simp) (by simp;omega);simp only[er,alQ,ama,amU,amX,ame] at uH;rw[Ty.ax] at uH;refine⟨_,uH,_,aB.refl _,?_⟩;rw[Rw.dY,Rw.dY];have vG:(CA t ((Rw.dX c m st (x++[t]) a).1,[(Rw.dX c m st (x++[t]) a).2])).1=(Rw.dX c m st (x++[t]) a).1:=by unfold CA;split<;>rfl
    refine⟨(by rw[vG];exact⟨l',u',d',s',y',c',e',rfl,qX⟩),.mk (t::t'.binds) t'.kind t'.index t'.args,?_,fun h0=>?_,?_⟩
    ·simp only[Tm.sX,Tm.B2,Tm.xZ,Tm.jb,alQ,Ty.ax,am0,amR,amw]
    ·simp only at h0 ⊢;rw[vG] at h0;rw[MU h0];unfold CA;rw[if_neg (by simp[h0])];rfl
    ·rw[Tm.sX,als,Rw.total,Kn];omega
   have Nj:∀{dd:TD},dd.size=2->dd.bytes<=1000->aZ dd (List.length (x.map Ty.enc++[.agg [.sl (t.args.map Ty.enc),nI t.base]])) (x.map Ty.enc) [.agg [.sl (t.args.map Ty.enc),nI t.base]]:=fun hz hd=>
    jm (fun z SQ=>by rw[hz];exact Ty.kr z SQ) (fun z SQ=>by simp at SQ;subst SQ;rw[hz];rfl) (by simp;omega) hd
   refine⟨_,vf,by omega,by simp,_,_,_,_,_,Rw.bb (l:=[a]) (k:=0) (by simp),⟨fun h=>by simp at h,Nj rfl (by decide),hL,hL⟩,⟨fun h=>by simp at h,Nj rfl (by decide),hL⟩⟩
  have h3:¬k=3:=by simpa using h
  rw[if_neg h3];refine ag.intro (fun h=>?_) fun h=>?_
  ·have h4:k=4:=by simpa using h
   rw[if_pos h4];rw[Rw.qB,if_neg h3,if_pos h4] at dZ;obtain⟨_,v,dZ⟩:=dZ;obtain⟨f,a,rfl,htf,hta⟩:=AP dZ;have hdf:=ma f (by simp);have hda:=ma a (by simp);have adx:f.shaped=true/\a.shaped=true:=by
    rw[Rw.uf,Rw.Ce,show Rw.cS [f,a]=(f.shaped&&Rw.cS [a]) from Rw.nQ (l:=[f,a]) (k:=0) (by simp),show Rw.cS [a]=(a.shaped&&Rw.cS []) from Rw.nQ (l:=[a]) (k:=0) (by simp)] at tC;simp only[aln] at tC;exact⟨tC.2.1,tC.2.2.1⟩
   have Kn:Rw.dL [f,a]=f.total+a.total:=by simp[Rw.dL]
   have htz:=t.size_pos;have hfp:=f.gG;have Nj:=a.gG;rw[Kn] at hrt;have hf1:=ih f st x _ l u d s y cn e (by omega) (by omega) htf SZ.1 adx.1 hx (by omega) Yw;have akk:=Rw.wA c m f st x;have hff:=fun h=>(lf hS f st x _ htf SZ.1 h).1;have hL:xV b (c.map Ty.enc) (m.map Ty.enc) (x.map Ty.enc) f.kind (f.type.args.map Ty.enc) f.type.base f.index (f.kids.map Rw.enc) l u d 0 s y cn e ([f,a].map Rw.enc) (fun r hp'=>∃r2,aB r r2/\tm (S+(Rw.mk k t i [f,a]).total) (vS (Rw.dY c m st x [f,a])).1 (vS (Rw.dY c m st x [f,a])).2 r2 hp'):=by
    refine⟨_,hf1,fun r q ⟨⟨l',u',d',s',y',c',e',e2,qX⟩,tf,e1,VJ,akl⟩=>⟨l',u',d',0,s',y',c',e',_,_,_,_,⟨e1,e2⟩,by omega,by simp,_,_,_,_,_,Rw.bb (l:=[f,a]) (k:=1) (by simp),?_⟩⟩;have ha1:=ih a (Rw.dX c m st x f).1 x _ l' u' d' s' y' c' e' (by omega) (by omega) hta SZ.2.1 adx.2 hx (by omega) qX;have VI:=Rw.wA c m a (Rw.dX c m st x f).1 x;have haf:=fun h=>(lf hS a (Rw.dX c m st x f).1 x _ hta SZ.2.1 h).1;simp only[Rw.dY];have hL2:ua b (c.map Ty.enc) (m.map Ty.enc) (x.map Ty.enc) a.kind (a.type.args.map Ty.enc) a.type.base a.index (a.kids.map Rw.enc) l' u' d' 0 s' y' c' e'
      (fun r hp'=>∃r2,aB r r2/\tm (S+(Rw.mk k t i [f,a]).total) (vS ((Rw.dX c m (Rw.dX c m st x f).1 x a).1,[(Rw.dX c m st x f).2,(Rw.dX c m (Rw.dX c m st x f).1 x a).2])).1 (vS ((Rw.dX c m (Rw.dX c m st x f).1 x a).1,[(Rw.dX c m st x f).2,(Rw.dX c m (Rw.dX c m st x f).1 x a).2])).2 r2 hp') (tf.binds.map Ty.enc) tf.kind tf.index (tf.args.map Tm.enc):=by
     refine⟨_,ha1,fun r q ⟨⟨l2,u2,d2,s2,y2,c2,UX,e2,qU⟩,ta,e1,VK,_⟩=>⟨l2,u2,d2,0,s2,y2,c2,UX,_,_,_,_,⟨e1,e2⟩,?_⟩⟩;have GB:=qU.err;generalize hm3:(Rw.dX c m (Rw.dX c m st x f).1 x a).1=M at *;refine ag.intro (fun h=>?_) fun h=>?_
     ·have h5:¬UX=0:=by simpa using h
      have hM:M.err≠0:=by rw[<-GB];exact h5
      have:vS (M,[(Rw.dX c m st x f).2,(Rw.dX c m (Rw.dX c m st x f).1 x a).2])=(M,cA):=by unfold vS;rw[if_pos hM]
      rw[this];exact iw ⟨l2,u2,d2,s2,y2,c2,UX,rfl,qU⟩ hM
     ·have h5:UX=0:=by simpa using h
      have hM:M.err=0:=by rw[<-GB];exact h5
      have hF:=VI.ok hM;have hff:=hff hF;have haf:=haf hM;have VJ:=VJ hF;have VK:=VK hM;generalize (Rw.dX c m (Rw.dX c m st x f).1 x a).2=TA at haf VK ⊢;generalize (Rw.dX c m st x f).2=TF at hff VJ ⊢;subst VJ;subst VK;have:vS (M,[tf,ta])=iU 100001 M tf [ta]:=by unfold vS;rw[if_neg (by simp[hM])];rfl
      rw[this];have hq:=hff.nodes;have hq2:=haf.nodes;have hp:=agV (B:=2*S) (by omega) 100001 M tf [ta] l2 u2 d2 s2 y2 c2 UX qU (fun _=>by omega) (Tm.Cx (by omega) hff.lo) (fun _=>⟨⟨Tm.Cx (by omega) haf.lo,True.intro⟩,fun t ht=>by
       rw[alG.1 ht];have:=qU.yD
       omega⟩) (by omega)
      have zk:AV.clip [.agg [.sl (ta.binds.map Ty.enc),nI ta.kind,nI ta.index,.sl (ta.args.map Tm.enc)]]=.clip ([ta].map Tm.enc):=by rw[alQ,ama,Tm.ax]
      refine⟨_,aG.args (by rw[zk];exact⟨aB.refl _,aB.refl _,L5 _,True.intro⟩) hp,fun r q ⟨⟨l3,u3,d3,s3,y3,c3,e3',e2,hm3⟩,tp,e1,ZN,akm⟩=>⟨l3,u3,d3,0,s3,y3,c3,e3',_,_,_,_,⟨e1,e2⟩,_,aB.refl _,⟨l3,u3,d3,s3,y3,c3,e3',rfl,hm3⟩,tp,rfl,ZN,?_⟩⟩;rw[Rw.total,Kn];omega
    exact⟨hL2,hL2⟩
   exact⟨by omega,by simp,_,_,_,_,_,Rw.bb (l:=[f,a]) (k:=0) (by simp),hL,hL⟩
  ·have h4:¬k=4:=by simpa using h
   rw[if_neg h4];have hh:=Sm h3 h4 dZ.Ym;have bO:ty.size<=S:=(rB hh).elim (hx _) fun h=>h.elim (hc _) (hm _);have hht:=pC (b:=b) (c:=c) (m:=m) (x:=x) (k:=k) Hw (by omega) (fun t ht=>by rw[hh] at ht;obtain rfl:=alj ht;omega);rw[hh] at hht;have adA:=Ik ty.size ty k i (alp _) (by omega) (fun h=>by subst h;have:=Mb hh;omega);rw[Ty.ax,Tm.ax] at adA;refine⟨_,_,_,hht,_,pA (t:=ty) (by omega),_,rM ty.size (by omega) Yw,fun r q ⟨e1,l',u',d',s',y',c',e',e2,qX⟩=>⟨l',u',d',0,s',y',c',e',_,⟨e1,e2⟩,?_⟩⟩;unfold FZ;rw[hh,al1];have hu:=Mt.yF ty.size st;refine ag.intro (fun h=>?_) fun h=>?_
   ·have h5:(st.dI ty.size).2=false:=by simpa using h
    rw[if_pos h5];exact iw ⟨l',u',d',s',y',c',e',rfl,qX⟩ (fun h=>by have:=hu.1.2 h;rw[h5] at this;cases this)
   ·have h5:(st.dI ty.size).2=true:=by simpa using h
    rw[if_neg (by rw[h5];simp)];refine⟨_,_,_,_,adA,_,aB.refl _,⟨l',u',d',s',y',c',e',rfl,qX⟩,qA k i ty,rfl,fun _=>rfl,?_⟩;rw[wy,Tm.sX];have:=Ty.aY ty.args;have:=ty.size_eq;omega
theorem zR {b:Int} {c m:List Ty} {t:Ty} (h:t.size<=500000000):af Tryz.prog 226 [.agg [.sl (t.args.map Ty.enc),nI t.base],.aJ (.agg [nI b,.sl (c.map Ty.enc),.sl (m.map Ty.enc)]) 0] (nB (!(t.cy b))):=
 Q0 ⟨_,kf h,rfl⟩
theorem CE {b:Int} {c m l:List Ty} (h:Ty.sizes l<=500000000):af Tryz.prog 106 [.sl (l.map Ty.enc),.bf 226 [.aJ (.agg [nI b,.sl (c.map Ty.enc),.sl (m.map Ty.enc)]) 0]] (nI (fj b 0 l)):=by
 have hl:=Ty.aY l;refine BS ⟨rfl,?_⟩;refine ay.intro (fun k:Nat=>((l.map Ty.enc,((),()),(l.length:Int),(k:Int),()),())) (fun k=>k<=l.length/\fj b 0 l=fj b k (l.drop k)) (fun k=>l.length-k) 0 (by rw[alm];rfl) ⟨aly _,rfl⟩ ?_;intro k ⟨hk,hs⟩ again bY;dsimp only;rw[alm];refine ag.intro (fun h=>?_) fun h=>?_
 ·have aq:k<l.length:=by simpa using h
  rw[alw aq,fj] at hs;refine⟨by omega,by omega,_,_,Ty.bb aq,_,zR (by have:=Ty.dP (alH aq);omega),ag.intro (fun h=>?_) fun h=>⟨rfl,?_⟩⟩
  ·rw[hs,if_neg (by simpa using h)]
  ·rw[if_pos (by simpa using h)] at hs;rw[aV (by omega)];exact bY (k+1) ⟨by omega,hs⟩ (by omega)
 ·have:l.length<=k:=by simpa using h
  rw[alC this] at hs;rw[hs];rfl
def jr (b:Int) (c m x:List Ty):Bool:=(!(decide (fj b 0 (c++m)>=0)))&&(decide (x.length<=900)&&!(decide (fj b 0 x>=0)))
theorem CF {b:Int} {c m x:List Ty} (hc:c.length<=500) (hm:m.length<=500) (h:Ty.sizes (c++m)<=500000000) (hx:Ty.sizes x<=500000000):
  af Tryz.prog 181 [.agg [nI b,.sl (c.map Ty.enc),.sl (m.map Ty.enc)],.sl (x.map Ty.enc)] (nB (jr b c m x)):=by
 refine Q1 ⟨_,ui hc hm h,ag.intro (fun h1=>?_) fun h1=>?_⟩
 ·refine ag.intro (fun h2=>⟨_,vN ⟨_,CE hx,rfl⟩,?_⟩) fun h2=>?_
  ·rw[jr,h1,al2,decide_eq_true (by have:=of_decide_eq_true h2;rw[alm] at this;omega),al2]
  ·rw[jr,h1,al2,decide_eq_false (by have:=of_decide_eq_false h2;rw[alm] at this;omega),amn]
 ·rw[jr,h1,amn]
def Rw.inf (b:Int) (c m x:List Ty) (r:Rw):Ty×Int:=if r.cy=true then r.infer b c m x else(ku,1)
def jK (b:Int) (c m x:List Ty) (r:Rw) (left:Nat):Mt×Tm:=
 if jr b c m x=false then(⟨left,0,1⟩,cA) else if(r.inf b c m x).2≠0 then(⟨left,0,(r.inf b c m x).2⟩,cA) else gI (Rw.dX c m ⟨left,0,0⟩ x r)
mutual
theorem Rw.F8 (b:Int) (c m:List Ty):∀(r:Rw) (x:List Ty),(r.infer b c m x).2≠11
 | .mk k t i l,x=>by
  rw[Rw.infer];split
  ·split
   ·have:=Rw.uu b c m l (x++[t]);generalize Rw.dE b c m (x++[t]) l=q at this;unfold pD;split
    ·rename_i p l';have hp:=this p alD
     (repeat' split)<;>first|assumption|(simp;done)
    ·decide
   ·decide
  ·split
   ·have:=Rw.uu b c m l x;generalize Rw.dE b c m x l=q at this;unfold nR;split
    ·rename_i p q l';have hp:=this p alD;have hq:=this q (alK _ alD)
     (repeat' split)<;>first|assumption|(simp;done)
    ·decide
   ·unfold lJ
    (repeat' split)<;>simp
theorem Rw.uu (b:Int) (c m:List Ty):∀(l:List Rw) (x:List Ty),∀p∈Rw.dE b c m x l,p.2≠11
 | [],x,p,hp=>by simp[Rw.dE] at hp
 |r::l,x,p,hp=>by
  rw[Rw.dE] at hp;rcases alW.1 hp with rfl|hp
  ·exact Rw.F8 b c m r x
  ·exact Rw.uu b c m l x p hp
end
theorem kh {S:Nat}:∀{l:List Ty},(∀t∈l,t.size<=S)->Ty.sizes l<=l.length*S
 | [],_=>by simp[Ty.sizes]
 |t::l,h=>by
  have h1:=h t alD;have h2:=kh fun u hu=>h u (alK t hu);rw[Ty.sizes,als,amj];omega
structure nX (c m x:List Ty) (r:Rw):Prop where
 hc:∀t∈c,t.size<=1000
 hm:∀t∈m,t.size<=1000
 hx:∀t∈x,t.size<=1000
 cl:c.length<=500
 ml:m.length<=500
 xl:x.length<=1000
 hr:r.total<=90000000
 ok:r.Ok
theorem nX.sizes {c m x:List Ty} {r:Rw} (h:nX c m x r):Ty.sizes (c++m)<=500000000/\Ty.sizes x<=300000000:=by
 have h1:=kh h.hc;have h2:=kh h.hm;have h3:=kh h.hx;have h4:=al6 1000 h.cl;have h5:=al6 1000 h.ml;have h6:=al6 1000 h.xl;rw[Ty.bE];exact⟨by omega,by omega⟩
theorem Mc {x y:AV} {n k:Int} (h:aB x y):aB (.av [x,nI n,nI k]) (.av [y,nI n,nI k]):=aB.av ⟨h,aB.refl _,aB.refl _,True.intro⟩
def Found (L:Mt×Tm) (r:AV) (hp':List ab):Prop:=∃(cnt l u d s y:Int),hp'=[.box (az l u d 0 s y)]/\vl L.1.left l u d y/\(L.1.err=11->y≠0)/\(L.1.err=0->cnt=L.1.count)/\
 r=.av [.agg [.sl (L.2.binds.map Ty.enc),nI L.2.kind,nI L.2.index,.sl (L.2.args.map Tm.enc)],nI cnt,nI L.1.err]
theorem AU {b:Int} {c m x:List Ty} {r:Rw} (ee:nX c m x r):af Tryz.prog 130 [.agg [nI b,.sl (c.map Ty.enc),.sl (m.map Ty.enc)],.sl (x.map Ty.enc),r.enc] (Kq (r.inf b c m x)):=
 FG (b:=b) (fun t ht=>by have:=ee.hc t ht;omega) (fun t ht=>by have:=ee.hm t ht;omega) ee.ok (by have:=ee.sizes;have:=ee.hr;omega)
theorem F9 {b:Int} {c m x:List Ty} {r:Rw} {left:Nat} {l u d s y:Int} (ee:nX c m x r) (hb:vl left l u d y):
  aG Tryz.prog 110 [.agg [nI b,.sl (c.map Ty.enc),.sl (m.map Ty.enc)],.sl (x.map Ty.enc),.agg [nI r.kind,.sl (r.type.args.map Ty.enc),nI r.type.base,nI r.index,.sl (r.kids.map Rw.enc)],.ptr 0 0] [.box (az l u d 0 s y)] (Found (jK b c m x r left)):=by
 have bO:=ee.sizes;have hi:=AU (b:=b) ee;rw[Rw.ax] at hi;have zero:∀(e:Int),e≠0->e≠11->jK b c m x r left=(⟨left,0,e⟩,cA)->∃r2,aB (.av [.agg [.ae (.slice none 0 0),nI 0,nI 0,.ae (.slice none 0 0)],nI 0,nI e]) r2/\Found (jK b c m x r left) r2 [.box (az l u d 0 s y)]:=by
  intro e he GB h;rw[h];exact⟨_,Mc rK,0,l,u,d,s,y,rfl,hb,fun h=>(GB h).elim,fun h=>(he h).elim,rfl⟩
 refine aG.L4 (Q2 ⟨_,CF (by have:=ee.cl;omega) (by have:=ee.ml;omega) bO.1 (by omega),ag.intro (fun h=>?_) fun h=>?_⟩)
 ·have h:jr b c m x=false:=by simpa using h
  exact zero 1 (by decide) (by decide) (by unfold jK;rw[if_pos h])
 have h1:jr b c m x=true:=by simpa using h
 have hL:jK b c m x r left=if(r.inf b c m x).2≠0 then(⟨left,0,(r.inf b c m x).2⟩,cA) else gI (Rw.dX c m ⟨left,0,0⟩ x r):=by unfold jK;rw[if_neg (by rw[h1];simp)]
 refine⟨_,_,_,hi,ag.intro (fun h=>?_) fun h=>?_⟩
 ·have h2:(r.inf b c m x).2≠0:=by simpa using h
  refine zero _ h2 ?_ (by rw[hL,if_pos h2]);unfold Rw.inf;split
  ·exact Rw.F8 b c m r x
  ·decide
 have h2:(r.inf b c m x).2=0:=by simpa using h
 rw[hL,if_neg (by simp[h2])];have Md:r.cy=true:=by
  cases Md:r.cy with
  |true=>rfl
  |false=>rw[Rw.inf,Md] at h2;simp at h2
 have tC:r.shaped=true:=by rw[Rw.cy,aln] at Md;exact Md.1
 have dZ:Rw.qB 1000 c m x r (r.infer b c m x).1:=rH b c m r x _ tC (by
  rw[Rw.inf,if_pos Md] at h2
  rw[<-h2])
 have Yw:vT ⟨left,0,0⟩ l u d y 0 0:=⟨hb,rfl,aly _,fun _=>rfl,fun h=>by simp at h⟩;have akn:r.depth<=60:=by rw[Rw.cy,aln,aln,decide_eq_true_eq,decide_eq_true_eq] at Md;exact Md.2.2
 have hx9:x.length<=900:=by unfold jr at h1;simp only[aln,decide_eq_true_eq] at h1;exact h1.2.1
 have WZ:=F7 (b:=b) ee.hc ee.hm (alp _) _ r ⟨left,0,0⟩ x _ l u d s y 0 0 (alp _) (by have:=ee.hr;omega) dZ ee.ok tC ee.hx (by omega) Yw;have qP:=fun h=>(lf (alp _) r ⟨left,0,0⟩ x _ dZ ee.ok h).1;generalize Rw.dX c m ⟨left,0,0⟩ x r=Q at WZ qP;refine⟨_,WZ,fun r1 q ⟨⟨l1,u1,d1,s1,y1,c1,e1',e2,MF⟩,t1,e1,ht1,_⟩=>⟨l1,u1,d1,0,s1,y1,c1,e1',_,_,_,_,⟨e1,e2⟩,?_⟩⟩;have Jz:=F6 (s:=s1) MF ht1 (fun h0=>by
  have hf:=qP h0;have hn:=hf.nodes;have adB:=MF.yD;have hs:=Tm.Cz hf.lo;have:Q.2.nodes*(1+1000)<=100000*1001:=amT (by omega) (by omega)
  exact⟨by omega,Tm.Ky hf.lo⟩)
 rw[show (Q.1,Q.2)=Q from rfl] at Jz;refine⟨_,Jz,fun r2 q ⟨⟨l2,u2,d2,s2,y2,c2,UX,e2,qU⟩,e1⟩=>⟨l2,u2,d2,0,s2,y2,c2,UX,_,_,_,_,_,⟨e1,e2⟩,?_⟩⟩;exact⟨_,aB.refl _,c2,l2,u2,d2,s2,y2,rfl,qU.bud,qU.fuel,qU.count,rfl⟩
def Yx (L:Mt×Tm) (r:AV) (hp':List ab):Prop:=∃l u d s y,hp'=[.box (az l u d 0 s y)]/\vl L.1.left l u d y/\(L.1.err=11->y≠0)/\
 r=.av [.agg [.sl (L.2.binds.map Ty.enc),nI L.2.kind,nI L.2.index,.sl (L.2.args.map Tm.enc)],nI L.1.err]
theorem Ga {b:Int} {c m x:List Ty} {r:Rw} {left:Nat} {l u d s y:Int} (ee:nX c m x r) (hb:vl left l u d y):
  aG Tryz.prog 64 [.agg [nI b,.sl (c.map Ty.enc),.sl (m.map Ty.enc)],.sl (x.map Ty.enc),.agg [nI r.kind,.sl (r.type.args.map Ty.enc),nI r.type.base,nI r.index,.sl (r.kids.map Rw.enc)],.ptr 0 0] [.box (az l u d 0 s y)] (Yx (jK b c m x r left)):=
 U9 ⟨_,F9 ee hb,fun r1 q ⟨cnt,l1,u1,d1,s1,y1,e2,vG,hf,hc,e1⟩=>⟨l1,u1,d1,0,s1,y1,_,_,_,_,_,_,⟨e1,e2⟩,l1,u1,d1,s1,y1,rfl,vG,hf,rfl⟩⟩
theorem Me {n:Nat} (hn:n<=1000000):aG Tryz.prog 65 [nI n] [] (fun r hp'=>r=.ptr 0 0/\hp'=[.box (az n 0 0 0 0 0)]):=
 (VE n []).mono fun r hp' ⟨e1,e2⟩=>⟨e1,by rw[e2,if_neg (by omega)];rfl⟩
theorem Gb {n:Nat} (hn:n<=1000000):vl n n 0 0 0:=⟨rfl,by decide,by omega,Iff.rfl,fun h=>(h rfl).elim⟩
def Yy (t:Tm) (e:Int):AV:=.av [.agg [.sl (t.binds.map Ty.enc),nI t.kind,nI t.index,.sl (t.args.map Tm.enc)],nI e]
theorem Mf {b:Int} {c m x:List Ty} {r:Rw} (ee:nX c m x r):
  af Tryz.prog 20 [.agg [nI b,.sl (c.map Ty.enc),.sl (m.map Ty.enc)],.sl (x.map Ty.enc),.agg [nI r.kind,.sl (r.type.args.map Ty.enc),nI r.type.base,nI r.index,.sl (r.kids.map Rw.enc)]] (Yy (jK b c m x r 100000).2 (jK b c m x r 100000).1.err):=
 Va ⟨_,Me (n:=100000) (by omega),fun r1 q ⟨e1,e2⟩=>⟨_,_,_,_,_,_,⟨e1,e2⟩,_,Ga ee (Gb (by omega)),fun r2 q2 ⟨l1,u1,d1,s1,y1,e2,vG,hf,e1⟩=>⟨l1,u1,d1,0,s1,y1,_,_,_,_,_,⟨e1,e2⟩,rfl⟩⟩⟩
section
structure Mn where
 base:Bool
 kind:Int
 idx:Int
def Mn.val (x:Mn):Value:=.agg #[.bool x.base,.int .i64 x.kind,.int .i64 x.idx]
def agY:Mn:=⟨false,0,0⟩
abbrev Mg:=List (ByteArray×Mn)
def cv (l:Mg):List (ByteArray×Value):=l.map fun p=>(p.1,p.2.val)
def tn:Mg->ByteArray->Option Mn
 | [],_=>none
 |(k,v)::r,a=>if a=k then some v else tn r a
def Iz:Mg->ByteArray->Mn->Mg
 | [],a,v=>[(a,v)]
 |(k,u)::r,a,v=>if a=k then(k,v)::r else(k,u)::Iz r a v
theorem uv (a:ByteArray):∀l:Mg,au (cv l) a=(tn l a).map Mn.val
 | []=>rfl
 |(k,v)::r=>by
  show (if a=k then some v.val else au (cv r) a)=(if a=k then some v else tn r a).map Mn.val;split
  ·rfl
  ·exact uv a r
theorem AW (a:ByteArray) (v:Mn):∀l:Mg,cd (cv l) a v.val=cv (Iz l a v)
 | []=>rfl
 |(k,u)::r=>by
  show (if a=k then(k,v.val)::cv r else(k,u.val)::cd (cv r) a v.val)=cv (if a=k then(k,v)::r else(k,u)::Iz r a v);split
  ·rfl
  ·rw[AW a v r];rfl
def ze (l:Mg) (a:ByteArray):Mn:=(tn l a).getD agY
theorem wB (a:ByteArray) (l:Mg):Option.getD (au (cv l) a) p6=(ze l a).val:=by
 rw[uv,ze]
 cases tn l a<;>rfl
theorem qg (a:ByteArray) (l:Mg):Option.isSome (au (cv l) a)=(tn l a).isSome:=by
 rw[uv]
 cases tn l a<;>rfl
structure CG where
 name:ByteArray
 left:Tm
 right:Tm
structure VL where
 kind:Int
 num:Int
 left:Tm
 right:Tm
 of_:Int
structure Mk where
 aK:List ByteArray
 consts:List (ByteArray×Ty)
 bn:List ByteArray
 types:List Ty
 eqs:List CG
 rules:List CG
 prec:List (Int×Int)
 status:List (Int×Int)
 cX:List VL
 words:Mg
 fault:Fa
def Mh:Mk:=⟨[],[],[],[],[],[],[],[],[],[],pz⟩
def adC:CG:=⟨⟨#[]⟩,cA,cA⟩
def jL (m:Mk):Bool:=m.fault.1==0
section
variable (s:ByteArray)
def vm (c a:Int) (m:Mk):Mk:=if jL m=true then { m with fault:=Ib s c a.toNat (B9 (s.extract a.toNat s.size)) } else m
def cx (b:Bool) (c a:Int) (m:Mk):Mk:=if b=true then m else vm s c a m
def Gc (w:ByteArray) (x:Mn) (m:Mk):Mk:=if jL m=true then { m with words:=Iz m.words w x } else m
def jM (w:ByteArray) (x:Mn) (a:Int) (m:Mk):Mk:=Gc w x (cx s (!(tn m.words w).isSome) 4 a m)
def yK (m:Mk) (w:ByteArray):Bool:=(tn m.words w).isSome&&(ze m.words w).base
def yL (m:Mk) (w:ByteArray):Bool:=(tn m.words w).isSome&&!(ze m.words w).base
def isConst (m:Mk) (w:ByteArray):Bool:=(tn m.words w).isSome&&(!(ze m.words w).base&&(ze m.words w).kind==1)
def Mi (a b:Ty):Ty:=.mk (a::b.args) b.base
def dp:Nat->Nd->Mk->Ty×Mk
 |0,_,m=>(ku,m)
 |f+1,n,m=>if n.kind=1 then(.mk [] (ze m.words n.word).idx,cx s (yK m n.word) 4 n.at_ m)
  else match n.kids with
   |x::y::_=>(Mi (dp f x m).1 (dp f y (dp f x m).2).1,(dp f y (dp f x m).2).2)
   |_=>(ku,m)
def vU (n:Nd) (r:Ty×Mk):Mk:=if jL r.2=true then cx s (r.1.cy r.2.aK.length) 2 n.at_ r.2 else r.2
def lr (n:Nd) (m:Mk):Ty×Mk:=
 (if jL (vU s n (dp s n.size n m))=true then(dp s n.size n m).1 else ku,vU s n (dp s n.size n m))
def Gd (w:ByteArray) (l:List ByteArray):Nat->Option Nat
 |0=>none
 |k+1=>if l.getD k ⟨#[]⟩=w then some (l.length-1-k) else Gd w l k
def yM (n:Nd) (bound:List ByteArray) (m:Mk):Rw×Mk:=
 match Gd n.word bound bound.length with
 |some j=>(lb 0 (j:Int),m)
 |none=>(lb (ze m.words n.word).kind (ze m.words n.word).idx,cx s (yL m n.word) 4 n.at_ m)
def gm:Nat->Nd->List ByteArray->Mk->Rw×Mk
 |0,_,_,m=>(lb 0 0,m)
 |f+1,n,bound,m=>if jL m=false then(lb 0 0,m)
  else if n.kind=1 then yM s n bound m
  else match n.kids with
   |x::y::_=>if n.kind=3 then(.mk 3 (lr s x m).1 0 [(gm f y (bound++[n.word]) (lr s x m).2).1],(gm f y (bound++[n.word]) (lr s x m).2).2)
    else(.mk 4 ku 0 [(gm f x bound m).1,(gm f y bound (gm f x bound m).2).1],(gm f y bound (gm f x bound m).2).2)
   |_=>(lb 0 0,m)
def cT (m:Mk):List Ty:=m.consts.map (·.2)
def Mj (m:Mk) (r:Rw):Int:=if(r.inf m.aK.length (cT m) m.types []).2=1 then 2 else(r.inf m.aK.length (cT m) m.types []).2
def qQ (m:Mk) (r:Rw):Tm×Int:=if Mj m r=0 then((jK m.aK.length (cT m) m.types [] r 100000).2,(jK m.aK.length (cT m) m.types [] r 100000).1.err) else(cA,Mj m r)
def AX (n:Nd) (r:Rw×Mk):(Tm×Ty)×Mk:=
 if jL r.2=true then(((qQ r.2 r.1).1,(r.1.inf r.2.aK.length (cT r.2) r.2.types []).1),cx s ((qQ r.2 r.1).2==0) (qQ r.2 r.1).2 n.at_ r.2) else((cA,ku),r.2)
def fD (n:Nd) (m:Mk):(Tm×Ty)×Mk:=AX s n (gm s n.size n [] m)
def agZ (x y:Nd) (base:Bool) (a b:Tm×Ty) (m:Mk):Mk:=cx s (a.2.same b.2) 5 y.at_ (cx s (!base||a.2.args.length==0) 5 x.at_ m)
def lZ (x y:Nd) (base:Bool) (m:Mk):(Tm×Tm)×Mk:=
 (((fD s x m).1.1,(fD s y (fD s x m).2).1.1),agZ s x y base (fD s x m).1 (fD s y (fD s x m).2).1 (fD s y (fD s x m).2).2)
def qR (n:Nat) (a:Int) (m:Mk):Mk:=cx s (decide ((n:Int)<200)) 2 a m
def iy (w:ByteArray) (l:List CG):Bool:=l.any fun e=>decide (e.name=w)
def Sn (t:Tm):Bool:=(t.uses [] []).isSome
def eqF (x:It) (r:(Tm×Tm)×Mk):Mk:=if jL r.2=true then cx s (Sn r.1.1||(x.kind==4&&Sn r.1.2)) 6 x.at_ r.2 else r.2
def fG (x:It) (k:Nat):ByteArray:=x.words.getD k ⟨#[]⟩
def dF (x:It) (k:Nat):Nd:=x.nodes.getD k zM
def YY (x:It) (m:Mk):CG×Mk:=
 if jL m=true then(⟨fG x 0,(lZ s (dF x 0) (dF x 1) true m).1.1,(lZ s (dF x 0) (dF x 1) true m).1.2⟩,eqF s x (lZ s (dF x 0) (dF x 1) true m)) else(adC,m)
def Ml (x:It) (m:Mk):CG×Mk:=YY s x (cx s (!(iy (fG x 0) m.eqs)&&!(iy (fG x 0) m.rules)) 4 x.at_ m)
def fP (w:ByteArray) (a:Int) (m:Mk):Int×Mk:=((ze m.words w).idx,cx s (isConst m w) 4 a m)
def eV (a:Int):List ByteArray->Mk->List Int×Mk
 | [],m=>([],m)
 |w::l,m=>((fP s w a m).1::(eV a l (fP s w a m).2).1,(eV a l (fP s w a m).2).2)
def eW:List Int->List (Int×Int)
 |a::b::l=>(a,b)::eW (b::l)
 |_=>[]
def So (l:List Int) (a:Int) (m:Mk):Mk:=cx s (!(l.any fun c=>kU m.prec c c)) 8 a m
def IA (l:List Int) (a:Int) (m:Mk):Mk:=if jL m=true then So s l a { m with prec:=m.prec++eW l } else m
def CH (x:It) (m:Mk):Mk:=
 IA s (eV s x.at_ x.words m).1 x.at_ (cx s (decide (((eV s x.at_ x.words m).1.length:Int)-1<=200-((eV s x.at_ x.words m).2.prec.length:Int))) 2 x.at_ (eV s x.at_ x.words m).2)
abbrev VM:ByteArray:=⟨#[108,101,120]⟩
abbrev VN:ByteArray:=⟨#[109,117,108]⟩
def Ge (w:ByteArray):Int:=uk w [VM,VN] 0
def Sp (x:It) (c:Int) (m:Mk):Mk:=
 { cx s (decide (Ge (fG x 1)>=0)) 3 x.at_ m with status:=m.status++[(c,Ge (fG x 1))] }
def Gf (x:It) (m:Mk):Mk:=
 Sp s x (fP s (fG x 0) x.at_ m).1 (cx s (!((fP s (fG x 0) x.at_ m).2.status.any fun p=>p.1==(fP s (fG x 0) x.at_ m).1)) 4 x.at_ (fP s (fG x 0) x.at_ m).2)
def nY (w:ByteArray):List CG->Nat->Int
 | [],_ => -1
 |e::l,k=>if e.name=w then(k:Int) else nY w l (k+1)
def IB (c:VL) (m:Mk):Mk:={ m with cX:=m.cX++[c] }
def VO (x:It) (m:Mk):Mk:=
 if jL m=false then m
 else if x.kind=9 then IB ⟨x.kind,x.num,(fD s (dF x 0) m).1.1,cA,0⟩ (fD s (dF x 0) m).2
 else if x.kind=10 then IB ⟨x.kind,x.num,(lZ s (dF x 0) (dF x 1) false m).1.1,(lZ s (dF x 0) (dF x 1) false m).1.2,0⟩ (lZ s (dF x 0) (dF x 1) false m).2
 else if x.kind=12 then IB ⟨x.kind,x.num,cA,cA,nY (fG x 0) m.eqs 0⟩ (cx s (decide (nY (fG x 0) m.eqs 0>=0)) 4 x.at_ m)
 else IB ⟨x.kind,x.num,cA,cA,0⟩ m
def VP (x:It) (m:Mk):Mk:=VO s x (qR s m.cX.length x.at_ m)
def Gg (w:ByteArray) (m:Mk):Mk:={ m with aK:=m.aK++[w] }
def rN (a:Int):List ByteArray->Mk->Mk
 | [],m=>m
 |w::l,m=>rN a l (Gg w (jM s w ⟨true,0,m.aK.length⟩ a m))
def IC (x:It) (m:Mk):Mk:=if jL m=true then { (lr s (dF x 0) m).2 with consts:=m.consts++[(fG x 0,(lr s (dF x 0) m).1)] } else m
def Yz (x:It) (m:Mk):Mk:=if jL m=true then { (lr s (dF x 0) { m with bn:=m.bn++[fG x 0] }).2 with types:=m.types++[(lr s (dF x 0) { m with bn:=m.bn++[fG x 0] }).1] } else m
def eqP (x:It) (m:Mk):Mk:=if jL m=true then { (Ml s x m).2 with eqs:=m.eqs++[(Ml s x m).1] } else m
def Sq (x:It) (m:Mk):Mk:=if jL m=true then { (Ml s x m).2 with rules:=m.rules++[(Ml s x m).1] } else m
def qS (x:It) (m:Mk):Mk:=
 if x.kind=1 then rN s x.at_ x.words m
 else if x.kind=2 then IC s x (jM s (fG x 0) ⟨false,1,m.consts.length⟩ x.at_ m)
 else if x.kind=3 then Yz s x (jM s (fG x 0) ⟨false,2,m.bn.length⟩ x.at_ m)
 else if x.kind=4 then eqP s x (qR s m.eqs.length x.at_ m)
 else if x.kind=5 then Sq s x (qR s m.rules.length x.at_ m)
 else if x.kind=6 then CH s x m
 else if x.kind=7 then Gf s x m
 else VP s x m
def uw:List It->Mk->Mk
 | [],m=>m
 |x::l,m=>if jL (qS s x m)=true then uw l (qS s x m) else qS s x m
end
def YA (m:Mk):Mk×Fa:=if jL m=true then(m,pz) else(Mh,m.fault)
def pO (s:ByteArray):Mk×Fa:=if(dM s).2.1=0 then YA (uw s (dM s).1 Mh) else(Mh,(dM s).2)
end
section
abbrev cr (l:List (ByteArray×Ty)):List AV:=l.map fun p=>.agg [nS p.1,.sl (p.2.args.map Ty.enc),nI p.2.base]
abbrev aE (l:List CG):List AV:=l.map fun e=>.agg [nS e.name,.sl (e.left.binds.map Ty.enc),nI e.left.kind,nI e.left.index,.sl (e.left.args.map Tm.enc),.sl (e.right.binds.map Ty.enc),nI e.right.kind,nI e.right.index,.sl (e.right.args.map Tm.enc)]
abbrev bH (l:List VL):List AV:=l.map fun c=>.agg [nI c.kind,nI c.num,.sl (c.left.binds.map Ty.enc),nI c.left.kind,nI c.left.index,.sl (c.left.args.map Tm.enc),.sl (c.right.binds.map Ty.enc),nI c.right.kind,nI c.right.index,.sl (c.right.args.map Tm.enc),nI c.of_]
abbrev MO (s:ByteArray) (m:Mk):List ab:=bz (m.aK.map nS) (cr m.consts) (m.bn.map nS) (aE m.eqs) (aE m.rules) (aD m.prec) (aD m.status) (bH m.cX) (m.types.map Ty.enc) (cv m.words) s m.fault.1 m.fault.2.1 m.fault.2.2.1 m.fault.2.2.2
abbrev MR (s:ByteArray) (x:AV) (m:Mk):AV->List ab->Prop:=R5 x (MO s m)
abbrev KH (t:Ty):AV:=.agg [.sl (t.args.map Ty.enc),nI t.base]
abbrev MV (t:Tm):AV:=.agg [.sl (t.binds.map Ty.enc),nI t.kind,nI t.index,.sl (t.args.map Tm.enc)]
abbrev Sr (r:Rw):AV:=.agg [nI r.kind,.sl (r.type.args.map Ty.enc),nI r.type.base,nI r.index,.sl (r.kids.map Rw.enc)]
def ID (s:ByteArray) (a:Int):Prop:=0<=a/\a<(s.size:Int)
variable {s w:ByteArray} {m m':Mk} {f:Nat} {a:List AV} {H:List ab}
section
variable {N0:List AV->List AV->List AV->List AV->List AV->List AV->List AV->List AV->List AV->List (ByteArray×Value)->ByteArray->Int->Int->Int->ByteArray->Prop}
theorem oA (h:aG Tryz.prog f a H (fun r q=>r=.av []/\q=MO s m')) (hn:N0 (m'.aK.map nS) (cr m'.consts) (m'.bn.map nS) (aE m'.eqs) (aE m'.rules) (aD m'.prec) (aD m'.status) (bH m'.cX) (m'.types.map Ty.enc) (cv m'.words) s m'.fault.1 m'.fault.2.1 m'.fault.2.2.1 m'.fault.2.2.2):ek f a H N0:=
 ⟨_,h,fun r q ⟨e1,e2⟩=>⟨_,_,_,_,_,_,_,_,_,_,_,_,_,_,_,⟨e1,e2⟩,hn⟩⟩
end
section
variable {N0:List AV->List AV->List AV->List AV->List AV->List AV->List AV->List AV->List AV->List (ByteArray×Value)->ByteArray->Int->Int->Int->ByteArray->Bool->Prop} {b:Bool}
theorem GD (h:aG Tryz.prog f a H (fun r q=>r=nB b/\q=MO s m')) (hn:N0 (m'.aK.map nS) (cr m'.consts) (m'.bn.map nS) (aE m'.eqs) (aE m'.rules) (aD m'.prec) (aD m'.status) (bH m'.cX) (m'.types.map Ty.enc) (cv m'.words) s m'.fault.1 m'.fault.2.1 m'.fault.2.2.1 m'.fault.2.2.2 b):iH f a H N0:=
 ⟨_,h,fun r q ⟨e1,e2⟩=>⟨_,_,_,_,_,_,_,_,_,_,_,_,_,_,_,_,⟨e1,e2⟩,hn⟩⟩
end
section
variable {N0:List AV->List AV->List AV->List AV->List AV->List AV->List AV->List AV->List AV->List (ByteArray×Value)->ByteArray->Int->Int->Int->ByteArray->Int->Prop} {b:Int}
theorem mcI (h:aG Tryz.prog f a H (fun r q=>r=nI b/\q=MO s m')) (hn:N0 (m'.aK.map nS) (cr m'.consts) (m'.bn.map nS) (aE m'.eqs) (aE m'.rules) (aD m'.prec) (aD m'.status) (bH m'.cX) (m'.types.map Ty.enc) (cv m'.words) s m'.fault.1 m'.fault.2.1 m'.fault.2.2.1 m'.fault.2.2.2 b):OT f a H N0:=
 ⟨_,h,fun r q ⟨e1,e2⟩=>⟨_,_,_,_,_,_,_,_,_,_,_,_,_,_,_,_,⟨e1,e2⟩,hn⟩⟩
end
section
variable {N0:List AV->List AV->List AV->List AV->List AV->List AV->List AV->List AV->List AV->List (ByteArray×Value)->ByteArray->Int->Int->Int->ByteArray->List AV->Int->Prop} {t:Ty}
theorem VQ (h:aG Tryz.prog f a H (fun r q=>r=KH t/\q=MO s m')) (hn:N0 (m'.aK.map nS) (cr m'.consts) (m'.bn.map nS) (aE m'.eqs) (aE m'.rules) (aD m'.prec) (aD m'.status) (bH m'.cX) (m'.types.map Ty.enc) (cv m'.words) s m'.fault.1 m'.fault.2.1 m'.fault.2.2.1 m'.fault.2.2.2 (t.args.map Ty.enc) t.base):lS f a H N0:=
 ⟨_,h,fun r q ⟨e1,e2⟩=>⟨_,_,_,_,_,_,_,_,_,_,_,_,_,_,_,_,_,⟨e1,e2⟩,hn⟩⟩
end
section
variable {N0:List AV->List AV->List AV->List AV->List AV->List AV->List AV->List AV->List AV->List (ByteArray×Value)->ByteArray->Int->Int->Int->ByteArray->Int->List AV->Int->Int->List AV->Prop} {x:Rw}
theorem mcR (h:aG Tryz.prog f a H (fun r q=>r=Sr x/\q=MO s m')) (hn:N0 (m'.aK.map nS) (cr m'.consts) (m'.bn.map nS) (aE m'.eqs) (aE m'.rules) (aD m'.prec) (aD m'.status) (bH m'.cX) (m'.types.map Ty.enc) (cv m'.words) s m'.fault.1 m'.fault.2.1 m'.fault.2.2.1 m'.fault.2.2.2 x.kind (x.type.args.map Ty.enc) x.type.base x.index (x.kids.map Rw.enc)):kq f a H N0:=
 ⟨_,h,fun r q ⟨e1,e2⟩=>⟨_,_,_,_,_,_,_,_,_,_,_,_,_,_,_,_,_,_,_,_,⟨e1,e2⟩,hn⟩⟩
end
theorem cw:aG Tryz.prog 33 [.ptr 10 0] (MO s m) (fun r q=>r=nB (jL m)/\q=MO s m):=Vb ⟨rfl,rfl⟩
theorem Gi {c a:Int} (hs:s.size<=1000000000) (ha:ID s a):aG Tryz.prog 191 [.ptr 10 0,nI c,nI a] (MO s m) (fun r q=>r=.av []/\q=MO s (vm s c a m)):=by
 obtain⟨n,rfl⟩:∃n:Nat,a=n:=⟨a.toNat,by have:=ha.1;omega⟩;have hn:n<s.size:=by have:=ha.2;omega
 refine Rc (GD cw (ag.intro (fun h=>?_) fun h=>?_))
 ·have h:jL m=false:=by simpa using h
  rw[vm,if_neg (by rw[h];decide)];exact⟨rfl,rfl⟩
 ·have h:jL m=true:=by simpa using h
  rw[vm,if_pos h];refine⟨_,_,_,lU (i:=n) (by omega) hs,⟨by omega,by omega,by omega⟩,_,Ca ?_ ?_,rfl,rfl⟩
  ·rw[amY];simp only[ams];omega
  ·rw[amY];simp only[ams];omega
theorem aU {b:Bool} {c a:Int} (hs:s.size<=1000000000) (ha:ID s a):aG Tryz.prog 118 [.ptr 10 0,nB b,nI c,nI a] (MO s m) (fun r q=>r=.av []/\q=MO s (cx s b c a m)):=by
 refine Rd (ag.intro (fun h=>?_) fun h=>?_)
 ·have h:b=false:=by simpa using h
  rw[cx,if_neg (by rw[h];decide)];exact oA (Gi hs ha) ⟨rfl,rfl⟩
 ·have h:b=true:=by simpa using h
  rw[cx,if_pos h];exact⟨rfl,rfl⟩
theorem VR (l:Mg) (w:ByteArray):Option.getD (au (cv l) w) p6=.agg #[.bool (NI (Option.getD (au (cv l) w) p6)),.int .i64 (NJ (Option.getD (au (cv l) w) p6)),.int .i64 (Hh (Option.getD (au (cv l) w) p6))]:=by
 rw[wB];rfl
theorem pP {x:Mn} {a:Int} (hs:s.size<=1000000000) (ha:ID s a):aG Tryz.prog 88 [.ptr 10 0,nS w,.agg [nB x.base,nI x.kind,nI x.idx],nI a] (MO s m) (fun r q=>r=.av []/\q=MO s (jM s w x a m)):=by
 refine Vc ⟨VR _ _,?_⟩;rw[qg];refine oA (aU hs ha) (GD cw (ag.intro (fun h=>?_) fun h=>?_))
 ·have h:jL _=true:=h;rw[jM,Gc,if_pos h];refine⟨rfl,?_⟩;show bz _ _ _ _ _ _ _ _ _ (cd (cv _) w x.val) _ _ _ _ _=_;rw[AW]
 ·have h:jL _=false:=h;rw[jM,Gc,if_neg (by rw[h];decide)];exact⟨rfl,rfl⟩
def KI (s:ByteArray):Nat->Nd->Bool
 |0,_=>false
 |k+1,n=>(decide (0<=n.at_)&&decide (n.at_<(s.size:Int)))&&(n.kind==1||match n.kids with
  |x::y::_=>KI s k x&&KI s k y
  |_=>false)
theorem Ss {k:Nat} {n:Nd} (h:KI s k n=true):ID s n.at_:=by
 cases k with
 |zero=>cases h
 |succ k=>rw[KI,aln,aln] at h;exact⟨of_decide_eq_true h.1.1,of_decide_eq_true h.1.2⟩
theorem VS {k:Nat} {n:Nd} (h:KI s (k+1) n=true) (hk:n.kind≠1):∃x y l,n.kids=x::y::l/\KI s k x=true/\KI s k y=true:=by
 rw[KI,aln,al7] at h;have h2:=h.2.resolve_left (by simpa using hk);revert h2;split
 ·rename_i x y l e;intro h2;rw[aln] at h2;exact⟨x,y,l,e,h2⟩
 ·intro h2;cases h2
theorem Mm (a b:Ty):(Mi a b).size=a.size+b.size:=by rw[Mi,Ty.size_eq,Ty.jb,Ty.sizes,Ty.size_eq b];omega
theorem lg:∀(k:Nat) (n:Nd) (m:Mk),(dp s k n m).1.size<=n.size
 |0,n,m=>by have:=n.size_pos;rw[dp];simpa [Ty.size,Ty.sizes] using this
 |k+1,n,m=>by
  have h0:=n.size_pos;rw[dp];split
  ·simpa [Ty.size,Ty.sizes] using h0
  ·split
   ·rename_i x y l e;have h1:=lg k x m;have h2:=lg k y (dp s k x m).2;have h3:=n.size_eq;rw[e,Nd.sizes,Nd.sizes] at h3;show (Mi _ _).size<=_;rw[Mm];omega
   ·simpa [Ty.size,Ty.sizes] using h0
theorem Su {n x y:Nd} {l:List Nd} (h:n.kids=x::y::l):List.getD (n.kids.map Nd.enc) (Int.toNat 0) .top=gu x/\List.getD (n.kids.map Nd.enc) (Int.toNat 1) .top=gu y/\2<=(n.kids.map Nd.enc).length/\x.size<n.size/\y.size<n.size:=by
 have h3:=n.size_eq;rw[h,Nd.sizes,Nd.sizes] at h3;have:=x.size_pos;have:=y.size_pos;rw[h];exact⟨Nd.ax x,Nd.ax y,by simp,by omega,by omega⟩
theorem pQ (hs:s.size<=1000000000):∀(k:Nat) (n:Nd) (m:Mk),KI s k n=true->n.size<=1000000->aG Tryz.prog 117 [.ptr 10 0,gu n] (MO s m) (fun r q=>r=KH (dp s k n m).1/\q=MO s (dp s k n m).2)
 |0,n,m,h,_=>by cases h
 |k+1,n,m,h,hz=>by
  have ha:=Ss h;refine Re (ag.intro (fun h1=>⟨VR _ _,?_⟩) fun h1=>?_)
  ·have h1:n.kind=1:=by simpa using h1
   rw[dp,if_pos h1,qg,wB];refine ag.intro (fun h2=>?_) fun h2=>?_
   ·have e:yK m n.word=(ze m.words n.word).base:=by unfold yK;rw[h2,al2]
    rw[e];exact oA (aU hs ha) ⟨_,_,nT _,rfl,rfl⟩
   ·have e:yK m n.word=false:=by unfold yK;rw[h2,amn]
    rw[e];exact oA (aU hs ha) ⟨_,_,nT _,rfl,rfl⟩
  ·have h1:¬n.kind=1:=by simpa using h1
   obtain⟨x,y,l,e,hx,hy⟩:=VS h h1;obtain⟨g1,g2,g3,g4,g5⟩:=Su e;have hv:dp s (k+1) n m=(Mi (dp s k x m).1 (dp s k y (dp s k x m).2).1,(dp s k y (dp s k x m).2).2):=by rw[dp,if_neg h1,e]
   rw[hv];refine⟨by omega,by omega,_,_,_,_,g1,VQ (pQ hs k x m hx (by omega)) ⟨by omega,by omega,_,_,_,_,g2,VQ (pQ hs k y _ hy (by omega)) ⟨_,?_,rfl,rfl⟩⟩⟩;have bO:=lg (s:=s) k y (dp s k x m).2;have hq:=Ty.aY (dp s k y (dp s k x m).2).1.args;have hw:=(dp s k y (dp s k x m).2).1.size_eq;have:=fV (ll:=[[(dp s k x m).1],(dp s k y (dp s k x m).2).1.args]) (by simp) (by simp;omega);simpa [er,Ty.ax,Mi,Ty.jb] using this
theorem rO {k:Nat} {n:Nd} (hs:s.size<=1000000000) (h:KI s n.size n=true) (hz:n.size<=1000000):aG Tryz.prog 73 [.ptr 10 0,gu n] (MO s m) (fun r q=>r=KH (lr s n m).1/\q=MO s (lr s n m).2):=by
 have ha:=Ss h;have bO:=lg (s:=s) n.size n m;have hb:=pQ hs n.size n m h hz;unfold lr;generalize dp s n.size n m=p at bO hb;have fin:∀{b:Bool} {m1:Mk},vU s n p=m1->jL m1=b->ag (!b) (MR s (KH (if jL (vU s n p)=true then p.1 else ku)) (vU s n p) (.agg [.ae (.slice none 0 0),nI 0]) (MO s m1)) (MR s (KH (if jL (vU s n p)=true then p.1 else ku)) (vU s n p) (KH p.1) (MO s m1)):=by
  intro b m1 e1 e2;subst e1 e2;refine ag.intro (fun h=>?_) fun h=>?_
  ·rw[if_neg (by simpa using h)];exact⟨aB.agg ⟨bw,aB.refl _,True.intro⟩,rfl⟩
  ·rw[if_pos (by simpa using h)];exact⟨aB.refl _,rfl⟩
 refine aG.Il (Vd (VQ hb (GD cw (ag.intro (fun h1=>⟨rfl,_,kf (by omega),oA (aU hs ha) (GD cw (fin ?_ rfl))⟩) fun h1=>GD cw (fin ?_ rfl)))))
 ·rw[alm,vU,if_pos h1]
 ·rw[vU,if_neg (by rw[h1];decide)]
end
theorem IE {b:Int} {c m x:List Ty} {r:Rw} {left:Nat} (ee:nX c m x r):(jK b c m x r left).2.size<=300000000/\(jK b c m x r left).2.Ok:=by
 have V8:cA.size<=300000000/\cA.Ok:=⟨by simp[cA,Tm.size,Tm.sizes,Ty.sizes],⟨⟨by decide,by decide⟩,⟨by decide,by decide⟩,True.intro⟩⟩;unfold jK;split
 ·exact V8
 ·split
  ·exact V8
  ·rename_i h1 h2;have h2:(r.inf b c m x).2=0:=by simpa using h2
   have Md:r.cy=true:=by
    cases Md:r.cy with
    |true=>rfl
    |false=>rw[Rw.inf,Md] at h2;simp at h2
   have tC:r.shaped=true:=by rw[Rw.cy,aln] at Md;exact Md.1
   have VG:=Rw.wA c m r ⟨left,0,0⟩ x;have oK:r.inf b c m x=r.infer b c m x:=by rw[Rw.inf,if_pos Md]
   have dZ:Rw.qB 1000 c m x r (r.infer b c m x).1:=rH b c m r x _ tC (by rw[oK] at h2;rw[<-h2]);have qP:=fun h=>(lf (alp _) r ⟨left,0,0⟩ x _ dZ ee.ok h).1;generalize Rw.dX c m ⟨left,0,0⟩ x r=Q at VG qP;unfold gI;split
   ·exact V8
   ·rename_i h0;have hf:=qP (by simpa using h0);split
    ·have hn:=hf.nodes;have adB:=VG.yD (by simp only;omega);have hs:=Tm.Cz hf.lo;have:Q.2.nodes*(1+1000)<=100000*1001:=amT (by omega) (by omega);exact⟨by omega,Tm.Ky hf.lo⟩
    ·exact V8
section
variable {s w:ByteArray} {m m':Mk} {f:Nat} {a:List AV} {H:List ab}
def W0 (l:List ByteArray):Nat->List (Nat×ByteArray)
 |0=>[]
 |k+1=>(k,l.getD k ⟨#[]⟩)::W0 l k
theorem VT {l:List ByteArray} {k:Nat} (h:k<l.length):l.getD k ⟨#[]⟩=l[k]:=by simp[List.getD,h]
theorem KJ {l:List ByteArray} {k:Nat} (h:k<l.length):List.getD (l.map nS) (Int.toNat (k:Int)) .top=nS (l.getD k ⟨#[]⟩):=by rw[getD_map h,VT h]
def wdP (p:Nat×ByteArray):List AV:=[nI p.1,nS p.2]
def wdE (p:Nat×ByteArray):Int×ByteArray×Unit:=(p.1,p.2,())
theorem Mo (l:List ByteArray):af Tryz.prog 237 [.sl (l.map nS)] (.bf 260 [.aJ (.sl (l.map nS)) 0]):=Ra rfl
theorem IF {l:List ByteArray} (h:l.length<=1000000000):uQ Tryz.prog 260 (fun v=>[v,.aJ (.sl (l.map nS)) 0]) ((W0 l l.length).map wdP) false:=by
 refine Q9 fun yv more=>⟨rfl,?_⟩;refine ay.intro (fun k:Nat=>(((yv,(),(k:Int)-1,()),()),some ((W0 l k).map wdP++more))) (fun k=>k<=l.length) (fun k=>k) l.length (by rw[alm,aT (by omega) (by omega)]) (alp _) ?_;intro k hk again bY;dsimp only;unfold EU;rw[alm];refine ag.intro (fun h=>?_) fun h=>?_
 ·have h':(k:Int)-1>=0:=of_decide_eq_true h;obtain⟨j,rfl⟩:∃j,k=j+1:=⟨k-1,by omega⟩;have aq:j<l.length:=by omega
  have e:((j+1:Nat):Int)-1=(j:Int):=by omega
  rw[e];refine⟨by omega,by omega,_,KJ aq,rfl,(W0 l j).map wdP++more,rfl,fun b=>ag.intro (fun h=>?_) fun h=>?_⟩
  ·have:b=false:=by simpa using h
   subst this;exact⟨false,rfl⟩
  ·have:b=true:=by simpa using h
   subst this;refine⟨rfl,?_⟩;rw[aT (n:=(j:Int)-1) (by omega) (by omega)];exact bY j (by omega) (by omega)
 ·have h':¬(k:Int)-1>=0:=of_decide_eq_false h;have:k=0:=by omega
  subst this;exact⟨true,rfl⟩
theorem VU {l:List ByteArray} (h:l.length<=1000000000):ou Tryz.prog 260 [.aJ (.sl (l.map nS)) 0] [.v (.c (.i .i64)),.v (.c (.s))] ((W0 l l.length).map wdE):=
 sJ (prm:=[.v (.c (.i .i64)),.v (.c (.s))]) wdE (IF h)
theorem Gj {n:Nd} {bound:List ByteArray} (hs:s.size<=1000000000) (ha:ID s n.at_) (hb:bound.length<=1000000):aG Tryz.prog 202 [.ptr 10 0,gu n,.sl (bound.map nS)] (MO s m) (fun r q=>r=Sr (yM s n bound m).1/\q=MO s (yM s n bound m).2):=by
 refine Rf ⟨Mo bound,rfl,rfl,rfl,rfl,rfl,rfl,rfl,rfl,rfl,?_⟩;unfold yM;generalize hX:Gd n.word bound bound.length=X;refine iQ.xL (fun _:Unit=>(m.aK.map nS,cr m.consts,m.bn.map nS,aE m.eqs,aE m.rules,aD m.prec,aD m.status,bH m.cX,m.types.map Ty.enc,cv m.words,((),(),(),(),(),(),(),(),(),s,(),m.fault.1,m.fault.2.1,m.fault.2.2.1,m.fault.2.2.2,()),(n.kind,n.word,n.at_,n.kids.map Nd.enc,()),(bound.map nS,()),(0,(),0,0,(),()),())) wdE (W0 bound bound.length) (VU (by omega))
  (fun rest _=>∃k,k<=bound.length/\rest=W0 bound k/\Gd n.word bound k=X) () rfl ⟨_,alp _,rfl,hX⟩ (fun g rest _ ⟨k,hk,he,hp⟩ again bY=>?_) fun _ ⟨k,hk,he,hp⟩=>?_
 ·cases k with
  |zero=>cases he
  |succ k=>
   simp only[W0,List.cons.injEq] at he;obtain⟨rfl,rfl⟩:=he;have aq:k<bound.length:=by omega
   rw[Gd] at hp;dsimp only[wdE];rw[eG,alm];refine ag.intro (fun h=>?_) fun h=>?_
   ·have h:bound.getD k ⟨#[]⟩=n.word:=by simpa using h
    rw[if_pos h] at hp;subst hp;rw[aT (n:=(bound.length:Int)-1) (by omega) (by omega),aT (n:=(bound.length:Int)-1-(k:Int)) (by omega) (by omega),show (bound.length:Int)-1-(k:Int)=((bound.length-1-k:Nat):Int) by omega];exact⟨_,_,_,_,_,rC _ _,rfl,rfl⟩
   ·have h:¬bound.getD k ⟨#[]⟩=n.word:=by simpa using h
    rw[if_neg h] at hp;exact⟨rfl,rfl,rfl,rfl,rfl,rfl,rfl,rfl,rfl,bY () ⟨k,by omega,rfl,hp⟩⟩
 ·cases k with
  |succ k=>cases he
  |zero=>
   rw[Gd] at hp;subst hp;refine⟨VR _ _,?_⟩;dsimp only;rw[qg,wB];refine ag.intro (fun h2=>?_) fun h2=>?_
   ·have e:yL m n.word=!(ze m.words n.word).base:=by unfold yL;rw[h2,al2]
    rw[e];exact oA (aU hs ha) ⟨_,_,_,_,_,rC _ _,rfl,rfl⟩
   ·have e:yL m n.word=false:=by unfold yL;rw[h2,amn]
    rw[e];exact oA (aU hs ha) ⟨_,_,_,_,_,rC _ _,rfl,rfl⟩
def yN (s:ByteArray):Nat->Nd->Bool
 |0,_=>false
 |k+1,n=>(decide (0<=n.at_)&&decide (n.at_<(s.size:Int)))&&(n.kind==1||match n.kids with
  |x::y::_=>if n.kind=3 then KI s x.size x&&yN s k y else yN s k x&&yN s k y
  |_=>false)
theorem ux {k:Nat} {n:Nd} (h:yN s k n=true):ID s n.at_:=by
 cases k with
 |zero=>cases h
 |succ k=>rw[yN,aln,aln] at h;exact⟨of_decide_eq_true h.1.1,of_decide_eq_true h.1.2⟩
theorem VV {k:Nat} {n:Nd} (h:yN s (k+1) n=true) (hk:n.kind≠1):∃x y l,n.kids=x::y::l/\yN s k y=true/\(n.kind=3->KI s x.size x=true)/\(n.kind≠3->yN s k x=true):=by
 rw[yN,aln,al7] at h;have h2:=h.2.resolve_left (by simpa using hk);revert h2;split
 ·rename_i x y l e;split
  ·rename_i h3;intro h2;rw[aln] at h2;exact⟨x,y,l,e,h2.2,fun _=>h2.1,fun h=>(h h3).elim⟩
  ·rename_i h3;intro h2;rw[aln] at h2;exact⟨x,y,l,e,h2.2,fun h=>(h3 h).elim,fun _=>h2.1⟩
 ·intro h2;cases h2
theorem Gk {l:List ByteArray}:af Tryz.prog 203 [.sl (l.map nS)] (.clip (l.map nS)):=by
 refine Pure.of_heap (Rb ⟨⟨by omega,by omega,rfl,by omega,fun x hx=>by obtain⟨t,_,rfl⟩:=amg.1 hx;rfl⟩,rfl,?_⟩);simp[alI]
theorem ag2 {k b i:Int} {l:List Ty} {x:Rw}:aB (.agg [nI k,.sl (l.map Ty.enc),nI b,nI i,.clip [Sr x]]) (Sr (.mk k (.mk l b) i [x])):=by
 refine aB.agg ⟨aB.refl _,aB.refl _,aB.refl _,aB.refl _,?_,True.intro⟩;have:[Sr x]=[x].map Rw.enc:=by simp[Rw.ax]
 rw[this];exact fk _
theorem ag3 {k i:Int} {x y:Rw}:aB (.agg [nI k,.ae (.slice none 0 0),nI 0,nI i,.clip [Sr x,Sr y]]) (Sr (.mk k ku i [x,y])):=by
 refine aB.agg ⟨aB.refl _,bw,aB.refl _,aB.refl _,?_,True.intro⟩;have:[Sr x,Sr y]=[x,y].map Rw.enc:=by simp[Rw.ax]
 rw[this];exact fk _
theorem nZ (hs:s.size<=1000000000):∀(k:Nat) (n:Nd) (bound:List ByteArray) (m:Mk),yN s k n=true->n.size+bound.length<=1000000->aG Tryz.prog 129 [.ptr 10 0,gu n,.sl (bound.map nS)] (MO s m) (fun r q=>r=Sr (gm s k n bound m).1/\q=MO s (gm s k n bound m).2)
 |0,n,bound,m,h,_=>by cases h
 |k+1,n,bound,m,h,hz=>by
  have ha:=ux h;have Tx:=n.size_pos;refine aG.Il (Rg (GD cw (ag.intro (fun h0=>?_) fun h0=>ag.intro (fun h1=>?_) fun h1=>?_)))
  ·have h0:jL m=false:=by simpa using h0
   rw[gm,if_pos h0];exact⟨aB.agg ⟨aB.refl _,bw,aB.refl _,aB.refl _,bw,True.intro⟩,rfl⟩
  ·have h0:¬jL m=false:=by simpa using h0
   have h1:n.kind=1:=by simpa using h1
   rw[gm,if_neg h0,if_pos h1];exact mcR (Gj hs ha (by omega)) ⟨aB.refl _,rfl⟩
  ·have h0:¬jL m=false:=by simpa using h0
   have h1:¬n.kind=1:=by simpa using h1
   obtain⟨x,y,l,e,hy,hx3,hx4⟩:=VV h h1;obtain⟨g1,g2,g3,g4,g5⟩:=Su e;refine ag.intro (fun h3=>?_) fun h3=>?_
   ·have h3:n.kind=3:=by simpa using h3
    have hv:gm s (k+1) n bound m=(.mk 3 (lr s x m).1 0 [(gm s k y (bound++[n.word]) (lr s x m).2).1],(gm s k y (bound++[n.word]) (lr s x m).2).2):=by rw[gm,if_neg h0,if_neg h1,e];exact if_pos h3
    rw[hv];have hr:=nZ hs k y (bound++[n.word]) (lr s x m).2 hy (by simp;omega);rw[ami] at hr;exact⟨by omega,by omega,_,_,_,_,g1,VQ (rO (k:=0) hs (hx3 h3) (by omega)) ⟨by omega,by omega,_,_,_,_,g2,_,Gk,(fun h=>by cases h),jm (fun x hx=>by obtain⟨t,_,rfl⟩:=amg.1 hx;rfl) (fun x hx=>by rw[alG.1 hx];rfl) (by simp;omega) (by decide),rfl,mcR hr ⟨ag2,rfl⟩⟩⟩
   ·have h3:¬n.kind=3:=by simpa using h3
    have hv:gm s (k+1) n bound m=(.mk 4 ku 0 [(gm s k x bound m).1,(gm s k y bound (gm s k x bound m).2).1],(gm s k y bound (gm s k x bound m).2).2):=by rw[gm,if_neg h0,if_neg h1,e];exact if_neg h3
    rw[hv];exact⟨by omega,by omega,_,_,_,_,g1,mcR (nZ hs k x bound m (hx4 h3) (by omega)) ⟨by omega,by omega,_,_,_,_,g2,mcR (nZ hs k y bound _ hy (by omega)) ⟨ag3,rfl⟩⟩⟩
theorem KK {l:List (ByteArray×Ty)} {k:Nat} (h:k<l.length):List.getD (cr l) (Int.toNat (k:Int)) .top=.agg [nS l[k].1,.sl (l[k].2.args.map Ty.enc),nI l[k].2.base]:=getD_map h
def wTy (m:Mk):AV:=.agg [nI (m.aK.length:Int),.sl ((cT m).map Ty.enc),.sl (m.types.map Ty.enc)]
theorem CI {b:List ByteArray} {e r p t c:List AV} {g:List AV} {cs:List (ByteArray×Ty)} {ts:List Ty} (hc:∀q∈cs,q.2.size<=1000) (ht:∀q∈ts,q.size<=1000) (hl:cs.length<=1000000) (zc:ts.length<=1000000):
  aG Tryz.prog 16 [.agg [.sl (b.map nS),.sl (cr cs),.sl g,.own 0 (List.length (ts.map Ty.enc)),.sl e,.sl r,.sl p,.sl t,.sl c]] (YP (ts.map Ty.enc)) (fun x q=>x=.agg [nI (b.length:Int),.sl ((cs.map (·.2)).map Ty.enc),.sl (ts.map Ty.enc)]/\q=YP (ts.map Ty.enc)):=by
 have cY:(cr cs).length=cs.length:=alm _;have DK:(ts.map Ty.enc).length=ts.length:=alm _;refine B0 ⟨rfl,rfl,?_⟩;refine ay.intro (fun k:Nat=>(((),(),(),cr cs,(cs.length:Int),(k:Int),()),(ts.map Ty.enc,(b.map nS,cr cs,g,(),e,r,p,t,c,()),(0,(),(),()),((b.length:Int),(),(),()),((cs.take k).map (·.2)).map Ty.enc,())))
  (fun k=>k<=cs.length) (fun k=>cs.length-k) 0 (by rw[cY,alm];rfl) (aly _) ?_
 intro k hk again bY;dsimp only;unfold sW;rw[cY];refine ag.intro (fun h=>?_) fun h=>?_
 ·have aq:k<cs.length:=by simpa using h
  have bO:=hc _ (alH aq);refine⟨by omega,by omega,_,_,_,KK aq,_,_,mU (t:=cs[k].2) (by omega),rfl,bp rfl (by simp;omega) (by decide),rfl,rfl,?_⟩;have e:((cs.take k).map (·.2)).map Ty.enc++[KH cs[k].2]=((cs.take (k+1)).map (·.2)).map Ty.enc:=by
   rw[<-dh aq,ami,ami];show _=_++[Ty.enc cs[k].2];rw[Ty.ax]
  rw[e,aV (by omega)];exact bY (k+1) (by omega) (by omega)
 ·have je:cs.length<=k:=by simpa using h
  rw[alI je];refine⟨rfl,rfl,rfl,rfl,rfl,?_⟩;clear bY;refine ay.intro (fun k:Nat=>(((),(),(),(ts.length:Int),(k:Int),()),(ts.map Ty.enc,(b.map nS,cr cs,g,(),e,r,p,t,c,()),(0,(),(),()),((b.length:Int),(),(),()),(cs.map (·.2)).map Ty.enc,(ts.take k).map Ty.enc,())))
   (fun k=>k<=ts.length) (fun k=>ts.length-k) 0 (by rw[DK];rfl) (aly _) ?_
  intro k hk again bY;dsimp only;unfold sV;rw[DK];refine ag.intro (fun h=>?_) fun h=>?_
  ·have aq:k<ts.length:=by simpa using h
   have bO:=ht _ (alH aq);refine⟨⟨by omega,by omega,rfl⟩,rfl,by simpa using aq,_,_,Ty.bb aq,_,_,mU (t:=ts[k]) (by omega),rfl,bp rfl (by simp;omega) (by decide),rfl,rfl,rfl,rfl,?_⟩;have e:(ts.take k).map Ty.enc++[KH ts[k]]=(ts.take (k+1)).map Ty.enc:=by
    rw[<-dh aq,ami];show _=_++[Ty.enc ts[k]];rw[Ty.ax]
   rw[e,aV (by omega)];exact bY (k+1) (by omega) (by omega)
  ·have je:ts.length<=k:=by simpa using h
   rw[alI je];exact⟨rfl,rfl,rfl,rfl⟩
end
section
variable {s w:ByteArray} {m m':Mk} {f:Nat} {a:List AV} {H:List ab}
def Fo (m m':Mk):Prop:=∃f,m'={ m with fault:=f }
theorem Fo.refl (m:Mk):Fo m m:=⟨m.fault,rfl⟩
theorem Fo.trans {a b c:Mk} (h:Fo a b) (k:Fo b c):Fo a c:=by
 obtain⟨f,rfl⟩:=h;obtain⟨g,rfl⟩:=k;exact⟨g,rfl⟩
theorem Sv (c a:Int) (m:Mk):Fo m (vm s c a m):=by
 unfold vm;split
 ·exact⟨_,rfl⟩
 ·exact Fo.refl m
theorem bx (b:Bool) (c a:Int) (m:Mk):Fo m (cx s b c a m):=by
 unfold cx;split
 ·exact Fo.refl m
 ·exact Sv c a m
theorem yO:∀(k:Nat) (n:Nd) (m:Mk),Fo m (dp s k n m).2
 |0,n,m=>Fo.refl m
 |k+1,n,m=>by
  rw[dp];split
  ·exact bx _ _ _ _
  ·split
   ·exact(yO k _ m).trans (yO k _ _)
   ·exact Fo.refl m
theorem qh (n:Nd) (m:Mk):Fo m (lr s n m).2:=by
 refine(yO (s:=s) n.size n m).trans ?_;show Fo _ (vU s n _);unfold vU;split
 ·exact bx _ _ _ _
 ·exact Fo.refl _
theorem Sw (n:Nd) (bound:List ByteArray) (m:Mk):Fo m (yM s n bound m).2:=by
 unfold yM;split
 ·exact Fo.refl m
 ·exact bx _ _ _ _
theorem oa:∀(k:Nat) (n:Nd) (bound:List ByteArray) (m:Mk),Fo m (gm s k n bound m).2
 |0,n,bound,m=>Fo.refl m
 |k+1,n,bound,m=>by
  rw[gm];split
  ·exact Fo.refl m
  ·split
   ·exact Sw n bound m
   ·split
    ·split
     ·exact(qh _ m).trans (oa k _ _ _)
     ·exact(oa k _ _ m).trans (oa k _ _ _)
    ·exact Fo.refl m
theorem mY (n:Nd) (m:Mk):Fo m (fD s n m).2:=by
 refine(oa (s:=s) n.size n [] m).trans ?_;unfold fD AX;split
 ·exact bx _ _ _ _
 ·exact Fo.refl _
theorem CJ (x y:Nd) (b:Bool) (m:Mk):Fo m (lZ s x y b m).2:=
 ((mY x m).trans (mY y _)).trans ((bx _ _ _ _).trans (bx _ _ _ _))
structure MI (L:Nat) (m:Mk):Prop where
 hc:∀q∈m.consts,q.2.size<=1000
 hm:∀t∈m.types,t.size<=1000
 cl:m.consts.length<=L
 ml:m.types.length<=L
 wk:∀p∈m.words,lk p.2.kind/\lk p.2.idx
theorem MI.fo {L:Nat} (h:MI L m) (k:Fo m m'):MI L m':=by
 obtain⟨f,rfl⟩:=k;exact⟨h.hc,h.hm,h.cl,h.ml,h.wk⟩
theorem eH:lk 0:=⟨by decide,by decide⟩
theorem MI.mn {L:Nat} (h:MI L m) (w:ByteArray):lk (ze m.words w).kind/\lk (ze m.words w).idx:=by
 have key:∀l:Mg,(∀p∈l,lk p.2.kind/\lk p.2.idx)->lk (ze l w).kind/\lk (ze l w).idx:=by
  intro l
  induction l with
  |nil=>intro _;exact⟨eH,eH⟩
  |cons p l ih=>
   intro hp;obtain⟨k,v⟩:=p;unfold ze at ih ⊢;rw[tn];split
   ·exact hp _ alD
   ·exact ih fun q hq=>hp q (alK _ hq)
 exact key _ h.wk
theorem KL {w:ByteArray} {l:List ByteArray}:∀{k j:Nat},Gd w l k=some j->j<=l.length
 |0,j,h=>by cases h
 |k+1,j,h=>by
  rw[Gd] at h;split at h
  ·obtain rfl:=alj h;omega
  ·exact KL h
theorem Mp (n:Nd) (m:Mk):(lr s n m).1.size<=n.size:=by
 show (if _ then _ else _:Ty).size<=_;split
 ·exact lg _ n m
 ·have:=n.size_pos;simpa [Ty.size,Ty.sizes] using this
theorem mZ:ku.size=1:=by simp[Ty.size,Ty.sizes]
theorem ki (k i:Int):(lb k i).total=2:=by simp[Rw.total,Rw.dL,mZ]
theorem wC {L:Nat}:∀(k:Nat) (n:Nd) (bound:List ByteArray) (m:Mk),MI L m->bound.length+n.size<=1000000->(gm s k n bound m).1.Ok/\(gm s k n bound m).1.total<=2*n.size
 |0,n,bound,m,hm,hb=>by
  have:=n.size_pos;refine⟨⟨eH,eH,True.intro⟩,?_⟩;show (lb 0 0).total<=_;rw[ki];omega
 |k+1,n,bound,m,hm,hb=>by
  have hp:=n.size_pos;have h0:(lb 0 0).Ok/\(lb 0 0).total<=2*n.size:=⟨⟨eH,eH,True.intro⟩,by rw[ki];omega⟩;rw[gm];split
  ·exact h0
  ·split
   ·unfold yM;split
    ·rename_i j hj;have:=KL hj;refine⟨⟨eH,⟨by omega,by omega⟩,True.intro⟩,?_⟩;show (lb _ _).total<=_;rw[ki];omega
    ·refine⟨⟨(hm.mn _).1,(hm.mn _).2,True.intro⟩,?_⟩;show (lb _ _).total<=_;rw[ki];omega
   ·split
    ·rename_i x y l e;have h3:=n.size_eq;rw[e,Nd.sizes,Nd.sizes] at h3;split
     ·have ht:=Mp (s:=s) x m;have h1:=wC k y (bound++[n.word]) (lr s x m).2 (hm.fo (qh x m)) (by simp;have:=x.size_pos;omega);refine⟨⟨⟨by decide,by decide⟩,eH,h1.1,True.intro⟩,?_⟩;show (Rw.mk _ _ _ _).total<=_;simp only[Rw.total,Rw.dL];have:=h1.2;have:=x.size_pos;omega
     ·have h1:=wC k x bound m hm (by have:=y.size_pos;omega);have h2:=wC k y bound (gm s k x bound m).2 (hm.fo (oa k x bound m)) (by have:=x.size_pos;omega);refine⟨⟨⟨by decide,by decide⟩,eH,h1.1,h2.1,True.intro⟩,?_⟩;show (Rw.mk _ _ _ _).total<=_;simp only[Rw.total,Rw.dL,mZ];have:=h1.2;have:=h2.2;omega
    ·exact h0
theorem MI.nok {k:Nat} {n:Nd} (h:MI 500 m) (hz:n.size<=900000):nX (cT m) m.types [] (gm s k n [] m).1:=by
 have h1:=wC (s:=s) k n [] m h (by simp;omega);have h2:∀t∈cT m,t.size<=1000:=fun t ht=>by
  obtain⟨q,hq,rfl⟩:=amg.1 ht;exact h.hc q hq
 have h3:(cT m).length=m.consts.length:=alm _;exact⟨h2,h.hm,(fun t ht=>by cases ht),by rw[h3];exact h.cl,h.ml,aly _,by omega,h1.1⟩
section
variable {N0:List AV->List AV->List AV->List AV->List AV->List AV->List AV->List AV->List AV->List (ByteArray×Value)->ByteArray->Int->Int->Int->ByteArray->List AV->Int->Int->List AV->List AV->Int->Prop} {t:Tm} {u:Ty}
theorem mcM (h:aG Tryz.prog f a H (fun r q=>r=.av [MV t,KH u]/\q=MO s m')) (hn:N0 (m'.aK.map nS) (cr m'.consts) (m'.bn.map nS) (aE m'.eqs) (aE m'.rules) (aD m'.prec) (aD m'.status) (bH m'.cX) (m'.types.map Ty.enc) (cv m'.words) s m'.fault.1 m'.fault.2.1 m'.fault.2.2.1 m'.fault.2.2.2 (t.binds.map Ty.enc) t.kind t.index (t.args.map Tm.enc) (u.args.map Ty.enc) u.base):nF f a H N0:=
 ⟨_,h,fun r q ⟨e1,e2⟩=>⟨_,_,_,_,_,_,_,_,_,_,_,_,_,_,_,_,_,_,_,_,_,⟨e1,e2⟩,hn⟩⟩
end
section
variable {N0:List AV->List AV->List AV->List AV->List AV->List AV->List AV->List AV->List AV->List (ByteArray×Value)->ByteArray->Int->Int->Int->ByteArray->List AV->Int->Int->List AV->List AV->Int->Int->List AV->Prop} {t u:Tm}
theorem mcW (h:aG Tryz.prog f a H (fun r q=>r=.av [MV t,MV u]/\q=MO s m')) (hn:N0 (m'.aK.map nS) (cr m'.consts) (m'.bn.map nS) (aE m'.eqs) (aE m'.rules) (aD m'.prec) (aD m'.status) (bH m'.cX) (m'.types.map Ty.enc) (cv m'.words) s m'.fault.1 m'.fault.2.1 m'.fault.2.2.1 m'.fault.2.2.2 (t.binds.map Ty.enc) t.kind t.index (t.args.map Tm.enc) (u.binds.map Ty.enc) u.kind u.index (u.args.map Tm.enc)):nG f a H N0:=
 ⟨_,h,fun r q ⟨e1,e2⟩=>⟨_,_,_,_,_,_,_,_,_,_,_,_,_,_,_,_,_,_,_,_,_,_,_,⟨e1,e2⟩,hn⟩⟩
end
theorem Sx:aB (.agg [.ae (.slice none 0 0),nI 0,nI 0,.ae (.slice none 0 0)]) (MV cA):=aB.agg ⟨bw,aB.refl _,aB.refl _,bw,True.intro⟩
theorem ag6:aB (.agg [.ae (.slice none 0 0),nI 0]) (KH ku):=aB.agg ⟨bw,aB.refl _,True.intro⟩
theorem Sy {x y u v:AV} (h:aB x u) (k:aB y v):aB (.av [x,y]) (.av [u,v]):=aB.av ⟨h,k,True.intro⟩
theorem pR {n:Nd} (hs:s.size<=1000000000) (hm:MI 500 m) (h:yN s n.size n=true) (hz:n.size<=900000):aG Tryz.prog 78 [.ptr 10 0,gu n] (MO s m) (fun r q=>r=.av [MV (fD s n m).1.1,KH (fD s n m).1.2]/\q=MO s (fD s n m).2):=by
 have ha:=ux h;have hr:=nZ hs n.size n [] m h (by simp;omega);have hf:=oa (s:=s) n.size n [] m;have YB:=hm.nok (s:=s) (k:=n.size) hz;unfold fD;generalize gm s n.size n [] m=p at hr hf YB;obtain⟨r,m1⟩:=p;have MF:MI 500 m1:=hm.fo hf;have al:nX (cT m1) m1.types [] r:=by
  obtain⟨g,rfl⟩:∃g,m1={ m with fault:=g }:=hf;exact YB
 clear YB hf hm;have hi:=AU (b:=m1.aK.length) al;have hn:=Mf (b:=m1.aK.length) al;have hw:=CI (b:=m1.aK) (e:=aE m1.eqs) (r:=aE m1.rules) (p:=aD m1.prec) (t:=aD m1.status) (c:=bH m1.cX) (g:=m1.bn.map nS) MF.hc MF.hm (by have:=MF.cl;omega) (by have:=MF.ml;omega);rw[Rw.ax] at hi;dsimp only at hr ⊢;refine aG.Il (Ve (mcR (aG.JI (ys:=[.ptr 10 0,gu n,.sl []]) ⟨aB.refl _,aB.refl _,bw,True.intro⟩ hr) (GD cw (ag.intro (fun h1=>?_) fun h1=>?_))))
 ·have h1:¬jL m1=true:=by simpa using h1
  unfold AX;rw[if_neg h1];exact⟨Sy Sx ag6,rfl⟩
 have h1:jL m1=true:=by simpa using h1
 unfold AX;rw[if_pos h1];refine⟨rfl,rfl,rfl,rfl,rfl,rfl,rfl,rfl,_,hw,fun r2 q ⟨e1,e2⟩=>⟨_,_,_,_,⟨e1,e2⟩,_,_,_,hi,ag.intro (fun h2=>?_) fun h2=>ag.intro (fun h3=>⟨_,_,_,_,_,hn,?_⟩) fun h3=>?_⟩⟩
 ·have h2:(r.inf m1.aK.length (cT m1) m1.types []).2=1:=by simpa using h2
  have he:Mj m1 r=2:=if_pos h2;have hf:qQ m1 r=(cA,2):=by unfold qQ;rw[he];rfl
  rw[hf];exact oA (aU (m:=m1) (b:=false) hs ha) ⟨Sy Sx (aB.refl _),rfl⟩
 ·have h3:(r.inf m1.aK.length (cT m1) m1.types []).2=0:=by simpa using h3
  have he:Mj m1 r=0:=by unfold Mj;rw[h3];rfl
  have hf:qQ m1 r=((jK m1.aK.length (cT m1) m1.types [] r 100000).2,(jK m1.aK.length (cT m1) m1.types [] r 100000).1.err):=if_pos he;rw[hf];exact oA (aU (m:=m1) hs ha) ⟨aB.refl _,rfl⟩
 ·have h2:¬(r.inf m1.aK.length (cT m1) m1.types []).2=1:=by simpa using h2
  have h3:¬(r.inf m1.aK.length (cT m1) m1.types []).2=0:=by simpa using h3
  have he:Mj m1 r=(r.inf m1.aK.length (cT m1) m1.types []).2:=if_neg h2;have hf:qQ m1 r=(cA,(r.inf m1.aK.length (cT m1) m1.types []).2):=by unfold qQ;rw[he,if_neg h3]
  rw[hf];exact oA (aU (m:=m1) hs ha) ⟨Sy Sx (aB.refl _),rfl⟩
end
section
variable {s w:ByteArray} {m m':Mk} {f:Nat} {a:List AV} {H:List ab}
theorem Sz (b:Int) (c m x:List Ty) (r:Rw):(r.inf b c m x).1.size<=1000:=by
 unfold Rw.inf;split
 ·exact Rw.iS ..
 ·rw[mZ];decide
theorem yP (n:Nd) (m:Mk):(fD s n m).1.2.size<=1000:=by
 unfold fD AX;split
 ·exact Sz ..
 ·show ku.size<=_;rw[mZ];decide
theorem yQ:cA.size<=300000000:=by simp[cA,Tm.size,Tm.sizes,Ty.sizes]
theorem yR {n:Nd} (hm:MI 500 m) (hz:n.size<=900000):(fD s n m).1.1.size<=300000000:=by
 have al:=hm.nok (s:=s) (k:=n.size) hz;have hf:=oa (s:=s) n.size n [] m;unfold fD AX;generalize gm s n.size n [] m=p at al hf;obtain⟨r,m1⟩:=p;obtain⟨g,rfl⟩:∃g,m1={ m with fault:=g }:=hf;split
 ·show (qQ _ _).1.size<=_;unfold qQ;split
  ·exact(IE al).1
  ·exact yQ
 ·exact yQ
theorem pS {n:Nat} {at_:Int} (hs:s.size<=1000000000) (ha:ID s at_):aG Tryz.prog 89 [.ptr 10 0,nI (n:Int),nI at_] (MO s m) (fun r q=>r=.av []/\q=MO s (qR s n at_ m)):=
 Vf (oA (aU hs ha) ⟨rfl,rfl⟩)
theorem tq {at_:Int} (hs:s.size<=1000000000) (ha:ID s at_):aG Tryz.prog 154 [.ptr 10 0,nS w,nI at_] (MO s m) (fun r q=>r=nI (fP s w at_ m).1/\q=MO s (fP s w at_ m).2):=by
 refine Ro ⟨VR _ _,?_⟩;rw[qg,wB];refine ag.intro (fun h=>ag.intro (fun h2=>?_) fun h2=>?_) fun h=>?_
 ·have h2:(ze m.words w).base=false:=by simpa using (show (!(ze m.words w).base)=true from h2)
  have e:isConst m w=((ze m.words w).kind==1):=by unfold isConst;rw[h,h2];rfl
  unfold fP;rw[e];exact oA (aU hs ha) ⟨rfl,rfl⟩
 ·have h2:(ze m.words w).base=true:=by simpa using (show (!(ze m.words w).base)=false from h2)
  have e:isConst m w=false:=by unfold isConst;rw[h,h2];rfl
  unfold fP;rw[e];exact oA (aU hs ha) ⟨rfl,rfl⟩
 ·have e:isConst m w=false:=by unfold isConst;rw[h];rfl
  unfold fP;rw[e];exact oA (aU hs ha) ⟨rfl,rfl⟩
theorem tr {l:List Nd} {k:Nat} (h:k<l.length):List.getD (l.map Nd.enc) (Int.toNat (k:Int)) .top=gu (l.getD k zM):=by
 rw[getD_map h];have e:l.getD k zM=l[k]:=by simp[List.getD,h]
 rw[e,Nd.ax]
theorem yS {l:List Nd} {b:Bool} (hs:s.size<=1000000000) (hm:MI 500 m) (hl:2<=l.length) (hx:yN s (l.getD 0 zM).size (l.getD 0 zM)=true) (hy:yN s (l.getD 1 zM).size (l.getD 1 zM)=true) (hz:(l.getD 0 zM).size<=900000) (SU:(l.getD 1 zM).size<=900000):
  aG Tryz.prog 152 [.ptr 10 0,.sl (l.map Nd.enc),nB b] (MO s m) (fun r q=>r=.av [MV (lZ s (l.getD 0 zM) (l.getD 1 zM) b m).1.1,MV (lZ s (l.getD 0 zM) (l.getD 1 zM) b m).1.2]/\q=MO s (lZ s (l.getD 0 zM) (l.getD 1 zM) b m).2):=by
 have g0:=tr (l:=l) (k:=0) (by omega);have g1:=tr (l:=l) (k:=1) (by omega);have hlen:(l.map Nd.enc).length=l.length:=alm _;generalize l.getD 0 zM=x at *;generalize l.getD 1 zM=y at *;have t1:=pR hs hm hx hz;have t2:=pR hs (hm.fo (mY (s:=s) x m)) hy SU;have z1:=yP (s:=s) x m;have z2:=yP (s:=s) y (fD s x m).2;unfold lZ;generalize fD s x m=p at t1 t2 z1 z2;generalize fD s y p.2=q at t2 z2;have heq:=lH _ p.1.2 q.1.2 (alp _) (by omega);rw[Ty.ax,Ty.ax] at heq;refine Ri ⟨by omega,by omega,_,_,_,_,g0,mcM t1 ⟨by omega,by omega,_,_,_,_,g1,mcM t2 (ag.intro (fun h=>?_) fun h=>?_)⟩⟩
 ·have h:b=false:=by simpa using h
  subst h;exact⟨by omega,by omega,_,_,_,_,g0,oA (aU hs (ux hx)) ⟨_,heq,by omega,by omega,_,_,_,_,g1,oA (aU hs (ux hy)) ⟨rfl,rfl⟩⟩⟩
 ·have h:b=true:=by simpa using h
  subst h;have e:((((p.1.2.args.map Ty.enc).length:Nat):Int)==0)=(!true||p.1.2.args.length==0):=by
   rw[alm,aml,amp,amL,beq_iff_eq,beq_iff_eq];omega
  rw[e];exact⟨by omega,by omega,_,_,_,_,g0,oA (aU hs (ux hx)) ⟨_,heq,by omega,by omega,_,_,_,_,g1,oA (aU hs (ux hy)) ⟨rfl,rfl⟩⟩⟩
abbrev IO (x:It):List ab:=tZ x.kind (x.words.map nS) (x.nodes.map Nd.enc) x.num x.at_
abbrev Mq (e:CG):AV:=.agg [nS e.name,.sl (e.left.binds.map Ty.enc),nI e.left.kind,nI e.left.index,.sl (e.left.args.map Tm.enc),.sl (e.right.binds.map Ty.enc),nI e.right.kind,nI e.right.index,.sl (e.right.args.map Tm.enc)]
section
variable {N0:Int->List AV->List AV->Int->Int->Bool->Prop} {N1:Int->List AV->List AV->Int->Int->Int->Prop} {b:Bool} {i:Int} {x:It}
theorem W2 (h:aG Tryz.prog f a H (fun r q=>r=nB b/\q=IO x)) (hn:N0 x.kind (x.words.map nS) (x.nodes.map Nd.enc) x.num x.at_ b):sG f a H N0:=⟨_,h,fun r q ⟨e1,e2⟩=>⟨_,_,_,_,_,_,⟨e1,e2⟩,hn⟩⟩
theorem icI (h:aG Tryz.prog f a H (fun r q=>r=nI i/\q=IO x)) (hn:N1 x.kind (x.words.map nS) (x.nodes.map Nd.enc) x.num x.at_ i):OW f a H N1:=⟨_,h,fun r q ⟨e1,e2⟩=>⟨_,_,_,_,_,_,⟨e1,e2⟩,hn⟩⟩
end
theorem qi {x:It} {k:Nat} (h:k<x.words.length):List.getD (x.words.map nS) (Int.toNat (k:Int)) .top=nS (fG x k):=KJ h
theorem Gl {e:CG} {x:It} (h:1<=x.words.length):aG Tryz.prog 151 [Mq e,.ptr 0 0] (IO x) (fun r q=>r=nB (decide (e.name=fG x 0))/\q=IO x):=
 Rj ⟨by omega,by rw[alm];omega,_,qi (k:=0) (by omega),by rw[eG],rfl⟩
theorem Gm {l:List CG} {k:Nat} (h:k<l.length):List.getD (aE l) (Int.toNat (k:Int)) .top=Mq l[k]:=getD_map h
theorem KM (w:ByteArray):∀(l:List CG) (k:Nat),nY w l k>=0↔iy w l=true
 | [],k=>by rw[nY];exact⟨fun h=>(by omega),fun h=>by cases h⟩
 |e::l,k=>by
  rw[nY];show _↔(decide (e.name=w)||iy w l)=true;split
  ·rename_i h;rw[decide_eq_true h];exact⟨fun _=>rfl,fun _=>by omega⟩
  ·rename_i h;rw[decide_eq_false h,amp];exact KM w l (k+1)
theorem CK {l:List CG} {x:It} (h:1<=x.words.length) (hl:l.length<=1000000):aG Tryz.prog 160 [.sl (aE l),.bf 151 [.ptr 0 0]] (IO x) (fun r q=>r=nI (nY (fG x 0) l 0)/\q=IO x):=by
 have zd:(aE l).length=l.length:=alm _;refine EX ?_;refine ay.intro (fun k:Nat=>((aE l,((),()),(l.length:Int),(k:Int),()),((x.kind,x.words.map nS,x.nodes.map Nd.enc,x.num,x.at_,()),()))) (fun k=>k<=l.length/\nY (fG x 0) l 0=nY (fG x 0) (l.drop k) k) (fun k=>l.length-k) 0 (by rw[zd];rfl) ⟨aly _,rfl⟩ ?_;intro k ⟨hk,hd⟩ again bY;dsimp only;unfold uV;rw[zd];refine ag.intro (fun h1=>?_) fun h1=>?_
 ·have aq:k<l.length:=by simpa using h1
  rw[alw aq,nY] at hd;refine⟨by omega,by omega,_,_,_,_,_,_,_,_,_,Gm aq,W2 (Gl h) (ag.intro (fun h2=>?_) fun h2=>?_)⟩
  ·rw[if_pos (of_decide_eq_true h2)] at hd;rw[hd];exact⟨rfl,rfl⟩
  ·rw[if_neg (of_decide_eq_false h2)] at hd;rw[aV (by omega)];exact bY (k+1) ⟨by omega,hd⟩ (by omega)
 ·have je:l.length<=k:=by simpa using h1
  rw[alC je,nY] at hd;rw[hd];exact⟨rfl,rfl⟩
theorem tt {l:List CG} {x:It} (h:1<=x.words.length) (hl:l.length<=1000000):aG Tryz.prog 149 [.sl (aE l),.ptr 0 0] (IO x) (fun r q=>r=nB (iy (fG x 0) l)/\q=IO x):=by
 refine Rm (W2 (b:=iy (fG x 0) l) (EY (icI (CK h hl) ⟨?_,rfl⟩)) ⟨rfl,rfl⟩);refine congrArg nB ?_;rw[amL,decide_eq_true_iff];exact KM _ _ _
end
section
variable {s w:ByteArray} {m m':Mk} {f:Nat} {a:List AV} {H:List ab}
structure Two (s:ByteArray) (x:It):Prop where
 words:1<=x.words.length
 len:2<=x.nodes.length
 hx:yN s (dF x 0).size (dF x 0)=true
 hy:yN s (dF x 1).size (dF x 1)=true
 zx:(dF x 0).size<=900000
 zy:(dF x 1).size<=900000
theorem adE:aB (.agg [nS ⟨#[]⟩,.ae (.slice none 0 0),nI 0,nI 0,.ae (.slice none 0 0),.ae (.slice none 0 0),nI 0,nI 0,.ae (.slice none 0 0)]) (Mq adC):=
 aB.agg ⟨aB.refl _,bw,aB.refl _,aB.refl _,bw,bw,aB.refl _,aB.refl _,bw,True.intro⟩
theorem yT {t:Tm} (h:t.size<=300000000):af Tryz.prog 153 [MV t] (nB (Sn t)):=by
 have:=RG (t:=t) (by omega);rw[Tm.ax] at this;exact this
theorem ag7 {x:It} (hs:s.size<=1000000000) (ha:ID s x.at_) (hm:MI 500 m) (hx:Two s x) (ho:jL m=true):
  BV (x.nodes.map Nd.enc) (m.aK.map nS) (cr m.consts) (m.bn.map nS) (aE m.eqs) (aE m.rules) (aD m.prec) (aD m.status) (bH m.cX) (m.types.map Ty.enc) (cv m.words) s m.fault.1 m.fault.2.1 m.fault.2.2.1 m.fault.2.2.2 x.at_ (x.words.map nS) (MR s (Mq (YY s x m).1) (YY s x m).2) x.kind:=by
 have hp:=yS (b:=true) hs hm hx.len hx.hx hx.hy hx.zx hx.zy;have z1:=yR (s:=s) (n:=dF x 0) hm hx.zx;have z2:=yR (s:=s) (n:=dF x 1) (hm.fo (mY (s:=s) (dF x 0) m)) hx.zy;have z1:(lZ s (dF x 0) (dF x 1) true m).1.1.size<=300000000:=z1;have z2:(lZ s (dF x 0) (dF x 1) true m).1.2.size<=300000000:=z2;have hlen:(x.words.map nS).length=x.words.length:=alm _;have hw:=hx.words;have gw:=qi (x:=x) (k:=0) (by omega);unfold YY;rw[if_pos ho];change aG _ _ _ _ (fun r q=>r=.av [MV (lZ s (dF x 0) (dF x 1) true m).1.1,MV (lZ s (dF x 0) (dF x 1) true m).1.2]/\q=MO s (lZ s (dF x 0) (dF x 1) true m).2) at hp;generalize lZ s (dF x 0) (dF x 1) true m=p at hp z1 z2;unfold eqF;refine mcW hp (GD cw (ag.intro (fun h1=>⟨_,yT z1,ag.intro (fun h2=>?_) fun h2=>ag.intro (fun h3=>⟨_,yT z2,?_⟩) fun h3=>?_⟩) fun h1=>?_))
 ·rw[if_pos h1,h2,amZ];exact oA (aU hs ha) ⟨by omega,by omega,_,gw,aB.refl _,rfl⟩
 ·rw[if_pos h1,h2,amp,h3,al2];exact oA (aU hs ha) ⟨by omega,by omega,_,gw,aB.refl _,rfl⟩
 ·rw[if_pos h1,h2,amp,h3,amn];exact oA (aU hs ha) ⟨by omega,by omega,_,gw,aB.refl _,rfl⟩
 ·rw[if_neg (by rw[h1];decide)];exact⟨by omega,by omega,_,gw,aB.refl _,rfl⟩
theorem AY {x:It} {b:Bool} (hs:s.size<=1000000000) (ha:ID s x.at_) (hm:MI 500 m) (hx:Two s x) (e:b=(!(iy (fG x 0) m.eqs)&&!(iy (fG x 0) m.rules))):
  ek 118 [.ptr 10 0,nB b,nI 4,nI x.at_] (MO s m) fun l0 l1 l2 l3 l4 l5 l6 l7 l8 mw ms i1 i2 i3 w1=>sQ l0 l1 l2 l3 l4 l5 l6 l7 l8 mw ms i1 i2 i3 w1 (MR s (Mq (Ml s x m).1) (Ml s x m).2) (x.nodes.map Nd.enc) x.at_ (x.words.map nS) x.kind:=by
 subst e;have qU:=hm.fo (bx (s:=s) (!(iy (fG x 0) m.eqs)&&!(iy (fG x 0) m.rules)) 4 x.at_ m);refine oA (aU hs ha) ?_;unfold Ml;generalize cx s (!(iy (fG x 0) m.eqs)&&!(iy (fG x 0) m.rules)) 4 x.at_ m=m1 at qU;refine GD cw (ag.intro (fun h=>?_) fun h=>ag7 hs ha qU hx (by simpa using h));have h:¬jL m1=true:=by simpa using h
 unfold YY;rw[if_neg h];exact⟨adE,rfl⟩
theorem yU {x:It} (hs:s.size<=1000000000) (ha:ID s x.at_) (hm:MI 500 m) (hx:Two s x) (h1:m.eqs.length<=1000000) (h2:m.rules.length<=1000000):
  aG Tryz.prog 90 [.ptr 10 0,gL x] (MO s m) (fun r q=>r=Mq (Ml s x m).1/\q=MO s (Ml s x m).2):=by
 have n1:=tt (l:=m.eqs) hx.words h1;have n2:=tt (l:=m.rules) hx.words h2;refine aG.Il (Vi ⟨⟨rfl,W2 n1 (ag.intro (fun g=>⟨⟨rfl,W2 n2 (AY hs ha hm hx ?_)⟩,⟨rfl,W2 n2 (AY hs ha hm hx ?_)⟩⟩) fun g=>⟨AY hs ha hm hx ?_,AY hs ha hm hx ?_⟩)⟩,
  ⟨rfl,W2 n1 (ag.intro (fun g=>⟨rfl,W2 n2 (AY hs ha hm hx ?_)⟩) fun g=>AY hs ha hm hx ?_)⟩⟩)
 all_goals first|rw[g,al2]|rw[g,amn]
section
variable {N0:Int->Bool->Prop} {N1:Int->Int->Prop} {b:Bool} {i c:Int}
theorem scB (h:aG Tryz.prog f a H (fun r q=>r=nB b/\q=CZ c)) (hn:N0 c b):OV f a H N0:=⟨_,h,fun r q ⟨e1,e2⟩=>⟨_,_,⟨e1,e2⟩,hn⟩⟩
theorem scI (h:aG Tryz.prog f a H (fun r q=>r=nI i/\q=CZ c)) (hn:N1 c i):WE f a H N1:=⟨_,h,fun r q ⟨e1,e2⟩=>⟨_,_,⟨e1,e2⟩,hn⟩⟩
end
def tu (c:Int):List (Int×Int)->Nat->Int
 | [],_ => -1
 |p::l,k=>if(p.1==c)=true then(k:Int) else tu c l (k+1)
theorem Gn (c:Int):∀(l:List (Int×Int)) (k:Nat),tu c l k>=0↔(l.any fun p=>p.1==c)=true
 | [],k=>by rw[tu];exact⟨fun h=>(by omega),fun h=>by cases h⟩
 |e::l,k=>by
  rw[tu,List.any_cons];split
  ·rename_i h;rw[h];exact⟨fun _=>rfl,fun _=>by omega⟩
  ·rename_i h;have h:(e.1==c)=false:=by simpa using h
   rw[h,amp];exact Gn c l (k+1)
theorem CL {l:List (Int×Int)} {c:Int} (hl:l.length<=1000000):aG Tryz.prog 223 [.sl (aD l),.bf 158 [.ptr 0 0]] (CZ c) (fun r q=>r=nI (tu c l 0)/\q=CZ c):=by
 refine E5 ?_;refine ay.intro (fun k:Nat=>((aD l,((),()),(l.length:Int),(k:Int),()),((c,()),()))) (fun k=>k<=l.length/\tu c l 0=tu c (l.drop k) k) (fun k=>l.length-k) 0 (by rw[dc];rfl) ⟨aly _,rfl⟩ ?_;intro k ⟨hk,hd⟩ again bY;dsimp only;unfold uZ;rw[dc];refine ag.intro (fun h1=>?_) fun h1=>?_
 ·have aq:k<l.length:=by simpa using h1
  rw[alw aq,tu] at hd;refine⟨by omega,by omega,_,_,fN aq,scB (b:=l[k].1==c) (Rt ⟨rfl,rfl⟩) (ag.intro (fun h2=>?_) fun h2=>?_)⟩
  ·rw[if_pos h2] at hd;rw[hd];exact⟨rfl,rfl⟩
  ·rw[if_neg (by rw[h2];decide)] at hd;rw[aV (by omega)];exact bY (k+1) ⟨by omega,hd⟩ (by omega)
 ·have je:l.length<=k:=by simpa using h1
  rw[alC je,tu] at hd;rw[hd];exact⟨rfl,rfl⟩
theorem IG {l:List (Int×Int)} {c:Int} (hl:l.length<=1000000):aG Tryz.prog 157 [.sl (aD l),.bf 158 [.ptr 0 0]] (CZ c) (fun r q=>r=nB (l.any fun p=>p.1==c)/\q=CZ c):=by
 refine E6 (scI (CL hl) ⟨congrArg nB ?_,rfl⟩);rw[amL,decide_eq_true_iff];exact Gn _ _ _
theorem qj (w:ByteArray) (a:Int) (m:Mk):Fo m (fP s w a m).2:=bx _ _ _ _
theorem yV (l:List (Int×Int)) (a b:Int):aD l++[.agg [nI a,nI b]]=aD (l++[(a,b)]):=by simp[aD]
theorem Gp {x:It} (hs:s.size<=1000000000) (ha:ID s x.at_) (hw:2<=x.words.length) (h1:m.status.length<=1000000):
  aG Tryz.prog 92 [.ptr 10 0,gL x] (MO s m) (fun r q=>r=.av []/\q=MO s (Gf s x m)):=by
 have hlen:(x.words.map nS).length=x.words.length:=alm _;have key:BW (fG x 0) x.at_ (m.aK.map nS) (cr m.consts) (m.bn.map nS) (aE m.eqs) (aE m.rules) (aD m.prec) (aD m.status) (bH m.cX) (m.types.map Ty.enc) (cv m.words) s m.fault.1 m.fault.2.1 m.fault.2.2.1 m.fault.2.2.2 (x.words.map nS) (fun r q=>r=.av []/\q=MO s (Gf s x m)):=by
  have hc:=tq (m:=m) (w:=fG x 0) hs ha;have hfo:=qj (s:=s) (fG x 0) x.at_ m;unfold Gf;generalize fP s (fG x 0) x.at_ m=p at hc hfo;obtain⟨c,m1⟩:=p;obtain⟨g,rfl⟩:∃g,m1={ m with fault:=g }:=hfo;dsimp only at hc ⊢;refine mcI hc ⟨rfl,scB (IG h1) (oA (aU hs ha) ?_)⟩;have adF:=bx (s:=s) (!(m.status.any fun p=>p.1==c)) 4 x.at_ { m with fault:=g };generalize cx s (!(m.status.any fun p=>p.1==c)) 4 x.at_ { m with fault:=g }=m2 at adF;have CV:m2.status.length<=1000000:=by
   obtain⟨g2,rfl⟩:=adF;exact h1
  have YC:=bx (s:=s) (decide (Ge (fG x 1)>=0)) 3 x.at_ m2;refine⟨by omega,by omega,_,qi (k:=1) (by omega),_,te (l:=[VM,VN]) (w:=fG x 1) (by decide),oA (aU hs ha) ?_⟩;unfold Sp;change Fo m2 (cx s (decide (uk (fG x 1) [VM,VN] 0>=0)) 3 x.at_ m2) at YC;unfold Ge;generalize cx s (decide (uk (fG x 1) [VM,VN] 0>=0)) 3 x.at_ m2=m3 at YC;obtain⟨g3,rfl⟩:=YC;refine⟨rfl,bp rfl (by rw[alA,dc];simp;omega) (by decide),rfl,?_⟩;dsimp only;rw[yV]
 refine Vm ⟨by omega,by omega,_,qi (k:=0) (by omega),key,key⟩
end
def lh (m:List (Int×Value)) (y:Int):Bool:=oV (Option.getD (au m y) (.bool false))
def tv (l:List (Int×Int)) (m:List (Int×Value)):Nat:=((l.map Prod.snd).filter fun y=>!lh m y).length
theorem SA (l:List (Int×Int)) (m:List (Int×Value)):tv l m<=l.length:=by
 have:=List.length_filter_le (fun y=>!lh m y) (l.map Prod.snd)
 rwa [alm] at this
structure SB (l:List (Int×Int)) (a:Int) (m:List (Int×Value)) (q:List Int):Prop where
 bool:∀y,au m y=none\/au m y=some (.bool true)
 YD:∀x∈q,x=a\/kT l a x
 met:∀y,lh m y=true->kT l a y
theorem na (m:List (Int×Value)) (x y:Int):lh (cd m x (.bool true)) y=(decide (y=x)||lh m y):=by
 unfold lh;rw[x6]
 by_cases h:y=x
 ·rw[if_pos h,decide_eq_true h];rfl
 ·rw[if_neg h,decide_eq_false h,amp]
theorem Mr {l:List (Int×Int)} {m:List (Int×Value)} {p:Int×Int} (hp:p∈l) (hm:lh m p.2=false):tv l (cd m p.2 (.bool true))<tv l m:=by
 have key:∀L:List Int,(L.filter fun y=>!lh (cd m p.2 (.bool true)) y).length<=(L.filter fun y=>!lh m y).length/\(p.2∈L->(L.filter fun y=>!lh (cd m p.2 (.bool true)) y).length<(L.filter fun y=>!lh m y).length):=by
  intro L
  induction L with
  |nil=>exact⟨alp _,fun h=>by cases h⟩
  |cons z L ih=>
   rw[List.filter_cons,List.filter_cons,na]
   by_cases hz:z=p.2
   ·subst hz;rw[decide_eq_true rfl,amZ,hm];simp only[aml,Bool.not_false,if_true,alx,if_false,als];exact⟨by omega,fun _=>by omega⟩
   ·rw[decide_eq_false hz,amp];have h2:p.2∈z::L->p.2∈L:=fun h=>(alW.1 h).resolve_left fun e=>hz e.symm
    cases lh m z
    ·simp only[Bool.not_false,if_true,als];exact⟨by omega,fun h=>by have:=ih.2 (h2 h);omega⟩
    ·simp only[aml,alx,if_false];exact⟨ih.1,fun h=>ih.2 (h2 h)⟩
 exact(key _).2 (amg.2 ⟨p,hp,rfl⟩)
theorem kT.go {l:List (Int×Int)} {a c:Int} {p:Int×Int} (hc:c=a\/kT l a c) (hp:p∈l) (h:p.1=c):kT l a p.2:=by
 have hp':(c,p.2)∈l:=by rw[<-h];exact hp
 rcases hc with rfl|hc
 ·exact .one hp'
 ·exact .more hc hp'
theorem SB.push {l:List (Int×Int)} {a c:Int} {m:List (Int×Value)} {q:List Int} {p:Int×Int} (h:SB l a m q) (hc:c=a\/kT l a c) (hp:p∈l) (he:p.1=c):SB l a (cd m p.2 (.bool true)) (q++[p.2]):=by
 have hg:=kT.go hc hp he;refine⟨fun y=>?_,fun x hx=>?_,fun y hy=>?_⟩
 ·rw[x6];split
  ·exact .inr rfl
  ·exact h.bool y
 ·rcases amc.1 hx with hx|hx
  ·exact h.YD x hx
  ·rw[alG.1 hx];exact .inr hg
 ·rw[na,al7,decide_eq_true_eq] at hy;rcases hy with rfl|hy
  ·exact hg
  ·exact h.met y hy
def AZ (l:List (Int×Int)) (b:Int) (m:List (Int×Value)) (x:Int):Prop:=∀p∈l,p.1=x->¬p.2=b/\lh m p.2=true
theorem AZ.put {l:List (Int×Int)} {b x y:Int} {m:List (Int×Value)} (h:AZ l b m x):AZ l b (cd m y (.bool true)) x:=fun p hp he=>by
 have:=h p hp he;exact⟨this.1,by rw[na,this.2,Bool.or_true]⟩
theorem SC {l:List (Int×Int)} {a b:Int} {m:List (Int×Value)} (h:∀x,(x=a\/lh m x=true)->AZ l b m x):¬kT l a b:=by
 have key:∀y,kT l a y->¬y=b/\lh m y=true:=by
  intro y hy
  induction hy with
  |one he=>exact h a (.inl rfl) _ he rfl
  |more _ he ih=>exact h _ (.inr ih.2) _ he rfl
 exact fun hp=>(key b hp).1 rfl
theorem tw {l:List (Int×Int)} {a b:Int} (hl:l.length<=1000000):af Tryz.prog 13 [.sl (aD l),nI a,nI b] (nB (kU l a b)):=by
 refine UF ⟨rfl,?_⟩;refine ay.intro (fun v:List (Int×Value)×Nat×List Int=>((aD l,b,(),(),()),(v.1,(v.2.1,v.2.2),())))
  (fun v=>SB l a v.1 v.2.2/\(∀x,(x=a\/lh v.1 x=true)->x∈v.2.2\/AZ l b v.1 x)/\v.2.2.length+tv l v.1<=l.length+1)
  (fun v=>2*tv l v.1+v.2.2.length) ([],0,[a]) rfl ⟨⟨fun _=>.inl rfl,fun x hx=>.inl (alG.1 hx),fun y hy=>absurd (show false=true from hy) (by decide)⟩,fun x hx=>.inl (by
   rcases hx with rfl|hx
   ·exact alG.2 rfl
   ·exact absurd (show false=true from hx) (by decide)),by have:=SA l [];simp only[amt];omega⟩ ?_
 intro ⟨m,n,q⟩ ⟨hI,hS,hn⟩ again bY;dsimp only at hI hS hn ⊢;refine⟨rfl,ag.intro (fun h=>?_) fun h=>?_⟩
 ·match q,hI,hS,hn,bY,h with
  | [],_,_,_,_,h=>simp at h
  |c::q,hI,hS,hn,bY,_=>
   have hc:=hI.YD c alD;refine⟨rfl,⟨by omega,by simp only[als];omega⟩,rfl,by simp,rfl,⟨by omega,by simp only[als];omega⟩,rfl,?_⟩;simp only[als] at hn;refine ay.intro (fun v:Nat×List (Int×Value)×Nat×List Int=>((aD l,b,(),(),c,aD l,((List.length (aD l):Nat):Int),(v.1:Int),()),(v.2.1,(v.2.2.1,v.2.2.2),())))
    (fun v=>v.1<=l.length/\SB l a v.2.1 v.2.2.2/\(∀x,(x=a\/lh v.2.1 x=true)->x∈v.2.2.2\/x=c\/AZ l b v.2.1 x)/\(∀p∈l.take v.1,p.1=c->¬p.2=b/\lh v.2.1 p.2=true)/\v.2.2.2.length+tv l v.2.1<=l.length/\2*tv l v.2.1+v.2.2.2.length<=2*tv l m+q.length)
    (fun v=>l.length-v.1) (0,m,n+1,q) rfl ⟨aly _,⟨hI.bool,fun x hx=>hI.YD x (alK _ hx),hI.met⟩,fun x hx=>(hS x hx).elim (fun h=>(alW.1 h).elim (fun e=>.inr (.inl e)) .inl) fun h=>.inr (.inr h),(fun p hp=>by cases hp),by show q.length+tv l m<=l.length;omega,alp _⟩ ?_
   intro ⟨k,m',n',q'⟩ ⟨hk,hI,hS,hT,hn,hd⟩ B3 Fg;dsimp only at hk hI hS hT hn hd ⊢;refine ag.intro (fun h=>?_) fun h=>⟨rfl,?_⟩
   ·have aq:k<l.length:=by rw[dc] at h;simpa using h
    have hp:=alH aq;have ht:l.take (k+1)=l.take k++[l[k]]:=amq aq;refine⟨by omega,by rw[dc];omega,_,_,fN aq,ag.intro (fun h=>⟨rfl,?_⟩) fun h=>ag.intro (fun h2=>?_) fun h2=>?_⟩
    ·have h:¬l[k].1=c:=by simpa using h
     rw[aV (by omega)];refine Fg (k+1,m',n',q') ⟨by dsimp only;omega,hI,hS,fun p hp he=>?_,hn,hd⟩ (by dsimp only;omega);rw[ht] at hp;rcases amc.1 hp with hp|hp
     ·exact hT p hp he
     ·rw[alG.1 hp] at he;exact absurd he h
    ·have h:l[k].1=c:=by simpa using h
     have h2:l[k].2=b:=by simpa using h2
     have:=(x8 l a b).2 (by rw[<-h2];exact kT.go hc hp h);rw[this]
    ·have h:l[k].1=c:=by simpa using h
     have h2:¬l[k].2=b:=by simpa using h2
     refine⟨?_,ag.intro (fun h3=>⟨rfl,⟨?_,?_⟩,rfl,?_⟩) fun h3=>⟨rfl,?_⟩⟩
     ·rcases hI.bool l[k].2 with e|e<;>rw[e]<;>rfl
     ·show _<=(maxLen:Nat);have:2000000<=maxLen:=by decide
      simp only[amt];omega
     ·have:TD.bytes OM<=100:=by decide
      have h5:(q'.length+1)*TD.bytes OM<=2000000*100:=amT (by omega) this;simp only[amt];omega
     ·have h3:lh m' l[k].2=false:=by simpa [lh] using h3
      have hu:=Mr hp h3;rw[aV (by omega)];refine Fg (k+1,cd m' l[k].2 (.bool true),n'+1,q'++[l[k].2]) ⟨by dsimp only;omega,hI.push hc hp h,fun x hx=>?_,fun p hp he=>?_,by dsimp only;rw[alA,amt];omega,by dsimp only;rw[alA,amt];omega⟩ (by dsimp only;omega)
      ·by_cases YT:x=l[k].2
       ·exact .inl (by rw[YT];exact List.mem_append_right _ (alG.2 rfl))
       ·have:x=a\/lh m' x=true:=hx.imp id fun h=>by rw[na,decide_eq_false YT,amp] at h;exact h
        rcases hS x this with h|h|h
        ·exact .inl (am1 _ h)
        ·exact .inr (.inl h)
        ·exact .inr (.inr h.put)
      ·rw[ht] at hp;rcases amc.1 hp with hp|hp
       ·have:=hT p hp he;exact⟨this.1,by rw[na,this.2,Bool.or_true]⟩
       ·rw[alG.1 hp,na,decide_eq_true rfl,amZ];exact⟨h2,rfl⟩
     ·have h3:lh m' l[k].2=true:=by simpa [lh] using h3
      rw[aV (by omega)];refine Fg (k+1,m',n',q') ⟨by dsimp only;omega,hI,hS,fun p hp he=>?_,hn,hd⟩ (by dsimp only;omega);rw[ht] at hp;rcases amc.1 hp with hp|hp
      ·exact hT p hp he
      ·rw[alG.1 hp];exact⟨h2,h3⟩
   ·have:l.length<=k:=by rw[dc] at h;simpa using h
    rw[alI this] at hT;refine bY (m',n',q') ⟨hI,fun x hx=>(hS x hx).elim .inl fun h=>.inr (h.elim (fun e=>by rw[e];exact hT) id),by dsimp only;omega⟩ ?_;simp only[als];omega
 ·have hq:q=[]:=by
   have:¬(0:Int)<((q.length:Nat):Int):=by simpa using h
   exact List.length_eq_zero_iff.1 (by omega)
  subst hq;have V8:=SC fun x hx=>(hS x hx).resolve_left fun h=>by cases h
  have:kU l a b=false:=by
   rw[<-Bool.not_eq_true];exact fun h=>V8 ((x8 l a b).1 h)
  rw[this]
section
variable {s w:ByteArray} {m m':Mk} {f:Nat} {a:List AV} {H:List ab}
theorem IH {e:CG} {x:It} (h:1<=x.words.length):aG Tryz.prog 161 [Mq e,.ptr 0 0] (IO x) (fun r q=>r=nB (decide (e.name=fG x 0))/\q=IO x):=
 Rx ⟨by omega,by rw[alm];omega,_,qi (k:=0) (by omega),by rw[eG],rfl⟩
theorem CM {l:List CG} {x:It} (h:1<=x.words.length) (hl:l.length<=1000000):aG Tryz.prog 160 [.sl (aE l),.bf 161 [.ptr 0 0]] (IO x) (fun r q=>r=nI (nY (fG x 0) l 0)/\q=IO x):=by
 have zd:(aE l).length=l.length:=alm _;refine E8 ?_;refine ay.intro (fun k:Nat=>((aE l,((),()),(l.length:Int),(k:Int),()),((x.kind,x.words.map nS,x.nodes.map Nd.enc,x.num,x.at_,()),()))) (fun k=>k<=l.length/\nY (fG x 0) l 0=nY (fG x 0) (l.drop k) k) (fun k=>l.length-k) 0 (by rw[zd];rfl) ⟨aly _,rfl⟩ ?_;intro k ⟨hk,hd⟩ again bY;dsimp only;unfold u6;rw[zd];refine ag.intro (fun h1=>?_) fun h1=>?_
 ·have aq:k<l.length:=by simpa using h1
  rw[alw aq,nY] at hd;refine⟨by omega,by omega,_,_,_,_,_,_,_,_,_,Gm aq,W2 (IH h) (ag.intro (fun h2=>?_) fun h2=>?_)⟩
  ·rw[if_pos (of_decide_eq_true h2)] at hd;rw[hd];exact⟨rfl,rfl⟩
  ·rw[if_neg (of_decide_eq_false h2)] at hd;rw[aV (by omega)];exact bY (k+1) ⟨by omega,hd⟩ (by omega)
 ·have je:l.length<=k:=by simpa using h1
  rw[alC je,nY] at hd;rw[hd];exact⟨rfl,rfl⟩
abbrev cmA (c:VL):AV:=.agg [nI c.kind,nI c.num,.sl (c.left.binds.map Ty.enc),nI c.left.kind,nI c.left.index,.sl (c.left.args.map Tm.enc),.sl (c.right.binds.map Ty.enc),nI c.right.kind,nI c.right.index,.sl (c.right.args.map Tm.enc),nI c.of_]
theorem Gq (l:List VL) (c:VL):bH l++[cmA c]=bH (l++[c]):=by simp[bH]
structure CmI (s:ByteArray) (x:It):Prop where
 one:x.kind=9->1<=x.nodes.length/\yN s (dF x 0).size (dF x 0)=true/\(dF x 0).size<=900000
 two:x.kind=10->2<=x.nodes.length/\yN s (dF x 0).size (dF x 0)=true/\yN s (dF x 1).size (dF x 1)=true/\(dF x 0).size<=900000/\(dF x 1).size<=900000
 word:x.kind=12->1<=x.words.length
theorem tx {c:VL} (h:m.cX.length<=1000000) {d:TD} (hd:d.size=11) (hb:d.bytes<=1000) (e:m'=IB c m):(bH m.cX).length=(bH m.cX).length/\aZ d (bH m.cX++[cmA c]).length [] [cmA c]/\(AV.av []=.av []/\bz (m.aK.map nS) (cr m.consts) (m.bn.map nS) (aE m.eqs) (aE m.rules) (aD m.prec) (aD m.status) (bH m.cX++[cmA c]) (m.types.map Ty.enc) (cv m.words) s m.fault.1 m.fault.2.1 m.fault.2.2.1 m.fault.2.2.2=MO s m'):=by
 subst e;refine⟨rfl,bp hd.symm (by simp;omega) hb,rfl,?_⟩;rw[Gq];rfl
theorem II {x:It} (hs:s.size<=1000000000) (ha:ID s x.at_) (hm:MI 500 m) (hx:CmI s x) (h1:m.eqs.length<=1000000) (h2:m.cX.length<=900000):
  aG Tryz.prog 93 [.ptr 10 0,gL x] (MO s m) (fun r q=>r=.av []/\q=MO s (VP s x m)):=by
 have hf:=bx (s:=s) (decide ((m.cX.length:Int)<200)) 2 x.at_ m;have eA:=pS (m:=m) (n:=m.cX.length) (s:=s) hs ha;unfold VP;have el:(((bH m.cX).length:Nat):Int)=((m.cX.length:Nat):Int):=by rw[alm]
 refine Vn ⟨rfl,?_⟩;rw[el];refine oA eA ?_;unfold qR at *;generalize cx s (decide ((m.cX.length:Int)<200)) 2 x.at_ m=m1 at *;clear eA el;have MF:=hm.fo hf;have h1:m1.eqs.length<=1000000:=by obtain⟨g,rfl⟩:=hf;exact h1
 have h2:m1.cX.length<=900000:=by obtain⟨g,rfl⟩:=hf;exact h2
 clear hf hm;refine GD cw (ag.intro (fun h=>?_) fun h=>?_)
 ·have h:jL m1=false:=by simpa using h
  unfold VO;rw[if_pos h];exact⟨rfl,rfl⟩
 have h:¬jL m1=false:=by simpa using h
 unfold VO;rw[if_neg h];have hlen:(x.nodes.map Nd.enc).length=x.nodes.length:=alm _;refine ag.intro (fun k9=>?_) fun k9=>ag.intro (fun SD=>?_) fun SD=>ag.intro (fun W3=>?_) fun W3=>?_
 ·have k9:x.kind=9:=by simpa using k9
  obtain⟨g1,g2,g3⟩:=hx.one k9;rw[if_pos k9];have hf:=mY (s:=s) (dF x 0) m1;have ht:=pR hs MF g2 g3;generalize fD s (dF x 0) m1=p at *;have h2:p.2.cX.length<=1000000:=by obtain⟨g,e⟩:=hf;rw[e];exact alT h2 (by omega)
  exact⟨by omega,by omega,_,_,_,_,tr (l:=x.nodes) (k:=0) (by omega),mcM ht (tx (c:=⟨x.kind,x.num,p.1.1,cA,0⟩) h2 rfl (by decide) rfl)⟩
 ·have k9:¬x.kind=9:=by simpa using k9
  have SD:x.kind=10:=by simpa using SD
  obtain⟨g1,g2,g3,g4,g5⟩:=hx.two SD;rw[if_neg k9,if_pos SD];have hf:=CJ (s:=s) (dF x 0) (dF x 1) false m1;have ht:=yS (b:=false) hs MF g1 g2 g3 g4 g5;change aG _ _ _ _ (fun r q=>r=.av [MV (lZ s (dF x 0) (dF x 1) false m1).1.1,MV (lZ s (dF x 0) (dF x 1) false m1).1.2]/\q=MO s (lZ s (dF x 0) (dF x 1) false m1).2) at ht;generalize lZ s (dF x 0) (dF x 1) false m1=p at *;have h2:p.2.cX.length<=1000000:=by obtain⟨g,e⟩:=hf;rw[e];exact alT h2 (by omega)
  exact mcW ht (tx (c:=⟨x.kind,x.num,p.1.1,p.1.2,0⟩) h2 rfl (by decide) rfl)
 ·have k9:¬x.kind=9:=by simpa using k9
  have SD:¬x.kind=10:=by simpa using SD
  have W3:x.kind=12:=by simpa using W3
  rw[if_neg k9,if_neg SD,if_pos W3];have hf:=bx (s:=s) (decide (nY (fG x 0) m1.eqs 0>=0)) 4 x.at_ m1;refine⟨rfl,icI (CM (hx.word W3) h1) (oA (aU hs ha) ?_)⟩;generalize cx s (decide (nY (fG x 0) m1.eqs 0>=0)) 4 x.at_ m1=m2 at *;have h2:m2.cX.length<=1000000:=by obtain⟨g,e⟩:=hf;rw[e];exact alT h2 (by omega)
  exact tx (c:=⟨x.kind,x.num,cA,cA,nY (fG x 0) m1.eqs 0⟩) h2 rfl (by decide) rfl
 ·have k9:¬x.kind=9:=by simpa using k9
  have SD:¬x.kind=10:=by simpa using SD
  have W3:¬x.kind=12:=by simpa using W3
  rw[if_neg k9,if_neg SD,if_neg W3];exact tx (c:=⟨x.kind,x.num,cA,cA,0⟩) (alT h2 (by omega)) rfl (by decide) rfl
abbrev MP (s:ByteArray) (m:Mk):List ab:=Lq (m.aK.map nS) (cr m.consts) (m.bn.map nS) (aE m.eqs) (aE m.rules) (aD m.prec) (aD m.status) (bH m.cX) (m.types.map Ty.enc) (cv m.words) s m.fault.1 m.fault.2.1 m.fault.2.2.1 m.fault.2.2.2
section
variable {N0:List AV->List AV->List AV->List AV->List AV->List AV->List AV->List AV->List AV->List (ByteArray×Value)->ByteArray->Int->Int->Int->ByteArray->Bool->Prop} {b:Bool}
theorem pcB (h:aG Tryz.prog f a H (fun r q=>r=nB b/\q=MP s m')) (hn:N0 (m'.aK.map nS) (cr m'.consts) (m'.bn.map nS) (aE m'.eqs) (aE m'.rules) (aD m'.prec) (aD m'.status) (bH m'.cX) (m'.types.map Ty.enc) (cv m'.words) s m'.fault.1 m'.fault.2.1 m'.fault.2.2.1 m'.fault.2.2.2 b):OU f a H N0:=
 ⟨_,h,fun r q ⟨e1,e2⟩=>⟨_,_,_,_,_,_,_,_,_,_,_,_,_,_,_,_,⟨e1,e2⟩,hn⟩⟩
end
section
variable {N0:List AV->List AV->List AV->List AV->List AV->List AV->List AV->List AV->List AV->List (ByteArray×Value)->ByteArray->Int->Int->Int->ByteArray->Int->Prop} {b:Int}
theorem pcI (h:aG Tryz.prog f a H (fun r q=>r=nI b/\q=MP s m')) (hn:N0 (m'.aK.map nS) (cr m'.consts) (m'.bn.map nS) (aE m'.eqs) (aE m'.rules) (aD m'.prec) (aD m'.status) (bH m'.cX) (m'.types.map Ty.enc) (cv m'.words) s m'.fault.1 m'.fault.2.1 m'.fault.2.2.1 m'.fault.2.2.2 b):WD f a H N0:=
 ⟨_,h,fun r q ⟨e1,e2⟩=>⟨_,_,_,_,_,_,_,_,_,_,_,_,_,_,_,_,⟨e1,e2⟩,hn⟩⟩
end
def CN (p:List (Int×Int)):List Int->Nat->Int
 | [],_ => -1
 |c::l,k=>if kU p c c=true then(k:Int) else CN p l (k+1)
theorem KN (p:List (Int×Int)):∀(l:List Int) (k:Nat),CN p l k>=0↔(l.any fun c=>kU p c c)=true
 | [],k=>by rw[CN];exact⟨fun h=>(by omega),fun h=>by cases h⟩
 |e::l,k=>by
  rw[CN,List.any_cons];split
  ·rename_i h;rw[h];exact⟨fun _=>rfl,fun _=>by omega⟩
  ·rename_i h;have h:kU p e e=false:=by simpa using h
   rw[h,amp];exact KN p l (k+1)
theorem CO {l:List Int} (hl:l.length<=1000000) (hp:m.prec.length<=1000000):aG Tryz.prog 222 [.sl (bB l),.bf 156 [.ptr 11 0]] (MP s m) (fun r q=>r=nI (CN m.prec l 0)/\q=MP s m):=by
 refine E1 ⟨rfl,rfl,rfl,rfl,rfl,rfl,rfl,rfl,rfl,?_⟩;refine ay.intro (fun k:Nat=>((bB l,((),()),(l.length:Int),(k:Int),()),(m.aK.map nS,cr m.consts,m.bn.map nS,aE m.eqs,aE m.rules,aD m.prec,aD m.status,bH m.cX,m.types.map Ty.enc,cv m.words,((),(),(),(),(),(),(),(),(),s,(),m.fault.1,m.fault.2.1,m.fault.2.2.1,m.fault.2.2.2,()),((),()),()))) (fun k=>k<=l.length/\CN m.prec l 0=CN m.prec (l.drop k) k) (fun k=>l.length-k) 0 (by rw[dV];rfl) ⟨aly _,rfl⟩ ?_;intro k ⟨hk,hd⟩ again bY;dsimp only;unfold uX;rw[dV];refine ag.intro (fun h1=>?_) fun h1=>?_
 ·have aq:k<l.length:=by simpa using h1
  rw[alw aq,CN] at hd;refine⟨by omega,by omega,_,kb aq,pcB (b:=kU m.prec l[k] l[k]) (m':=m) (s:=s) (Rp ⟨rfl,_,tw hp,rfl,rfl⟩) (ag.intro (fun h2=>?_) fun h2=>?_)⟩
  ·rw[if_pos h2] at hd;rw[hd];exact⟨rfl,rfl⟩
  ·rw[if_neg (by rw[h2];decide)] at hd;rw[aV (by omega)];exact⟨rfl,rfl,rfl,rfl,rfl,rfl,rfl,rfl,rfl,bY (k+1) ⟨by omega,hd⟩ (by omega)⟩
 ·have je:l.length<=k:=by simpa using h1
  rw[alC je,CN] at hd;rw[hd];exact⟨rfl,rfl⟩
theorem Gr {l:List Int} (hl:l.length<=1000000) (hp:m.prec.length<=1000000):aG Tryz.prog 155 [.sl (bB l),.bf 156 [.ptr 11 0]] (MP s m) (fun r q=>r=nB (l.any fun c=>kU m.prec c c)/\q=MP s m):=by
 refine E2 (pcI (CO hl hp) ⟨congrArg nB ?_,rfl⟩);rw[amL,decide_eq_true_iff];exact KN _ _ _
end
section
variable {s w:ByteArray} {m m':Mk} {f:Nat} {a:List AV} {H:List ab}
theorem vn (x y:Int):∀l:List Int,eW (l++[x]++[y])=eW (l++[x])++[(x,y)]
 | []=>rfl
 | [z]=>rfl
 |z::u::l=>by
  have:=vn x y (u::l);simp only[amR,eW] at this ⊢;rw[this]
theorem vo {l:List Int} {k:Nat} (h:k+1<l.length):eW (l.take (k+2))=eW (l.take (k+1))++[(l[k],l[k+1])]:=by
 rw[<-dh h,<-dh (show k<l.length by omega),vn]
theorem yW (a:Int):∀(l:List ByteArray) (m:Mk),Fo m (eV s a l m).2
 | [],m=>Fo.refl m
 |w::l,m=>(qj w a m).trans (yW a l _)
theorem vp (a:Int):∀(l:List ByteArray) (m:Mk),(eV s a l m).1.length=l.length
 | [],m=>rfl
 |w::l,m=>by rw[eV,als,als,vp a l]
theorem CP {x:It} (hs:s.size<=1000000000) (ha:ID s x.at_) (hw:x.words.length<=900000) (hp:m.prec.length<=90000):
  aG Tryz.prog 91 [.ptr 10 0,gL x] (MO s m) (fun r q=>r=.av []/\q=MO s (CH s x m)):=by
 have YZ:(x.words.map nS).length=x.words.length:=alm _;refine Vk ⟨rfl,rfl,rfl,rfl,rfl,rfl,rfl,rfl,rfl,rfl,?_⟩;refine ay.intro (fun p:Nat×List Int×Mk=>(((),(),(),x.words.map nS,(x.words.length:Int),(p.1:Int),()),(p.2.2.aK.map nS,cr p.2.2.consts,p.2.2.bn.map nS,aE p.2.2.eqs,aE p.2.2.rules,aD p.2.2.prec,aD p.2.2.status,bH p.2.2.cX,p.2.2.types.map Ty.enc,cv p.2.2.words,((),(),(),(),(),(),(),(),(),s,(),p.2.2.fault.1,p.2.2.fault.2.1,p.2.2.fault.2.2.1,p.2.2.fault.2.2.2,()),((),()),(x.kind,x.words.map nS,x.nodes.map Nd.enc,x.num,x.at_,()),bB p.2.1,())))
  (fun p=>p.1<=x.words.length/\p.2.1.length=p.1/\Fo m p.2.2/\eV s x.at_ x.words m=(p.2.1++(eV s x.at_ (x.words.drop p.1) p.2.2).1,(eV s x.at_ (x.words.drop p.1) p.2.2).2)) (fun p=>x.words.length-p.1) (0,[],m) (by rw[YZ];rfl) ⟨aly _,rfl,Fo.refl m,rfl⟩ ?_
 intro ⟨k,l,m1⟩ ⟨hk,hl,hf,he⟩ again bY;dsimp only at hk hl hf he ⊢;unfold Kf;rw[YZ];have hil:=dV l;refine ag.intro (fun h=>?_) fun h=>?_
 ·have aq:k<x.words.length:=by simpa using h
  have hc:=tq (m:=m1) (w:=x.words[k]) hs ha;have hcf:=hf.trans (qj (s:=s) x.words[k] x.at_ m1);rw[alw aq,eV] at he;refine⟨by omega,by omega,_,by rw[getD_map aq],mcI hc ⟨rfl,bp rfl (by simp[dV];omega) (by decide),rfl,rfl,rfl,rfl,rfl,rfl,rfl,rfl,rfl,rfl,?_⟩⟩;rw[aV (by omega),kc];refine bY (k+1,l++[(fP s x.words[k] x.at_ m1).1],(fP s x.words[k] x.at_ m1).2) ⟨by dsimp only;omega,by simp;omega,hcf,?_⟩ (by dsimp only;omega);rw[he];simp only[al3,am0]
 ·have je:x.words.length<=k:=by simpa using h
  rw[alC je] at he;simp only[eV,ame] at he;clear bY again;have iC:m1.prec.length<=90000:=by obtain⟨g,rfl⟩:=hf;exact hp
  have e1:decide (IntKind.wrap .i64 (((bB l).length:Nat)-1:Int)<=IntKind.wrap .i64 (200-(((aD m1.prec).length:Nat):Int)))=decide ((l.length:Int)-1<=200-(m1.prec.length:Int)):=by
   rw[hil,dc,aT (by omega) (by omega),aT (by omega) (by omega)]
  unfold CH;rw[he];refine⟨rfl,rfl,?_⟩;rw[e1];refine oA (aU hs ha) ?_;dsimp only;have hf2:=bx (s:=s) (decide ((l.length:Int)-1<=200-(m1.prec.length:Int))) 2 x.at_ m1;generalize cx s (decide ((l.length:Int)-1<=200-(m1.prec.length:Int))) 2 x.at_ m1=m2 at hf2 ⊢;have zj:m2.prec.length<=90000:=by obtain⟨g,rfl⟩:=hf2;exact iC
  unfold IA;refine GD cw (ag.intro (fun h=>?_) fun h=>?_)
  ·have h:¬jL m2=true:=by simpa using h
   rw[if_neg h];exact⟨rfl,rfl⟩
  have h:jL m2=true:=by simpa using h
  rw[if_pos h];refine⟨rfl,rfl,rfl,rfl,rfl,rfl,rfl,rfl,rfl,rfl,?_⟩;refine ay.intro (fun i:Nat=>(((),(),(),((i+1:Nat):Int),()),(m2.aK.map nS,cr m2.consts,m2.bn.map nS,aE m2.eqs,aE m2.rules,aD (m2.prec++eW (l.take (i+1))),aD m2.status,bH m2.cX,m2.types.map Ty.enc,cv m2.words,((),(),(),(),(),(),(),(),(),s,(),m2.fault.1,m2.fault.2.1,m2.fault.2.2.1,m2.fault.2.2.2,()),((),()),(x.kind,x.words.map nS,x.nodes.map Nd.enc,x.num,x.at_,()),bB l,())))
   (fun i=>i<=l.length/\(eW (l.take (i+1))).length<=i) (fun i=>l.length-i) 0 ?_ ⟨aly _,?_⟩ ?_
  ·cases l with
   |nil=>simp[eW]
   |cons c l=>simp[eW]
  ·cases l with
   |nil=>simp[eW]
   |cons c l=>simp[eW]
  intro i ⟨hi,hq⟩ again bY;dsimp only;unfold E3;rw[hil];refine⟨rfl,ag.intro (fun h=>?_) fun h=>?_⟩
  ·have aq:i+1<l.length:=by have:=of_decide_eq_true h;omega
   have ew:IntKind.wrap .i64 (((i+1:Nat):Int)-1)=(i:Int):=by rw[aT (by omega) (by omega)];omega
   rw[ew];refine⟨rfl,by omega,by omega,_,kb (by omega),rfl,by omega,by omega,_,kb aq,rfl,bp rfl (by simp[dc];omega) (by decide),rfl,rfl,rfl,rfl,rfl,rfl,rfl,rfl,rfl,rfl,?_⟩;rw[yV,aV (by omega),al3,<-vo aq];refine bY (i+1) ⟨by omega,?_⟩ (by omega);rw[vo aq,alA];simp;omega
  ·have je:l.length<=i+1:=by have:=of_decide_eq_false h;omega
   rw[alI je] at hq ⊢;have key:xY (bB l) (m2.aK.map nS) (cr m2.consts) (m2.bn.map nS) (aE m2.eqs) (aE m2.rules) (aD (m2.prec++eW l)) (aD m2.status) (bH m2.cX) (m2.types.map Ty.enc) (cv m2.words) s m2.fault.1 m2.fault.2.1 m2.fault.2.2.1 m2.fault.2.2.2 x.at_ (fun r q=>r=.av []/\q=MO s (So s l x.at_ { m2 with prec:=m2.prec++eW l })):=
    ⟨rfl,pcB (Gr (m:={ m2 with prec:=m2.prec++eW l }) (by omega) (by simp;omega)) (oA (aU (m:={ m2 with prec:=m2.prec++eW l }) hs ha) ⟨rfl,rfl⟩)⟩
   exact⟨key,key⟩
end
section
variable {s w:ByteArray} {m m':Mk} {f:Nat} {a:List AV} {H:List ab}
structure MJ (c n:Nat) (m:Mk):Prop where
 mi:MI c m
 b:m.aK.length<=n
 c:m.consts.length<=n
 v:m.bn.length<=n
 t:m.types.length<=n
 e:m.eqs.length<=n
 r:m.rules.length<=n
 p:m.prec.length<=n
 s:m.status.length<=n
 k:m.cX.length<=n
theorem MJ.fo {c n:Nat} (h:MJ c n m) (k:Fo m m'):MJ c n m':=by
 have hi:=h.mi.fo k;obtain⟨f,rfl⟩:=k;exact⟨hi,h.b,h.c,h.v,h.t,h.e,h.r,h.p,h.s,h.k⟩
theorem MI.mono {c c':Nat} (h:MI c m) (hc:c<=c'):MI c' m:=⟨h.hc,h.hm,alT h.cl hc,alT h.ml hc,h.wk⟩
theorem MJ.mono {c n c' n':Nat} (h:MJ c n m) (hc:c<=c') (hn:n<=n'):MJ c' n' m:=
 ⟨h.mi.mono hc,alT h.b hn,alT h.c hn,alT h.v hn,alT h.t hn,alT h.e hn,alT h.r hn,alT h.p hn,alT h.s hn,alT h.k hn⟩
theorem Gs {v:Mn}:∀{l:Mg} {p:ByteArray×Mn},p∈Iz l w v->p∈l\/p.2=v
 | [],p,h=>by
  rw[Iz] at h;rw[alG.1 h];exact .inr rfl
 |(k,u)::l,p,h=>by
  rw[Iz] at h;split at h
  ·rcases alW.1 h with rfl|h
   ·exact .inr rfl
   ·exact .inl (alK _ h)
  ·rcases alW.1 h with rfl|h
   ·exact .inl alD
   ·rcases Gs h with h|h
    ·exact .inl (alK _ h)
    ·exact .inr h
theorem MJ.name {c n:Nat} {x:Mn} {a:Int} (h:MJ c n m) (hx:lk x.kind/\lk x.idx):MJ c n (jM s w x a m):=by
 have h1:=h.fo (bx (s:=s) (!(tn m.words w).isSome) 4 a m);unfold jM Gc;split
 ·refine⟨⟨h1.mi.hc,h1.mi.hm,h1.mi.cl,h1.mi.ml,fun p hp=>?_⟩,h1.b,h1.c,h1.v,h1.t,h1.e,h1.r,h1.p,h1.s,h1.k⟩;rcases Gs hp with hp|hp
  ·exact h1.mi.wk p hp
  ·rw[hp];exact hx
 ·exact h1
theorem Ms {c a:Int} (hc:c≠0):jL (vm s c a m)=false:=by
 unfold vm;split
 ·show (c==0)=false;exact beq_eq_false_iff_ne.2 hc
 ·rename_i h;simpa using h
theorem SE {b:Bool} {c a:Int} (hc:c≠0) (h:jL (cx s b c a m)=true):b=true/\cx s b c a m=m:=by
 unfold cx at h ⊢;split at h
 ·rename_i hb;exact⟨hb,if_pos hb⟩
 ·rw[Ms hc] at h;cases h
theorem yX (n:Nd) (m:Mk):(lr s n m).1.size<=1000:=by
 show (if _ then _ else _:Ty).size<=_;split
 ·rename_i h;unfold vU at h;split at h
  ·have:=(SE (by decide) h).1;unfold Ty.cy at this;rw[aln] at this;exact of_decide_eq_true this.1
  ·rename_i h2;exact(h2 h).elim
 ·rw[mZ];decide
structure ItI (s:ByteArray) (x:It):Prop where
 at_:ID s x.at_
 wl:x.words.length<=80000
 ty:x.kind=2\/x.kind=3->1<=x.words.length/\1<=x.nodes.length/\KI s (dF x 0).size (dF x 0)=true/\(dF x 0).size<=900000
 two:x.kind=4\/x.kind=5->Two s x
 st:x.kind=7->2<=x.words.length
 cm:CmI s x
def Mu (x:It):Nat:=if x.kind=2\/x.kind=3 then 1 else 0
def wwI (x:It):Nat:=1+x.words.length
theorem SF:lk 1:=⟨by decide,by decide⟩
theorem W4:lk 2:=⟨by decide,by decide⟩
theorem yY {k:Nat} (h:k<=1000000):lk (k:Int):=⟨by omega,by omega⟩
theorem A0 {c:Nat} (a:Int):∀(l:List ByteArray) (n:Nat) (m:Mk),n+l.length<=900000->MJ c n m->MJ c (n+l.length) (rN s a l m)
 | [],n,m,_,h=>h
 |w::l,n,m,hn,h=>by
  rw[als] at hn ⊢;have h1:=h.name (s:=s) (w:=w) (x:=⟨true,0,m.aK.length⟩) (a:=a) ⟨eH,yY (by have:=h.b;omega)⟩;have h2:MJ c (n+1) (Gg w (jM s w ⟨true,0,m.aK.length⟩ a m)):=
   ⟨⟨h1.mi.hc,h1.mi.hm,h1.mi.cl,h1.mi.ml,h1.mi.wk⟩,by have:=h1.b;simp[Gg];omega,amv h1.c,amv h1.v,amv h1.t,amv h1.e,amv h1.r,amv h1.p,amv h1.s,amv h1.k⟩
  have:=A0 a l (n+1) _ (by omega) h2;rw[show n+(l.length+1)=n+1+l.length by omega];exact this
theorem yZ:∀l:List Int,(eW l).length<=l.length
 | []=>alp _
 | [z]=>aly _
 |z::u::l=>by
  have:=yZ (u::l);simp only[eW,als] at this ⊢;omega
theorem CQ (x:It) (m:Mk):Fo m (Ml s x m).2:=by
 refine(bx (s:=s) (!(iy (fG x 0) m.eqs)&&!(iy (fG x 0) m.rules)) 4 x.at_ m).trans ?_;unfold Ml YY;split
 ·refine(CJ (s:=s) (dF x 0) (dF x 1) true _).trans ?_;show Fo _ (eqF s x _);unfold eqF;split
  ·exact bx _ _ _ _
  ·exact Fo.refl _
 ·exact Fo.refl _
theorem SG {c n:Nat} {x:It} (h:MJ c n m) (hn:n+wwI x<=900000):MJ (c+Mu x) (n+wwI x) (qS s x m):=by
 unfold wwI at *;have hm:=h.mono (alL c (Mu x)) (alL n (1+x.words.length));have one:∀{q:Nat},q<=n->q+1<=n+(1+x.words.length):=fun h=>by omega
 unfold qS;split
 ·exact(A0 x.at_ x.words n m (by omega) h).mono (alL _ _) (by omega)
 split
 ·rename_i k2;have h1:=h.name (s:=s) (w:=fG x 0) (x:=⟨false,1,m.consts.length⟩) (a:=x.at_) ⟨SF,yY (by have:=h.c;omega)⟩;have ec:Mu x=1:=if_pos (.inl k2);generalize jM s (fG x 0) ⟨false,1,m.consts.length⟩ x.at_ m=m1 at h1;unfold IC;split
  ·have h2:=h1.fo (qh (s:=s) (dF x 0) m1);have hz:=yX (s:=s) (dF x 0) m1;generalize lr s (dF x 0) m1=p at h2 hz;have h3:=h2.mono (alL c (Mu x)) (alL n (1+x.words.length));refine⟨⟨fun q hq=>?_,h3.mi.hm,?_,h3.mi.ml,h3.mi.wk⟩,h3.b,?_,h3.v,h3.t,h3.e,h3.r,h3.p,h3.s,h3.k⟩
   ·rcases amc.1 hq with hq|hq
    ·exact h1.mi.hc q hq
    ·rw[alG.1 hq];exact hz
   ·have:=h1.mi.cl;simp;omega
   ·have:=h1.c;simp;omega
  ·exact h1.mono (alL _ _) (alL _ _)
 split
 ·rename_i _ k3;have h1:=h.name (s:=s) (w:=fG x 0) (x:=⟨false,2,m.bn.length⟩) (a:=x.at_) ⟨W4,yY (by have:=h.v;omega)⟩;have ec:Mu x=1:=if_pos (.inr k3);generalize jM s (fG x 0) ⟨false,2,m.bn.length⟩ x.at_ m=m1 at h1;unfold Yz;split
  ·have hz:=yX (s:=s) (dF x 0) { m1 with bn:=m1.bn++[fG x 0] };have h2:MJ c (n+(1+x.words.length)) { m1 with bn:=m1.bn++[fG x 0] }:=by
    have h3:=h1.mono (alp c) (alL n (1+x.words.length));exact⟨⟨h3.mi.hc,h3.mi.hm,h3.mi.cl,h3.mi.ml,h3.mi.wk⟩,h3.b,h3.c,by have:=h1.v;simp;omega,h3.t,h3.e,h3.r,h3.p,h3.s,h3.k⟩
   have h3:=(h2.fo (qh (s:=s) (dF x 0) _)).mono (alL c (Mu x)) (alp _);generalize lr s (dF x 0) { m1 with bn:=m1.bn++[fG x 0] }=p at h3 hz;refine⟨⟨h3.mi.hc,fun q hq=>?_,h3.mi.cl,?_,h3.mi.wk⟩,h3.b,h3.c,h3.v,?_,h3.e,h3.r,h3.p,h3.s,h3.k⟩
   ·rcases amc.1 hq with hq|hq
    ·exact h1.mi.hm q hq
    ·rw[alG.1 hq];exact hz
   ·have:=h1.mi.ml;simp;omega
   ·have:=h1.t;simp;omega
  ·exact h1.mono (alL _ _) (alL _ _)
 split
 ·have h1:=h.fo (bx (s:=s) (decide ((m.eqs.length:Int)<200)) 2 x.at_ m);unfold qR;generalize cx s (decide ((m.eqs.length:Int)<200)) 2 x.at_ m=m1 at h1;unfold eqP;split
  ·have h3:=(h1.fo (CQ (s:=s) x m1)).mono (alL c (Mu x)) (alL n (1+x.words.length));exact⟨⟨h3.mi.hc,h3.mi.hm,h3.mi.cl,h3.mi.ml,h3.mi.wk⟩,h3.b,h3.c,h3.v,h3.t,by have:=h1.e;simp;omega,h3.r,h3.p,h3.s,h3.k⟩
  ·exact h1.mono (alL _ _) (alL _ _)
 split
 ·have h1:=h.fo (bx (s:=s) (decide ((m.rules.length:Int)<200)) 2 x.at_ m);unfold qR;generalize cx s (decide ((m.rules.length:Int)<200)) 2 x.at_ m=m1 at h1;unfold Sq;split
  ·have h3:=(h1.fo (CQ (s:=s) x m1)).mono (alL c (Mu x)) (alL n (1+x.words.length));exact⟨⟨h3.mi.hc,h3.mi.hm,h3.mi.cl,h3.mi.ml,h3.mi.wk⟩,h3.b,h3.c,h3.v,h3.t,h3.e,by have:=h1.r;simp;omega,h3.p,h3.s,h3.k⟩
  ·exact h1.mono (alL _ _) (alL _ _)
 split
 ·unfold CH;have hl:=vp (s:=s) x.at_ x.words m;have h1:=h.fo (yW (s:=s) x.at_ x.words m);generalize eV s x.at_ x.words m=p at hl h1;have h2:=h1.fo (bx (s:=s) (decide ((p.1.length:Int)-1<=200-(p.2.prec.length:Int))) 2 x.at_ p.2);generalize cx s (decide ((p.1.length:Int)-1<=200-(p.2.prec.length:Int))) 2 x.at_ p.2=m1 at h2;have h3:=h2.mono (alL c (Mu x)) (alL n (1+x.words.length));unfold IA;split
  ·refine MJ.fo ?_ (bx _ _ _ _);have hq:=yZ p.1;exact⟨⟨h3.mi.hc,h3.mi.hm,h3.mi.cl,h3.mi.ml,h3.mi.wk⟩,h3.b,h3.c,h3.v,h3.t,h3.e,h3.r,by have:=h2.p;simp;omega,h3.s,h3.k⟩
  ·exact h3
 split
 ·unfold Gf;have h1:=h.fo (qj (s:=s) (fG x 0) x.at_ m);generalize fP s (fG x 0) x.at_ m=p at h1;have h2:=h1.fo (bx (s:=s) (!(p.2.status.any fun q=>q.1==p.1)) 4 x.at_ p.2);generalize cx s (!(p.2.status.any fun q=>q.1==p.1)) 4 x.at_ p.2=m1 at h2;have h3:=(h2.fo (bx (s:=s) (decide (Ge (fG x 1)>=0)) 3 x.at_ m1)).mono (alL c (Mu x)) (alL n (1+x.words.length));exact⟨⟨h3.mi.hc,h3.mi.hm,h3.mi.cl,h3.mi.ml,h3.mi.wk⟩,h3.b,h3.c,h3.v,h3.t,h3.e,h3.r,h3.p,by have:=h2.s;simp[Sp];omega,h3.k⟩
 ·unfold VP;have h1:=h.fo (bx (s:=s) (decide ((m.cX.length:Int)<200)) 2 x.at_ m);unfold qR;generalize cx s (decide ((m.cX.length:Int)<200)) 2 x.at_ m=m1 at h1;have add:∀{m2:Mk} {cm:VL},Fo m1 m2->MJ (c+Mu x) (n+(1+x.words.length)) (IB cm m2):=by
   intro m2 cm hf;have h2:=h1.fo hf;have h3:=h2.mono (alL c (Mu x)) (alL n (1+x.words.length));exact⟨⟨h3.mi.hc,h3.mi.hm,h3.mi.cl,h3.mi.ml,h3.mi.wk⟩,h3.b,h3.c,h3.v,h3.t,h3.e,h3.r,h3.p,h3.s,by have:=h2.k;simp[IB];omega⟩
  unfold VO;split
  ·exact h1.mono (alL _ _) (alL _ _)
  split
  ·exact add (mY _ _)
  split
  ·exact add (CJ _ _ _ _)
  split
  ·exact add (bx _ _ _ _)
  ·exact add (Fo.refl _)
end
section
variable {s w:ByteArray} {m m':Mk} {f:Nat} {a:List AV} {H:List ab}
section
variable {N0:List AV->List AV->List AV->List AV->List AV->List AV->List AV->List AV->List AV->List (ByteArray×Value)->ByteArray->Int->Int->Int->ByteArray->ByteArray->List AV->Int->Int->List AV->List AV->Int->Int->List AV->Prop} {e:CG}
theorem mcE (h:aG Tryz.prog f a H (fun r q=>r=Mq e/\q=MO s m')) (hn:N0 (m'.aK.map nS) (cr m'.consts) (m'.bn.map nS) (aE m'.eqs) (aE m'.rules) (aD m'.prec) (aD m'.status) (bH m'.cX) (m'.types.map Ty.enc) (cv m'.words) s m'.fault.1 m'.fault.2.1 m'.fault.2.2.1 m'.fault.2.2.2 e.name (e.left.binds.map Ty.enc) e.left.kind e.left.index (e.left.args.map Tm.enc) (e.right.binds.map Ty.enc) e.right.kind e.right.index (e.right.args.map Tm.enc)):gj f a H N0:=
 ⟨_,h,fun r q ⟨e1,e2⟩=>⟨_,_,_,_,_,_,_,_,_,_,_,_,_,_,_,_,_,_,_,_,_,_,_,_,⟨e1,e2⟩,hn⟩⟩
end
theorem IJ (l:List (ByteArray×Ty)) (w:ByteArray) (t:Ty):cr l++[.agg [nS w,.sl (t.args.map Ty.enc),nI t.base]]=cr (l++[(w,t)]):=by simp[cr]
theorem vq (l:List CG) (e:CG):aE l++[Mq e]=aE (l++[e]):=by simp[aE]
theorem y5 (l:List ByteArray) (w:ByteArray):l.map nS++[nS w]=(l++[w]).map nS:=by simp
theorem SH {l:List AV} {z x:AV} {k:Nat} (h:k=l.length):List.set (l++[z]) k x=l++[x]:=by
 subst h;rw[List.set_append_right _ _ (alp _),amO];rfl
theorem Gt {x:It} {c n:Nat} (hs:s.size<=1000000000) (hx:ItI s x) (hm:MJ c n m) (hn:n<=800000):
  Ki (((),(),x.words.map nS,(((x.words.map nS).length:Nat):Int),0,()),(m.aK.map nS,cr m.consts,m.bn.map nS,aE m.eqs,aE m.rules,aD m.prec,aD m.status,bH m.cX,m.types.map Ty.enc,cv m.words,((),(),(),(),(),(),(),(),(),s,(),m.fault.1,m.fault.2.1,m.fault.2.2.1,m.fault.2.2.2,()),(x.kind,x.words.map nS,x.nodes.map Nd.enc,x.num,x.at_,()),())) (fun r q=>r=.av []/\q=MO s (rN s x.at_ x.words m)):=by
 have YZ:(x.words.map nS).length=x.words.length:=alm _;have hl:=hx.wl;refine ay.intro (fun p:Nat×Mk=>(((),(),x.words.map nS,(x.words.length:Int),(p.1:Int),()),(p.2.aK.map nS,cr p.2.consts,p.2.bn.map nS,aE p.2.eqs,aE p.2.rules,aD p.2.prec,aD p.2.status,bH p.2.cX,p.2.types.map Ty.enc,cv p.2.words,((),(),(),(),(),(),(),(),(),s,(),p.2.fault.1,p.2.fault.2.1,p.2.fault.2.2.1,p.2.fault.2.2.2,()),(x.kind,x.words.map nS,x.nodes.map Nd.enc,x.num,x.at_,()),())))
  (fun p=>p.1<=x.words.length/\p.2.aK.length<=n+p.1/\rN s x.at_ x.words m=rN s x.at_ (x.words.drop p.1) p.2) (fun p=>x.words.length-p.1) (0,m) (by rw[YZ];rfl) ⟨aly _,hm.b,rfl⟩ ?_
 intro ⟨k,m1⟩ ⟨hk,hb,he⟩ again bY;dsimp only at hk hb he ⊢;unfold Kh;rw[YZ];have el:(m1.aK.map nS).length=m1.aK.length:=alm _;rw[el];refine ag.intro (fun h=>?_) fun h=>?_
 ·have aq:k<x.words.length:=by simpa using h
  rw[alw aq,rN] at he;refine⟨by omega,by omega,_,getD_map aq,rfl,oA (pP (m:=m1) (w:=x.words[k]) (x:=⟨true,0,m1.aK.length⟩) hs hx.at_) ?_⟩;have hb2:(jM s x.words[k] ⟨true,0,m1.aK.length⟩ x.at_ m1).aK=m1.aK:=by
   obtain⟨g,e⟩:=bx (s:=s) (!(tn m1.words x.words[k]).isSome) 4 x.at_ m1;unfold jM Gc;rw[e]
   split<;>rfl
  generalize jM s x.words[k] ⟨true,0,m1.aK.length⟩ x.at_ m1=m2 at he hb2 ⊢;refine⟨rfl,bp rfl (by simp[hb2];omega) (by decide),rfl,rfl,rfl,rfl,rfl,rfl,rfl,rfl,rfl,?_⟩;rw[aV (by omega),y5];exact bY (k+1,Gg x.words[k] m2) ⟨by dsimp only;omega,by simp[Gg,hb2];omega,he⟩ (by dsimp only;omega)
 ·have je:x.words.length<=k:=by simpa using h
  rw[alC je] at he;rw[he];exact⟨rfl,rfl⟩
theorem Gu {x:It} {n:Nat} (hs:s.size<=1000000000) (hx:ItI s x) (hm:MJ 500 n m) (hn:n<=80000):
  aG Tryz.prog 32 [.ptr 10 0,gL x] (MO s m) (fun r q=>r=.av []/\q=MO s (qS s x m)):=by
 have ha:=hx.at_;have YZ:(x.words.map nS).length=x.words.length:=alm _;have YN:(x.nodes.map Nd.enc).length=x.nodes.length:=alm _;have g0:1<=x.words.length->List.getD (x.words.map nS) (Int.toNat 0) .top=nS (fG x 0):=fun h=>qi (k:=0) (by omega);have g1:1<=x.nodes.length->List.getD (x.nodes.map Nd.enc) (Int.toNat 0) .top=gu (dF x 0):=fun h=>tr (k:=0) (by omega);unfold qS;refine Vo (ag.intro (fun k1=>?_) fun k1=>ag.intro (fun k2=>?_) fun k2=>ag.intro (fun k3=>?_) fun k3=>ag.intro (fun k4=>?_) fun k4=>ag.intro (fun k5=>?_) fun k5=>ag.intro (fun k6=>?_) fun k6=>ag.intro (fun k7=>?_) fun k7=>?_)
 ·rw[if_pos (by simpa using k1)];exact⟨rfl,rfl,rfl,rfl,rfl,rfl,rfl,rfl,rfl,Gt hs hx hm (by omega)⟩
 all_goals rw[if_neg (show ¬x.kind=1 by simpa using k1)]
 ·have k2:x.kind=2:=by simpa using k2
  obtain⟨z1,z2,z3,z4⟩:=hx.ty (.inl k2);rw[if_pos k2];have el:(cr m.consts).length=m.consts.length:=alm _;have W9:=hm.name (s:=s) (w:=fG x 0) (x:=⟨false,1,m.consts.length⟩) (a:=x.at_) ⟨SF,yY (by have:=hm.c;omega)⟩;have ff:=pP (m:=m) (w:=fG x 0) (x:=⟨false,1,m.consts.length⟩) hs ha;refine⟨by omega,by omega,_,g0 z1,rfl,?_⟩;rw[el];refine oA ff ?_;clear ff;generalize jM s (fG x 0) ⟨false,1,m.consts.length⟩ x.at_ m=m1 at W9 ⊢;unfold IC;refine GD cw (ag.intro (fun h=>?_) fun h=>?_)
  ·have h:jL m1=true:=h;rw[if_pos h];have ht:=rO (m:=m1) (k:=0) hs z3 (by omega);have hf:=qh (s:=s) (dF x 0) m1;have GY:=W9.c;generalize lr s (dF x 0) m1=p at ht hf ⊢;obtain⟨t,m2⟩:=p;obtain⟨g,rfl⟩:∃g,m2={ m1 with fault:=g }:=hf;have key:∀{d:TD},d.size=3->d.bytes<=1000->aZ d (cr m1.consts++[AV.agg [nS (fG x 0),.sl (t.args.map Ty.enc),nI t.base]]).length [] [.agg [nS (fG x 0),.sl (t.args.map Ty.enc),nI t.base]]:=fun h1 h2=>bp h1.symm (by simp;omega) h2;refine⟨by omega,by omega,_,g0 z1,by omega,by omega,_,_,_,_,g1 z2,VQ ht ⟨rfl,key rfl (by decide),rfl,?_⟩,VQ ht ⟨rfl,key rfl (by decide),rfl,?_⟩⟩
   all_goals dsimp only;rw[IJ]
  ·have h:¬jL m1=true:=by rw[show jL m1=false from h];decide
   rw[if_neg h];exact⟨rfl,rfl⟩
 all_goals rw[if_neg (show ¬x.kind=2 by simpa using k2)]
 ·have k3:x.kind=3:=by simpa using k3
  obtain⟨z1,z2,z3,z4⟩:=hx.ty (.inr k3);rw[if_pos k3];have el:(m.bn.map nS).length=m.bn.length:=alm _;have W9:=hm.name (s:=s) (w:=fG x 0) (x:=⟨false,2,m.bn.length⟩) (a:=x.at_) ⟨W4,yY (by have:=hm.v;omega)⟩;have ff:=pP (m:=m) (w:=fG x 0) (x:=⟨false,2,m.bn.length⟩) hs ha;refine⟨by omega,by omega,_,g0 z1,rfl,?_⟩;rw[el];refine oA ff ?_;clear ff;generalize jM s (fG x 0) ⟨false,2,m.bn.length⟩ x.at_ m=m1 at W9 ⊢;unfold Yz;refine GD cw (ag.intro (fun h=>?_) fun h=>?_)
  ·have h:jL m1=true:=h;rw[if_pos h];have ht:=rO (m:={ m1 with bn:=m1.bn++[fG x 0] }) (k:=0) hs z3 (by omega);have hf:=qh (s:=s) (dF x 0) { m1 with bn:=m1.bn++[fG x 0] };have hv1:=W9.v;have ht1:=W9.t;generalize lr s (dF x 0) { m1 with bn:=m1.bn++[fG x 0] }=p at ht hf ⊢;obtain⟨t,m2⟩:=p;obtain⟨g,rfl⟩:∃g,m2={ m1 with bn:=m1.bn++[fG x 0],fault:=g }:=hf;dsimp only at ht ⊢;have ew:bz (m1.aK.map nS) (cr m1.consts) (m1.bn.map nS++[nS (fG x 0)]) (aE m1.eqs) (aE m1.rules) (aD m1.prec) (aD m1.status) (bH m1.cX) (m1.types.map Ty.enc) (cv m1.words) s m1.fault.1 m1.fault.2.1 m1.fault.2.2.1 m1.fault.2.2.2=MO s { m1 with bn:=m1.bn++[fG x 0] }:=by rw[y5]
   have etl:(m1.types.map Ty.enc).length=m1.types.length:=alm _;have e1:List.set (m1.types.map Ty.enc++[.agg [.sl [],nI 0]]) (Int.toNat (((m1.types.map Ty.enc).length:Nat):Int)) (KH t)=(m1.types++[t]).map Ty.enc:=by
    rw[ams,SH rfl,ami];show _=_++[Ty.enc t];rw[Ty.ax]
   have e2:(m1.types.map Ty.enc++[AV.agg [.sl [],nI 0]]).length=((m1.types++[t]).map Ty.enc).length:=by simp
   have Uk:pw (m1.types.map Ty.enc) (m1.types.map Ty.enc) (fun r q=>r=.av []/\q=MO s { m1 with bn:=m1.bn++[fG x 0],fault:=g,types:=m1.types++[t] }) (m1.aK.map nS) (cr m1.consts) ((m1.bn++[fG x 0]).map nS) (aE m1.eqs) (aE m1.rules) (aD m1.prec) (aD m1.status) (bH m1.cX) (t.args.map Ty.enc) t.base (cv m1.words) s g.1 g.2.1 g.2.2.1 g.2.2.2:=by
    refine⟨rfl,by rw[ams];simp,rfl,?_⟩;rw[e1,e2]
   have ap:∀{d:TD},d.size=2->d.bytes<=1000->aZ d (m1.types.map Ty.enc++[AV.agg [.sl [],nI 0]]).length [] [.agg [.sl [],nI 0]]:=fun h1 h2=>bp h1.symm (by simp;omega) h2;have bd:0<=(((m1.types.map Ty.enc).length:Nat):Int)/\(((m1.types.map Ty.enc).length:Nat):Int)<(((m1.types.map Ty.enc++[AV.agg [.sl [],nI 0]]).length:Nat):Int)/\(m1.types.map Ty.enc++[AV.agg [.sl [],nI 0]]).length=(m1.types.map Ty.enc++[AV.agg [.sl [],nI 0]]).length:=⟨by omega,Int.ofNat_lt.2 (by rw[alA,amt];omega),rfl⟩;have MU:=ew▸ht;refine⟨by omega,by omega,_,g0 z1,rfl,bp rfl (by simp;omega) (by decide),by omega,by omega,_,_,_,_,g1 z2,⟨VQ MU ⟨rfl,rfl,ap rfl (by decide),bd,Uk,Uk⟩,⟨rfl,VQ MU ⟨rfl,ap rfl (by decide),bd,Uk,Uk⟩⟩⟩,VQ MU ⟨rfl,rfl,ap rfl (by decide),bd,Uk,Uk⟩⟩
  ·have h:¬jL m1=true:=by rw[show jL m1=false from h];decide
   rw[if_neg h];exact⟨rfl,rfl⟩
 all_goals rw[if_neg (show ¬x.kind=3 by simpa using k3)]
 ·have k4:x.kind=4:=by simpa using k4
  rw[if_pos k4];have el:(aE m.eqs).length=m.eqs.length:=alm _;refine⟨rfl,?_⟩;rw[el];refine oA (pS hs ha) ?_;have h1:=hm.fo (bx (s:=s) (decide ((m.eqs.length:Int)<200)) 2 x.at_ m);unfold qR;generalize cx s (decide ((m.eqs.length:Int)<200)) 2 x.at_ m=m1 at h1;unfold eqP;refine GD cw (ag.intro (fun h=>?_) fun h=>?_)
  ·rw[if_pos (show jL m1=true from h)];have he:=yU hs ha h1.mi (hx.two (.inl k4)) (by have:=h1.e;omega) (by have:=h1.r;omega);have hf:=CQ (s:=s) x m1;have hz:=h1.e;generalize Ml s x m1=p at he hf ⊢;obtain⟨e,m2⟩:=p;obtain⟨g,rfl⟩:∃g,m2={ m1 with fault:=g }:=hf;dsimp only at he ⊢;have ap:∀{d:TD},d.size=9->d.bytes<=1000->aZ d (aE m1.eqs++[Mq e]).length [] [Mq e]:=fun h1 h2=>bp h1.symm (by simp;omega) h2;refine⟨mcE he ⟨rfl,ap rfl (by decide),rfl,?_⟩,mcE he ⟨rfl,ap rfl (by decide),rfl,?_⟩⟩
   all_goals dsimp only;rw[vq]
  ·rw[if_neg (by rw[show jL m1=false from h];decide)];exact⟨rfl,rfl⟩
 all_goals rw[if_neg (show ¬x.kind=4 by simpa using k4)]
 ·have k5:x.kind=5:=by simpa using k5
  rw[if_pos k5];have el:(aE m.rules).length=m.rules.length:=alm _;refine⟨rfl,?_⟩;rw[el];refine oA (pS hs ha) ?_;have h1:=hm.fo (bx (s:=s) (decide ((m.rules.length:Int)<200)) 2 x.at_ m);unfold qR;generalize cx s (decide ((m.rules.length:Int)<200)) 2 x.at_ m=m1 at h1;unfold Sq;refine GD cw (ag.intro (fun h=>?_) fun h=>?_)
  ·rw[if_pos (show jL m1=true from h)];have he:=yU hs ha h1.mi (hx.two (.inr k5)) (by have:=h1.e;omega) (by have:=h1.r;omega);have hf:=CQ (s:=s) x m1;have hz:=h1.r;generalize Ml s x m1=p at he hf ⊢;obtain⟨e,m2⟩:=p;obtain⟨g,rfl⟩:∃g,m2={ m1 with fault:=g }:=hf;dsimp only at he ⊢;have ap:∀{d:TD},d.size=9->d.bytes<=1000->aZ d (aE m1.rules++[Mq e]).length [] [Mq e]:=fun h1 h2=>bp h1.symm (by simp;omega) h2;refine⟨mcE he ⟨rfl,ap rfl (by decide),rfl,?_⟩,mcE he ⟨rfl,ap rfl (by decide),rfl,?_⟩⟩
   all_goals dsimp only;rw[vq]
  ·rw[if_neg (by rw[show jL m1=false from h];decide)];exact⟨rfl,rfl⟩
 all_goals rw[if_neg (show ¬x.kind=5 by simpa using k5)]
 ·rw[if_pos (show x.kind=6 by simpa using k6)];exact oA (CP hs ha (by have:=hx.wl;omega) (by have:=hm.p;omega)) ⟨rfl,rfl⟩
 all_goals rw[if_neg (show ¬x.kind=6 by simpa using k6)]
 ·have k7:x.kind=7:=by simpa using k7
  rw[if_pos k7];exact oA (Gp hs ha (hx.st k7) (by have:=hm.s;omega)) ⟨rfl,rfl⟩
 ·rw[if_neg (show ¬x.kind=7 by simpa using k7)];exact oA (II hs ha hm.mi hx.cm (by have:=hm.e;omega) (by have:=hm.k;omega)) ⟨rfl,rfl⟩
end
section
variable {s w:ByteArray} {m m':Mk} {f:Nat} {a:List AV} {H:List ab}
abbrev prA (m:Mk):AV:=.agg [.sl (m.aK.map nS),.sl (cr m.consts),.sl (m.bn.map nS),.sl (m.types.map Ty.enc),.sl (aE m.eqs),.sl (aE m.rules),.sl (aD m.prec),.sl (aD m.status),.sl (bH m.cX)]
def Gv:List It->Nat
 | []=>0
 |x::l=>Mu x+Gv l
def zS:List It->Nat
 | []=>0
 |x::l=>wwI x+zS l
theorem VW (c n:Nat):MJ c n Mh:=by
 refine⟨⟨(fun q h=>by cases h),(fun q h=>by cases h),aly _,aly _,(fun q h=>by cases h)⟩,?_,?_,?_,?_,?_,?_,?_,?_,?_⟩<;>exact aly _
theorem SI {l:List It} {k:Nat} (h:k<l.length):List.getD (l.map gL) (Int.toNat (k:Int)) .top=gL l[k]:=getD_map h
theorem KO:∀l:List It,l.length<=zS l
 | []=>alp _
 |x::l=>by have:=KO l;simp only[zS,wwI,als];omega
theorem Gw (hs:s.size<=1000000000) (hi:∀x∈(dM s).1,ItI s x) (hc:Gv (dM s).1<=500) (hw:zS (dM s).1<=80000):af Tryz.prog 7 [nS s] (.av [prA (pO s).1,.agg (Ia (pO s).2)]):=by
 have hp:=vP hs;unfold pO;generalize dM s=P at *;obtain⟨its,fa⟩:=P;dsimp only at *;refine Yi ⟨_,_,_,_,_,hp,ag.intro (fun h=>?_) fun h=>?_⟩
 ·rw[if_neg (by simpa using h)];rfl
 rw[if_pos (by simpa using h)];have hil:(its.map gL).length=its.length:=alm _;have hle:=KO its;refine⟨rfl,rfl,rfl,rfl,rfl,rfl,rfl,rfl,rfl,?_⟩;refine ay.intro (fun p:Nat×Mk=>(((),(),(),its.map gL,(its.length:Int),(p.1:Int),()),(((),(),(),(),(),(),(),(),(),()),(0,0,0,⟨#[]⟩,()),(fa.1,fa.2.1,fa.2.2.1,fa.2.2.2,()),cv p.2.words,((),(),(),(),(),(),(),(),(),s,(),p.2.fault.1,p.2.fault.2.1,p.2.fault.2.2.1,p.2.fault.2.2.2,()),p.2.aK.map nS,cr p.2.consts,p.2.bn.map nS,aE p.2.eqs,aE p.2.rules,aD p.2.prec,aD p.2.status,bH p.2.cX,p.2.types.map Ty.enc,())))
  (fun p=>p.1<=its.length/\jL p.2=true/\(Gv (its.drop p.1)<=500/\zS (its.drop p.1)<=80000)/\MJ (500-Gv (its.drop p.1)) (80000-zS (its.drop p.1)) p.2/\uw s its Mh=uw s (its.drop p.1) p.2) (fun p=>its.length-p.1) (0,Mh) (by rw[hil];rfl) ⟨aly _,rfl,⟨hc,hw⟩,VW _ _,rfl⟩ ?_
 intro ⟨k,m1⟩ ⟨hk,ho,⟨GY,K2⟩,hj,he⟩ again bY;dsimp only at hk ho GY K2 hj he ⊢;unfold RE;rw[hil];refine ag.intro (fun h=>?_) fun h=>?_
 ·have aq:k<its.length:=by simpa using h
  rw[alw aq] at GY K2 hj he;simp only[Gv,zS] at GY K2 hj;rw[uw] at he;have hx:=hi _ (alH aq);have ff:=Gu hs hx (hj.mono (Nat.sub_le _ _) (Nat.sub_le _ _)) (alp _);have hj2:=SG (s:=s) (x:=its[k]) hj (by omega);refine⟨by omega,by omega,_,_,_,_,_,SI aq,oA ff (GD cw (ag.intro (fun h=>?_) fun h=>?_))⟩
  ·have h:¬jL (qS s its[k] m1)=true:=by simpa using h
   rw[if_neg h] at he;rw[he,YA,if_neg h];rfl
  ·have h:jL (qS s its[k] m1)=true:=by simpa using h
   rw[if_pos h] at he;rw[aV (by omega)];exact⟨rfl,rfl,rfl,rfl,rfl,rfl,rfl,rfl,rfl,bY (k+1,qS s its[k] m1) ⟨by dsimp only;omega,h,⟨by dsimp only;omega,by dsimp only;omega⟩,hj2.mono (by dsimp only;omega) (by dsimp only;omega),he⟩ (by dsimp only;omega)⟩
 ·have je:its.length<=k:=by simpa using h
  rw[alC je,uw] at he;rw[he,YA,if_pos ho];exact⟨rfl,rfl,rfl,rfl,rfl,rfl,rfl,rfl,rfl,rfl⟩
theorem CR (hc:∀q∈m.consts,q.2.size<=1000) (ht:∀q∈m.types,q.size<=1000) (hl:m.consts.length<=1000000) (zc:m.types.length<=1000000):af Tryz.prog 16 [prA m] (wTy m):=by
 have cY:(cr m.consts).length=m.consts.length:=alm _;have DK:(m.types.map Ty.enc).length=m.types.length:=alm _;refine UI ⟨rfl,?_⟩;refine ay.intro (fun k:Nat=>(((),(),(),cr m.consts,(m.consts.length:Int),(k:Int),()),((m.aK.map nS,cr m.consts,m.bn.map nS,m.types.map Ty.enc,aE m.eqs,aE m.rules,aD m.prec,aD m.status,bH m.cX,()),(0,(),(),()),((m.aK.length:Int),(),(),()),((m.consts.take k).map (·.2)).map Ty.enc,())))
  (fun k=>k<=m.consts.length) (fun k=>m.consts.length-k) 0 (by rw[cY,alm];rfl) (aly _) ?_
 intro k hk again bY;dsimp only;unfold JW;rw[cY];refine ag.intro (fun h=>?_) fun h=>?_
 ·have aq:k<m.consts.length:=by simpa using h
  have bO:=hc _ (alH aq);refine⟨by omega,by omega,_,_,_,KK aq,_,_,mU (t:=m.consts[k].2) (by omega),rfl,bp rfl (by simp;omega) (by decide),rfl,?_⟩;have e:((m.consts.take k).map (·.2)).map Ty.enc++[KH m.consts[k].2]=((m.consts.take (k+1)).map (·.2)).map Ty.enc:=by
   rw[<-dh aq,ami,ami];show _=_++[Ty.enc m.consts[k].2];rw[Ty.ax]
  rw[e,aV (by omega)];exact bY (k+1) (by omega) (by omega)
 ·have je:m.consts.length<=k:=by simpa using h
  rw[alI je];refine⟨rfl,rfl,?_⟩;clear bY;refine ay.intro (fun k:Nat=>(((),(),m.types.map Ty.enc,(m.types.length:Int),(k:Int),()),((m.aK.map nS,cr m.consts,m.bn.map nS,m.types.map Ty.enc,aE m.eqs,aE m.rules,aD m.prec,aD m.status,bH m.cX,()),(0,(),(),()),((m.aK.length:Int),(),(),()),(m.consts.map (·.2)).map Ty.enc,(m.types.take k).map Ty.enc,())))
   (fun k=>k<=m.types.length) (fun k=>m.types.length-k) 0 (by rw[DK];rfl) (aly _) ?_
  intro k hk again bY;dsimp only;unfold JV;rw[DK];refine ag.intro (fun h=>?_) fun h=>?_
  ·have aq:k<m.types.length:=by simpa using h
   have bO:=ht _ (alH aq);refine⟨by omega,by omega,_,_,Ty.bb aq,_,_,mU (t:=m.types[k]) (by omega),rfl,bp rfl (by simp;omega) (by decide),rfl,rfl,?_⟩;have e:(m.types.take k).map Ty.enc++[KH m.types[k]]=(m.types.take (k+1)).map Ty.enc:=by
    rw[<-dh aq,ami];show _=_++[Ty.enc m.types[k]];rw[Ty.ax]
   rw[e,aV (by omega)];exact bY (k+1) (by omega) (by omega)
  ·have je:m.types.length<=k:=by simpa using h
   rw[alI je];exact⟨rfl,rfl,rfl⟩
def adK (s:ByteArray) (x:It):Bool:=decide (1<=x.words.length)&&(decide (2<=x.nodes.length)&&(yN s (dF x 0).size (dF x 0)&&(yN s (dF x 1).size (dF x 1)&&(decide ((dF x 0).size<=900000)&&decide ((dF x 1).size<=900000)))))
def itB (s:ByteArray) (x:It):Bool:=
 (decide (0<=x.at_)&&decide (x.at_<(s.size:Int)))&&(decide (x.words.length<=80000) &&
  (if x.kind=2\/x.kind=3 then decide (1<=x.words.length)&&(decide (1<=x.nodes.length)&&(KI s (dF x 0).size (dF x 0)&&decide ((dF x 0).size<=900000)))
  else if x.kind=4\/x.kind=5 then adK s x
  else if x.kind=7 then decide (2<=x.words.length)
  else if x.kind=9 then decide (1<=x.nodes.length)&&(yN s (dF x 0).size (dF x 0)&&decide ((dF x 0).size<=900000))
  else if x.kind=10 then decide (2<=x.nodes.length)&&(yN s (dF x 0).size (dF x 0)&&(yN s (dF x 1).size (dF x 1)&&(decide ((dF x 0).size<=900000)&&decide ((dF x 1).size<=900000))))
  else if x.kind=12 then decide (1<=x.words.length) else true))
theorem YE {x:It} (h:itB s x=true):ItI s x:=by
 unfold itB at h;simp only[aln,decide_eq_true_eq] at h;obtain⟨⟨h1,h2⟩,h3,h⟩:=h;refine⟨⟨h1,h2⟩,h3,fun k=>?_,fun k=>?_,fun k=>?_,⟨fun k=>?_,fun k=>?_,fun k=>?_⟩⟩
 ·rw[if_pos k] at h;simpa [aln] using h
 ·rw[if_neg (by omega),if_pos k] at h;unfold adK at h;simp only[aln,decide_eq_true_eq] at h;exact⟨h.1,h.2.1,h.2.2.1,h.2.2.2.1,h.2.2.2.2.1,h.2.2.2.2.2⟩
 ·rw[if_neg (by omega),if_neg (by omega),if_pos k] at h;simpa using h
 ·rw[if_neg (by omega),if_neg (by omega),if_neg (by omega),if_pos k] at h;simpa [aln] using h
 ·rw[if_neg (by omega),if_neg (by omega),if_neg (by omega),if_neg (by omega),if_pos k] at h;simpa [aln] using h
 ·rw[if_neg (by omega),if_neg (by omega),if_neg (by omega),if_neg (by omega),if_neg (by omega),if_pos k] at h;simpa using h
end
theorem CS (hk:af Tryz.prog 9 [] (nB true)) {l:List (Int×Int)} {a b:Int}:af Tryz.prog 4 [.sl (aD l),nI a,nI b] (nB true):=by
 have l1:(l.take 40).length<=40:=by rw[amf];omega
 have e:=Yj 40 l;have h1:=tw (l:=l.take 40) (a:=a) (b:=b) (by omega);have h2:=B7 (l:=l.take 40) (a:=a) (b:=b) (by omega);rw[<-e] at h1 h2;exact Ye ⟨Yk 40 l,_,hk,ag.pos rfl ⟨_,h1,_,h2,by simp⟩⟩
def SJ:ByteArray:=⟨#[115,111,114,116,32,97,59,32,99,111,110,115,116,32,102,58,32,97,32,45,62,32,97,59,32,118,97,114,32,88,58,32,97,59,32,101,113,32,101,58,32,102,32,88,32,61,32,88,59,32,110,111,114,109,97,108,32,53,58,32,102,59]⟩
def YF:ByteArray:=⟨#[115,111,114,116,32,97,59,32,99,111,110,115,116,32,102,58,32,97,59,32,99,111,110,115,116,32,102,58,32,97,59]⟩
theorem kI1:((dM SJ).1.all (itB SJ)&&(decide (Gv (dM SJ).1<=500)&&decide (zS (dM SJ).1<=80000)))=true:=by kernel_rfl
theorem kI2:((dM YF).1.all (itB YF)&&(decide (Gv (dM YF).1<=500)&&decide (zS (dM YF).1<=80000)))=true:=by kernel_rfl
theorem vt {s:ByteArray} (hs:s.size<=1000000000) (h:((dM s).1.all (itB s)&&(decide (Gv (dM s).1<=500)&&decide (zS (dM s).1<=80000)))=true):af Tryz.prog 7 [nS s] (.av [prA (pO s).1,.agg (Ia (pO s).2)]):=by
 simp only[aln,decide_eq_true_eq,alv] at h;exact Gw hs (fun x hx=>YE (h.1 x hx)) h.2.1 h.2.2
def Y1:Tm:=.mk [ku] 1 0 [.mk [] 0 0 []]
def kCm:VL:=⟨9,5,Y1,cA,0⟩
theorem kE1:(pO SJ).2.1=0:=by kernel_rfl
theorem kE2:(pO SJ).1.eqs.length=1:=by kernel_rfl
theorem kE3:(pO SJ).1.cX=[kCm]:=by kernel_rfl
theorem kE4:(pO SJ).1.consts=[(⟨#[102]⟩,.mk [ku] 0)]:=by kernel_rfl
theorem kE5:(pO SJ).1.types=[ku]:=by kernel_rfl
theorem kE6:(pO YF).2=(4,1,21,⟨#[99,111,110,115,116]⟩):=by kernel_rfl
theorem kE7:qO 0 (Y1.pre 0 1)=true:=by kernel_rfl
theorem kE8:Y1.S1 [.mk [ku] 0] [ku] [] (.mk [ku] 0)=true:=by kernel_rfl
theorem IK {p q:Mk×Fa} (h1:af Tryz.prog 7 [nS SJ] (.av [prA p.1,.agg (Ia p.2)])) (h2:af Tryz.prog 7 [nS YF] (.av [prA q.1,.agg (Ia q.2)]))
  (e1:p.2.1=0) (e2:p.1.eqs.length=1) (e3:p.1.cX=[kCm]) (e4:p.1.consts=[(⟨#[102]⟩,.mk [ku] 0)]) (e5:p.1.types=[ku]) (e6:q.2=(4,1,21,⟨#[99,111,110,115,116]⟩)):af Tryz.prog 9 [] (nB true):=by
 have hk:Y1.Ok:=⟨SF,eH,⟨eH,eH,True.intro⟩,True.intro⟩;have z1:(Ty.mk [ku] 0).size<=1000:=by simp[Ty.size,Ty.sizes]
 have z2:ku.size<=1000:=by rw[mZ];decide
 have hw:=CR (m:=p.1) (by rw[e4];intro q hq;rw[alG.1 hq];exact z1) (by rw[e5];intro q hq;rw[alG.1 hq];exact z2) (by rw[e4];decide) (by rw[e5];decide);have hc:=FK (b:=(p.1.aK.length:Int)) (c:=[.mk [ku] 0]) (m:=[ku]) (x:=[]) (t:=Y1) (of:=.mk [ku] 0) (fun t ht=>by rw[alG.1 ht];omega) (fun t ht=>by rw[alG.1 ht];omega) hk (fun u hu=>by cases hu) (by simp[Y1,Tm.size,Tm.sizes,Ty.size,Ty.sizes]) (by omega);rw[if_pos kE7,if_pos kE8] at hc;have ew:wTy p.1=.agg [nI (p.1.aK.length:Int),.sl ([Ty.mk [ku] 0].map Ty.enc),.sl ([ku].map Ty.enc)]:=by unfold wTy cT;rw[e4,e5];rfl
 rw[ew] at hw;have GA:List.getD (bH p.1.cX) (Int.toNat 0) .top=cmA kCm:=by rw[e3];rfl
 have hle:(bH p.1.cX).length=1:=by rw[e3];rfl
 have hlq:(aE p.1.eqs).length=1:=by rw[alm,e2]
 rw[e6] at h2;exact Yf ⟨_,_,_,_,_,_,_,_,_,_,_,_,_,h1,_,_,_,_,_,_,_,_,_,_,_,_,_,h2,ag.pos (by rw[e1];rfl) (ag.pos (by rw[hlq];rfl) (ag.pos (by rw[hle];rfl) ⟨by omega,by omega,_,_,_,_,_,_,_,_,_,_,_,GA,ag.pos rfl
  ⟨_,_,_,hw,by omega,by omega,_,_,_,_,_,_,_,_,_,_,_,GA,_,_,nT 0,_,_,Ch (b:=0) (l:=[ku]) (by simp[Ty.size,Ty.sizes]),_,hc,ag.pos rfl (congrArg nB (by simp))⟩⟩))⟩
theorem zT:af Tryz.prog 9 [] (nB true):=
 IK (vt (s:=SJ) (by decide) kI1) (vt (s:=YF) (by decide) kI2) kE1 kE2 kE3 kE4 kE5 kE6
theorem vV {l:List (Int×Int)} {a b:Int}:af Tryz.prog 4 [.sl (aD l),nI a,nI b] (nB true):=CS zT
end Go.Proofs.YtnkjkpmbgoehkaaGreat
