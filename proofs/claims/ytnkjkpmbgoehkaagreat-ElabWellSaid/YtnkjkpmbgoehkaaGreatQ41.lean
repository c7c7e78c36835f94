/- Lemmas. -/
import Derived.KernelRfl
import Derived.Test.YtnkjkpmbgoehkaaGreatQ40
namespace Go.Proofs.YtnkjkpmbgoehkaaGreat
open Go
open _root_.List renaming length->ab,getD->ae
open _root_.Int renaming toNat->af
open Go.IntKind renaming wrap->ag
open _root_.True renaming intro->ai
open Go.Proofs.Tryz renaming prog->aj
open _root_.Option renaming getD->ak
set_option linter.unusedSimpArgs false
set_option linter.unusedVariables false
set_option maxRecDepth 100000
section
theorem aY.P6 {P:Program} {f:FuncId} {args:List AV} {hp:List aw} {R:AV->List aw->Prop} (h:aY P f args hp (fun r hp'=>∃r2,aS r r2/\R r2 hp')):aY P f args hp R:=
 ⟨h.1,fun w F η bE bQ hv=>(h.2 w F η bE bQ hv).mono fun e w' ⟨v,r,hp',bf,he,⟨r2,hw,hR⟩,bD⟩=>⟨v,r2,hp',bf,he,hR,⟨bD.keeps,bD.ext,bD.heap,bD.cq,hw _ _ _ _ _ bD.rep⟩⟩⟩
theorem er.aij {w:World} {F:Nat->Nat->Prop} {η:List Value} {hp:List aw}:∀{xs ys:List AV} {vs:List Value},er xs ys->cu w F η hp xs vs->cu w F η hp ys vs
 | [],[],_,_,h=>h
 |x::xs,y::ys,[],_,h=>h.elim
 |x::xs,y::ys,v::vs,hw,h=>⟨hw.1 _ _ _ _ _ h.1,er.aij hw.2 h.2⟩
theorem aY.args {P:Program} {f:FuncId} {args na:List AV} {hp:List aw} {R:AV->List aw->Prop} (hw:er args na) (h:aY P f na hp R):aY P f args hp R:=
 ⟨h.1,fun w F η bE bQ hv=>h.2 w F η bE bQ (hw.aij hv)⟩
theorem A0:aS (.ax (.slice none 0 0)) (.sl []):=fun _ _ _ _ _ h=>by cases h;exact .qq none
theorem P7 (l:List AV):aS (.clip l) (.sl l):=fun _ _ _ _ _ h=>h.oT
theorem tE:aS (.agg [.ax (.slice none 0 0),nI 0,nI 0,.ax (.slice none 0 0)]) (.agg [.sl [],nI 0,nI 0,.sl []]):=aS.agg ⟨A0,aS.refl _,aS.refl _,A0,ai⟩
theorem X0 {d:TD} {n:Nat} (h:d.bytes<=1000) (hn:n<=4000000000):0<=(n:Int)/\(n:Int)<=9223372036854775807/\(TD.bytes d:Int)*(n:Int)<=281474976710656:=by
 refine⟨by omega,by omega,?_⟩;have h1:(TD.bytes d:Int)*(n:Int)=((d.bytes*n:Nat):Int):=by simp
 have h2:d.bytes*n<=1000*4000000000:=arT h hn;rw[h1];omega
def Cd (l u d s y c e:Int):List aw:=[.box (aQ l u d 0 s y),.box [.ptr 0 0,nI c,nI e]]
structure xz (n:Nat) (l u d y:Int):Prop where
 left:l=n
 used:0<=u
 sum:l+u<=4000000000000000000
 dry:y=0↔d=0
 none:y≠0->n=0
structure ye (m:Mt) (l u d y c e:Int):Prop where
 bud:xz m.left l u d y
 err:e=m.err
 pY:m.count<=100000
 count:m.err=0->c=m.count
 fuel:m.err=11->y≠0
def P8 (m:Mt) (hp:List aw):Prop:=∃l u d s y c e,hp=Cd l u d s y c e/\ye m l u d y c e
variable {m:Mt} {l u d s y c e:Int}
theorem Wc {left:Nat} (h:xz left l u d y):aY aj 259 [.ptr 0 0,nI 1] [.box (aQ l u d 0 s y)]
  (fun r hp'=>∃l' u' d' y',r=nB (decide (left≠0))/\hp'=[.box (aQ l' u' d' 0 s y')]/\xz (left-1) l' u' d' y'/\(left=0->y'≠0)):=by
 refine(PX (l:=l) (u:=u) (d:=d) (s:=s) (y:=y) 1 (by decide)).mono fun r hp' ⟨e1,e2⟩=>?_;have hl:=h.left
 by_cases h0:left=0
 ·subst h0;have Xj:l=0:=by simpa using hl
  subst Xj;have hq:y≠0\/1>(0:Int):=.inr (by decide);refine⟨0,u,if d=0 then 1 else d,if d=0 then 1 else y,by rw[e1];simp,?_,⟨rfl,h.used,by have:=h.sum;omega,?_,fun _=>rfl⟩,fun _=>?_⟩
  ·rw[e2,tB,if_pos hq,Ir (by omega) (by omega) (by omega),Iu (by omega) h.used (by have:=h.sum;omega)];simp
  ·by_cases hd:d=0
   ·simp[hd]
   ·simp only[hd,if_false];exact⟨fun hy=>(hd (h.dry.1 hy)).elim,fun ef=>ef.elim⟩
  ·by_cases hd:d=0
   ·simp[hd]
   ·simp only[hd,if_false];exact fun hy=>hd (h.dry.1 hy)
 ·have hy:y=0:=asa fun hc=>h0 (h.none hc);have hd:d=0:=h.dry.1 hy;subst hy;subst hd;have hq:¬((0:Int)≠0\/1>l):=by omega
  refine⟨l-1,u+1,0,0,?_,?_,⟨by omega,by have:=h.used;omega,by have:=h.sum;omega,ase,fun h=>(h rfl).elim⟩,fun h=>(h0 h).elim⟩
  ·rw[e1,decide_eq_true hq,decide_eq_true h0]
  ·rw[e2,PZ (by omega) h.used (by have:=h.sum;omega)]
theorem iF (e1:Int):aY aj 227 [.ptr 1 0,nI e1] (Cd l u d s y c e) (fun r hp'=>r=.aK []/\hp'=Cd l u d s y c (if e=0 then e1 else e)):=
 UQ (az.intro (fun h=>⟨rfl,by rw[if_pos (by simpa using h)];rfl⟩) fun h=>⟨rfl,by rw[if_neg (by simpa using h)];rfl⟩)
theorem tF {m:Mt} (h:m.err≠0):∀n,m.ee n=(m,false)
 |0=>by rw[Mt.ee,decide_eq_false h]
 |n+1=>by
  have h1:m.one=(m,false):=by unfold Mt.one;rw[if_pos h]
  rw[Mt.ee,h1];rfl
theorem Lx (m:Mt) (n:Nat):m.ee (n+1)=m.one.1.ee n:=by
 rw[Mt.ee]
 cases h:m.one.2 with
 |true=>rfl
 |false=>rw[tF (kb h).1];rfl
theorem ye.failed (h:ye m l u d y c e) (c':Int) {e':Int} (he:e'≠0) (hf:e'=11->y≠0):ye ⟨m.left,m.count,e'⟩ l u d y c' e':=⟨h.bud,rfl,h.pY,fun h=>(he h).elim,hf⟩
theorem tG (n:Nat) (hn:n<=1000000000) (h:ye m l u d y c e):aY aj 231 [.ptr 1 0,nI n] (Cd l u d s y c e) (fun r hp'=>r=nB (m.ee n).2/\P8 (m.ee n).1 hp'):=by
 refine US ?_;unfold abg Hs;refine aI.intro (β:=Nat×Mt×Int×Int×Int×Int×Int×Int×Int) (fun b=>(((),(b.1:Int),()),((b.2.2.1,b.2.2.2.1,b.2.2.2.2.1,(0:Int),b.2.2.2.2.2.1,b.2.2.2.2.2.2.1,()),((),b.2.2.2.2.2.2.2.1,b.2.2.2.2.2.2.2.2,()),())))
  (fun b=>m.ee n=b.2.1.ee b.1/\b.1<=n/\ye b.2.1 b.2.2.1 b.2.2.2.1 b.2.2.2.2.1 b.2.2.2.2.2.2.1 b.2.2.2.2.2.2.2.1 b.2.2.2.2.2.2.2.2) (fun b=>b.1) (n,m,l,u,d,s,y,c,e) rfl ⟨rfl,aqw _,h⟩ ?_
 rintro⟨k,m',l,u,d,s,y,c,e⟩ ⟨hk,hkn,h⟩ again cj
 dsimp only at hk hkn h ⊢;have he:=h.err;refine az.intro (fun hp=>?_) fun hp=>?_
 ·have hp:(k:Int)>0:=of_decide_eq_true hp;obtain⟨j,rfl⟩:∃j,k=j+1:=⟨k-1,by omega⟩;have hw:ag .i64 (((j+1:Nat):Int)-1)=((j:Nat):Int):=by rw[ba (by omega) (by omega)];omega
  refine az.intro (fun h1=>?_) fun h1=>?_
  ·have Cv:e=0:=by simpa using h1
   have sv:m'.err=0:=by rw[<-he];exact Cv
   have hc:=h.count sv;subst Cv;rw[Lx] at hk;refine az.intro (fun h2=>?_) fun h2=>?_
   ·have wP:m'.count=100000:=by have:c=100000:=(by simpa using h2);omega
    refine⟨_,iF 2,fun r q ⟨e1,e2⟩=>⟨l,u,d,0,s,y,c,2,⟨e1,e2⟩,?_⟩⟩;rw[hw];have h1:m'.one.1=⟨m'.left,m'.count,2⟩:=by unfold Mt.one;rw[if_neg (by simp[sv]),if_pos wP]
    rw[h1] at hk;exact cj (j,⟨m'.left,m'.count,2⟩,l,u,d,s,y,_,2) ⟨hk,by omega,h.failed _ (by decide) (fun h=>by simp at h)⟩ (arR j)
   ·have wP:¬m'.count=100000:=by have:¬c=100000:=(by simpa using h2);omega
    refine⟨_,Wc h.bud,fun r q ⟨l',u',d',y',e1,e2,hb,hz⟩=>⟨l',u',d',0,s,y',_,⟨e1,e2⟩,?_⟩⟩;refine az.intro (fun h3=>?_) fun h3=>?_
    ·have h0:m'.left=0:=by simpa using h3
     refine⟨_,iF 11,fun r q ⟨e1,e2⟩=>⟨l',u',d',0,s,y',c,11,⟨e1,e2⟩,?_⟩⟩;rw[hw];have h1:m'.one.1=⟨m'.left,m'.count,11⟩:=by unfold Mt.one;rw[if_neg (by simp[sv]),if_neg wP,if_pos h0]
     rw[h1] at hk;rw[h0] at hb;exact cj (j,⟨m'.left,m'.count,11⟩,l',u',d',s,y',_,11) ⟨hk,by omega,by rw[h0];exact hb,rfl,h.pY,fun h=>by simp at h,fun _=>hz h0⟩ (arR j)
    ·have h0:¬m'.left=0:=by simpa using h3
     rw[hw];have h1:m'.one.1=⟨m'.left-1,m'.count+1,0⟩:=by unfold Mt.one;rw[if_neg (by simp[sv]),if_neg wP,if_neg h0,sv]
     have Jy:=h.pY;have hcn:m'.count<=4000000000:=by omega
     rw[h1] at hk;rw[hc,bk hcn];exact cj (j,⟨m'.left-1,m'.count+1,0⟩,l',u',d',s,y',_,0) ⟨hk,by omega,hb,rfl,by simp only;omega,fun _=>rfl,fun h=>by simp at h⟩ (arR j)
  ·have Cv:¬e=0:=by simpa using h1
   have sv:m'.err≠0:=by rw[<-he];exact Cv
   rw[tF sv] at hk;rw[hk];exact⟨by rw[show (e==0)=false from by simp[Cv]],l,u,d,s,y,c,e,rfl,h⟩
 ·have hp:¬(k:Int)>0:=of_decide_eq_false hp;obtain rfl:k=0:=by omega
  rw[Mt.ee] at hk;rw[hk];refine⟨?_,l,u,d,s,y,c,e,rfl,h⟩;rw[he]
  by_cases h0:m'.err=0
  ·simp[h0]
  ·simp[h0]
end
theorem E9 {B b:Nat} (hB:B<=1000000):∀(n:Nat) (t:Tm) (d:Nat),t.nodes<=n->t.Lo B->d+B*n<=4000000000000000000->
  ay aj 284 [.agg [.sl (t.binds.map Ty.enc),nI t.kind,nI t.index,.sl (t.args.map Tm.enc)],nI b,nI d] (.agg [.sl ((t.lift b d).binds.map Ty.enc),nI (t.lift b d).kind,nI (t.lift b d).index,.sl ((t.lift b d).args.map Tm.enc)]):=by
 intro n
 induction n with
 |zero=>intro t d h;have:=t.C7;omega
 |succ n ih=>
  intro t d h gW hd;have hl:=Tm.fu.1 gW;have hb:=Ty.aO t.binds;have hmul:B*(n+1)=B*n+B:=by rw[Nat.mul_succ]
  have hw:ag .i64 ((d:Int)+((ab (t.binds.map Ty.enc):Nat):Int))=((d+t.binds.length:Nat):Int):=by
   rw[aqu,ba (by omega) (by omega)];omega
  have ha:(t.lift b d).args=t.args.map (Tm.lift b (d+t.binds.length)):=Tm.P4 b d t;have loop:∀ix:Int,ix=(t.lift b d).index->uQ ((b,((d+t.binds.length:Nat):Int),(),(),(),t.args.map Tm.enc,((ab (t.args.map Tm.enc):Nat):Int),0,()),((t.binds.map Ty.enc,t.kind,ix,t.args.map Tm.enc,()),((),0,0,(),()),[],())) (fun x=>x=.agg [.sl ((t.lift b d).binds.map Ty.enc),nI (t.lift b d).kind,nI (t.lift b d).index,.sl ((t.lift b d).args.map Tm.enc)]):=by
   intro ix K2;refine aI.intro (fun k:Nat=>(((b:Int),((d+t.binds.length:Nat):Int),(),(),(),t.args.map Tm.enc,(t.args.length:Int),(k:Int),()),((t.binds.map Ty.enc,t.kind,ix,t.args.map Tm.enc,()),((),(0:Int),(0:Int),(),()),((t.lift b d).args.take k).map Tm.enc,())))
    (fun k=>k<=t.args.length) (fun k=>t.args.length-k) 0 (by rw[aqu];rfl) (aqC _) ?_
   intro k hk again cj;dsimp only;refine az.intro (fun h=>?_) fun h=>?_
   ·have aH:k<t.args.length:=by simpa using h
    have hz:t.args[k].nodes<=n:=by have:=Tm.pX (aqL aH);have:=t.ft;omega
    have hi:=ih t.args[k] (d+t.binds.length) hz (Tm.gp.1 hl.2.2 _ (aqL aH)) (by omega);have ZX:k<(t.lift b d).args.length:=by rw[ha,aqu];exact aH
    have hg:(t.lift b d).args[k]=Tm.lift b (d+t.binds.length) t.args[k]:=by simp[ha]
    rw[<-hg] at hi;refine⟨by omega,by rw[aqu];omega,_,_,_,_,Tm.bh aH,_,_,_,_,hi,rfl,ov (fun x hx=>by simp at hx;subst hx;rfl) (by simp;omega) (by decide),rfl,?_⟩;rw[bk (by omega),Tm.iu,cO ZX];exact cj (k+1) (by omega) (by omega)
   ·have:t.args.length<=k:=by simpa using h
    refine⟨rfl,?_⟩;rw[aqP (by rw[ha,aqu];exact this),K2,Tm.Lw,Tm.P3]
  have hm:∀{dd:TD},dd.bytes<=1000->(0<=((ab (t.args.map Tm.enc):Nat):Int)/\((ab (t.args.map Tm.enc):Nat):Int)<=9223372036854775807/\(TD.bytes dd:Int)*((ab (t.args.map Tm.enc):Nat):Int)<=281474976710656):=
   fun hd=>X0 hd (by rw[aqu];omega)
  refine UU ?_;unfold abh;rw[hw];have lf:(t.lift b d).index=if t.kind=0/\((d+t.binds.length:Nat):Int)<=t.index then ag .i64 (t.index+b) else t.index:=by rw[Tm.yC];rfl
  refine az.intro (fun h=>?_) fun h=>?_
  ·have h0:t.kind=0:=by simpa using h
   refine az.intro (fun h1=>?_) fun h1=>?_
   ·have h1:((d+t.binds.length:Nat):Int)<=t.index:=of_decide_eq_true h1;exact⟨hm (by decide),rfl,loop _ (by rw[lf,if_pos ⟨h0,h1⟩])⟩
   ·have h1:¬((d+t.binds.length:Nat):Int)<=t.index:=of_decide_eq_false h1;exact⟨hm (by decide),rfl,loop _ (by rw[lf,if_neg (fun h=>h1 h.2)])⟩
  ·have h0:¬t.kind=0:=by simpa using h
   exact⟨hm (by decide),rfl,loop _ (by rw[lf,if_neg (fun h=>h0 h.1)])⟩
mutual
theorem Tm.Dc:∀(t:Tm) (d:Nat),t.Ok->t.lift 0 d=t
 | .mk bs k i l,d,h=>by
  obtain⟨h1,h2,h3⟩:=h;rw[Tm.lift,Tm.A1 l _ h3]
  congr 1
  split
  ·rw[show i+((0:Nat):Int)=i from by omega,h2.wrap]
  ·rfl
theorem Tm.A1:∀(l:List Tm) (d:Nat),Tm.JC l->Tm.rG 0 d l=l
 | [],_,_=>rfl
 |t::l,d,h=>by rw[Tm.rG,Tm.Dc t d h.1,Tm.A1 l d h.2]
end
theorem vi {B b:Nat} {t:Tm} (hB:B<=1000000) (hn:t.nodes<=1000000000) (gW:t.Lo B):
  ay aj 273 [.agg [.sl (t.binds.map Ty.enc),nI t.kind,nI t.index,.sl (t.args.map Tm.enc)],nI b] (.agg [.sl ((t.lift b 0).binds.map Ty.enc),nI (t.lift b 0).kind,nI (t.lift b 0).index,.sl ((t.lift b 0).args.map Tm.enc)]):=by
 have:=arT hB hn;refine UT (az.intro (fun h=>?_) fun h=>⟨_,_,_,_,E9 (b:=b) hB _ t 0 (aqw _) gW (by omega),rfl⟩);have h0:b=0:=by simpa using h
 subst h0;rw[Tm.Dc t 0 (Tm.AU gW)]
theorem P9 (m:Mt):m.ee 1=m.one:=by
 rw[Mt.ee]
 cases h:m.one.2 with
 |true=>
  rw[if_pos rfl,Mt.ee];obtain⟨_,_,_,h3⟩:=mF h;rw[show m.one=(m.one.1,m.one.2) from rfl,h,h3];rfl
 |false=>
  rw[if_neg (by simp),<-h]
def vj (N:Nat) (m:Mt) (t:Tm) (r:AV) (hp':List aw):Prop:=P8 m hp'/\∃t':Tm,r=.agg [.sl (t'.binds.map Ty.enc),nI t'.kind,nI t'.index,.sl (t'.args.map Tm.enc)]/\(m.err=0->t'=t)/\t'.binds.length<=N
def Wd (B f:Nat):Prop:=∀(m:Mt) (us:List Tm) (bs:List Ty) (k i:Int) (args:List Tm) (n d:Nat) (l u x s y c e:Int),ye m l u x y c e->(m.err=0->100000<f+m.count)->
 Ty.sizes bs<=B->lO k->lO i->args.length<=B->Tm.tD B args->Tm.tD B us->(∀t∈us,t.nodes<=1000000000)->us.length<=n->n<=B->d+B*(f+1)<=4000000000000000000->
 aY aj 258 [.agg [.ptr 1 0,.sl (us.map Tm.enc),nI n],.agg [.sl (bs.map Ty.enc),nI k,nI i,.sl (args.map Tm.enc)],nI d] (Cd l u x s y c e)
  (vj bs.length (bC f m k i args us n (d+bs.length)).1 (.mk bs (bC f m k i args us n (d+bs.length)).2.kind (bC f m k i args us n (d+bs.length)).2.index (bC f m k i args us n (d+bs.length)).2.args))
def aik (B f:Nat):Prop:=∀(m:Mt) (t:Tm) (us:List Tm) (l u x s y c e:Int),ye m l u x y c e->(m.err=0->100000<f+m.count)->t.Lo B->(m.err=0->Tm.tD B us/\∀t∈us,t.nodes<=1000000000)->
 B*(f+1)<=4000000000000000000->
 aY aj 229 [.ptr 1 0,.agg [.sl (t.binds.map Ty.enc),nI t.kind,nI t.index,.sl (t.args.map Tm.enc)],.sl (us.map Tm.enc)] (Cd l u x s y c e) (vj t.binds.length (gF f m t us).1 (gF f m t us).2)
theorem jt {N:Nat} {m:Mt} {t:Tm} {hp':List aw} (h:P8 m hp') (he:m.err≠0):∃r2,aS (.agg [.ax (.slice none 0 0),nI 0,nI 0,.ax (.slice none 0 0)]) r2/\vj N m t r2 hp':=
 ⟨_,tE,h,di,rfl,fun h0=>(he h0).elim,aqC _⟩
theorem N2 {B f:Nat} (hB:B<=1000000) (ht:Wd B f):aik B f:=by
 intro m t us l u x s y c e hm hf gW sW hk;have he:=hm.err;have hl:=Tm.fu.1 gW;have YO:=Ty.aO t.binds;refine aY.P6 (UW (az.intro (fun h=>?_) fun h=>?_))
 ·have h0:¬e=0:=by simpa using h
  have sv:m.err≠0:=by rw[<-he];exact h0
  refine⟨_,iF 1,fun r q ⟨e1,e2⟩=>⟨l,u,x,0,s,y,c,_,⟨e1,e2⟩,?_⟩⟩;have:gF f m t us=(m,di):=by unfold gF;rw[if_pos sv]
  rw[this];rw[if_neg h0];exact jt ⟨l,u,x,s,y,c,e,rfl,hm⟩ sv
 ·have h0:e=0:=by simpa using h
  have sv:m.err=0:=by rw[<-he];exact h0
  obtain⟨hu,hn⟩:=sW sv;refine az.intro (fun h=>?_) fun h=>?_
  ·have h1:t.binds.length<us.length:=by have:=of_decide_eq_true h;rw[aqu,aqu] at this;omega
   refine⟨_,iF 1,fun r q ⟨e1,e2⟩=>⟨l,u,x,0,s,y,c,_,⟨e1,e2⟩,?_⟩⟩;have:gF f m t us=(⟨m.left,m.count,1⟩,di):=by unfold gF;rw[if_neg (by simp[sv]),if_pos h1]
   rw[this,if_pos h0];exact jt ⟨l,u,x,s,y,c,1,rfl,hm.failed c (by decide) (fun h=>by simp at h)⟩ (by simp)
  ·have h1:¬t.binds.length<us.length:=by have:=of_decide_eq_false h;rw[aqu,aqu] at this;omega
   have hp:gF f m t us=((bC f m t.kind t.index t.args us t.binds.length 0).1,.mk (t.binds.drop us.length) (bC f m t.kind t.index t.args us t.binds.length 0).2.kind (bC f m t.kind t.index t.args us t.binds.length 0).2.index (bC f m t.kind t.index t.args us t.binds.length 0).2.args):=by
    unfold gF;rw[if_neg (by simp[sv]),if_neg h1]
   have adb:=ht m us [] t.kind t.index t.args t.binds.length 0 l u x s y c e hm hf (by simp[Ty.sizes]) hl.2.1.1 hl.2.1.2 hl.1.2 hl.2.2 hu hn (by omega) (by omega) (by omega);rw[aqW,arw] at adb;rw[hp];generalize bC f m t.kind t.index t.args us t.binds.length 0=q at adb;rw[aqu,aqu];refine⟨_,aY.args (by exact⟨aS.refl _,aS.agg ⟨A0,aS.refl _,aS.refl _,aS.refl _,ai⟩,aS.refl _,ai⟩) adb,fun r hq ⟨⟨l',u',x',s',y',c',e',e2,qA⟩,t',e1,QP,_⟩=>⟨l',u',x',0,s',y',c',e',_,_,_,_,⟨e1,e2⟩,?_⟩⟩;refine⟨⟨by omega,by omega,by omega,fun z hz=>Ty.lN z hz⟩,?_⟩;rw[arv,arv,aqP (by rw[aqu];omega),<-List.map_drop];refine⟨_,aS.refl _,⟨l',u',x',s',y',c',e',rfl,qA⟩,.mk (t.binds.drop us.length) t'.kind t'.index t'.args,rfl,fun h=>?_,by rw[Tm.ox,aqY];omega⟩;rw[QP h];rfl
theorem Qa {B:Nat} (hB:B<=1000000):Wd B 0:=by
 intro m us bs k i args n d l u x s y c e hm hf hbs hk hi hla gW sW jA hn hnB hd;have sv:m.err≠0:=fun h=>by have:=hf h;have:=hm.pY;omega
 refine aY.P6 (Hu ⟨_,tG 1 (by omega) hm,fun r q ⟨e1,l',u',x',s',y',c',e',e2,qA⟩=>⟨l',u',x',0,s',y',c',e',_,⟨e1,e2⟩,?_⟩⟩);rw[tF sv] at qA ⊢;refine az.pos rfl ?_;rw[(rH 0 m k i args us n (d+bs.length)).stop sv];exact jt ⟨l',u',x',s',y',c',e',rfl,qA⟩ sv
theorem Qb {B f:Nat} (hB:B<=1000000) (ih:Wd B f):Wd B (f+1):=by
 have We:=N2 hB ih;intro m us bs k i args n d l u x s y c e hm hf hbs hk hi hla gW sW jA hn hnB hd;have YO:=Ty.aO bs;have hmul:B*(f+1+1)=B*(f+1)+B:=Nat.mul_succ _ _;have hBf:B<=B*(f+1):=Nat.le_mul_of_pos_right _ (Nat.succ_pos f);refine aY.P6 (Hu ⟨_,tG 1 (by omega) hm,fun r q ⟨e1,l',u',x',s',y',c',e',e2,qA⟩=>⟨l',u',x',0,s',y',c',e',_,⟨e1,e2⟩,?_⟩⟩);rw[P9] at qA ⊢;have hw:ag .i64 ((d:Int)+((ab (bs.map Ty.enc):Nat):Int))=((d+bs.length:Nat):Int):=by
  rw[aqu,ba (by omega) (by omega)];omega
 rw[hw];generalize hD:d+bs.length=D;have hD2:D+B*(f+1)<=4000000000000000000:=by omega
 refine az.intro (fun h=>?_) fun h=>⟨rfl,?_⟩
 ·have h:m.one.2=false:=by simpa using h
  have:bC (f+1) m k i args us n D=(m.one.1,di):=by rw[bC,if_pos h]
  rw[this];exact jt ⟨l',u',x',s',y',c',e',rfl,qA⟩ (kb h).1
 have h:m.one.2=true:=by simpa using h
 obtain⟨g0,g1,g2,g3⟩:=mF h;have kY:bC (f+1) m k i args us n D=AW (bC f) (cd (ct (bC f) us n D) m.one.1 args) k i us n D:=by rw[bC,if_neg (by simp[h])]
 rw[kY];have aph:m.one.1.count=m.count+1:=by rw[g3]
 have abn:∀m':Mt,m.one.1.To m'->m'.err=0->100000<f+m'.count:=fun m' h h0=>by have:=h.more;have:=hf g0;omega
 have kA:=mH f us n D;have jr:∀(l:List Tm) (m':Mt),(∀t∈l,t∈args)->(cd (ct (bC f) us n D) m' l).1.err=0->Tm.dA (cd (ct (bC f) us n D) m' l).2+m'.count<=(cd (ct (bC f) us n D) m' l).1.count/\Tm.tD B (cd (ct (bC f) us n D) m' l).2:=by
  intro l m' RE Cv;refine kI kA l m' (fun t ht m'' ada Cs=>?_) Cv;have fZ:=Tm.fu.1 (Tm.gp.1 gW t (RE t ht));have:=gG (B:=B) f m'' t.kind t.index t.args us n (D+t.binds.length) fZ.2.1.1 fZ.2.1.2 fZ.1.2 fZ.2.2 sW hn Cs;have hq:=Tm.fu.1 this.1.lo;have NV:=this.1.nodes;rw[Tm.ft] at NV;exact⟨by unfold ct;rw[Tm.ft,Tm.gn];exact NV,Tm.fu.2 ⟨⟨fZ.1.1,hq.1.2⟩,hq.2⟩⟩
 have hlen:=mG (g:=ct (bC f) us n D) args m.one.1;have ade:=jr args m.one.1 fun t h=>h;unfold Ht;refine aI.intro (β:=Nat×Mt×Int×Int×Int×Int×Int×Int×Int×List Tm) (fun b=>(((D:Int),(),(),(),(),args.map Tm.enc,(args.length:Int),(b.1:Int),()),((b.2.2.1,b.2.2.2.1,b.2.2.2.2.1,(0:Int),b.2.2.2.2.2.1,b.2.2.2.2.2.2.1,()),((),b.2.2.2.2.2.2.2.1,b.2.2.2.2.2.2.2.2.1,()),((),us.map Tm.enc,(n:Int),()),(bs.map Ty.enc,k,i,args.map Tm.enc,()),((),(0:Int),(0:Int),(),()),(bs.map Ty.enc,k,i,(),()),b.2.2.2.2.2.2.2.2.2.map Tm.enc,())))
  (fun b=>b.1<=args.length/\ye b.2.1 b.2.2.1 b.2.2.2.1 b.2.2.2.2.1 b.2.2.2.2.2.2.1 b.2.2.2.2.2.2.2.1 b.2.2.2.2.2.2.2.2.1/\m.one.1.To b.2.1/\b.2.2.2.2.2.2.2.2.2.length=b.1/\
   ∃pre:List Tm,cd (ct (bC f) us n D) m.one.1 args=((cd (ct (bC f) us n D) b.2.1 (args.drop b.1)).1,pre++(cd (ct (bC f) us n D) b.2.1 (args.drop b.1)).2)/\(b.2.1.err=0->b.2.2.2.2.2.2.2.2.2=pre))
  (fun b=>args.length-b.1) (0,m.one.1,l',u',x',s',y',c',e',[]) (by rw[aqu];rfl) ⟨aqC _,qA,.refl _,rfl,[],by rw[arX,arF],fun _=>rfl⟩ ?_
 rintro⟨j,m',l,u,x,s,y,c,e,acc⟩ ⟨hj,qA,FD,FY,pre,hgo,bQ⟩ again cj
 dsimp only at hj qA FD FY hgo bQ ⊢;have he:=qA.err;refine az.intro (fun h=>?_) fun h=>?_
 ·have aH:j<args.length:=by simpa using h
  have fZ:=Tm.fu.1 (Tm.gp.1 gW args[j] (aqL aH));have L5:Ad (((D:Int),(),(),(),(),args.map Tm.enc,(args.length:Int),(j:Int),()),((l,u,x,(0:Int),s,y,()),((),c,e,()),((),us.map Tm.enc,(n:Int),()),(bs.map Ty.enc,k,i,args.map Tm.enc,()),((),(0:Int),(0:Int),(),()),(bs.map Ty.enc,k,i,(),()),acc.map Tm.enc,())) (args[j].binds.map Ty.enc) args[j].kind args[j].index (args[j].args.map Tm.enc) again:=by
   refine⟨_,ih m' us args[j].binds args[j].kind args[j].index args[j].args n D l u x s y c e qA (abn m' FD) fZ.1.1 fZ.2.1.1 fZ.2.1.2 fZ.1.2 fZ.2.2 sW jA hn hnB hD2,fun r q ⟨⟨l',u',x',s',y',c',e',e2,Wf⟩,t',e1,QP,_⟩=>⟨l',u',x',0,s',y',c',e',_,_,_,_,⟨e1,e2⟩,rfl,ov (fun z hz=>by simp at hz;subst hz;rfl) (by simp[FY];omega) (by decide),rfl,?_⟩⟩;have Qd:=kA m' args[j];rw[bk (by omega),Tm.iu];refine cj (j+1,(ct (bC f) us n D m' args[j]).1,l',u',x',s',y',c',e',acc++[t']) ⟨aH,Wf,FD.trans Qd,by simp[FY],pre++[(ct (bC f) us n D m' args[j]).2],?_,fun h0=>?_⟩ (by simp only;omega)
   ·rw[hgo,IC aH,aqT,asn]
   ·rw[bQ (Qd.ok h0),QP h0];rfl
  exact⟨by omega,by rw[aqu];omega,_,_,_,_,Tm.bh aH,L5,L5⟩
 ·have jM:args.length<=j:=by simpa using h
  have vC:j=args.length:=by omega
  subst vC;rw[ar0,cd,aqR] at hgo;rw[hgo] at hlen ade ⊢;simp only at hlen ade;have ail:m'.err=0->acc=pre:=bQ;have fin:∀(i':Int) (T:Mt×Tm),T.1=m'->(m'.err=0->T.2=.mk [] k i' pre)->∃r2,aS (.agg [.sl (bs.map Ty.enc),nI k,nI i',.sl (acc.map Tm.enc)]) r2/\vj bs.length T.1 (.mk bs T.2.kind T.2.index T.2.args) r2 (Cd l u x s y c e):=by
   intro i' T h1 h2;refine⟨_,aS.refl _,⟨l,u,x,s,y,c,e,rfl,by rw[h1];exact qA⟩,.mk bs k i' acc,rfl,fun h0=>?_,aqw _⟩;rw[h1] at h0;rw[h2 h0,ail h0];rfl
  unfold AW
  by_cases h0:m'.err=0
  ·rw[if_neg (by simp[h0])];have N3:=ail h0;obtain⟨q1,q2⟩:=ade h0;refine az.intro (fun h=>?_) fun h=>?_
   ·have h1:¬k=0:=by simpa using h
    rw[if_pos (.inl h1)];exact⟨rfl,fin i _ rfl fun _=>rfl⟩
   ·have h1:k=0:=by simpa using h
    refine az.intro (fun h=>?_) fun h=>?_
    ·have h2:i<D:=of_decide_eq_true h;rw[if_pos (.inr h2)];exact⟨rfl,fin i _ rfl fun _=>rfl⟩
    ·have h2:¬i<D:=of_decide_eq_false h;rw[if_neg (fun h=>h.elim (fun h=>h h1) h2)];have sD:=hi.2;have J9:ag .i64 (i-(D:Int))=i-D:=ba (by omega) (by omega);have hw2:ag .i64 ((n:Int)-((ab (us.map Tm.enc):Nat):Int))=(n:Int)-us.length:=by rw[aqu];exact ba (by omega) (by omega)
     have hw3:ag .i64 ((n:Int)-1)=(n:Int)-1:=ba (by omega) (by omega);rw[J9,hw2];refine az.intro (fun h=>?_) fun h=>?_
     ·have h3:i-(D:Int)<(n:Int)-us.length:=of_decide_eq_true h;rw[if_neg (by omega),if_pos (by omega)];exact⟨rfl,fin i _ rfl fun _=>rfl⟩
     ·have h3:¬i-(D:Int)<(n:Int)-us.length:=of_decide_eq_false h;refine az.intro (fun h=>?_) fun h=>?_
      ·have h4:i-(D:Int)>=n:=of_decide_eq_true h;rw[if_pos (by omega)];have hw4:ag .i64 (i-((ab (us.map Tm.enc):Nat):Int))=i-us.length:=by rw[aqu];exact ba (by omega) (by omega)
       rw[hw4];exact⟨rfl,fin _ _ rfl fun _=>rfl⟩
      ·have h4:¬i-(D:Int)>=n:=of_decide_eq_false h;rw[if_neg (by omega),if_neg (by omega)];rw[hw3];have hw5:ag .i64 ((n:Int)-1-(i-(D:Int)))=((n-1-(i-D).toNat:Nat):Int):=by rw[ba (by omega) (by omega)];omega
       have hw6:ag .i64 (ag .i64 ((D:Int)+n)-((ab (us.map Tm.enc):Nat):Int))=((D+n-us.length:Nat):Int):=by
        rw[aqu,ba (n:=(D:Int)+n) (by omega) (by omega),ba (by omega) (by omega)];omega
       rw[hw5,hw6];have aH:n-1-(i-D).toNat<us.length:=by omega
       generalize hv:n-1-(i-D).toNat=v at aH;have sS:bN us i n D=us[v].lift (D+n-us.length) 0:=by
        unfold bN;rw[hv,aru,aqx aH];rfl
       have hgr:=vi (b:=D+n-us.length) hB (jA _ (aqL aH)) (Tm.gp.1 sW _ (aqL aH));rw[<-sS] at hgr;refine⟨by omega,by rw[aqu];omega,_,_,_,_,Tm.bh aH,_,_,_,_,hgr,rfl,?_⟩;refine az.intro (fun h=>?_) fun h=>⟨rfl,?_⟩
       ·have h5:(bN us i n D).binds.length≠pre.length:=by rw[<-N3];intro e;apply (show ¬_ from by simpa using h);omega
        rw[if_pos h5];refine⟨_,iF 1,fun r q ⟨e1,e2⟩=>⟨l,u,x,0,s,y,c,_,⟨e1,e2⟩,?_⟩⟩;rw[if_pos (by rw[he];exact h0)];exact jt ⟨l,u,x,s,y,c,1,rfl,qA.failed c (by decide) (fun h=>by simp at h)⟩ (by simp)
       ·have h5:¬(bN us i n D).binds.length≠pre.length:=by
         have h6:((bN us i n D).binds.length:Int)=acc.length:=by simpa using h
         rw[<-N3];omega
        rw[if_neg h5];have hpt:=We m' (bN us i n D) acc l u x s y c e qA (abn m' FD) (se sW i n D) (fun _=>by
         rw[N3];refine⟨q2,fun t ht=>?_⟩;have h1:=Tm.pX ht;have h2:=qA.pY
         omega) (by omega)
        rw[N3] at hpt ⊢;have hp:gF f m' (bN us i n D) pre=((bC f m' (bN us i n D).kind (bN us i n D).index (bN us i n D).args pre (bN us i n D).binds.length 0).1,.mk ((bN us i n D).binds.drop pre.length) (bC f m' (bN us i n D).kind (bN us i n D).index (bN us i n D).args pre (bN us i n D).binds.length 0).2.kind (bC f m' (bN us i n D).kind (bN us i n D).index (bN us i n D).args pre (bN us i n D).binds.length 0).2.index (bC f m' (bN us i n D).kind (bN us i n D).index (bN us i n D).args pre (bN us i n D).binds.length 0).2.args):=by
         unfold gF;rw[if_neg (by simp[h0]),if_neg (by simp at h5;omega)]
        rw[hp] at hpt;generalize bC f m' (bN us i n D).kind (bN us i n D).index (bN us i n D).args pre (bN us i n D).binds.length 0=T at hpt;refine⟨_,hpt,fun r q ⟨⟨l',u',x',s',y',c',e',e2,Wf⟩,t',e1,QP,_⟩=>⟨l',u',x',0,s',y',c',e',_,_,_,_,⟨e1,e2⟩,?_⟩⟩;refine⟨_,aS.refl _,⟨l',u',x',s',y',c',e',rfl,Wf⟩,.mk bs t'.kind t'.index t'.args,rfl,fun h0=>?_,aqw _⟩;rw[QP h0];rfl
  ·rw[if_pos h0];have stop:∀(i':Int) (a:List Tm),∃r2,aS (.agg [.sl (bs.map Ty.enc),nI k,nI i',.sl (a.map Tm.enc)]) r2/\vj bs.length m' (.mk bs di.kind di.index di.args) r2 (Cd l u x s y c e):=fun i' a=>
    ⟨_,aS.refl _,⟨l,u,x,s,y,c,e,rfl,qA⟩,.mk bs k i' a,rfl,fun h=>(h0 h).elim,aqw _⟩
   have Cv:¬e=0:=by rw[he];exact h0
   refine az.intro (fun h=>⟨rfl,stop i acc⟩) fun h=>?_;refine az.intro (fun h=>⟨rfl,stop i acc⟩) fun h2=>?_;have h2:¬i<D:=of_decide_eq_false h2;have sD:=hi.2;have J9:ag .i64 (i-(D:Int))=i-D:=ba (by omega) (by omega);have hw2:ag .i64 ((n:Int)-((ab (us.map Tm.enc):Nat):Int))=(n:Int)-us.length:=by rw[aqu];exact ba (by omega) (by omega)
   have hw3:ag .i64 ((n:Int)-1)=(n:Int)-1:=ba (by omega) (by omega);rw[J9,hw2];refine az.intro (fun h=>⟨rfl,stop i acc⟩) fun h3=>?_;have h3:¬i-(D:Int)<(n:Int)-us.length:=of_decide_eq_false h3;refine az.intro (fun h=>⟨rfl,stop _ acc⟩) fun h4=>?_;have h4:¬i-(D:Int)>=n:=of_decide_eq_false h4;rw[hw3];have hw5:ag .i64 ((n:Int)-1-(i-(D:Int)))=((n-1-(i-D).toNat:Nat):Int):=by rw[ba (by omega) (by omega)];omega
   have hw6:ag .i64 (ag .i64 ((D:Int)+n)-((ab (us.map Tm.enc):Nat):Int))=((D+n-us.length:Nat):Int):=by
    rw[aqu,ba (n:=(D:Int)+n) (by omega) (by omega),ba (by omega) (by omega)];omega
   rw[hw5,hw6];have aH:n-1-(i-D).toNat<us.length:=by omega
   generalize hv:n-1-(i-D).toNat=v at aH;have hgr:=vi (b:=D+n-us.length) hB (jA _ (aqL aH)) (Tm.gp.1 sW _ (aqL aH));have aim:=Tm.E7 (b:=D+n-us.length) 0 (Tm.gp.1 sW _ (aqL aH));refine⟨by omega,by rw[aqu];omega,_,_,_,_,Tm.bh aH,_,_,_,_,hgr,rfl,?_⟩;generalize us[v].lift (D+n-us.length) 0=g at aim;refine az.intro (fun h=>?_) fun h=>⟨rfl,?_⟩
   ·refine⟨_,iF 1,fun r q ⟨e1,e2⟩=>⟨l,u,x,0,s,y,c,_,⟨e1,e2⟩,?_⟩⟩;rw[if_neg Cv];exact jt ⟨l,u,x,s,y,c,e,rfl,qA⟩ h0
   ·have hpt:=We m' g acc l u x s y c e qA (fun h=>(h0 h).elim) aim (fun h=>(h0 h).elim) (by omega);rw[show gF f m' g acc=(m',di) from by unfold gF;rw[if_pos h0]] at hpt;refine⟨_,hpt,fun r q ⟨⟨l',u',x',s',y',c',e',e2,Wf⟩,t',e1,QP,_⟩=>⟨l',u',x',0,s',y',c',e',_,_,_,_,⟨e1,e2⟩,?_⟩⟩;exact⟨_,aS.refl _,⟨l',u',x',s',y',c',e',rfl,Wf⟩,.mk bs t'.kind t'.index t'.args,rfl,fun h=>(h0 h).elim,aqw _⟩
theorem ain {B:Nat} (hB:B<=1000000):∀f,Wd B f
 |0=>Qa hB
 |f+1=>Qb hB (ain hB f)
theorem alZ {B:Nat} (hB:B<=1000000) (f:Nat):aik B f:=N2 hB (ain hB f)
def N4:List Tm->List Ty->Prop
 | [],[]=>True
 |t::l,u::us=>t.binds=u.args/\N4 l us
 |_,_=>False
mutual
theorem kc {S:Nat} {c m:List Ty} (hS:S<=1000):∀(r:Rw) (st:Mt) (x:List Ty) (u:Ty),Rw.oF S c m x r u->r.Ok->(Rw.dB c m st x r).1.err=0->
  Form S st (Rw.dB c m st x r).1 (Rw.dB c m st x r).2/\(Rw.dB c m st x r).2.binds=u.args
 | .mk k t i l,st,x,u,dJ,hk,he=>by
  obtain⟨fq,JA,NB⟩:=hk;rw[Rw.oF] at dJ;obtain⟨hu,dJ⟩:=dJ;rw[Rw.dB] at he ⊢;split at he
  ·rename_i h;exact(h he).elim
  rename_i h;rw[if_neg h]
  by_cases h3:k=3
  ·rw[if_pos h3] at he dJ ⊢;obtain⟨ht,v,rfl,hl⟩:=dJ;obtain⟨a,rfl,ha⟩:=wx hl;have hh:=(NY t _).ok he;have ih:=nj hS [a] st (x++[t]) [v] hl NB hh;have e:(Rw.cK c m st (x++[t]) [a]).2=[(Rw.dB c m st (x++[t]) a).2]:=by rw[Rw.cK,Rw.cK]
   unfold Cc at he ⊢;generalize (Rw.dB c m st (x++[t]) a).2=b at e;generalize Rw.cK c m st (x++[t]) [a]=q at ih he hh e;obtain⟨qm,ql⟩:=q;simp only at e;subst e;rw[if_neg (by simpa using hh)];obtain⟨i1,i2,i3⟩:=ih;obtain⟨i4,_⟩:=i3;have gW:=Tm.fu.1 i2.1;simp only[Tm.dA] at i1;rw[b.ft] at i1;refine⟨⟨?_,Tm.fu.2 ⟨⟨?_,?_⟩,gW.2.1,?_⟩⟩,?_⟩
   ·show (Tm.mk _ _ _ b.args).nodes+st.count<=_;rw[Tm.nodes];omega
   ·show Ty.sizes (t::b.binds)<=_;rw[i4,Ty.sizes];rw[Ty.arrow,Ty.size,asn,Ty.sizes] at hu;omega
   ·exact gW.1.2
   ·exact gW.2.2
   ·show t::b.binds=_;rw[i4];rfl
  ·rw[if_neg h3] at he dJ ⊢
   by_cases h4:k=4
   ·rw[if_pos h4] at he dJ ⊢;obtain⟨v,hl⟩:=dJ;obtain⟨f,a,rfl,hf,ha⟩:=wy hl;have hh:=(NZ _).ok he;obtain⟨i1,i2,i3⟩:=nj hS [f,a] st x _ hl NB hh;have e:∃p q,(Rw.cK c m st x [f,a]).2=[p,q]:=⟨_,_,by rw[Rw.cK,Rw.cK,Rw.cK]⟩;obtain⟨p,b,e⟩:=e;unfold wz at he ⊢;generalize Rw.cK c m st x [f,a]=q at i1 i2 i3 he hh e;obtain⟨qm,ql⟩:=q;simp only at e;subst e;rw[if_neg (by simpa using hh)] at he ⊢;have:=P5 (B:=S) i2.1 (us:=[b]) ⟨i2.2.1,ai⟩ he;refine⟨⟨?_,this.lo⟩,?_⟩
    ·have hn:(gF 100001 qm p [b]).2.nodes+qm.count<=(gF 100001 qm p [b]).1.count:=this.nodes;show (gF 100001 qm p [b]).2.nodes+_<=(gF 100001 qm p [b]).1.count;simp only at i1;omega
    ·show (gF 100001 qm p [b]).2.binds=u.args;have he:(gF 100001 qm p [b]).1.err=0:=he;unfold gF at he ⊢;split at he
     ·rename_i h;exact(h he).elim
     rename_i h;rw[if_neg h];split at he
     ·cases he
     rename_i h2;rw[if_neg h2];show p.binds.drop 1=u.args;rw[i3.1];rfl
   ·rw[if_neg h4] at he dJ ⊢;obtain⟨hh,rfl⟩:=dJ;unfold Db at he ⊢;rw[hh] at he ⊢;simp only[aq9] at he ⊢;have hu':=Mt.vg u.size st;split at he
    ·rename_i h5;have:=hu'.1.2 he;rw[h5] at this;cases this
    ·rename_i h5;rw[if_neg h5];have h5:(st.ee u.size).2=true:=by simpa using h5
     have:=hu'.2 h5;exact⟨⟨by show (oC k i u).nodes+st.count<=(Mt.ee u.size st).1.count;rw[AZ];omega,NW u k i fq JA hu (by omega)⟩,by rw[yB];rfl⟩
theorem nj {S:Nat} {c m:List Ty} (hS:S<=1000):∀(l:List Rw) (st:Mt) (x us:List Ty),Rw.oG S c m x l us->Rw.JC l->(Rw.cK c m st x l).1.err=0->
  Tm.dA (Rw.cK c m st x l).2+st.count<=(Rw.cK c m st x l).1.count/\Tm.tD S (Rw.cK c m st x l).2/\N4 (Rw.cK c m st x l).2 us
 | [],st,x,[],_,_,_=>⟨by simp[Rw.cK,Tm.dA],ai,ai⟩
 |r::l,st,x,u::us,dJ,hk,he=>by
  rw[Rw.cK] at he ⊢;simp only at he ⊢;have h1:=kc hS r st x u dJ.1 hk.1 ((Rw.oH c m l _ x).ok he);have h2:=nj hS l _ x us dJ.2 hk.2 he;have:=h1.1.nodes;exact⟨by rw[Tm.dA];omega,⟨h1.1.lo,h2.2.1⟩,h1.2,h2.2.2⟩
 | [],_,_,_::_,h,_,_=>h.elim
 |_::_,_,_,[],h,_,_=>h.elim
end
theorem Qe {x y:AV} {n:Int} (h:aS x y):aS (.aK [x,nI n]) (.aK [y,nI n]):=aS.aK ⟨h,aS.refl _,ai⟩
theorem IE {m:Mt} {t t':Tm} {l u x s y c e:Int} (hm:ye m l u x y c e) (ht:m.err=0->t'=t) (h:m.err=0->t.size<=500000000/\t.Ok):
  aY aj 182 [.ptr 1 0,.agg [.sl (t'.binds.map Ty.enc),nI t'.kind,nI t'.index,.sl (t'.args.map Tm.enc)]] (Cd l u x s y c e)
   (fun r hp'=>P8 (gU (m,t)).1 hp'/\r=.aK [.agg [.sl ((gU (m,t)).2.binds.map Ty.enc),nI (gU (m,t)).2.kind,nI (gU (m,t)).2.index,.sl ((gU (m,t)).2.args.map Tm.enc)],nI (gU (m,t)).1.err]):=by
 have he:=hm.err;have zero:∀{m':Mt} {n:Int} {hp':List aw},P8 m' hp'->m'.err=n->gU (m,t)=(m',di)->∃r2,aS (.aK [.agg [.ax (.slice none 0 0),nI 0,nI 0,.ax (.slice none 0 0)],nI n]) r2/\(P8 (gU (m,t)).1 hp'/\r2=.aK [.agg [.sl ((gU (m,t)).2.binds.map Ty.enc),nI (gU (m,t)).2.kind,nI (gU (m,t)).2.index,.sl ((gU (m,t)).2.args.map Tm.enc)],nI (gU (m,t)).1.err]):=by
  intro m' n hp' h1 h2 h3;rw[h3];exact⟨_,Qe tE,h1,by rw[<-h2];rfl⟩
 refine aY.P6 (UX (az.intro (fun h0=>?_) fun h0=>?_))
 ·have Cv:e=0:=by simpa using h0
  have sv:m.err=0:=by rw[<-he];exact Cv
  obtain⟨hs,hk⟩:=h sv;rw[ht sv];have hcp:=KX (t:=t) (by omega) hk;rw[Tm.aG] at hcp;refine⟨_,vb hs,az.intro (fun h1=>?_) fun h1=>?_⟩
  ·have h1:jK 0 (t.pre 0 1)=false:=by simpa using h1
   refine⟨_,iF 2,fun r q ⟨e1,e2⟩=>⟨l,u,x,0,s,y,c,_,⟨e1,e2⟩,?_⟩⟩;rw[if_pos Cv];refine az.pos rfl ?_;exact zero (m':=⟨m.left,m.count,2⟩) ⟨l,u,x,s,y,c,2,rfl,hm.failed c (by decide) (fun h=>by simp at h)⟩ rfl (by unfold gU;rw[if_neg (by simp[sv]),if_neg (by rw[h1];simp)])
  ·have h1:jK 0 (t.pre 0 1)=true:=by simpa using h1
   refine az.neg (by rw[Cv];rfl) ⟨_,_,_,_,hcp,?_⟩;have hd:gU (m,t)=(m,t):=by unfold gU;rw[if_neg (by simp[sv]),if_pos h1]
   rw[hd];refine⟨_,aS.refl _,⟨l,u,x,s,y,c,e,rfl,hm⟩,?_⟩;rw[sv]
 ·have Cv:¬e=0:=by simpa using h0
  have sv:m.err≠0:=by rw[<-he];exact Cv
  refine az.pos (by simp[Cv]) ?_;exact zero (m':=m) ⟨l,u,x,s,y,c,e,rfl,hm⟩ he.symm (by unfold gU;rw[if_pos sv])
theorem Wg {c m x:List Ty} {k i:Int} {t u:Ty} {l:List Rw} (h3:¬k=3) (h4:¬k=4) (h:Rw.Typ c m x (.mk k t i l) u):bp c m x k i=some u:=by
 rw[Rw.Typ,if_neg h3,if_neg h4] at h;exact h.1
theorem Qf {c m x:List Ty} {i:Int} {u:Ty} (h:bp c m x 0 i=some u):0<=i/\i<x.length:=by
 unfold bp at h;split at h
 ·cases h
 ·rw[if_pos rfl] at h;split at h
  ·omega
  ·cases h
theorem IF {S:Nat} {b:Int} {c m:List Ty} (hc:∀t∈c,t.size<=S) (hm:∀t∈m,t.size<=S) (hS:S<=1000):
  ∀(n:Nat) (r:Rw) (st:Mt) (x:List Ty) (ty:Ty) (l u d s y cn e:Int),r.total<=n->r.total<=100000000->Rw.oF S c m x r ty->r.Ok->r.shaped=true->(∀t∈x,t.size<=S)->x.length+r.depth<=1000->ye st l u d y cn e->
  aY aj 183 [.ptr 1 0,.agg [nI b,.sl (c.map Ty.enc),.sl (m.map Ty.enc)],.sl (x.map Ty.enc),.agg [nI r.kind,.sl (r.type.args.map Ty.enc),nI r.type.base,nI r.index,.sl (r.kids.map Rw.enc)]] (Cd l u d s y cn e)
   (vj (S+r.total) (Rw.dB c m st x r).1 (Rw.dB c m st x r).2):=by
 intro n
 induction n with
 |zero=>intro r st x ty l u d s y cn e h;have:=r.gP;omega
 |succ n ih=>
  intro r st x ty l u d s y cn e hn hrS dJ aE tN hx hxl hmt;have he:=hmt.err;have hrt:=r.mC;obtain⟨k,t,i,kids⟩:=r;simp only[Rw.uX,Rw.ZT,Rw.rj,Rw.EL] at hrt ⊢;have mN:∀r∈kids,r.depth<(Rw.mk k t i kids).depth:=fun r hr=>Rw.AQ hr;obtain⟨fq,JA,NB⟩:=aE;refine aY.P6 (UY (az.intro (fun h=>?_) fun h=>?_))
  ·have h0:¬e=0:=by simpa using h
   have sv:st.err≠0:=by rw[<-he];exact h0
   rw[Rw.dB,if_pos sv];exact jt ⟨l,u,d,s,y,cn,e,rfl,hmt⟩ sv
  have h0:e=0:=by simpa using h
  have sv:st.err=0:=by rw[<-he];exact h0
  rw[Rw.dB,if_neg (by simp[sv])];refine az.intro (fun h=>?_) fun h=>?_
  ·have h3:k=3:=by simpa using h
   rw[if_pos h3];rw[Rw.oF,if_pos h3] at dJ;obtain⟨_,htS,v,hv,dJ⟩:=dJ;obtain⟨a,rfl,hta⟩:=wx dJ;have hda:=mN a (by simp);have hsa:a.shaped=true:=by
    rw[Rw.wg,Rw.EL,show Rw.dI [a]=(a.shaped&&Rw.dI []) from Rw.pO (l:=[a]) (k:=0) (by simp)] at tN;simp only[aqv] at tN;exact tN.2.1
   have NF:Rw.cJ [a]=a.total:=by simp[Rw.cJ]
   have htz:=t.size_pos;rw[NF] at hrt;have hi:=ih a st (x++[t]) v l u d s y cn e (by omega) (by omega) hta NB.1 hsa (fun w hw=>(aq7.1 hw).elim (hx w) fun h=>by rw[aqJ.1 h];exact htS) (by rw[aqz,art];omega) hmt;have BJ:[AV.agg [.sl (t.args.map Ty.enc),nI t.base]]=[t].map Ty.enc:=yA t;rw[arq,<-BJ] at hi;have hL:Ae (x.map Ty.enc) (t.args.map Ty.enc) t.base b (c.map Ty.enc) (m.map Ty.enc) a.kind (a.type.args.map Ty.enc) a.type.base a.index (a.kids.map Rw.enc) l u d 0 s y cn e (fun r hp'=>∃r2,aS r r2/\vj (S+(Rw.mk k t i [a]).total) (Cc t (Rw.cK c m st (x++[t]) [a])).1 (Cc t (Rw.cK c m st (x++[t]) [a])).2 r2 hp'):=by
    refine⟨rfl,_,hi,fun r q ⟨⟨l',u',d',s',y',c',e',e2,qA⟩,t',e1,QP,Gt⟩=>⟨l',u',d',0,s',y',c',e',_,_,_,_,⟨e1,e2⟩,?_⟩⟩;have wP:=gO (ll:=[[t],t'.binds]) (by simp) (by simp;omega);simp only[ff,aqS,arl,asb,ash,aqR] at wP;rw[Ty.aG] at wP;refine⟨_,wP,_,aS.refl _,?_⟩;rw[Rw.cK,Rw.cK];have ui:(Cc t ((Rw.dB c m st (x++[t]) a).1,[(Rw.dB c m st (x++[t]) a).2])).1=(Rw.dB c m st (x++[t]) a).1:=by unfold Cc;split<;>rfl
    refine⟨(by rw[ui];exact⟨l',u',d',s',y',c',e',rfl,qA⟩),.mk (t::t'.binds) t'.kind t'.index t'.args,?_,fun h0=>?_,?_⟩
    ·simp only[Tm.ox,Tm.uX,Tm.rj,Tm.gn,aqS,Ty.aG,asn,arK,arF]
    ·simp only at h0 ⊢;rw[ui] at h0;rw[QP h0];unfold Cc;rw[if_neg (by simp[h0])];rfl
    ·rw[Tm.ox,aqy,Rw.total,NF];omega
   have Q8:∀{dd:TD},dd.size=2->dd.bytes<=1000->bw dd (ab (x.map Ty.enc++[.agg [.sl (t.args.map Ty.enc),nI t.base]])) (x.map Ty.enc) [.agg [.sl (t.args.map Ty.enc),nI t.base]]:=fun hz hd=>
    ir (fun z W0=>by rw[hz];exact Ty.lN z W0) (fun z W0=>by simp at W0;subst W0;rw[hz];rfl) (by simp;omega) hd
   refine⟨_,xo,by omega,by simp,_,_,_,_,_,Rw.bh (l:=[a]) (k:=0) (by simp),⟨fun h=>by simp at h,Q8 rfl (by decide),hL,hL⟩,⟨fun h=>by simp at h,Q8 rfl (by decide),hL⟩⟩
  have h3:¬k=3:=by simpa using h
  rw[if_neg h3];refine az.intro (fun h=>?_) fun h=>?_
  ·have h4:k=4:=by simpa using h
   rw[if_pos h4];rw[Rw.oF,if_neg h3,if_pos h4] at dJ;obtain⟨_,v,dJ⟩:=dJ;obtain⟨f,a,rfl,htf,hta⟩:=wy dJ;have hdf:=mN f (by simp);have hda:=mN a (by simp);have aio:f.shaped=true/\a.shaped=true:=by
    rw[Rw.wg,Rw.EL,show Rw.dI [f,a]=(f.shaped&&Rw.dI [a]) from Rw.pO (l:=[f,a]) (k:=0) (by simp),show Rw.dI [a]=(a.shaped&&Rw.dI []) from Rw.pO (l:=[a]) (k:=0) (by simp)] at tN;simp only[aqv] at tN;exact⟨tN.2.1,tN.2.2.1⟩
   have NF:Rw.cJ [f,a]=f.total+a.total:=by simp[Rw.cJ]
   have htz:=t.size_pos;have hfp:=f.gP;have Q8:=a.gP;rw[NF] at hrt;have hf1:=ih f st x _ l u d s y cn e (by omega) (by omega) htf NB.1 aio.1 hx (by omega) hmt;have apn:=Rw.vh c m f st x;have hff:=fun h=>(kc hS f st x _ htf NB.1 h).1;have hL:Af b (c.map Ty.enc) (m.map Ty.enc) (x.map Ty.enc) f.kind (f.type.args.map Ty.enc) f.type.base f.index (f.kids.map Rw.enc) l u d 0 s y cn e ([f,a].map Rw.enc) (fun r hp'=>∃r2,aS r r2/\vj (S+(Rw.mk k t i [f,a]).total) (wz (Rw.cK c m st x [f,a])).1 (wz (Rw.cK c m st x [f,a])).2 r2 hp'):=by
    refine⟨_,hf1,fun r q ⟨⟨l',u',d',s',y',c',e',e2,qA⟩,tf,e1,Z3,apo⟩=>⟨l',u',d',0,s',y',c',e',_,_,_,_,⟨e1,e2⟩,by omega,by simp,_,_,_,_,_,Rw.bh (l:=[f,a]) (k:=1) (by simp),?_⟩⟩;have ha1:=ih a (Rw.dB c m st x f).1 x _ l' u' d' s' y' c' e' (by omega) (by omega) hta NB.2.1 aio.2 hx (by omega) qA;have Qd:=Rw.vh c m a (Rw.dB c m st x f).1 x;have haf:=fun h=>(kc hS a (Rw.dB c m st x f).1 x _ hta NB.2.1 h).1;simp only[Rw.cK];have hL2:wa b (c.map Ty.enc) (m.map Ty.enc) (x.map Ty.enc) a.kind (a.type.args.map Ty.enc) a.type.base a.index (a.kids.map Rw.enc) l' u' d' 0 s' y' c' e'
      (fun r hp'=>∃r2,aS r r2/\vj (S+(Rw.mk k t i [f,a]).total) (wz ((Rw.dB c m (Rw.dB c m st x f).1 x a).1,[(Rw.dB c m st x f).2,(Rw.dB c m (Rw.dB c m st x f).1 x a).2])).1 (wz ((Rw.dB c m (Rw.dB c m st x f).1 x a).1,[(Rw.dB c m st x f).2,(Rw.dB c m (Rw.dB c m st x f).1 x a).2])).2 r2 hp') (tf.binds.map Ty.enc) tf.kind tf.index (tf.args.map Tm.enc):=by
     refine⟨_,ha1,fun r q ⟨⟨l2,u2,d2,s2,y2,c2,YP,e2,sq⟩,ta,e1,Z4,_⟩=>⟨l2,u2,d2,0,s2,y2,c2,YP,_,_,_,_,⟨e1,e2⟩,?_⟩⟩;have Jz:=sq.err;generalize hm3:(Rw.dB c m (Rw.dB c m st x f).1 x a).1=M at *;refine az.intro (fun h=>?_) fun h=>?_
     ·have h5:¬YP=0:=by simpa using h
      have hM:M.err≠0:=by rw[<-Jz];exact h5
      have:wz (M,[(Rw.dB c m st x f).2,(Rw.dB c m (Rw.dB c m st x f).1 x a).2])=(M,di):=by unfold wz;rw[if_pos hM]
      rw[this];exact jt ⟨l2,u2,d2,s2,y2,c2,YP,rfl,sq⟩ hM
     ·have h5:YP=0:=by simpa using h
      have hM:M.err=0:=by rw[<-Jz];exact h5
      have hF:=Qd.ok hM;have hff:=hff hF;have haf:=haf hM;have Z3:=Z3 hF;have Z4:=Z4 hM;generalize (Rw.dB c m (Rw.dB c m st x f).1 x a).2=TA at haf Z4 ⊢;generalize (Rw.dB c m st x f).2=TF at hff Z3 ⊢;subst Z3;subst Z4;have:wz (M,[tf,ta])=gF 100001 M tf [ta]:=by unfold wz;rw[if_neg (by simp[hM])];rfl
      rw[this];have hq:=hff.nodes;have hq2:=haf.nodes;have hp:=alZ (B:=2*S) (by omega) 100001 M tf [ta] l2 u2 d2 s2 y2 c2 YP sq (fun _=>by omega) (Tm.E6 (by omega) hff.lo) (fun _=>⟨⟨Tm.E6 (by omega) haf.lo,ai⟩,fun t ht=>by
       rw[aqJ.1 ht];have:=sq.pY
       omega⟩) (by omega)
      have BJ:AV.clip [.agg [.sl (ta.binds.map Ty.enc),nI ta.kind,nI ta.index,.sl (ta.args.map Tm.enc)]]=.clip ([ta].map Tm.enc):=by rw[aqS,arl,Tm.aG]
      refine⟨_,aY.args (by rw[BJ];exact⟨aS.refl _,aS.refl _,P7 _,ai⟩) hp,fun r q ⟨⟨l3,u3,d3,s3,y3,c3,e3',e2,hm3⟩,tp,e1,htp,apq⟩=>⟨l3,u3,d3,0,s3,y3,c3,e3',_,_,_,_,⟨e1,e2⟩,_,aS.refl _,⟨l3,u3,d3,s3,y3,c3,e3',rfl,hm3⟩,tp,rfl,htp,?_⟩⟩;rw[Rw.total,NF];omega
    exact⟨hL2,hL2⟩
   exact⟨by omega,by simp,_,_,_,_,_,Rw.bh (l:=[f,a]) (k:=0) (by simp),hL,hL⟩
  ·have h4:¬k=4:=by simpa using h
   rw[if_neg h4];have hh:=Wg h3 h4 dJ.PG;have cx:ty.size<=S:=(tw hh).elim (hx _) fun h=>h.elim (hc _) (hm _);have hht:=rv (b:=b) (c:=c) (m:=m) (x:=x) (k:=k) JA (by omega) (fun t ht=>by rw[hh] at ht;obtain rfl:=aqs ht;omega);rw[hh] at hht;have air:=Lj ty.size ty k i (aqw _) (by omega) (fun h=>by subst h;have:=Qf hh;omega);rw[Ty.aG,Tm.aG] at air;refine⟨_,_,_,hht,_,ru (t:=ty) (by omega),_,tG ty.size (by omega) hmt,fun r q ⟨e1,l',u',d',s',y',c',e',e2,qA⟩=>⟨l',u',d',0,s',y',c',e',_,⟨e1,e2⟩,?_⟩⟩;unfold Db;rw[hh,aq9];have hu:=Mt.vg ty.size st;refine az.intro (fun h=>?_) fun h=>?_
   ·have h5:(st.ee ty.size).2=false:=by simpa using h
    rw[if_pos h5];exact jt ⟨l',u',d',s',y',c',e',rfl,qA⟩ (fun h=>by have:=hu.1.2 h;rw[h5] at this;cases this)
   ·have h5:(st.ee ty.size).2=true:=by simpa using h
    rw[if_neg (by rw[h5];simp)];refine⟨_,_,_,_,air,_,aS.refl _,⟨l',u',d',s',y',c',e',rfl,qA⟩,oC k i ty,rfl,fun _=>rfl,?_⟩;rw[yB,Tm.ox];have:=Ty.aO ty.args;have:=ty.size_eq;omega
theorem Ce {b:Int} {c m:List Ty} {t:Ty} (h:t.size<=500000000):ay aj 226 [.agg [.sl (t.args.map Ty.enc),nI t.base],.aW (.agg [nI b,.sl (c.map Ty.enc),.sl (m.map Ty.enc)]) 0] (nB (!(t.bG b))):=
 UZ ⟨_,lC h,rfl⟩
theorem Fb {b:Int} {c m l:List Ty} (h:Ty.sizes l<=500000000):ay aj 106 [.sl (l.map Ty.enc),.bz 226 [.aW (.agg [nI b,.sl (c.map Ty.enc),.sl (m.map Ty.enc)]) 0]] (nI (eN b 0 l)):=by
 have hl:=Ty.aO l;refine Er ⟨rfl,?_⟩;refine aI.intro (fun k:Nat=>((l.map Ty.enc,((),()),(l.length:Int),(k:Int),()),())) (fun k=>k<=l.length/\eN b 0 l=eN b k (l.drop k)) (fun k=>l.length-k) 0 (by rw[aqu];rfl) ⟨aqC _,rfl⟩ ?_;intro k ⟨hk,hs⟩ again cj;dsimp only;rw[aqu];refine az.intro (fun h=>?_) fun h=>?_
 ·have aH:k<l.length:=by simpa using h
  rw[aqB aH,eN] at hs;refine⟨by omega,by omega,_,_,Ty.bh aH,_,Ce (by have:=Ty.cV (aqL aH);omega),az.intro (fun h=>?_) fun h=>⟨rfl,?_⟩⟩
  ·rw[hs,if_neg (by simpa using h)]
  ·rw[if_pos (by simpa using h)] at hs;rw[bk (by omega)];exact cj (k+1) ⟨by omega,hs⟩ (by omega)
 ·have:l.length<=k:=by simpa using h
  rw[aqK this] at hs;rw[hs];rfl
def iy (b:Int) (c m x:List Ty):Bool:=(!(decide (eN b 0 (c++m)>=0)))&&(decide (x.length<=900)&&!(decide (eN b 0 x>=0)))
theorem Fc {b:Int} {c m x:List Ty} (hc:c.length<=500) (hm:m.length<=500) (h:Ty.sizes (c++m)<=500000000) (hx:Ty.sizes x<=500000000):
  ay aj 181 [.agg [nI b,.sl (c.map Ty.enc),.sl (m.map Ty.enc)],.sl (x.map Ty.enc)] (nB (iy b c m x)):=by
 refine U0 ⟨_,oB hc hm h,az.intro (fun h1=>?_) fun h1=>?_⟩
 ·refine az.intro (fun h2=>⟨_,x8 ⟨_,Fb hx,rfl⟩,?_⟩) fun h2=>?_
  ·rw[iy,h1,arb,decide_eq_true (by have:=of_decide_eq_true h2;rw[aqu] at this;omega),arb]
  ·rw[iy,h1,arb,decide_eq_false (by have:=of_decide_eq_false h2;rw[aqu] at this;omega),arn]
 ·rw[iy,h1,arn]
def Rw.inf (b:Int) (c m x:List Ty) (r:Rw):Ty×Int:=if r.bG=true then r.infer b c m x else(jY,1)
def fE (b:Int) (c m x:List Ty) (r:Rw) (left:Nat):Mt×Tm:=
 if iy b c m x=false then(⟨left,0,1⟩,di) else if(r.inf b c m x).2≠0 then(⟨left,0,(r.inf b c m x).2⟩,di) else gU (Rw.dB c m ⟨left,0,0⟩ x r)
mutual
theorem Rw.IG (b:Int) (c m:List Ty):∀(r:Rw) (x:List Ty),(r.infer b c m x).2≠11
 | .mk k t i l,x=>by
  rw[Rw.infer];split
  ·split
   ·have:=Rw.wB b c m l (x++[t]);generalize Rw.ek b c m (x++[t]) l=q at this;unfold ry;split
    ·rename_i p l';have hp:=this p aqG
     (repeat' split)<;>first|assumption|(simp;done)
    ·decide
   ·decide
  ·split
   ·have:=Rw.wB b c m l x;generalize Rw.ek b c m x l=q at this;unfold pQ;split
    ·rename_i p q l';have hp:=this p aqG;have hq:=this q (aqI _ aqG)
     (repeat' split)<;>first|assumption|(simp;done)
    ·decide
   ·unfold ni
    (repeat' split)<;>simp
theorem Rw.wB (b:Int) (c m:List Ty):∀(l:List Rw) (x:List Ty),∀p∈Rw.ek b c m x l,p.2≠11
 | [],x,p,hp=>by simp[Rw.ek] at hp
 |r::l,x,p,hp=>by
  rw[Rw.ek] at hp;rcases aqZ.1 hp with rfl|hp
  ·exact Rw.IG b c m r x
  ·exact Rw.wB b c m l x p hp
end
theorem ju {S:Nat}:∀{l:List Ty},(∀t∈l,t.size<=S)->Ty.sizes l<=l.length*S
 | [],_=>by simp[Ty.sizes]
 |t::l,h=>by
  have h1:=h t aqG;have h2:=ju fun u hu=>h u (aqI t hu);rw[Ty.sizes,aqy,arz];omega
structure kU (c m x:List Ty) (r:Rw):Prop where
 hc:∀t∈c,t.size<=1000
 hm:∀t∈m,t.size<=1000
 hx:∀t∈x,t.size<=1000
 cl:c.length<=500
 ml:m.length<=500
 xl:x.length<=1000
 hr:r.total<=90000000
 ok:r.Ok
theorem kU.sizes {c m x:List Ty} {r:Rw} (h:kU c m x r):Ty.sizes (c++m)<=500000000/\Ty.sizes x<=300000000:=by
 have h1:=ju h.hc;have h2:=ju h.hm;have h3:=ju h.hx;have h4:=ard 1000 h.cl;have h5:=ard 1000 h.ml;have h6:=ard 1000 h.xl;rw[Ty.bW];exact⟨by omega,by omega⟩
theorem Qg {x y:AV} {n k:Int} (h:aS x y):aS (.aK [x,nI n,nI k]) (.aK [y,nI n,nI k]):=aS.aK ⟨h,aS.refl _,aS.refl _,ai⟩
def Found (L:Mt×Tm) (r:AV) (hp':List aw):Prop:=∃(cnt l u d s y:Int),hp'=[.box (aQ l u d 0 s y)]/\xz L.1.left l u d y/\(L.1.err=11->y≠0)/\(L.1.err=0->cnt=L.1.count)/\
 r=.aK [.agg [.sl (L.2.binds.map Ty.enc),nI L.2.kind,nI L.2.index,.sl (L.2.args.map Tm.enc)],nI cnt,nI L.1.err]
theorem Dd {b:Int} {c m x:List Ty} {r:Rw} (ep:kU c m x r):ay aj 130 [.agg [nI b,.sl (c.map Ty.enc),.sl (m.map Ty.enc)],.sl (x.map Ty.enc),r.enc] (Ig (r.inf b c m x)):=
 Ii (b:=b) (fun t ht=>by have:=ep.hc t ht;omega) (fun t ht=>by have:=ep.hm t ht;omega) ep.ok (by have:=ep.sizes;have:=ep.hr;omega)
theorem IH {b:Int} {c m x:List Ty} {r:Rw} {left:Nat} {l u d s y:Int} (ep:kU c m x r) (hb:xz left l u d y):
  aY aj 110 [.agg [nI b,.sl (c.map Ty.enc),.sl (m.map Ty.enc)],.sl (x.map Ty.enc),.agg [nI r.kind,.sl (r.type.args.map Ty.enc),nI r.type.base,nI r.index,.sl (r.kids.map Rw.enc)],.ptr 0 0] [.box (aQ l u d 0 s y)] (Found (fE b c m x r left)):=by
 have cx:=ep.sizes;have hi:=Dd (b:=b) ep;rw[Rw.aG] at hi;have zero:∀(e:Int),e≠0->e≠11->fE b c m x r left=(⟨left,0,e⟩,di)->∃r2,aS (.aK [.agg [.ax (.slice none 0 0),nI 0,nI 0,.ax (.slice none 0 0)],nI 0,nI e]) r2/\Found (fE b c m x r left) r2 [.box (aQ l u d 0 s y)]:=by
  intro e he Jz h;rw[h];exact⟨_,Qg tE,0,l,u,d,s,y,rfl,hb,fun h=>(Jz h).elim,fun h=>(he h).elim,rfl⟩
 refine aY.P6 (U1 ⟨_,Fc (by have:=ep.cl;omega) (by have:=ep.ml;omega) cx.1 (by omega),az.intro (fun h=>?_) fun h=>?_⟩)
 ·have h:iy b c m x=false:=by simpa using h
  exact zero 1 (by decide) (by decide) (by unfold fE;rw[if_pos h])
 have h1:iy b c m x=true:=by simpa using h
 have hL:fE b c m x r left=if(r.inf b c m x).2≠0 then(⟨left,0,(r.inf b c m x).2⟩,di) else gU (Rw.dB c m ⟨left,0,0⟩ x r):=by unfold fE;rw[if_neg (by rw[h1];simp)]
 refine⟨_,_,_,hi,az.intro (fun h=>?_) fun h=>?_⟩
 ·have h2:(r.inf b c m x).2≠0:=by simpa using h
  refine zero _ h2 ?_ (by rw[hL,if_pos h2]);unfold Rw.inf;split
  ·exact Rw.IG b c m r x
  ·decide
 have h2:(r.inf b c m x).2=0:=by simpa using h
 rw[hL,if_neg (by simp[h2])];have yf:r.bG=true:=by
  cases yf:r.bG with
  |true=>rfl
  |false=>rw[Rw.inf,yf] at h2;simp at h2
 have tN:r.shaped=true:=by rw[Rw.bG,aqv] at yf;exact yf.1
 have dJ:Rw.oF 1000 c m x r (r.infer b c m x).1:=pW b c m r x _ tN (by
  rw[Rw.inf,if_pos yf] at h2
  rw[<-h2])
 have hmt:ye ⟨left,0,0⟩ l u d y 0 0:=⟨hb,rfl,aqC _,fun _=>rfl,fun h=>by simp at h⟩;have al2:r.depth<=60:=by rw[Rw.bG,aqv,aqv,decide_eq_true_eq,decide_eq_true_eq] at yf;exact yf.2.2
 have hx9:x.length<=900:=by unfold iy at h1;simp only[aqv,decide_eq_true_eq] at h1;exact h1.2.1
 have abo:=IF (b:=b) ep.hc ep.hm (aqw _) _ r ⟨left,0,0⟩ x _ l u d s y 0 0 (aqw _) (by have:=ep.hr;omega) dJ ep.ok tN ep.hx (by omega) hmt;have jr:=fun h=>(kc (aqw _) r ⟨left,0,0⟩ x _ dJ ep.ok h).1;generalize Rw.dB c m ⟨left,0,0⟩ x r=Q at abo jr;refine⟨_,abo,fun r1 q ⟨⟨l1,u1,d1,s1,y1,c1,e1',e2,Fy⟩,t1,e1,ht1,_⟩=>⟨l1,u1,d1,0,s1,y1,c1,e1',_,_,_,_,⟨e1,e2⟩,?_⟩⟩;have Mz:=IE (s:=s1) Fy ht1 (fun h0=>by
  have hf:=jr h0;have hn:=hf.nodes;have II:=Fy.pY;have hs:=Tm.yD hf.lo;have:Q.2.nodes*(1+1000)<=100000*1001:=arT (by omega) (by omega)
  exact⟨by omega,Tm.AU hf.lo⟩)
 rw[show (Q.1,Q.2)=Q from rfl] at Mz;refine⟨_,Mz,fun r2 q ⟨⟨l2,u2,d2,s2,y2,c2,YP,e2,sq⟩,e1⟩=>⟨l2,u2,d2,0,s2,y2,c2,YP,_,_,_,_,_,⟨e1,e2⟩,?_⟩⟩;exact⟨_,aS.refl _,c2,l2,u2,d2,s2,y2,rfl,sq.bud,sq.fuel,sq.count,rfl⟩
def adh (L:Mt×Tm) (r:AV) (hp':List aw):Prop:=∃l u d s y,hp'=[.box (aQ l u d 0 s y)]/\xz L.1.left l u d y/\(L.1.err=11->y≠0)/\
 r=.aK [.agg [.sl (L.2.binds.map Ty.enc),nI L.2.kind,nI L.2.index,.sl (L.2.args.map Tm.enc)],nI L.1.err]
theorem IJ {b:Int} {c m x:List Ty} {r:Rw} {left:Nat} {l u d s y:Int} (ep:kU c m x r) (hb:xz left l u d y):
  aY aj 64 [.agg [nI b,.sl (c.map Ty.enc),.sl (m.map Ty.enc)],.sl (x.map Ty.enc),.agg [nI r.kind,.sl (r.type.args.map Ty.enc),nI r.type.base,nI r.index,.sl (r.kids.map Rw.enc)],.ptr 0 0] [.box (aQ l u d 0 s y)] (adh (fE b c m x r left)):=
 Y9 ⟨_,IH ep hb,fun r1 q ⟨cnt,l1,u1,d1,s1,y1,e2,ui,hf,hc,e1⟩=>⟨l1,u1,d1,0,s1,y1,_,_,_,_,_,_,⟨e1,e2⟩,l1,u1,d1,s1,y1,rfl,ui,hf,rfl⟩⟩
theorem Qh {n:Nat} (hn:n<=1000000):aY aj 65 [nI n] [] (fun r hp'=>r=.ptr 0 0/\hp'=[.box (aQ n 0 0 0 0 0)]):=
 (Z0 n []).mono fun r hp' ⟨e1,e2⟩=>⟨e1,by rw[e2,if_neg (by omega)];rfl⟩
theorem IK {n:Nat} (hn:n<=1000000):xz n n 0 0 0:=⟨rfl,by decide,by omega,ase,fun h=>(h rfl).elim⟩
def adi (t:Tm) (e:Int):AV:=.aK [.agg [.sl (t.binds.map Ty.enc),nI t.kind,nI t.index,.sl (t.args.map Tm.enc)],nI e]
theorem De {b:Int} {c m x:List Ty} {r:Rw} (ep:kU c m x r):
  ay aj 20 [.agg [nI b,.sl (c.map Ty.enc),.sl (m.map Ty.enc)],.sl (x.map Ty.enc),.agg [nI r.kind,.sl (r.type.args.map Ty.enc),nI r.type.base,nI r.index,.sl (r.kids.map Rw.enc)]] (adi (fE b c m x r 100000).2 (fE b c m x r 100000).1.err):=
 Za ⟨_,Qh (n:=100000) (by omega),fun r1 q ⟨e1,e2⟩=>⟨_,_,_,_,_,_,⟨e1,e2⟩,_,IJ ep (IK (by omega)),fun r2 q2 ⟨l1,u1,d1,s1,y1,e2,ui,hf,e1⟩=>⟨l1,u1,d1,0,s1,y1,_,_,_,_,_,⟨e1,e2⟩,rfl⟩⟩⟩
section
structure Mn where
 base:Bool
 kind:Int
 idx:Int
def Mn.val (x:Mn):Value:=.agg #[.bool x.base,.int .i64 x.kind,.int .i64 x.idx]
def al3:Mn:=⟨false,0,0⟩
abbrev Qi:=List (ByteArray×Mn)
def dc (l:Qi):List (ByteArray×Value):=l.map fun p=>(p.1,p.2.val)
def tH:Qi->ByteArray->Option Mn
 | [],_=>none
 |(k,v)::r,a=>if a=k then some v else tH r a
def Ly:Qi->ByteArray->Mn->Qi
 | [],a,v=>[(a,v)]
 |(k,u)::r,a,v=>if a=k then(k,v)::r else(k,u)::Ly r a v
theorem wC (a:ByteArray):∀l:Qi,aL (dc l) a=(tH l a).map Mn.val
 | []=>rfl
 |(k,v)::r=>by
  show (if a=k then some v.val else aL (dc r) a)=(if a=k then some v else tH r a).map Mn.val;split
  ·rfl
  ·exact wC a r
theorem Df (a:ByteArray) (v:Mn):∀l:Qi,cH (dc l) a v.val=dc (Ly l a v)
 | []=>rfl
 |(k,u)::r=>by
  show (if a=k then(k,v.val)::dc r else(k,u.val)::cH (dc r) a v.val)=dc (if a=k then(k,v)::r else(k,u)::Ly r a v);split
  ·rfl
  ·rw[Df a v r];rfl
def BC (l:Qi) (a:ByteArray):Mn:=(tH l a).getD al3
theorem yE (a:ByteArray) (l:Qi):ak (aL (dc l) a) rY=(BC l a).val:=by
 rw[wC,BC]
 cases tH l a<;>rfl
theorem sf (a:ByteArray) (l:Qi):Option.isSome (aL (dc l) a)=(tH l a).isSome:=by
 rw[wC]
 cases tH l a<;>rfl
structure A2 where
 name:ByteArray
 left:Tm
 right:Tm
structure Xd where
 kind:Int
 num:Int
 left:Tm
 right:Tm
 of_:Int
structure Mk where
 aP:List ByteArray
 consts:List (ByteArray×Ty)
 bx:List ByteArray
 types:List Ty
 eqs:List A2
 rules:List A2
 prec:List (Int×Int)
 status:List (Int×Int)
 dj:List Xd
 words:Qi
 fault:Fa
def Cf:Mk:=⟨[],[],[],[],[],[],[],[],[],[],pL⟩
def ais:A2:=⟨⟨#[]⟩,di,di⟩
def gQ (m:Mk):Bool:=m.fault.1==0
section
variable (s:ByteArray)
def xA (c a:Int) (m:Mk):Mk:=if gQ m=true then { m with fault:=K7 s c a.toNat (EF (s.extract a.toNat s.size)) } else m
def cL (b:Bool) (c a:Int) (m:Mk):Mk:=if b=true then m else xA s c a m
def Dg (w:ByteArray) (x:Mn) (m:Mk):Mk:=if gQ m=true then { m with words:=Ly m.words w x } else m
def iO (w:ByteArray) (x:Mn) (a:Int) (m:Mk):Mk:=Dg w x (cL s (!(tH m.words w).isSome) 4 a m)
def A3 (m:Mk) (w:ByteArray):Bool:=(tH m.words w).isSome&&(BC m.words w).base
def A4 (m:Mk) (w:ByteArray):Bool:=(tH m.words w).isSome&&!(BC m.words w).base
def isConst (m:Mk) (w:ByteArray):Bool:=(tH m.words w).isSome&&(!(BC m.words w).base&&(BC m.words w).kind==1)
def Qj (a b:Ty):Ty:=.mk (a::b.args) b.base
def dG:Nat->Nd->Mk->Ty×Mk
 |0,_,m=>(jY,m)
 |f+1,n,m=>if n.kind=1 then(.mk [] (BC m.words n.word).idx,cL s (A3 m n.word) 4 n.at_ m)
  else match n.kids with
   |x::y::_=>(Qj (dG f x m).1 (dG f y (dG f x m).2).1,(dG f y (dG f x m).2).2)
   |_=>(jY,m)
def vk (n:Nd) (r:Ty×Mk):Mk:=if gQ r.2=true then cL s (r.1.bG r.2.aP.length) 2 n.at_ r.2 else r.2
def kd (n:Nd) (m:Mk):Ty×Mk:=
 (if gQ (vk s n (dG s n.size n m))=true then(dG s n.size n m).1 else jY,vk s n (dG s n.size n m))
def IL (w:ByteArray) (l:List ByteArray):Nat->Option Nat
 |0=>none
 |k+1=>if l.getD k ⟨#[]⟩=w then some (l.length-1-k) else IL w l k
def A5 (n:Nd) (bound:List ByteArray) (m:Mk):Rw×Mk:=
 match IL n.word bound bound.length with
 |some j=>(fY 0 (j:Int),m)
 |none=>(fY (BC m.words n.word).kind (BC m.words n.word).idx,cL s (A4 m n.word) 4 n.at_ m)
def gI:Nat->Nd->List ByteArray->Mk->Rw×Mk
 |0,_,_,m=>(fY 0 0,m)
 |f+1,n,bound,m=>if gQ m=false then(fY 0 0,m)
  else if n.kind=1 then A5 s n bound m
  else match n.kids with
   |x::y::_=>if n.kind=3 then(.mk 3 (kd s x m).1 0 [(gI f y (bound++[n.word]) (kd s x m).2).1],(gI f y (bound++[n.word]) (kd s x m).2).2)
    else(.mk 4 jY 0 [(gI f x bound m).1,(gI f y bound (gI f x bound m).2).1],(gI f y bound (gI f x bound m).2).2)
   |_=>(fY 0 0,m)
def cT (m:Mk):List Ty:=m.consts.map (·.2)
def Qk (m:Mk) (r:Rw):Int:=if(r.inf m.aP.length (cT m) m.types []).2=1 then 2 else(r.inf m.aP.length (cT m) m.types []).2
def oI (m:Mk) (r:Rw):Tm×Int:=if Qk m r=0 then((fE m.aP.length (cT m) m.types [] r 100000).2,(fE m.aP.length (cT m) m.types [] r 100000).1.err) else(di,Qk m r)
def A6 (n:Nd) (r:Rw×Mk):(Tm×Ty)×Mk:=
 if gQ r.2=true then(((oI r.2 r.1).1,(r.1.inf r.2.aP.length (cT r.2) r.2.types []).1),cL s ((oI r.2 r.1).2==0) (oI r.2 r.1).2 n.at_ r.2) else((di,jY),r.2)
def eO (n:Nd) (m:Mk):(Tm×Ty)×Mk:=A6 s n (gI s n.size n [] m)
def ait (x y:Nd) (base:Bool) (a b:Tm×Ty) (m:Mk):Mk:=cL s (a.2.same b.2) 5 y.at_ (cL s (!base||a.2.args.length==0) 5 x.at_ m)
def kV (x y:Nd) (base:Bool) (m:Mk):(Tm×Tm)×Mk:=
 (((eO s x m).1.1,(eO s y (eO s x m).2).1.1),ait s x y base (eO s x m).1 (eO s y (eO s x m).2).1 (eO s y (eO s x m).2).2)
def nk (n:Nat) (a:Int) (m:Mk):Mk:=cL s (decide ((n:Int)<200)) 2 a m
def ga (w:ByteArray) (l:List A2):Bool:=l.any fun e=>decide (e.name=w)
def Wh (t:Tm):Bool:=(t.uses [] []).isSome
def eqF (x:It) (r:(Tm×Tm)×Mk):Mk:=if gQ r.2=true then cL s (Wh r.1.1||(x.kind==4&&Wh r.1.2)) 6 x.at_ r.2 else r.2
def eo (x:It) (k:Nat):ByteArray:=x.words.getD k ⟨#[]⟩
def dX (x:It) (k:Nat):Nd:=x.nodes.getD k B8
def eqG (x:It) (m:Mk):A2×Mk:=
 if gQ m=true then(⟨eo x 0,(kV s (dX x 0) (dX x 1) true m).1.1,(kV s (dX x 0) (dX x 1) true m).1.2⟩,eqF s x (kV s (dX x 0) (dX x 1) true m)) else(ais,m)
def yF (x:It) (m:Mk):A2×Mk:=eqG s x (cL s (!(ga (eo x 0) m.eqs)&&!(ga (eo x 0) m.rules)) 4 x.at_ m)
def eC (w:ByteArray) (a:Int) (m:Mk):Int×Mk:=((BC m.words w).idx,cL s (isConst m w) 4 a m)
def fg (a:Int):List ByteArray->Mk->List Int×Mk
 | [],m=>([],m)
 |w::l,m=>((eC s w a m).1::(fg a l (eC s w a m).2).1,(fg a l (eC s w a m).2).2)
def eU:List Int->List (Int×Int)
 |a::b::l=>(a,b)::eU (b::l)
 |_=>[]
def Lz (l:List Int) (a:Int) (m:Mk):Mk:=cL s (!(l.any fun c=>kS m.prec c c)) 8 a m
def Fe (l:List Int) (a:Int) (m:Mk):Mk:=if gQ m=true then Lz s l a { m with prec:=m.prec++eU l } else m
def A7 (x:It) (m:Mk):Mk:=
 Fe s (fg s x.at_ x.words m).1 x.at_ (cL s (decide (((fg s x.at_ x.words m).1.length:Int)-1<=200-((fg s x.at_ x.words m).2.prec.length:Int))) 2 x.at_ (fg s x.at_ x.words m).2)
abbrev Z5:ByteArray:=⟨#[108,101,120]⟩
abbrev Z6:ByteArray:=⟨#[109,117,108]⟩
def Dh (w:ByteArray):Int:=wo w [Z5,Z6] 0
def N5 (x:It) (c:Int) (m:Mk):Mk:=
 { cL s (decide (Dh (eo x 1)>=0)) 3 x.at_ m with status:=m.status++[(c,Dh (eo x 1))] }
def Di (x:It) (m:Mk):Mk:=
 N5 s x (eC s (eo x 0) x.at_ m).1 (cL s (!((eC s (eo x 0) x.at_ m).2.status.any fun p=>p.1==(eC s (eo x 0) x.at_ m).1)) 4 x.at_ (eC s (eo x 0) x.at_ m).2)
def pZ (w:ByteArray):List A2->Nat->Int
 | [],_ => -1
 |e::l,k=>if e.name=w then(k:Int) else pZ w l (k+1)
def IM (c:Xd) (m:Mk):Mk:={ m with dj:=m.dj++[c] }
def Wi (x:It) (m:Mk):Mk:=
 if gQ m=false then m
 else if x.kind=9 then IM ⟨x.kind,x.num,(eO s (dX x 0) m).1.1,di,0⟩ (eO s (dX x 0) m).2
 else if x.kind=10 then IM ⟨x.kind,x.num,(kV s (dX x 0) (dX x 1) false m).1.1,(kV s (dX x 0) (dX x 1) false m).1.2,0⟩ (kV s (dX x 0) (dX x 1) false m).2
 else if x.kind=12 then IM ⟨x.kind,x.num,di,di,pZ (eo x 0) m.eqs 0⟩ (cL s (decide (pZ (eo x 0) m.eqs 0>=0)) 4 x.at_ m)
 else IM ⟨x.kind,x.num,di,di,0⟩ m
def Wj (x:It) (m:Mk):Mk:=Wi s x (nk s m.dj.length x.at_ m)
def IP (w:ByteArray) (m:Mk):Mk:={ m with aP:=m.aP++[w] }
def rI (a:Int):List ByteArray->Mk->Mk
 | [],m=>m
 |w::l,m=>rI a l (IP w (iO s w ⟨true,0,m.aP.length⟩ a m))
def Ff (x:It) (m:Mk):Mk:=if gQ m=true then { (kd s (dX x 0) m).2 with consts:=m.consts++[(eo x 0,(kd s (dX x 0) m).1)] } else m
def Z7 (x:It) (m:Mk):Mk:=if gQ m=true then { (kd s (dX x 0) { m with bx:=m.bx++[eo x 0] }).2 with types:=m.types++[(kd s (dX x 0) { m with bx:=m.bx++[eo x 0] }).1] } else m
def eqP (x:It) (m:Mk):Mk:=if gQ m=true then { (yF s x m).2 with eqs:=m.eqs++[(yF s x m).1] } else m
def N6 (x:It) (m:Mk):Mk:=if gQ m=true then { (yF s x m).2 with rules:=m.rules++[(yF s x m).1] } else m
def oJ (x:It) (m:Mk):Mk:=
 if x.kind=1 then rI s x.at_ x.words m
 else if x.kind=2 then Ff s x (iO s (eo x 0) ⟨false,1,m.consts.length⟩ x.at_ m)
 else if x.kind=3 then Z7 s x (iO s (eo x 0) ⟨false,2,m.bx.length⟩ x.at_ m)
 else if x.kind=4 then eqP s x (nk s m.eqs.length x.at_ m)
 else if x.kind=5 then N6 s x (nk s m.rules.length x.at_ m)
 else if x.kind=6 then A7 s x m
 else if x.kind=7 then Di s x m
 else Wj s x m
def nG:List It->Mk->Mk
 | [],m=>m
 |x::l,m=>if gQ (oJ s x m)=true then nG l (oJ s x m) else oJ s x m
end
def Z8 (m:Mk):Mk×Fa:=if gQ m=true then(m,pL) else(Cf,m.fault)
def jL (s:ByteArray):Mk×Fa:=if(dN s).2.1=0 then Z8 (nG s (dN s).1 Cf) else(Cf,(dN s).2)
end
section
abbrev cD (l:List (ByteArray×Ty)):List AV:=l.map fun p=>.agg [nS p.1,.sl (p.2.args.map Ty.enc),nI p.2.base]
abbrev aM (l:List A2):List AV:=l.map fun e=>.agg [nS e.name,.sl (e.left.binds.map Ty.enc),nI e.left.kind,nI e.left.index,.sl (e.left.args.map Tm.enc),.sl (e.right.binds.map Ty.enc),nI e.right.kind,nI e.right.index,.sl (e.right.args.map Tm.enc)]
abbrev bS (l:List Xd):List AV:=l.map fun c=>.agg [nI c.kind,nI c.num,.sl (c.left.binds.map Ty.enc),nI c.left.kind,nI c.left.index,.sl (c.left.args.map Tm.enc),.sl (c.right.binds.map Ty.enc),nI c.right.kind,nI c.right.index,.sl (c.right.args.map Tm.enc),nI c.of_]
abbrev MO (s:ByteArray) (m:Mk):List aw:=bT (m.aP.map nS) (cD m.consts) (m.bx.map nS) (aM m.eqs) (aM m.rules) (bo m.prec) (bo m.status) (bS m.dj) (m.types.map Ty.enc) (dc m.words) s m.fault.1 m.fault.2.1 m.fault.2.2.1 m.fault.2.2.2
abbrev MR (s:ByteArray) (x:AV) (m:Mk):AV->List aw->Prop:=V0 x (MO s m)
abbrev LA (t:Ty):AV:=.agg [.sl (t.args.map Ty.enc),nI t.base]
abbrev Ql (t:Tm):AV:=.agg [.sl (t.binds.map Ty.enc),nI t.kind,nI t.index,.sl (t.args.map Tm.enc)]
abbrev Wk (r:Rw):AV:=.agg [nI r.kind,.sl (r.type.args.map Ty.enc),nI r.type.base,nI r.index,.sl (r.kids.map Rw.enc)]
def xB (s:ByteArray) (a:Int):Prop:=0<=a/\a<(s.size:Int)
variable {s w:ByteArray} {m m':Mk} {f:Nat} {a:List AV} {H:List aw}
section
variable {N0:List AV->List AV->List AV->List AV->List AV->List AV->List AV->List AV->List AV->List (ByteArray×Value)->ByteArray->Int->Int->Int->ByteArray->Prop}
theorem qp (h:aY aj f a H (fun r q=>r=.aK []/\q=MO s m')) (hn:N0 (m'.aP.map nS) (cD m'.consts) (m'.bx.map nS) (aM m'.eqs) (aM m'.rules) (bo m'.prec) (bo m'.status) (bS m'.dj) (m'.types.map Ty.enc) (dc m'.words) s m'.fault.1 m'.fault.2.1 m'.fault.2.2.1 m'.fault.2.2.2):eZ f a H N0:=
 ⟨_,h,fun r q ⟨e1,e2⟩=>⟨_,_,_,_,_,_,_,_,_,_,_,_,_,_,_,⟨e1,e2⟩,hn⟩⟩
end
section
variable {N0:List AV->List AV->List AV->List AV->List AV->List AV->List AV->List AV->List AV->List (ByteArray×Value)->ByteArray->Int->Int->Int->ByteArray->Bool->Prop} {b:Bool}
theorem JD (h:aY aj f a H (fun r q=>r=nB b/\q=MO s m')) (hn:N0 (m'.aP.map nS) (cD m'.consts) (m'.bx.map nS) (aM m'.eqs) (aM m'.rules) (bo m'.prec) (bo m'.status) (bS m'.dj) (m'.types.map Ty.enc) (dc m'.words) s m'.fault.1 m'.fault.2.1 m'.fault.2.2.1 m'.fault.2.2.2 b):jH f a H N0:=
 ⟨_,h,fun r q ⟨e1,e2⟩=>⟨_,_,_,_,_,_,_,_,_,_,_,_,_,_,_,_,⟨e1,e2⟩,hn⟩⟩
end
section
variable {N0:List AV->List AV->List AV->List AV->List AV->List AV->List AV->List AV->List AV->List (ByteArray×Value)->ByteArray->Int->Int->Int->ByteArray->Int->Prop} {b:Int}
theorem mcI (h:aY aj f a H (fun r q=>r=nI b/\q=MO s m')) (hn:N0 (m'.aP.map nS) (cD m'.consts) (m'.bx.map nS) (aM m'.eqs) (aM m'.rules) (bo m'.prec) (bo m'.status) (bS m'.dj) (m'.types.map Ty.enc) (dc m'.words) s m'.fault.1 m'.fault.2.1 m'.fault.2.2.1 m'.fault.2.2.2 b):Sz f a H N0:=
 ⟨_,h,fun r q ⟨e1,e2⟩=>⟨_,_,_,_,_,_,_,_,_,_,_,_,_,_,_,_,⟨e1,e2⟩,hn⟩⟩
end
section
variable {N0:List AV->List AV->List AV->List AV->List AV->List AV->List AV->List AV->List AV->List (ByteArray×Value)->ByteArray->Int->Int->Int->ByteArray->List AV->Int->Prop} {t:Ty}
theorem Z9 (h:aY aj f a H (fun r q=>r=LA t/\q=MO s m')) (hn:N0 (m'.aP.map nS) (cD m'.consts) (m'.bx.map nS) (aM m'.eqs) (aM m'.rules) (bo m'.prec) (bo m'.status) (bS m'.dj) (m'.types.map Ty.enc) (dc m'.words) s m'.fault.1 m'.fault.2.1 m'.fault.2.2.1 m'.fault.2.2.2 (t.args.map Ty.enc) t.base):nz f a H N0:=
 ⟨_,h,fun r q ⟨e1,e2⟩=>⟨_,_,_,_,_,_,_,_,_,_,_,_,_,_,_,_,_,⟨e1,e2⟩,hn⟩⟩
end
section
variable {N0:List AV->List AV->List AV->List AV->List AV->List AV->List AV->List AV->List AV->List (ByteArray×Value)->ByteArray->Int->Int->Int->ByteArray->Int->List AV->Int->Int->List AV->Prop} {x:Rw}
theorem mcR (h:aY aj f a H (fun r q=>r=Wk x/\q=MO s m')) (hn:N0 (m'.aP.map nS) (cD m'.consts) (m'.bx.map nS) (aM m'.eqs) (aM m'.rules) (bo m'.prec) (bo m'.status) (bS m'.dj) (m'.types.map Ty.enc) (dc m'.words) s m'.fault.1 m'.fault.2.1 m'.fault.2.2.1 m'.fault.2.2.2 x.kind (x.type.args.map Ty.enc) x.type.base x.index (x.kids.map Rw.enc)):lM f a H N0:=
 ⟨_,h,fun r q ⟨e1,e2⟩=>⟨_,_,_,_,_,_,_,_,_,_,_,_,_,_,_,_,_,_,_,_,⟨e1,e2⟩,hn⟩⟩
end
theorem dh:aY aj 33 [.ptr 10 0] (MO s m) (fun r q=>r=nB (gQ m)/\q=MO s m):=Ze ⟨rfl,rfl⟩
theorem IQ {c a:Int} (hs:s.size<=1000000000) (ha:xB s a):aY aj 191 [.ptr 10 0,nI c,nI a] (MO s m) (fun r q=>r=.aK []/\q=MO s (xA s c a m)):=by
 obtain⟨n,rfl⟩:∃n:Nat,a=n:=⟨a.toNat,by have:=ha.1;omega⟩;have hn:n<s.size:=by have:=ha.2;omega
 refine Vb (JD dh (az.intro (fun h=>?_) fun h=>?_))
 ·have h:gQ m=false:=by simpa using h
  rw[xA,if_neg (by rw[h];decide)];exact⟨rfl,rfl⟩
 ·have h:gQ m=true:=by simpa using h
  rw[xA,if_pos h];refine⟨_,_,_,nC (i:=n) (by omega) hs,⟨by omega,by omega,by omega⟩,_,EG ?_ ?_,rfl,rfl⟩
  ·rw[ar3];simp only[arv];omega
  ·rw[ar3];simp only[arv];omega
theorem bn {b:Bool} {c a:Int} (hs:s.size<=1000000000) (ha:xB s a):aY aj 118 [.ptr 10 0,nB b,nI c,nI a] (MO s m) (fun r q=>r=.aK []/\q=MO s (cL s b c a m)):=by
 refine Vc (az.intro (fun h=>?_) fun h=>?_)
 ·have h:b=false:=by simpa using h
  rw[cL,if_neg (by rw[h];decide)];exact qp (IQ hs ha) ⟨rfl,rfl⟩
 ·have h:b=true:=by simpa using h
  rw[cL,if_pos h];exact⟨rfl,rfl⟩
theorem aaa (l:Qi) (w:ByteArray):ak (aL (dc l) w) rY=.agg #[.bool (Ru (ak (aL (dc l) w) rY)),.int .i64 (Rv (ak (aL (dc l) w) rY)),.int .i64 (Kf (ak (aL (dc l) w) rY))]:=by
 rw[yE];rfl
theorem rJ {x:Mn} {a:Int} (hs:s.size<=1000000000) (ha:xB s a):aY aj 88 [.ptr 10 0,nS w,.agg [nB x.base,nI x.kind,nI x.idx],nI a] (MO s m) (fun r q=>r=.aK []/\q=MO s (iO s w x a m)):=by
 refine Zf ⟨aaa _ _,?_⟩;rw[sf];refine qp (bn hs ha) (JD dh (az.intro (fun h=>?_) fun h=>?_))
 ·have h:gQ _=true:=h;rw[iO,Dg,if_pos h];refine⟨rfl,?_⟩;show bT _ _ _ _ _ _ _ _ _ (cH (dc _) w x.val) _ _ _ _ _=_;rw[Df]
 ·have h:gQ _=false:=h;rw[iO,Dg,if_neg (by rw[h];decide)];exact⟨rfl,rfl⟩
def Dj (s:ByteArray):Nat->Nd->Bool
 |0,_=>false
 |k+1,n=>(decide (0<=n.at_)&&decide (n.at_<(s.size:Int)))&&(n.kind==1||match n.kids with
  |x::y::_=>Dj s k x&&Dj s k y
  |_=>false)
theorem LB {k:Nat} {n:Nd} (h:Dj s k n=true):xB s n.at_:=by
 cases k with
 |zero=>cases h
 |succ k=>rw[Dj,aqv,aqv] at h;exact⟨of_decide_eq_true h.1.1,of_decide_eq_true h.1.2⟩
theorem aab {k:Nat} {n:Nd} (h:Dj s (k+1) n=true) (hk:n.kind≠1):∃x y l,n.kids=x::y::l/\Dj s k x=true/\Dj s k y=true:=by
 rw[Dj,aqv,arh] at h;have h2:=h.2.resolve_left (by simpa using hk);revert h2;split
 ·rename_i x y l e;intro h2;rw[aqv] at h2;exact⟨x,y,l,e,h2⟩
 ·intro h2;cases h2
theorem Qm (a b:Ty):(Qj a b).size=a.size+b.size:=by rw[Qj,Ty.size_eq,Ty.gn,Ty.sizes,Ty.size_eq b];omega
theorem mI:∀(k:Nat) (n:Nd) (m:Mk),(dG s k n m).1.size<=n.size
 |0,n,m=>by have:=n.size_pos;rw[dG];simpa [Ty.size,Ty.sizes] using this
 |k+1,n,m=>by
  have h0:=n.size_pos;rw[dG];split
  ·simpa [Ty.size,Ty.sizes] using h0
  ·split
   ·rename_i x y l e;have h1:=mI k x m;have h2:=mI k y (dG s k x m).2;have h3:=n.size_eq;rw[e,Nd.sizes,Nd.sizes] at h3;show (Qj _ _).size<=_;rw[Qm];omega
   ·simpa [Ty.size,Ty.sizes] using h0
theorem Wl {n x y:Nd} {l:List Nd} (h:n.kids=x::y::l):ae (n.kids.map Nd.enc) (af 0) .top=iE x/\ae (n.kids.map Nd.enc) (af 1) .top=iE y/\2<=(n.kids.map Nd.enc).length/\x.size<n.size/\y.size<n.size:=by
 have h3:=n.size_eq;rw[h,Nd.sizes,Nd.sizes] at h3;have:=x.size_pos;have:=y.size_pos;rw[h];exact⟨Nd.aG x,Nd.aG y,by simp,by omega,by omega⟩
theorem rK (hs:s.size<=1000000000):∀(k:Nat) (n:Nd) (m:Mk),Dj s k n=true->n.size<=1000000->aY aj 117 [.ptr 10 0,iE n] (MO s m) (fun r q=>r=LA (dG s k n m).1/\q=MO s (dG s k n m).2)
 |0,n,m,h,_=>by cases h
 |k+1,n,m,h,hz=>by
  have ha:=LB h;refine Vd (az.intro (fun h1=>⟨aaa _ _,?_⟩) fun h1=>?_)
  ·have h1:n.kind=1:=by simpa using h1
   rw[dG,if_pos h1,sf,yE];refine az.intro (fun h2=>?_) fun h2=>?_
   ·have e:A3 m n.word=(BC m.words n.word).base:=by unfold A3;rw[h2,arb]
    rw[e];exact qp (bn hs ha) ⟨_,_,pS _,rfl,rfl⟩
   ·have e:A3 m n.word=false:=by unfold A3;rw[h2,arn]
    rw[e];exact qp (bn hs ha) ⟨_,_,pS _,rfl,rfl⟩
  ·have h1:¬n.kind=1:=by simpa using h1
   obtain⟨x,y,l,e,hx,hy⟩:=aab h h1;obtain⟨g1,g2,g3,g4,g5⟩:=Wl e;have hv:dG s (k+1) n m=(Qj (dG s k x m).1 (dG s k y (dG s k x m).2).1,(dG s k y (dG s k x m).2).2):=by rw[dG,if_neg h1,e]
   rw[hv];refine⟨by omega,by omega,_,_,_,_,g1,Z9 (rK hs k x m hx (by omega)) ⟨by omega,by omega,_,_,_,_,g2,Z9 (rK hs k y _ hy (by omega)) ⟨_,?_,rfl,rfl⟩⟩⟩;have cx:=mI (s:=s) k y (dG s k x m).2;have hq:=Ty.aO (dG s k y (dG s k x m).2).1.args;have hw:=(dG s k y (dG s k x m).2).1.size_eq;have:=gO (ll:=[[(dG s k x m).1],(dG s k y (dG s k x m).2).1.args]) (by simp) (by simp;omega);simpa [ff,Ty.aG,Qj,Ty.gn] using this
theorem tI {k:Nat} {n:Nd} (hs:s.size<=1000000000) (h:Dj s n.size n=true) (hz:n.size<=1000000):aY aj 73 [.ptr 10 0,iE n] (MO s m) (fun r q=>r=LA (kd s n m).1/\q=MO s (kd s n m).2):=by
 have ha:=LB h;have cx:=mI (s:=s) n.size n m;have hb:=rK hs n.size n m h hz;unfold kd;generalize dG s n.size n m=p at cx hb;have fin:∀{b:Bool} {m1:Mk},vk s n p=m1->gQ m1=b->az (!b) (MR s (LA (if gQ (vk s n p)=true then p.1 else jY)) (vk s n p) (.agg [.ax (.slice none 0 0),nI 0]) (MO s m1)) (MR s (LA (if gQ (vk s n p)=true then p.1 else jY)) (vk s n p) (LA p.1) (MO s m1)):=by
  intro b m1 e1 e2;subst e1 e2;refine az.intro (fun h=>?_) fun h=>?_
  ·rw[if_neg (by simpa using h)];exact⟨aS.agg ⟨bR,aS.refl _,ai⟩,rfl⟩
  ·rw[if_pos (by simpa using h)];exact⟨aS.refl _,rfl⟩
 refine aY.Ll (Zg (Z9 hb (JD dh (az.intro (fun h1=>⟨rfl,_,lC (by omega),qp (bn hs ha) (JD dh (fin ?_ rfl))⟩) fun h1=>JD dh (fin ?_ rfl)))))
 ·rw[aqu,vk,if_pos h1]
 ·rw[vk,if_neg (by rw[h1];decide)]
end
theorem xC {b:Int}:∀(l:List Ty) (k:Nat),decide (eN b k l>=0)=!(l.all (Ty.bG b))
 | [],k=>rfl
 |t::l,k=>by
  rw[eN,arQ];split
  ·rename_i h;rw[xC l (k+1),h,arb]
  ·rename_i h;rw[show Ty.bG b t=false from by simpa using h,arn,decide_eq_true (by omega)];rfl
theorem Fg:∀(n:Nat) (t u:Tm),t.size<=n->n<=500000000->ay aj 22 [.agg [.sl (t.binds.map Ty.enc),nI t.kind,nI t.index,.sl (t.args.map Tm.enc)],.agg [.sl (u.binds.map Ty.enc),nI u.kind,nI u.index,.sl (u.args.map Tm.enc)]] (nB (Tm.same t u)):=by
 intro n
 induction n with
 |zero=>intro t u h;have:=t.size_pos;omega
 |succ n ih=>
  intro t u h hn;have hq:=Tm.aO t.args;have CT:=t.size_eq;have hb:=jl (l:=t.binds) (m:=u.binds) (by have:=Ty.aO t.binds;omega) fun k h1 h2=>kF _ t.binds[k] u.binds[k] (aqw _) (by have:=Ty.cV (aqL h1);omega);rw[Tm.EA];have aN:ay aj 69 [.sl (t.args.map Tm.enc),.sl (u.args.map Tm.enc),.bz 22 []] (nB (Tm.cv t.args u.args)):=by
   refine Zc (az.intro (fun h=>?_) fun h=>?_)
   ·rw[Tm.wb (by simp at h;omega)]
   ·have hlm:t.args.length=u.args.length:=by simp at h;omega
    refine aI.intro (fun k:Nat=>((u.args.map Tm.enc,(),t.args.map Tm.enc,(t.args.length:Int),(k:Int),()),())) (fun k=>k<=t.args.length/\Tm.cv t.args u.args=Tm.cv (t.args.drop k) (u.args.drop k)) (fun k=>t.args.length-k) 0 (by rw[aqu];rfl) ⟨aqC _,rfl⟩ ?_;intro k ⟨hk,hs⟩ again cj;dsimp only;refine az.intro (fun h=>?_) fun h=>?_
    ·have aH:k<t.args.length:=by simpa using h
     rw[Tm.tq aH (by omega)] at hs;have hi:=ih t.args[k] (u.args[k]'(by omega)) (by have:=Tm.eK aH;omega) (by omega);refine⟨by omega,by rw[aqu];omega,_,_,_,_,Tm.bh aH,by omega,by rw[aqu];omega,_,_,_,_,Tm.bh (by omega),_,hi,az.intro (fun h=>?_) fun h=>?_⟩
     ·have:Tm.same t.args[k] u.args[k]=false:=by simpa using h
      rw[hs,this,arn]
     ·have he:Tm.same t.args[k] u.args[k]=true:=by simpa using h
      rw[he,arb] at hs;rw[bk (by omega)];exact cj (k+1) ⟨by omega,hs⟩ (by omega)
    ·have:t.args.length<=k:=by simpa using h
     rw[aqK this,aqK (by omega)] at hs;rw[hs];rfl
  refine Zd (az.intro (fun h=>⟨_,hb,az.intro (fun h2=>⟨_,aN,?_⟩) fun h2=>?_⟩) fun h=>?_)
  ·rw[h,h2,arb,arb]
  ·rw[h,h2,arb,arn]
  ·rw[h,arn]
theorem LC {b:Int} {c m x:List Ty} {r:Rw} {left:Nat} (ep:kU c m x r):(fE b c m x r left).2.size<=300000000/\(fE b c m x r left).2.Ok:=by
 have W5:di.size<=300000000/\di.Ok:=⟨by simp[di,Tm.size,Tm.sizes,Ty.sizes],⟨⟨by decide,by decide⟩,⟨by decide,by decide⟩,ai⟩⟩;unfold fE;split
 ·exact W5
 ·split
  ·exact W5
  ·rename_i h1 h2;have h2:(r.inf b c m x).2=0:=by simpa using h2
   have yf:r.bG=true:=by
    cases yf:r.bG with
    |true=>rfl
    |false=>rw[Rw.inf,yf] at h2;simp at h2
   have tN:r.shaped=true:=by rw[Rw.bG,aqv] at yf;exact yf.1
   have FD:=Rw.vh c m r ⟨left,0,0⟩ x;have oX:r.inf b c m x=r.infer b c m x:=by rw[Rw.inf,if_pos yf]
   have dJ:Rw.oF 1000 c m x r (r.infer b c m x).1:=pW b c m r x _ tN (by rw[oX] at h2;rw[<-h2]);have jr:=fun h=>(kc (aqw _) r ⟨left,0,0⟩ x _ dJ ep.ok h).1;generalize Rw.dB c m ⟨left,0,0⟩ x r=Q at FD jr;unfold gU;split
   ·exact W5
   ·rename_i h0;have hf:=jr (by simpa using h0);split
    ·have hn:=hf.nodes;have II:=FD.pY (by simp only;omega);have hs:=Tm.yD hf.lo;have:Q.2.nodes*(1+1000)<=100000*1001:=arT (by omega) (by omega);exact⟨by omega,Tm.AU hf.lo⟩
    ·exact W5
section
variable {s w:ByteArray} {m m':Mk} {f:Nat} {a:List AV} {H:List aw}
def bwW (l:List ByteArray):Nat->List (Nat×ByteArray)
 |0=>[]
 |k+1=>(k,l.getD k ⟨#[]⟩)::bwW l k
theorem aac {l:List ByteArray} {k:Nat} (h:k<l.length):l.getD k ⟨#[]⟩=l[k]:=by simp[ae,h]
theorem N7 {l:List ByteArray} {k:Nat} (h:k<l.length):ae (l.map nS) (af (k:Int)) .top=nS (l.getD k ⟨#[]⟩):=by rw[getD_map h,aac h]
def wdP (p:Nat×ByteArray):List AV:=[nI p.1,nS p.2]
def wdE (p:Nat×ByteArray):Int×ByteArray×Unit:=(p.1,p.2,())
theorem Qn (l:List ByteArray):ay aj 237 [.sl (l.map nS)] (.bz 260 [.aW (.sl (l.map nS)) 0]):=U9 rfl
theorem LD {l:List ByteArray} (h:l.length<=1000000000):vE aj 260 (fun v=>[v,.aW (.sl (l.map nS)) 0]) ((bwW l l.length).map wdP) false:=by
 refine U8 fun yv more=>⟨rfl,?_⟩;refine aI.intro (fun k:Nat=>(((yv,(),(k:Int)-1,()),()),some ((bwW l k).map wdP++more))) (fun k=>k<=l.length) (fun k=>k) l.length (by rw[aqu,ba (by omega) (by omega)]) (aqw _) ?_;intro k hk again cj;dsimp only;unfold HA;rw[aqu];refine az.intro (fun h=>?_) fun h=>?_
 ·have h':(k:Int)-1>=0:=of_decide_eq_true h;obtain⟨j,rfl⟩:∃j,k=j+1:=⟨k-1,by omega⟩;have aH:j<l.length:=by omega
  have e:((j+1:Nat):Int)-1=(j:Int):=by omega
  rw[e];refine⟨by omega,by omega,_,N7 aH,rfl,(bwW l j).map wdP++more,rfl,fun b=>az.intro (fun h=>?_) fun h=>?_⟩
  ·have:b=false:=by simpa using h
   subst this;exact⟨false,rfl⟩
  ·have:b=true:=by simpa using h
   subst this;refine⟨rfl,?_⟩;rw[ba (n:=(j:Int)-1) (by omega) (by omega)];exact cj j (by omega) (by omega)
 ·have h':¬(k:Int)-1>=0:=of_decide_eq_false h;have:k=0:=by omega
  subst this;exact⟨true,rfl⟩
theorem aad {l:List ByteArray} (h:l.length<=1000000000):ng aj 260 [.aW (.sl (l.map nS)) 0] [.v (.c (.i .i64)),.v (.c (.s))] ((bwW l l.length).map wdE):=
 q8 (prm:=[.v (.c (.i .i64)),.v (.c (.s))]) wdE (LD h)
theorem IU {n:Nd} {bound:List ByteArray} (hs:s.size<=1000000000) (ha:xB s n.at_) (hb:bound.length<=1000000):aY aj 202 [.ptr 10 0,iE n,.sl (bound.map nS)] (MO s m) (fun r q=>r=Wk (A5 s n bound m).1/\q=MO s (A5 s n bound m).2):=by
 refine Ve ⟨Qn bound,rfl,rfl,rfl,rfl,rfl,rfl,rfl,rfl,rfl,?_⟩;unfold A5;generalize hX:IL n.word bound bound.length=X;refine iD.v8 (fun _:Unit=>(m.aP.map nS,cD m.consts,m.bx.map nS,aM m.eqs,aM m.rules,bo m.prec,bo m.status,bS m.dj,m.types.map Ty.enc,dc m.words,((),(),(),(),(),(),(),(),(),s,(),m.fault.1,m.fault.2.1,m.fault.2.2.1,m.fault.2.2.2,()),(n.kind,n.word,n.at_,n.kids.map Nd.enc,()),(bound.map nS,()),(0,(),0,0,(),()),())) wdE (bwW bound bound.length) (aad (by omega))
  (fun rest _=>∃k,k<=bound.length/\rest=bwW bound k/\IL n.word bound k=X) () rfl ⟨_,aqw _,rfl,hX⟩ (fun g rest _ ⟨k,hk,he,hp⟩ again cj=>?_) fun _ ⟨k,hk,he,hp⟩=>?_
 ·cases k with
  |zero=>cases he
  |succ k=>
   simp only[bwW,List.cons.injEq] at he;obtain⟨rfl,rfl⟩:=he;have aH:k<bound.length:=by omega
   rw[IL] at hp;dsimp only[wdE];rw[eF,aqu];refine az.intro (fun h=>?_) fun h=>?_
   ·have h:bound.getD k ⟨#[]⟩=n.word:=by simpa using h
    rw[if_pos h] at hp;subst hp;rw[ba (n:=(bound.length:Int)-1) (by omega) (by omega),ba (n:=(bound.length:Int)-1-(k:Int)) (by omega) (by omega),show (bound.length:Int)-1-(k:Int)=((bound.length-1-k:Nat):Int) by omega];exact⟨_,_,_,_,_,pR _ _,rfl,rfl⟩
   ·have h:¬bound.getD k ⟨#[]⟩=n.word:=by simpa using h
    rw[if_neg h] at hp;exact⟨rfl,rfl,rfl,rfl,rfl,rfl,rfl,rfl,rfl,cj () ⟨k,by omega,rfl,hp⟩⟩
 ·cases k with
  |succ k=>cases he
  |zero=>
   rw[IL] at hp;subst hp;refine⟨aaa _ _,?_⟩;dsimp only;rw[sf,yE];refine az.intro (fun h2=>?_) fun h2=>?_
   ·have e:A4 m n.word=!(BC m.words n.word).base:=by unfold A4;rw[h2,arb]
    rw[e];exact qp (bn hs ha) ⟨_,_,_,_,_,pR _ _,rfl,rfl⟩
   ·have e:A4 m n.word=false:=by unfold A4;rw[h2,arn]
    rw[e];exact qp (bn hs ha) ⟨_,_,_,_,_,pR _ _,rfl,rfl⟩
def tO (s:ByteArray):Nat->Nd->Bool
 |0,_=>false
 |k+1,n=>(decide (0<=n.at_)&&decide (n.at_<(s.size:Int)))&&(n.kind==1||match n.kids with
  |x::y::_=>if n.kind=3 then Dj s x.size x&&tO s k y else tO s k x&&tO s k y
  |_=>false)
theorem tJ {k:Nat} {n:Nd} (h:tO s k n=true):xB s n.at_:=by
 cases k with
 |zero=>cases h
 |succ k=>rw[tO,aqv,aqv] at h;exact⟨of_decide_eq_true h.1.1,of_decide_eq_true h.1.2⟩
theorem aae {k:Nat} {n:Nd} (h:tO s (k+1) n=true) (hk:n.kind≠1):∃x y l,n.kids=x::y::l/\tO s k y=true/\(n.kind=3->Dj s x.size x=true)/\(n.kind≠3->tO s k x=true):=by
 rw[tO,aqv,arh] at h;have h2:=h.2.resolve_left (by simpa using hk);revert h2;split
 ·rename_i x y l e;split
  ·rename_i h3;intro h2;rw[aqv] at h2;exact⟨x,y,l,e,h2.2,fun _=>h2.1,fun h=>(h h3).elim⟩
  ·rename_i h3;intro h2;rw[aqv] at h2;exact⟨x,y,l,e,h2.2,fun h=>(h3 h).elim,fun _=>h2.1⟩
 ·intro h2;cases h2
theorem IV {l:List ByteArray}:ay aj 203 [.sl (l.map nS)] (.clip (l.map nS)):=by
 refine Pure.of_heap (Va ⟨⟨by omega,by omega,rfl,by omega,fun x hx=>by obtain⟨t,_,rfl⟩:=arx.1 hx;rfl⟩,rfl,?_⟩);simp[aqP]
theorem al5 {k b i:Int} {l:List Ty} {x:Rw}:aS (.agg [nI k,.sl (l.map Ty.enc),nI b,nI i,.clip [Wk x]]) (Wk (.mk k (.mk l b) i [x])):=by
 refine aS.agg ⟨aS.refl _,aS.refl _,aS.refl _,aS.refl _,?_,ai⟩;have:[Wk x]=[x].map Rw.enc:=by simp[Rw.aG]
 rw[this];exact fT _
theorem al6 {k i:Int} {x y:Rw}:aS (.agg [nI k,.ax (.slice none 0 0),nI 0,nI i,.clip [Wk x,Wk y]]) (Wk (.mk k jY i [x,y])):=by
 refine aS.agg ⟨aS.refl _,bR,aS.refl _,aS.refl _,?_,ai⟩;have:[Wk x,Wk y]=[x,y].map Rw.enc:=by simp[Rw.aG]
 rw[this];exact fT _
theorem p6 (hs:s.size<=1000000000):∀(k:Nat) (n:Nd) (bound:List ByteArray) (m:Mk),tO s k n=true->n.size+bound.length<=1000000->aY aj 129 [.ptr 10 0,iE n,.sl (bound.map nS)] (MO s m) (fun r q=>r=Wk (gI s k n bound m).1/\q=MO s (gI s k n bound m).2)
 |0,n,bound,m,h,_=>by cases h
 |k+1,n,bound,m,h,hz=>by
  have ha:=tJ h;have XF:=n.size_pos;refine aY.Ll (Vf (JD dh (az.intro (fun h0=>?_) fun h0=>az.intro (fun h1=>?_) fun h1=>?_)))
  ·have h0:gQ m=false:=by simpa using h0
   rw[gI,if_pos h0];exact⟨aS.agg ⟨aS.refl _,bR,aS.refl _,aS.refl _,bR,ai⟩,rfl⟩
  ·have h0:¬gQ m=false:=by simpa using h0
   have h1:n.kind=1:=by simpa using h1
   rw[gI,if_neg h0,if_pos h1];exact mcR (IU hs ha (by omega)) ⟨aS.refl _,rfl⟩
  ·have h0:¬gQ m=false:=by simpa using h0
   have h1:¬n.kind=1:=by simpa using h1
   obtain⟨x,y,l,e,hy,hx3,hx4⟩:=aae h h1;obtain⟨g1,g2,g3,g4,g5⟩:=Wl e;refine az.intro (fun h3=>?_) fun h3=>?_
   ·have h3:n.kind=3:=by simpa using h3
    have hv:gI s (k+1) n bound m=(.mk 3 (kd s x m).1 0 [(gI s k y (bound++[n.word]) (kd s x m).2).1],(gI s k y (bound++[n.word]) (kd s x m).2).2):=by rw[gI,if_neg h0,if_neg h1,e];exact if_pos h3
    rw[hv];have hr:=p6 hs k y (bound++[n.word]) (kd s x m).2 hy (by simp;omega);rw[arq] at hr;exact⟨by omega,by omega,_,_,_,_,g1,Z9 (tI (k:=0) hs (hx3 h3) (by omega)) ⟨by omega,by omega,_,_,_,_,g2,_,IV,(fun h=>by cases h),ir (fun x hx=>by obtain⟨t,_,rfl⟩:=arx.1 hx;rfl) (fun x hx=>by rw[aqJ.1 hx];rfl) (by simp;omega) (by decide),rfl,mcR hr ⟨al5,rfl⟩⟩⟩
   ·have h3:¬n.kind=3:=by simpa using h3
    have hv:gI s (k+1) n bound m=(.mk 4 jY 0 [(gI s k x bound m).1,(gI s k y bound (gI s k x bound m).2).1],(gI s k y bound (gI s k x bound m).2).2):=by rw[gI,if_neg h0,if_neg h1,e];exact if_neg h3
    rw[hv];exact⟨by omega,by omega,_,_,_,_,g1,mcR (p6 hs k x bound m (hx4 h3) (by omega)) ⟨by omega,by omega,_,_,_,_,g2,mcR (p6 hs k y bound _ hy (by omega)) ⟨al6,rfl⟩⟩⟩
theorem N8 {l:List (ByteArray×Ty)} {k:Nat} (h:k<l.length):ae (cD l) (af (k:Int)) .top=.agg [nS l[k].1,.sl (l[k].2.args.map Ty.enc),nI l[k].2.base]:=getD_map h
def wTy (m:Mk):AV:=.agg [nI (m.aP.length:Int),.sl ((cT m).map Ty.enc),.sl (m.types.map Ty.enc)]
theorem Fh {b:List ByteArray} {e r p t c:List AV} {g:List AV} {cs:List (ByteArray×Ty)} {ts:List Ty} (hc:∀q∈cs,q.2.size<=1000) (ht:∀q∈ts,q.size<=1000) (hl:cs.length<=1000000) (BA:ts.length<=1000000):
  aY aj 16 [.agg [.sl (b.map nS),.sl (cD cs),.sl g,.own 0 (ab (ts.map Ty.enc)),.sl e,.sl r,.sl p,.sl t,.sl c]] (mtO (ts.map Ty.enc)) (fun x q=>x=.agg [nI (b.length:Int),.sl ((cs.map (·.2)).map Ty.enc),.sl (ts.map Ty.enc)]/\q=mtO (ts.map Ty.enc)):=by
 have dK:(cD cs).length=cs.length:=aqu _;have Gt:(ts.map Ty.enc).length=ts.length:=aqu _;refine Ey ⟨rfl,rfl,?_⟩;refine aI.intro (fun k:Nat=>(((),(),(),cD cs,(cs.length:Int),(k:Int),()),(ts.map Ty.enc,(b.map nS,cD cs,g,(),e,r,p,t,c,()),(0,(),(),()),((b.length:Int),(),(),()),((cs.take k).map (·.2)).map Ty.enc,())))
  (fun k=>k<=cs.length) (fun k=>cs.length-k) 0 (by rw[dK,aqu];rfl) (aqC _) ?_
 intro k hk again cj;dsimp only;unfold uW;rw[dK];refine az.intro (fun h=>?_) fun h=>?_
 ·have aH:k<cs.length:=by simpa using h
  have cx:=hc _ (aqL aH);refine⟨by omega,by omega,_,_,_,N8 aH,_,_,jW (t:=cs[k].2) (by omega),rfl,bJ rfl (by simp;omega) (by decide),rfl,rfl,?_⟩;have e:((cs.take k).map (·.2)).map Ty.enc++[LA cs[k].2]=((cs.take (k+1)).map (·.2)).map Ty.enc:=by
   rw[<-cO aH,arq,arq];show _=_++[Ty.enc cs[k].2];rw[Ty.aG]
  rw[e,bk (by omega)];exact cj (k+1) (by omega) (by omega)
 ·have jM:cs.length<=k:=by simpa using h
  rw[aqP jM];refine⟨rfl,rfl,rfl,rfl,rfl,?_⟩;clear cj;refine aI.intro (fun k:Nat=>(((),(),(),(ts.length:Int),(k:Int),()),(ts.map Ty.enc,(b.map nS,cD cs,g,(),e,r,p,t,c,()),(0,(),(),()),((b.length:Int),(),(),()),(cs.map (·.2)).map Ty.enc,(ts.take k).map Ty.enc,())))
   (fun k=>k<=ts.length) (fun k=>ts.length-k) 0 (by rw[Gt];rfl) (aqC _) ?_
  intro k hk again cj;dsimp only;unfold uV;rw[Gt];refine az.intro (fun h=>?_) fun h=>?_
  ·have aH:k<ts.length:=by simpa using h
   have cx:=ht _ (aqL aH);refine⟨⟨by omega,by omega,rfl⟩,rfl,by simpa using aH,_,_,Ty.bh aH,_,_,jW (t:=ts[k]) (by omega),rfl,bJ rfl (by simp;omega) (by decide),rfl,rfl,rfl,rfl,?_⟩;have e:(ts.take k).map Ty.enc++[LA ts[k]]=(ts.take (k+1)).map Ty.enc:=by
    rw[<-cO aH,arq];show _=_++[Ty.enc ts[k]];rw[Ty.aG]
   rw[e,bk (by omega)];exact cj (k+1) (by omega) (by omega)
  ·have jM:ts.length<=k:=by simpa using h
   rw[aqP jM];exact⟨rfl,rfl,rfl,rfl⟩
end
section
variable {s w:ByteArray} {m m':Mk} {f:Nat} {a:List AV} {H:List aw}
def Fo (m m':Mk):Prop:=∃f,m'={ m with fault:=f }
theorem Fo.refl (m:Mk):Fo m m:=⟨m.fault,rfl⟩
theorem Fo.trans {a b c:Mk} (h:Fo a b) (k:Fo b c):Fo a c:=by
 obtain⟨f,rfl⟩:=h;obtain⟨g,rfl⟩:=k;exact⟨g,rfl⟩
theorem Wm (c a:Int) (m:Mk):Fo m (xA s c a m):=by
 unfold xA;split
 ·exact⟨_,rfl⟩
 ·exact Fo.refl m
theorem bA (b:Bool) (c a:Int) (m:Mk):Fo m (cL s b c a m):=by
 unfold cL;split
 ·exact Fo.refl m
 ·exact Wm c a m
theorem vl:∀(k:Nat) (n:Nd) (m:Mk),Fo m (dG s k n m).2
 |0,n,m=>Fo.refl m
 |k+1,n,m=>by
  rw[dG];split
  ·exact bA _ _ _ _
  ·split
   ·exact(vl k _ m).trans (vl k _ _)
   ·exact Fo.refl m
theorem nm (n:Nd) (m:Mk):Fo m (kd s n m).2:=by
 refine(vl (s:=s) n.size n m).trans ?_;show Fo _ (vk s n _);unfold vk;split
 ·exact bA _ _ _ _
 ·exact Fo.refl _
theorem Wn (n:Nd) (bound:List ByteArray) (m:Mk):Fo m (A5 s n bound m).2:=by
 unfold A5;split
 ·exact Fo.refl m
 ·exact bA _ _ _ _
theorem nn:∀(k:Nat) (n:Nd) (bound:List ByteArray) (m:Mk),Fo m (gI s k n bound m).2
 |0,n,bound,m=>Fo.refl m
 |k+1,n,bound,m=>by
  rw[gI];split
  ·exact Fo.refl m
  ·split
   ·exact Wn n bound m
   ·split
    ·split
     ·exact(nm _ m).trans (nn k _ _ _)
     ·exact(nn k _ _ m).trans (nn k _ _ _)
    ·exact Fo.refl m
theorem kJ (n:Nd) (m:Mk):Fo m (eO s n m).2:=by
 refine(nn (s:=s) n.size n [] m).trans ?_;unfold eO A6;split
 ·exact bA _ _ _ _
 ·exact Fo.refl _
theorem yG (x y:Nd) (b:Bool) (m:Mk):Fo m (kV s x y b m).2:=
 ((kJ x m).trans (kJ y _)).trans ((bA _ _ _ _).trans (bA _ _ _ _))
structure MI (L:Nat) (m:Mk):Prop where
 hc:∀q∈m.consts,q.2.size<=1000
 hm:∀t∈m.types,t.size<=1000
 cl:m.consts.length<=L
 ml:m.types.length<=L
 wk:∀p∈m.words,lO p.2.kind/\lO p.2.idx
theorem MI.fo {L:Nat} (h:MI L m) (k:Fo m m'):MI L m':=by
 obtain⟨f,rfl⟩:=k;exact⟨h.hc,h.hm,h.cl,h.ml,h.wk⟩
theorem fx:lO 0:=⟨by decide,by decide⟩
theorem MI.mn {L:Nat} (h:MI L m) (w:ByteArray):lO (BC m.words w).kind/\lO (BC m.words w).idx:=by
 have key:∀l:Qi,(∀p∈l,lO p.2.kind/\lO p.2.idx)->lO (BC l w).kind/\lO (BC l w).idx:=by
  intro l
  induction l with
  |nil=>intro _;exact⟨fx,fx⟩
  |cons p l ih=>
   intro hp;obtain⟨k,v⟩:=p;unfold BC at ih ⊢;rw[tH];split
   ·exact hp _ aqG
   ·exact ih fun q hq=>hp q (aqI _ hq)
 exact key _ h.wk
theorem N9 {w:ByteArray} {l:List ByteArray}:∀{k j:Nat},IL w l k=some j->j<=l.length
 |0,j,h=>by cases h
 |k+1,j,h=>by
  rw[IL] at h;split at h
  ·obtain rfl:=aqs h;omega
  ·exact N9 h
theorem Qo (n:Nd) (m:Mk):(kd s n m).1.size<=n.size:=by
 show (if _ then _ else _:Ty).size<=_;split
 ·exact mI _ n m
 ·have:=n.size_pos;simpa [Ty.size,Ty.sizes] using this
theorem oK:jY.size=1:=by simp[Ty.size,Ty.sizes]
theorem lE (k i:Int):(fY k i).total=2:=by simp[Rw.total,Rw.cJ,oK]
theorem yH {L:Nat}:∀(k:Nat) (n:Nd) (bound:List ByteArray) (m:Mk),MI L m->bound.length+n.size<=1000000->(gI s k n bound m).1.Ok/\(gI s k n bound m).1.total<=2*n.size
 |0,n,bound,m,hm,hb=>by
  have:=n.size_pos;refine⟨⟨fx,fx,ai⟩,?_⟩;show (fY 0 0).total<=_;rw[lE];omega
 |k+1,n,bound,m,hm,hb=>by
  have hp:=n.size_pos;have h0:(fY 0 0).Ok/\(fY 0 0).total<=2*n.size:=⟨⟨fx,fx,ai⟩,by rw[lE];omega⟩;rw[gI];split
  ·exact h0
  ·split
   ·unfold A5;split
    ·rename_i j hj;have:=N9 hj;refine⟨⟨fx,⟨by omega,by omega⟩,ai⟩,?_⟩;show (fY _ _).total<=_;rw[lE];omega
    ·refine⟨⟨(hm.mn _).1,(hm.mn _).2,ai⟩,?_⟩;show (fY _ _).total<=_;rw[lE];omega
   ·split
    ·rename_i x y l e;have h3:=n.size_eq;rw[e,Nd.sizes,Nd.sizes] at h3;split
     ·have ht:=Qo (s:=s) x m;have h1:=yH k y (bound++[n.word]) (kd s x m).2 (hm.fo (nm x m)) (by simp;have:=x.size_pos;omega);refine⟨⟨⟨by decide,by decide⟩,fx,h1.1,ai⟩,?_⟩;show (Rw.mk _ _ _ _).total<=_;simp only[Rw.total,Rw.cJ];have:=h1.2;have:=x.size_pos;omega
     ·have h1:=yH k x bound m hm (by have:=y.size_pos;omega);have h2:=yH k y bound (gI s k x bound m).2 (hm.fo (nn k x bound m)) (by have:=x.size_pos;omega);refine⟨⟨⟨by decide,by decide⟩,fx,h1.1,h2.1,ai⟩,?_⟩;show (Rw.mk _ _ _ _).total<=_;simp only[Rw.total,Rw.cJ,oK];have:=h1.2;have:=h2.2;omega
    ·exact h0
theorem MI.nok {k:Nat} {n:Nd} (h:MI 500 m) (hz:n.size<=900000):kU (cT m) m.types [] (gI s k n [] m).1:=by
 have h1:=yH (s:=s) k n [] m h (by simp;omega);have h2:∀t∈cT m,t.size<=1000:=fun t ht=>by
  obtain⟨q,hq,rfl⟩:=arx.1 ht;exact h.hc q hq
 have h3:(cT m).length=m.consts.length:=aqu _;exact⟨h2,h.hm,(fun t ht=>by cases ht),by rw[h3];exact h.cl,h.ml,aqC _,by omega,h1.1⟩
section
variable {N0:List AV->List AV->List AV->List AV->List AV->List AV->List AV->List AV->List AV->List (ByteArray×Value)->ByteArray->Int->Int->Int->ByteArray->List AV->Int->Int->List AV->List AV->Int->Prop} {t:Tm} {u:Ty}
theorem mcM (h:aY aj f a H (fun r q=>r=.aK [Ql t,LA u]/\q=MO s m')) (hn:N0 (m'.aP.map nS) (cD m'.consts) (m'.bx.map nS) (aM m'.eqs) (aM m'.rules) (bo m'.prec) (bo m'.status) (bS m'.dj) (m'.types.map Ty.enc) (dc m'.words) s m'.fault.1 m'.fault.2.1 m'.fault.2.2.1 m'.fault.2.2.2 (t.binds.map Ty.enc) t.kind t.index (t.args.map Tm.enc) (u.args.map Ty.enc) u.base):pz f a H N0:=
 ⟨_,h,fun r q ⟨e1,e2⟩=>⟨_,_,_,_,_,_,_,_,_,_,_,_,_,_,_,_,_,_,_,_,_,⟨e1,e2⟩,hn⟩⟩
end
section
variable {N0:List AV->List AV->List AV->List AV->List AV->List AV->List AV->List AV->List AV->List (ByteArray×Value)->ByteArray->Int->Int->Int->ByteArray->List AV->Int->Int->List AV->List AV->Int->Int->List AV->Prop} {t u:Tm}
theorem mcW (h:aY aj f a H (fun r q=>r=.aK [Ql t,Ql u]/\q=MO s m')) (hn:N0 (m'.aP.map nS) (cD m'.consts) (m'.bx.map nS) (aM m'.eqs) (aM m'.rules) (bo m'.prec) (bo m'.status) (bS m'.dj) (m'.types.map Ty.enc) (dc m'.words) s m'.fault.1 m'.fault.2.1 m'.fault.2.2.1 m'.fault.2.2.2 (t.binds.map Ty.enc) t.kind t.index (t.args.map Tm.enc) (u.binds.map Ty.enc) u.kind u.index (u.args.map Tm.enc)):pA f a H N0:=
 ⟨_,h,fun r q ⟨e1,e2⟩=>⟨_,_,_,_,_,_,_,_,_,_,_,_,_,_,_,_,_,_,_,_,_,_,_,⟨e1,e2⟩,hn⟩⟩
end
theorem Wo:aS (.agg [.ax (.slice none 0 0),nI 0,nI 0,.ax (.slice none 0 0)]) (Ql di):=aS.agg ⟨bR,aS.refl _,aS.refl _,bR,ai⟩
theorem al9:aS (.agg [.ax (.slice none 0 0),nI 0]) (LA jY):=aS.agg ⟨bR,aS.refl _,ai⟩
theorem Wp {x y u v:AV} (h:aS x u) (k:aS y v):aS (.aK [x,y]) (.aK [u,v]):=aS.aK ⟨h,k,ai⟩
theorem rL {n:Nd} (hs:s.size<=1000000000) (hm:MI 500 m) (h:tO s n.size n=true) (hz:n.size<=900000):aY aj 78 [.ptr 10 0,iE n] (MO s m) (fun r q=>r=.aK [Ql (eO s n m).1.1,LA (eO s n m).1.2]/\q=MO s (eO s n m).2):=by
 have ha:=tJ h;have hr:=p6 hs n.size n [] m h (by simp;omega);have hf:=nn (s:=s) n.size n [] m;have adk:=hm.nok (s:=s) (k:=n.size) hz;unfold eO;generalize gI s n.size n [] m=p at hr hf adk;obtain⟨r,m1⟩:=p;have Fy:MI 500 m1:=hm.fo hf;have aE:kU (cT m1) m1.types [] r:=by
  obtain⟨g,rfl⟩:∃g,m1={ m with fault:=g }:=hf;exact adk
 clear adk hf hm;have hi:=Dd (b:=m1.aP.length) aE;have hn:=De (b:=m1.aP.length) aE;have hw:=Fh (b:=m1.aP) (e:=aM m1.eqs) (r:=aM m1.rules) (p:=bo m1.prec) (t:=bo m1.status) (c:=bS m1.dj) (g:=m1.bx.map nS) Fy.hc Fy.hm (by have:=Fy.cl;omega) (by have:=Fy.ml;omega);rw[Rw.aG] at hi;dsimp only at hr ⊢;refine aY.Ll (Zh (mcR (aY.ML (ys:=[.ptr 10 0,iE n,.sl []]) ⟨aS.refl _,aS.refl _,bR,ai⟩ hr) (JD dh (az.intro (fun h1=>?_) fun h1=>?_))))
 ·have h1:¬gQ m1=true:=by simpa using h1
  unfold A6;rw[if_neg h1];exact⟨Wp Wo al9,rfl⟩
 have h1:gQ m1=true:=by simpa using h1
 unfold A6;rw[if_pos h1];refine⟨rfl,rfl,rfl,rfl,rfl,rfl,rfl,rfl,_,hw,fun r2 q ⟨e1,e2⟩=>⟨_,_,_,_,⟨e1,e2⟩,_,_,_,hi,az.intro (fun h2=>?_) fun h2=>az.intro (fun h3=>⟨_,_,_,_,_,hn,?_⟩) fun h3=>?_⟩⟩
 ·have h2:(r.inf m1.aP.length (cT m1) m1.types []).2=1:=by simpa using h2
  have he:Qk m1 r=2:=if_pos h2;have hf:oI m1 r=(di,2):=by unfold oI;rw[he];rfl
  rw[hf];exact qp (bn (m:=m1) (b:=false) hs ha) ⟨Wp Wo (aS.refl _),rfl⟩
 ·have h3:(r.inf m1.aP.length (cT m1) m1.types []).2=0:=by simpa using h3
  have he:Qk m1 r=0:=by unfold Qk;rw[h3];rfl
  have hf:oI m1 r=((fE m1.aP.length (cT m1) m1.types [] r 100000).2,(fE m1.aP.length (cT m1) m1.types [] r 100000).1.err):=if_pos he;rw[hf];exact qp (bn (m:=m1) hs ha) ⟨aS.refl _,rfl⟩
 ·have h2:¬(r.inf m1.aP.length (cT m1) m1.types []).2=1:=by simpa using h2
  have h3:¬(r.inf m1.aP.length (cT m1) m1.types []).2=0:=by simpa using h3
  have he:Qk m1 r=(r.inf m1.aP.length (cT m1) m1.types []).2:=if_neg h2;have hf:oI m1 r=(di,(r.inf m1.aP.length (cT m1) m1.types []).2):=by unfold oI;rw[he,if_neg h3]
  rw[hf];exact qp (bn (m:=m1) hs ha) ⟨Wp Wo (aS.refl _),rfl⟩
end
section
variable {s w:ByteArray} {m m':Mk} {f:Nat} {a:List AV} {H:List aw}
theorem Wq (b:Int) (c m x:List Ty) (r:Rw):(r.inf b c m x).1.size<=1000:=by
 unfold Rw.inf;split
 ·exact Rw.jZ ..
 ·rw[oK];decide
theorem A8 (n:Nd) (m:Mk):(eO s n m).1.2.size<=1000:=by
 unfold eO A6;split
 ·exact Wq ..
 ·show jY.size<=_;rw[oK];decide
theorem A9:di.size<=300000000:=by simp[di,Tm.size,Tm.sizes,Ty.sizes]
theorem Ba {n:Nd} (hm:MI 500 m) (hz:n.size<=900000):(eO s n m).1.1.size<=300000000:=by
 have aE:=hm.nok (s:=s) (k:=n.size) hz;have hf:=nn (s:=s) n.size n [] m;unfold eO A6;generalize gI s n.size n [] m=p at aE hf;obtain⟨r,m1⟩:=p;obtain⟨g,rfl⟩:∃g,m1={ m with fault:=g }:=hf;split
 ·show (oI _ _).1.size<=_;unfold oI;split
  ·exact(LC aE).1
  ·exact A9
 ·exact A9
theorem rM {n:Nat} {at_:Int} (hs:s.size<=1000000000) (ha:xB s at_):aY aj 89 [.ptr 10 0,nI (n:Int),nI at_] (MO s m) (fun r q=>r=.aK []/\q=MO s (nk s n at_ m)):=
 Zi (qp (bn hs ha) ⟨rfl,rfl⟩)
theorem vm {at_:Int} (hs:s.size<=1000000000) (ha:xB s at_):aY aj 154 [.ptr 10 0,nS w,nI at_] (MO s m) (fun r q=>r=nI (eC s w at_ m).1/\q=MO s (eC s w at_ m).2):=by
 refine Vn ⟨aaa _ _,?_⟩;rw[sf,yE];refine az.intro (fun h=>az.intro (fun h2=>?_) fun h2=>?_) fun h=>?_
 ·have h2:(BC m.words w).base=false:=by simpa using (show (!(BC m.words w).base)=true from h2)
  have e:isConst m w=((BC m.words w).kind==1):=by unfold isConst;rw[h,h2];rfl
  unfold eC;rw[e];exact qp (bn hs ha) ⟨rfl,rfl⟩
 ·have h2:(BC m.words w).base=true:=by simpa using (show (!(BC m.words w).base)=false from h2)
  have e:isConst m w=false:=by unfold isConst;rw[h,h2];rfl
  unfold eC;rw[e];exact qp (bn hs ha) ⟨rfl,rfl⟩
 ·have e:isConst m w=false:=by unfold isConst;rw[h];rfl
  unfold eC;rw[e];exact qp (bn hs ha) ⟨rfl,rfl⟩
theorem vn {l:List Nd} {k:Nat} (h:k<l.length):ae (l.map Nd.enc) (af (k:Int)) .top=iE (l.getD k B8):=by
 rw[getD_map h];have e:l.getD k B8=l[k]:=by simp[ae,h]
 rw[e,Nd.aG]
theorem Bb {l:List Nd} {b:Bool} (hs:s.size<=1000000000) (hm:MI 500 m) (hl:2<=l.length) (hx:tO s (l.getD 0 B8).size (l.getD 0 B8)=true) (hy:tO s (l.getD 1 B8).size (l.getD 1 B8)=true) (hz:(l.getD 0 B8).size<=900000) (W4:(l.getD 1 B8).size<=900000):
  aY aj 152 [.ptr 10 0,.sl (l.map Nd.enc),nB b] (MO s m) (fun r q=>r=.aK [Ql (kV s (l.getD 0 B8) (l.getD 1 B8) b m).1.1,Ql (kV s (l.getD 0 B8) (l.getD 1 B8) b m).1.2]/\q=MO s (kV s (l.getD 0 B8) (l.getD 1 B8) b m).2):=by
 have g0:=vn (l:=l) (k:=0) (by omega);have g1:=vn (l:=l) (k:=1) (by omega);have hlen:(l.map Nd.enc).length=l.length:=aqu _;generalize l.getD 0 B8=x at *;generalize l.getD 1 B8=y at *;have t1:=rL hs hm hx hz;have t2:=rL hs (hm.fo (kJ (s:=s) x m)) hy W4;have z1:=A8 (s:=s) x m;have z2:=A8 (s:=s) y (eO s x m).2;unfold kV;generalize eO s x m=p at t1 t2 z1 z2;generalize eO s y p.2=q at t2 z2;have heq:=kF _ p.1.2 q.1.2 (aqw _) (by omega);rw[Ty.aG,Ty.aG] at heq;refine Vh ⟨by omega,by omega,_,_,_,_,g0,mcM t1 ⟨by omega,by omega,_,_,_,_,g1,mcM t2 (az.intro (fun h=>?_) fun h=>?_)⟩⟩
 ·have h:b=false:=by simpa using h
  subst h;exact⟨by omega,by omega,_,_,_,_,g0,qp (bn hs (tJ hx)) ⟨_,heq,by omega,by omega,_,_,_,_,g1,qp (bn hs (tJ hy)) ⟨rfl,rfl⟩⟩⟩
 ·have h:b=true:=by simpa using h
  subst h;have e:((((p.1.2.args.map Ty.enc).length:Nat):Int)==0)=(!true||p.1.2.args.length==0):=by
   rw[aqu,arC,arI,ar2,beq_iff_eq,beq_iff_eq];omega
  rw[e];exact⟨by omega,by omega,_,_,_,_,g0,qp (bn hs (tJ hx)) ⟨_,heq,by omega,by omega,_,_,_,_,g1,qp (bn hs (tJ hy)) ⟨rfl,rfl⟩⟩⟩
abbrev IO (x:It):List aw:=v7 x.kind (x.words.map nS) (x.nodes.map Nd.enc) x.num x.at_
abbrev Oa (e:A2):AV:=.agg [nS e.name,.sl (e.left.binds.map Ty.enc),nI e.left.kind,nI e.left.index,.sl (e.left.args.map Tm.enc),.sl (e.right.binds.map Ty.enc),nI e.right.kind,nI e.right.index,.sl (e.right.args.map Tm.enc)]
section
variable {N0:Int->List AV->List AV->Int->Int->Bool->Prop} {N1:Int->List AV->List AV->Int->Int->Int->Prop} {b:Bool} {i:Int} {x:It}
theorem icB (h:aY aj f a H (fun r q=>r=nB b/\q=IO x)) (hn:N0 x.kind (x.words.map nS) (x.nodes.map Nd.enc) x.num x.at_ b):uI f a H N0:=⟨_,h,fun r q ⟨e1,e2⟩=>⟨_,_,_,_,_,_,⟨e1,e2⟩,hn⟩⟩
theorem icI (h:aY aj f a H (fun r q=>r=nI i/\q=IO x)) (hn:N1 x.kind (x.words.map nS) (x.nodes.map Nd.enc) x.num x.at_ i):SC f a H N1:=⟨_,h,fun r q ⟨e1,e2⟩=>⟨_,_,_,_,_,_,⟨e1,e2⟩,hn⟩⟩
end
theorem si {x:It} {k:Nat} (h:k<x.words.length):ae (x.words.map nS) (af (k:Int)) .top=nS (eo x k):=N7 h
theorem IW {e:A2} {x:It} (h:1<=x.words.length):aY aj 151 [Oa e,.ptr 0 0] (IO x) (fun r q=>r=nB (decide (e.name=eo x 0))/\q=IO x):=
 Vi ⟨by omega,by rw[aqu];omega,_,si (k:=0) (by omega),by rw[eF],rfl⟩
theorem IX {l:List A2} {k:Nat} (h:k<l.length):ae (aM l) (af (k:Int)) .top=Oa l[k]:=getD_map h
theorem Ob (w:ByteArray):∀(l:List A2) (k:Nat),pZ w l k>=0↔ga w l=true
 | [],k=>by rw[pZ];exact⟨fun h=>(by omega),fun h=>by cases h⟩
 |e::l,k=>by
  rw[pZ];show _↔(decide (e.name=w)||ga w l)=true;split
  ·rename_i h;rw[decide_eq_true h];exact⟨fun _=>rfl,fun _=>by omega⟩
  ·rename_i h;rw[decide_eq_false h,arI];exact Ob w l (k+1)
theorem Fi {l:List A2} {x:It} (h:1<=x.words.length) (hl:l.length<=1000000):aY aj 160 [.sl (aM l),.bz 151 [.ptr 0 0]] (IO x) (fun r q=>r=nI (pZ (eo x 0) l 0)/\q=IO x):=by
 have tU:(aM l).length=l.length:=aqu _;refine HD ?_;refine aI.intro (fun k:Nat=>((aM l,((),()),(l.length:Int),(k:Int),()),((x.kind,x.words.map nS,x.nodes.map Nd.enc,x.num,x.at_,()),()))) (fun k=>k<=l.length/\pZ (eo x 0) l 0=pZ (eo x 0) (l.drop k) k) (fun k=>l.length-k) 0 (by rw[tU];rfl) ⟨aqC _,rfl⟩ ?_;intro k ⟨hk,hd⟩ again cj;dsimp only;unfold w5;rw[tU];refine az.intro (fun h1=>?_) fun h1=>?_
 ·have aH:k<l.length:=by simpa using h1
  rw[aqB aH,pZ] at hd;refine⟨by omega,by omega,_,_,_,_,_,_,_,_,_,IX aH,icB (IW h) (az.intro (fun h2=>?_) fun h2=>?_)⟩
  ·rw[if_pos (of_decide_eq_true h2)] at hd;rw[hd];exact⟨rfl,rfl⟩
  ·rw[if_neg (of_decide_eq_false h2)] at hd;rw[bk (by omega)];exact cj (k+1) ⟨by omega,hd⟩ (by omega)
 ·have jM:l.length<=k:=by simpa using h1
  rw[aqK jM,pZ] at hd;rw[hd];exact⟨rfl,rfl⟩
theorem vo {l:List A2} {x:It} (h:1<=x.words.length) (hl:l.length<=1000000):aY aj 149 [.sl (aM l),.ptr 0 0] (IO x) (fun r q=>r=nB (ga (eo x 0) l)/\q=IO x):=by
 refine Vl (icB (b:=ga (eo x 0) l) (HE (icI (Fi h hl) ⟨?_,rfl⟩)) ⟨rfl,rfl⟩);refine congrArg nB ?_;rw[ar2,decide_eq_true_iff];exact Ob _ _ _
end
section
variable {s w:ByteArray} {m m':Mk} {f:Nat} {a:List AV} {H:List aw}
structure Two (s:ByteArray) (x:It):Prop where
 words:1<=x.words.length
 len:2<=x.nodes.length
 hx:tO s (dX x 0).size (dX x 0)=true
 hy:tO s (dX x 1).size (dX x 1)=true
 zx:(dX x 0).size<=900000
 zy:(dX x 1).size<=900000
theorem aix:aS (.agg [nS ⟨#[]⟩,.ax (.slice none 0 0),nI 0,nI 0,.ax (.slice none 0 0),.ax (.slice none 0 0),nI 0,nI 0,.ax (.slice none 0 0)]) (Oa ais):=
 aS.agg ⟨aS.refl _,bR,aS.refl _,aS.refl _,bR,bR,aS.refl _,aS.refl _,bR,ai⟩
theorem Bc {t:Tm} (h:t.size<=300000000):ay aj 153 [Ql t] (nB (Wh t)):=by
 have:=VH (t:=t) (by omega);rw[Tm.aG] at this;exact this
theorem ama {x:It} (hs:s.size<=1000000000) (ha:xB s x.at_) (hm:MI 500 m) (hx:Two s x) (ho:gQ m=true):
  Eu (x.nodes.map Nd.enc) (m.aP.map nS) (cD m.consts) (m.bx.map nS) (aM m.eqs) (aM m.rules) (bo m.prec) (bo m.status) (bS m.dj) (m.types.map Ty.enc) (dc m.words) s m.fault.1 m.fault.2.1 m.fault.2.2.1 m.fault.2.2.2 x.at_ (x.words.map nS) (MR s (Oa (eqG s x m).1) (eqG s x m).2) x.kind:=by
 have hp:=Bb (b:=true) hs hm hx.len hx.hx hx.hy hx.zx hx.zy;have z1:=Ba (s:=s) (n:=dX x 0) hm hx.zx;have z2:=Ba (s:=s) (n:=dX x 1) (hm.fo (kJ (s:=s) (dX x 0) m)) hx.zy;have z1:(kV s (dX x 0) (dX x 1) true m).1.1.size<=300000000:=z1;have z2:(kV s (dX x 0) (dX x 1) true m).1.2.size<=300000000:=z2;have hlen:(x.words.map nS).length=x.words.length:=aqu _;have hw:=hx.words;have gw:=si (x:=x) (k:=0) (by omega);unfold eqG;rw[if_pos ho];change aY _ _ _ _ (fun r q=>r=.aK [Ql (kV s (dX x 0) (dX x 1) true m).1.1,Ql (kV s (dX x 0) (dX x 1) true m).1.2]/\q=MO s (kV s (dX x 0) (dX x 1) true m).2) at hp;generalize kV s (dX x 0) (dX x 1) true m=p at hp z1 z2;unfold eqF;refine mcW hp (JD dh (az.intro (fun h1=>⟨_,Bc z1,az.intro (fun h2=>?_) fun h2=>az.intro (fun h3=>⟨_,Bc z2,?_⟩) fun h3=>?_⟩) fun h1=>?_))
 ·rw[if_pos h1,h2,Bool.true_or];exact qp (bn hs ha) ⟨by omega,by omega,_,gw,aS.refl _,rfl⟩
 ·rw[if_pos h1,h2,arI,h3,arb];exact qp (bn hs ha) ⟨by omega,by omega,_,gw,aS.refl _,rfl⟩
 ·rw[if_pos h1,h2,arI,h3,arn];exact qp (bn hs ha) ⟨by omega,by omega,_,gw,aS.refl _,rfl⟩
 ·rw[if_neg (by rw[h1];decide)];exact⟨by omega,by omega,_,gw,aS.refl _,rfl⟩
theorem Dk {x:It} {b:Bool} (hs:s.size<=1000000000) (ha:xB s x.at_) (hm:MI 500 m) (hx:Two s x) (e:b=(!(ga (eo x 0) m.eqs)&&!(ga (eo x 0) m.rules))):
  eZ 118 [.ptr 10 0,nB b,nI 4,nI x.at_] (MO s m) fun l0 l1 l2 l3 l4 l5 l6 l7 l8 mw ms i1 i2 i3 w1=>uR l0 l1 l2 l3 l4 l5 l6 l7 l8 mw ms i1 i2 i3 w1 (MR s (Oa (yF s x m).1) (yF s x m).2) (x.nodes.map Nd.enc) x.at_ (x.words.map nS) x.kind:=by
 subst e;have sq:=hm.fo (bA (s:=s) (!(ga (eo x 0) m.eqs)&&!(ga (eo x 0) m.rules)) 4 x.at_ m);refine qp (bn hs ha) ?_;unfold yF;generalize cL s (!(ga (eo x 0) m.eqs)&&!(ga (eo x 0) m.rules)) 4 x.at_ m=m1 at sq;refine JD dh (az.intro (fun h=>?_) fun h=>ama hs ha sq hx (by simpa using h));have h:¬gQ m1=true:=by simpa using h
 unfold eqG;rw[if_neg h];exact⟨aix,rfl⟩
theorem Bd {x:It} (hs:s.size<=1000000000) (ha:xB s x.at_) (hm:MI 500 m) (hx:Two s x) (h1:m.eqs.length<=1000000) (h2:m.rules.length<=1000000):
  aY aj 90 [.ptr 10 0,iR x] (MO s m) (fun r q=>r=Oa (yF s x m).1/\q=MO s (yF s x m).2):=by
 have n1:=vo (l:=m.eqs) hx.words h1;have n2:=vo (l:=m.rules) hx.words h2;refine aY.Ll (Zl ⟨⟨rfl,icB n1 (az.intro (fun g=>⟨⟨rfl,icB n2 (Dk hs ha hm hx ?_)⟩,⟨rfl,icB n2 (Dk hs ha hm hx ?_)⟩⟩) fun g=>⟨Dk hs ha hm hx ?_,Dk hs ha hm hx ?_⟩)⟩,
  ⟨rfl,icB n1 (az.intro (fun g=>⟨rfl,icB n2 (Dk hs ha hm hx ?_)⟩) fun g=>Dk hs ha hm hx ?_)⟩⟩)
 all_goals first|rw[g,arb]|rw[g,arn]
section
variable {N0:Int->Bool->Prop} {N1:Int->Int->Prop} {b:Bool} {i c:Int}
theorem scB (h:aY aj f a H (fun r q=>r=nB b/\q=FA c)) (hn:N0 c b):SB f a H N0:=⟨_,h,fun r q ⟨e1,e2⟩=>⟨_,_,⟨e1,e2⟩,hn⟩⟩
theorem scI (h:aY aj f a H (fun r q=>r=nI i/\q=FA c)) (hn:N1 c i):aa7 f a H N1:=⟨_,h,fun r q ⟨e1,e2⟩=>⟨_,_,⟨e1,e2⟩,hn⟩⟩
end
def vp (c:Int):List (Int×Int)->Nat->Int
 | [],_ => -1
 |p::l,k=>if(p.1==c)=true then(k:Int) else vp c l (k+1)
theorem IY (c:Int):∀(l:List (Int×Int)) (k:Nat),vp c l k>=0↔(l.any fun p=>p.1==c)=true
 | [],k=>by rw[vp];exact⟨fun h=>(by omega),fun h=>by cases h⟩
 |e::l,k=>by
  rw[vp,List.any_cons];split
  ·rename_i h;rw[h];exact⟨fun _=>rfl,fun _=>by omega⟩
  ·rename_i h;have h:(e.1==c)=false:=by simpa using h
   rw[h,arI];exact IY c l (k+1)
theorem Fj {l:List (Int×Int)} {c:Int} (hl:l.length<=1000000):aY aj 223 [.sl (bo l),.bz 158 [.ptr 0 0]] (FA c) (fun r q=>r=nI (vp c l 0)/\q=FA c):=by
 refine HL ?_;refine aI.intro (fun k:Nat=>((bo l,((),()),(l.length:Int),(k:Int),()),((c,()),()))) (fun k=>k<=l.length/\vp c l 0=vp c (l.drop k) k) (fun k=>l.length-k) 0 (by rw[iM];rfl) ⟨aqC _,rfl⟩ ?_;intro k ⟨hk,hd⟩ again cj;dsimp only;unfold w9;rw[iM];refine az.intro (fun h1=>?_) fun h1=>?_
 ·have aH:k<l.length:=by simpa using h1
  rw[aqB aH,vp] at hd;refine⟨by omega,by omega,_,_,Ak aH,scB (b:=l[k].1==c) (Vs ⟨rfl,rfl⟩) (az.intro (fun h2=>?_) fun h2=>?_)⟩
  ·rw[if_pos h2] at hd;rw[hd];exact⟨rfl,rfl⟩
  ·rw[if_neg (by rw[h2];decide)] at hd;rw[bk (by omega)];exact cj (k+1) ⟨by omega,hd⟩ (by omega)
 ·have jM:l.length<=k:=by simpa using h1
  rw[aqK jM,vp] at hd;rw[hd];exact⟨rfl,rfl⟩
theorem LF {l:List (Int×Int)} {c:Int} (hl:l.length<=1000000):aY aj 157 [.sl (bo l),.bz 158 [.ptr 0 0]] (FA c) (fun r q=>r=nB (l.any fun p=>p.1==c)/\q=FA c):=by
 refine HM (scI (Fj hl) ⟨congrArg nB ?_,rfl⟩);rw[ar2,decide_eq_true_iff];exact IY _ _ _
theorem oL (w:ByteArray) (a:Int) (m:Mk):Fo m (eC s w a m).2:=bA _ _ _ _
theorem Be (l:List (Int×Int)) (a b:Int):bo l++[.agg [nI a,nI b]]=bo (l++[(a,b)]):=by simp[bo]
theorem IZ {x:It} (hs:s.size<=1000000000) (ha:xB s x.at_) (hw:2<=x.words.length) (h1:m.status.length<=1000000):
  aY aj 92 [.ptr 10 0,iR x] (MO s m) (fun r q=>r=.aK []/\q=MO s (Di s x m)):=by
 have hlen:(x.words.map nS).length=x.words.length:=aqu _;have key:Ev (eo x 0) x.at_ (m.aP.map nS) (cD m.consts) (m.bx.map nS) (aM m.eqs) (aM m.rules) (bo m.prec) (bo m.status) (bS m.dj) (m.types.map Ty.enc) (dc m.words) s m.fault.1 m.fault.2.1 m.fault.2.2.1 m.fault.2.2.2 (x.words.map nS) (fun r q=>r=.aK []/\q=MO s (Di s x m)):=by
  have hc:=vm (m:=m) (w:=eo x 0) hs ha;have hfo:=oL (s:=s) (eo x 0) x.at_ m;unfold Di;generalize eC s (eo x 0) x.at_ m=p at hc hfo;obtain⟨c,m1⟩:=p;obtain⟨g,rfl⟩:∃g,m1={ m with fault:=g }:=hfo;dsimp only at hc ⊢;refine mcI hc ⟨rfl,scB (LF h1) (qp (bn hs ha) ?_)⟩;have aiy:=bA (s:=s) (!(m.status.any fun p=>p.1==c)) 4 x.at_ { m with fault:=g };generalize cL s (!(m.status.any fun p=>p.1==c)) 4 x.at_ { m with fault:=g }=m2 at aiy;have sS:m2.status.length<=1000000:=by
   obtain⟨g2,rfl⟩:=aiy;exact h1
  have adl:=bA (s:=s) (decide (Dh (eo x 1)>=0)) 3 x.at_ m2;refine⟨by omega,by omega,_,si (k:=1) (by omega),_,vd (l:=[Z5,Z6]) (w:=eo x 1) (by decide),qp (bn hs ha) ?_⟩;unfold N5;change Fo m2 (cL s (decide (wo (eo x 1) [Z5,Z6] 0>=0)) 3 x.at_ m2) at adl;unfold Dh;generalize cL s (decide (wo (eo x 1) [Z5,Z6] 0>=0)) 3 x.at_ m2=m3 at adl;obtain⟨g3,rfl⟩:=adl;refine⟨rfl,bJ rfl (by rw[aqz,iM];simp;omega) (by decide),rfl,?_⟩;dsimp only;rw[Be]
 refine Zp ⟨by omega,by omega,_,si (k:=0) (by omega),key,key⟩
end
def mJ (m:List (Int×Value)) (y:Int):Bool:=qN (ak (aL m y) (.bool false))
def vq (l:List (Int×Int)) (m:List (Int×Value)):Nat:=((l.map Prod.snd).filter fun y=>!mJ m y).length
theorem Wr (l:List (Int×Int)) (m:List (Int×Value)):vq l m<=l.length:=by
 have:=List.length_filter_le (fun y=>!mJ m y) (l.map Prod.snd)
 rwa [aqu] at this
structure Ws (l:List (Int×Int)) (a:Int) (m:List (Int×Value)) (q:List Int):Prop where
 bool:∀y,aL m y=none\/aL m y=some (.bool true)
 adm:∀x∈q,x=a\/eL l a x
 met:∀y,mJ m y=true->eL l a y
theorem oM (m:List (Int×Value)) (x y:Int):mJ (cH m x (.bool true)) y=(decide (y=x)||mJ m y):=by
 unfold mJ;rw[Aj]
 by_cases h:y=x
 ·rw[if_pos h,decide_eq_true h];rfl
 ·rw[if_neg h,decide_eq_false h,arI]
theorem Qp {l:List (Int×Int)} {m:List (Int×Value)} {p:Int×Int} (hp:p∈l) (hm:mJ m p.2=false):vq l (cH m p.2 (.bool true))<vq l m:=by
 have key:∀L:List Int,(L.filter fun y=>!mJ (cH m p.2 (.bool true)) y).length<=(L.filter fun y=>!mJ m y).length/\(p.2∈L->(L.filter fun y=>!mJ (cH m p.2 (.bool true)) y).length<(L.filter fun y=>!mJ m y).length):=by
  intro L
  induction L with
  |nil=>exact⟨aqw _,fun h=>by cases h⟩
  |cons z L ih=>
   rw[List.filter_cons,List.filter_cons,oM]
   by_cases hz:z=p.2
   ·subst hz;rw[decide_eq_true rfl,Bool.true_or,hm];simp only[arC,Bool.not_false,if_true,aqH,if_false,aqy];exact⟨by omega,fun _=>by omega⟩
   ·rw[decide_eq_false hz,arI];have h2:p.2∈z::L->p.2∈L:=fun h=>(aqZ.1 h).resolve_left fun e=>hz e.symm
    cases mJ m z
    ·simp only[Bool.not_false,if_true,aqy];exact⟨by omega,fun h=>by have:=ih.2 (h2 h);omega⟩
    ·simp only[arC,aqH,if_false];exact⟨ih.1,fun h=>ih.2 (h2 h)⟩
 exact(key _).2 (arx.2 ⟨p,hp,rfl⟩)
theorem eL.go {l:List (Int×Int)} {a c:Int} {p:Int×Int} (hc:c=a\/eL l a c) (hp:p∈l) (h:p.1=c):eL l a p.2:=by
 have hp':(c,p.2)∈l:=by rw[<-h];exact hp
 rcases hc with rfl|hc
 ·exact .one hp'
 ·exact .more hc hp'
theorem Ws.push {l:List (Int×Int)} {a c:Int} {m:List (Int×Value)} {q:List Int} {p:Int×Int} (h:Ws l a m q) (hc:c=a\/eL l a c) (hp:p∈l) (he:p.1=c):Ws l a (cH m p.2 (.bool true)) (q++[p.2]):=by
 have hg:=eL.go hc hp he;refine⟨fun y=>?_,fun x hx=>?_,fun y hy=>?_⟩
 ·rw[Aj];split
  ·exact .inr rfl
  ·exact h.bool y
 ·rcases aq7.1 hx with hx|hx
  ·exact h.adm x hx
  ·rw[aqJ.1 hx];exact .inr hg
 ·rw[oM,arh,decide_eq_true_eq] at hy;rcases hy with rfl|hy
  ·exact hg
  ·exact h.met y hy
def Dl (l:List (Int×Int)) (b:Int) (m:List (Int×Value)) (x:Int):Prop:=∀p∈l,p.1=x->¬p.2=b/\mJ m p.2=true
theorem Dl.put {l:List (Int×Int)} {b x y:Int} {m:List (Int×Value)} (h:Dl l b m x):Dl l b (cH m y (.bool true)) x:=fun p hp he=>by
 have:=h p hp he;exact⟨this.1,by rw[oM,this.2,Bool.or_true]⟩
theorem Wt {l:List (Int×Int)} {a b:Int} {m:List (Int×Value)} (h:∀x,(x=a\/mJ m x=true)->Dl l b m x):¬eL l a b:=by
 have key:∀y,eL l a y->¬y=b/\mJ m y=true:=by
  intro y hy
  induction hy with
  |one he=>exact h a (.inl rfl) _ he rfl
  |more _ he ih=>exact h _ (.inr ih.2) _ he rfl
 exact fun hp=>(key b hp).1 rfl
theorem vt {l:List (Int×Int)} {a b:Int} (hl:l.length<=1000000):ay aj 13 [.sl (bo l),nI a,nI b] (nB (kS l a b)):=by
 refine Yv ⟨rfl,?_⟩;refine aI.intro (fun v:List (Int×Value)×Nat×List Int=>((bo l,b,(),(),()),(v.1,(v.2.1,v.2.2),())))
  (fun v=>Ws l a v.1 v.2.2/\(∀x,(x=a\/mJ v.1 x=true)->x∈v.2.2\/Dl l b v.1 x)/\v.2.2.length+vq l v.1<=l.length+1)
  (fun v=>2*vq l v.1+v.2.2.length) ([],0,[a]) rfl ⟨⟨fun _=>.inl rfl,fun x hx=>.inl (aqJ.1 hx),fun y hy=>absurd (show false=true from hy) (by decide)⟩,fun x hx=>.inl (by
   rcases hx with rfl|hx
   ·exact aqJ.2 rfl
   ·exact absurd (show false=true from hx) (by decide)),by have:=Wr l [];simp only[art];omega⟩ ?_
 intro ⟨m,n,q⟩ ⟨hI,hS,hn⟩ again cj;dsimp only at hI hS hn ⊢;refine⟨rfl,az.intro (fun h=>?_) fun h=>?_⟩
 ·match q,hI,hS,hn,cj,h with
  | [],_,_,_,_,h=>simp at h
  |c::q,hI,hS,hn,cj,_=>
   have hc:=hI.adm c aqG;refine⟨rfl,⟨by omega,by simp only[aqy];omega⟩,rfl,by simp,rfl,⟨by omega,by simp only[aqy];omega⟩,rfl,?_⟩;simp only[aqy] at hn;refine aI.intro (fun v:Nat×List (Int×Value)×Nat×List Int=>((bo l,b,(),(),c,bo l,((ab (bo l):Nat):Int),(v.1:Int),()),(v.2.1,(v.2.2.1,v.2.2.2),())))
    (fun v=>v.1<=l.length/\Ws l a v.2.1 v.2.2.2/\(∀x,(x=a\/mJ v.2.1 x=true)->x∈v.2.2.2\/x=c\/Dl l b v.2.1 x)/\(∀p∈l.take v.1,p.1=c->¬p.2=b/\mJ v.2.1 p.2=true)/\v.2.2.2.length+vq l v.2.1<=l.length/\2*vq l v.2.1+v.2.2.2.length<=2*vq l m+q.length)
    (fun v=>l.length-v.1) (0,m,n+1,q) rfl ⟨aqC _,⟨hI.bool,fun x hx=>hI.adm x (aqI _ hx),hI.met⟩,fun x hx=>(hS x hx).elim (fun h=>(aqZ.1 h).elim (fun e=>.inr (.inl e)) .inl) fun h=>.inr (.inr h),(fun p hp=>by cases hp),by show q.length+vq l m<=l.length;omega,aqw _⟩ ?_
   intro ⟨k,m',n',q'⟩ ⟨hk,hI,hS,hT,hn,hd⟩ acV VF;dsimp only at hk hI hS hT hn hd ⊢;refine az.intro (fun h=>?_) fun h=>⟨rfl,?_⟩
   ·have aH:k<l.length:=by rw[iM] at h;simpa using h
    have hp:=aqL aH;have ht:l.take (k+1)=l.take k++[l[k]]:=ary aH;refine⟨by omega,by rw[iM];omega,_,_,Ak aH,az.intro (fun h=>⟨rfl,?_⟩) fun h=>az.intro (fun h2=>?_) fun h2=>?_⟩
    ·have h:¬l[k].1=c:=by simpa using h
     rw[bk (by omega)];refine VF (k+1,m',n',q') ⟨by dsimp only;omega,hI,hS,fun p hp he=>?_,hn,hd⟩ (by dsimp only;omega);rw[ht] at hp;rcases aq7.1 hp with hp|hp
     ·exact hT p hp he
     ·rw[aqJ.1 hp] at he;exact absurd he h
    ·have h:l[k].1=c:=by simpa using h
     have h2:l[k].2=b:=by simpa using h2
     have:=(pH l a b).2 (by rw[<-h2];exact eL.go hc hp h);rw[this]
    ·have h:l[k].1=c:=by simpa using h
     have h2:¬l[k].2=b:=by simpa using h2
     refine⟨?_,az.intro (fun h3=>⟨rfl,⟨?_,?_⟩,rfl,?_⟩) fun h3=>⟨rfl,?_⟩⟩
     ·rcases hI.bool l[k].2 with e|e<;>rw[e]<;>rfl
     ·show _<=(maxLen:Nat);have:2000000<=maxLen:=by decide
      simp only[art];omega
     ·have:TD.bytes td3<=100:=by decide
      have h5:(q'.length+1)*TD.bytes td3<=2000000*100:=arT (by omega) this;simp only[art];omega
     ·have h3:mJ m' l[k].2=false:=by simpa [mJ] using h3
      have hu:=Qp hp h3;rw[bk (by omega)];refine VF (k+1,cH m' l[k].2 (.bool true),n'+1,q'++[l[k].2]) ⟨by dsimp only;omega,hI.push hc hp h,fun x hx=>?_,fun p hp he=>?_,by dsimp only;rw[aqz,art];omega,by dsimp only;rw[aqz,art];omega⟩ (by dsimp only;omega)
      ·by_cases hx2:x=l[k].2
       ·exact .inl (by rw[hx2];exact List.mem_append_right _ (aqJ.2 rfl))
       ·have:x=a\/mJ m' x=true:=hx.imp id fun h=>by rw[oM,decide_eq_false hx2,arI] at h;exact h
        rcases hS x this with h|h|h
        ·exact .inl (ar7 _ h)
        ·exact .inr (.inl h)
        ·exact .inr (.inr h.put)
      ·rw[ht] at hp;rcases aq7.1 hp with hp|hp
       ·have:=hT p hp he;exact⟨this.1,by rw[oM,this.2,Bool.or_true]⟩
       ·rw[aqJ.1 hp,oM,decide_eq_true rfl,Bool.true_or];exact⟨h2,rfl⟩
     ·have h3:mJ m' l[k].2=true:=by simpa [mJ] using h3
      rw[bk (by omega)];refine VF (k+1,m',n',q') ⟨by dsimp only;omega,hI,hS,fun p hp he=>?_,hn,hd⟩ (by dsimp only;omega);rw[ht] at hp;rcases aq7.1 hp with hp|hp
      ·exact hT p hp he
      ·rw[aqJ.1 hp];exact⟨h2,h3⟩
   ·have:l.length<=k:=by rw[iM] at h;simpa using h
    rw[aqP this] at hT;refine cj (m',n',q') ⟨hI,fun x hx=>(hS x hx).elim .inl fun h=>.inr (h.elim (fun e=>by rw[e];exact hT) id),by dsimp only;omega⟩ ?_;simp only[aqy];omega
 ·have hq:q=[]:=by
   have:¬(0:Int)<((q.length:Nat):Int):=by simpa using h
   exact List.length_eq_zero_iff.1 (by omega)
  subst hq;have W5:=Wt fun x hx=>(hS x hx).resolve_left fun h=>by cases h
  have:kS l a b=false:=by
   rw[<-Bool.not_eq_true];exact fun h=>W5 ((pH l a b).1 h)
  rw[this]
section
variable {s w:ByteArray} {m m':Mk} {f:Nat} {a:List AV} {H:List aw}
theorem LG {e:A2} {x:It} (h:1<=x.words.length):aY aj 161 [Oa e,.ptr 0 0] (IO x) (fun r q=>r=nB (decide (e.name=eo x 0))/\q=IO x):=
 Vv ⟨by omega,by rw[aqu];omega,_,si (k:=0) (by omega),by rw[eF],rfl⟩
theorem Fk {l:List A2} {x:It} (h:1<=x.words.length) (hl:l.length<=1000000):aY aj 160 [.sl (aM l),.bz 161 [.ptr 0 0]] (IO x) (fun r q=>r=nI (pZ (eo x 0) l 0)/\q=IO x):=by
 have tU:(aM l).length=l.length:=aqu _;refine HO ?_;refine aI.intro (fun k:Nat=>((aM l,((),()),(l.length:Int),(k:Int),()),((x.kind,x.words.map nS,x.nodes.map Nd.enc,x.num,x.at_,()),()))) (fun k=>k<=l.length/\pZ (eo x 0) l 0=pZ (eo x 0) (l.drop k) k) (fun k=>l.length-k) 0 (by rw[tU];rfl) ⟨aqC _,rfl⟩ ?_;intro k ⟨hk,hd⟩ again cj;dsimp only;unfold xb;rw[tU];refine az.intro (fun h1=>?_) fun h1=>?_
 ·have aH:k<l.length:=by simpa using h1
  rw[aqB aH,pZ] at hd;refine⟨by omega,by omega,_,_,_,_,_,_,_,_,_,IX aH,icB (LG h) (az.intro (fun h2=>?_) fun h2=>?_)⟩
  ·rw[if_pos (of_decide_eq_true h2)] at hd;rw[hd];exact⟨rfl,rfl⟩
  ·rw[if_neg (of_decide_eq_false h2)] at hd;rw[bk (by omega)];exact cj (k+1) ⟨by omega,hd⟩ (by omega)
 ·have jM:l.length<=k:=by simpa using h1
  rw[aqK jM,pZ] at hd;rw[hd];exact⟨rfl,rfl⟩
abbrev cmA (c:Xd):AV:=.agg [nI c.kind,nI c.num,.sl (c.left.binds.map Ty.enc),nI c.left.kind,nI c.left.index,.sl (c.left.args.map Tm.enc),.sl (c.right.binds.map Ty.enc),nI c.right.kind,nI c.right.index,.sl (c.right.args.map Tm.enc),nI c.of_]
theorem I0 (l:List Xd) (c:Xd):bS l++[cmA c]=bS (l++[c]):=by simp[bS]
structure CmI (s:ByteArray) (x:It):Prop where
 one:x.kind=9->1<=x.nodes.length/\tO s (dX x 0).size (dX x 0)=true/\(dX x 0).size<=900000
 two:x.kind=10->2<=x.nodes.length/\tO s (dX x 0).size (dX x 0)=true/\tO s (dX x 1).size (dX x 1)=true/\(dX x 0).size<=900000/\(dX x 1).size<=900000
 word:x.kind=12->1<=x.words.length
theorem vu {c:Xd} (h:m.dj.length<=1000000) {d:TD} (hd:d.size=11) (hb:d.bytes<=1000) (e:m'=IM c m):(bS m.dj).length=(bS m.dj).length/\bw d (bS m.dj++[cmA c]).length [] [cmA c]/\(AV.aK []=.aK []/\bT (m.aP.map nS) (cD m.consts) (m.bx.map nS) (aM m.eqs) (aM m.rules) (bo m.prec) (bo m.status) (bS m.dj++[cmA c]) (m.types.map Ty.enc) (dc m.words) s m.fault.1 m.fault.2.1 m.fault.2.2.1 m.fault.2.2.2=MO s m'):=by
 subst e;refine⟨rfl,bJ hd.symm (by simp;omega) hb,rfl,?_⟩;rw[I0];rfl
theorem LH {x:It} (hs:s.size<=1000000000) (ha:xB s x.at_) (hm:MI 500 m) (hx:CmI s x) (h1:m.eqs.length<=1000000) (h2:m.dj.length<=900000):
  aY aj 93 [.ptr 10 0,iR x] (MO s m) (fun r q=>r=.aK []/\q=MO s (Wj s x m)):=by
 have hf:=bA (s:=s) (decide ((m.dj.length:Int)<200)) 2 x.at_ m;have fi:=rM (m:=m) (n:=m.dj.length) (s:=s) hs ha;unfold Wj;have el:(((bS m.dj).length:Nat):Int)=((m.dj.length:Nat):Int):=by rw[aqu]
 refine Zq ⟨rfl,?_⟩;rw[el];refine qp fi ?_;unfold nk at *;generalize cL s (decide ((m.dj.length:Int)<200)) 2 x.at_ m=m1 at *;clear fi el;have Fy:=hm.fo hf;have h1:m1.eqs.length<=1000000:=by obtain⟨g,rfl⟩:=hf;exact h1
 have h2:m1.dj.length<=900000:=by obtain⟨g,rfl⟩:=hf;exact h2
 clear hf hm;refine JD dh (az.intro (fun h=>?_) fun h=>?_)
 ·have h:gQ m1=false:=by simpa using h
  unfold Wi;rw[if_pos h];exact⟨rfl,rfl⟩
 have h:¬gQ m1=false:=by simpa using h
 unfold Wi;rw[if_neg h];have hlen:(x.nodes.map Nd.enc).length=x.nodes.length:=aqu _;refine az.intro (fun k9=>?_) fun k9=>az.intro (fun LI=>?_) fun LI=>az.intro (fun Wu=>?_) fun Wu=>?_
 ·have k9:x.kind=9:=by simpa using k9
  obtain⟨g1,g2,g3⟩:=hx.one k9;rw[if_pos k9];have hf:=kJ (s:=s) (dX x 0) m1;have ht:=rL hs Fy g2 g3;generalize eO s (dX x 0) m1=p at *;have h2:p.2.dj.length<=1000000:=by obtain⟨g,e⟩:=hf;rw[e];exact aqU h2 (by omega)
  exact⟨by omega,by omega,_,_,_,_,vn (l:=x.nodes) (k:=0) (by omega),mcM ht (vu (c:=⟨x.kind,x.num,p.1.1,di,0⟩) h2 rfl (by decide) rfl)⟩
 ·have k9:¬x.kind=9:=by simpa using k9
  have LI:x.kind=10:=by simpa using LI
  obtain⟨g1,g2,g3,g4,g5⟩:=hx.two LI;rw[if_neg k9,if_pos LI];have hf:=yG (s:=s) (dX x 0) (dX x 1) false m1;have ht:=Bb (b:=false) hs Fy g1 g2 g3 g4 g5;change aY _ _ _ _ (fun r q=>r=.aK [Ql (kV s (dX x 0) (dX x 1) false m1).1.1,Ql (kV s (dX x 0) (dX x 1) false m1).1.2]/\q=MO s (kV s (dX x 0) (dX x 1) false m1).2) at ht;generalize kV s (dX x 0) (dX x 1) false m1=p at *;have h2:p.2.dj.length<=1000000:=by obtain⟨g,e⟩:=hf;rw[e];exact aqU h2 (by omega)
  exact mcW ht (vu (c:=⟨x.kind,x.num,p.1.1,p.1.2,0⟩) h2 rfl (by decide) rfl)
 ·have k9:¬x.kind=9:=by simpa using k9
  have LI:¬x.kind=10:=by simpa using LI
  have Wu:x.kind=12:=by simpa using Wu
  rw[if_neg k9,if_neg LI,if_pos Wu];have hf:=bA (s:=s) (decide (pZ (eo x 0) m1.eqs 0>=0)) 4 x.at_ m1;refine⟨rfl,icI (Fk (hx.word Wu) h1) (qp (bn hs ha) ?_)⟩;generalize cL s (decide (pZ (eo x 0) m1.eqs 0>=0)) 4 x.at_ m1=m2 at *;have h2:m2.dj.length<=1000000:=by obtain⟨g,e⟩:=hf;rw[e];exact aqU h2 (by omega)
  exact vu (c:=⟨x.kind,x.num,di,di,pZ (eo x 0) m1.eqs 0⟩) h2 rfl (by decide) rfl
 ·have k9:¬x.kind=9:=by simpa using k9
  have LI:¬x.kind=10:=by simpa using LI
  have Wu:¬x.kind=12:=by simpa using Wu
  rw[if_neg k9,if_neg LI,if_neg Wu];exact vu (c:=⟨x.kind,x.num,di,di,0⟩) (aqU h2 (by omega)) rfl (by decide) rfl
abbrev MP (s:ByteArray) (m:Mk):List aw:=Pl (m.aP.map nS) (cD m.consts) (m.bx.map nS) (aM m.eqs) (aM m.rules) (bo m.prec) (bo m.status) (bS m.dj) (m.types.map Ty.enc) (dc m.words) s m.fault.1 m.fault.2.1 m.fault.2.2.1 m.fault.2.2.2
section
variable {N0:List AV->List AV->List AV->List AV->List AV->List AV->List AV->List AV->List AV->List (ByteArray×Value)->ByteArray->Int->Int->Int->ByteArray->Bool->Prop} {b:Bool}
theorem pcB (h:aY aj f a H (fun r q=>r=nB b/\q=MP s m')) (hn:N0 (m'.aP.map nS) (cD m'.consts) (m'.bx.map nS) (aM m'.eqs) (aM m'.rules) (bo m'.prec) (bo m'.status) (bS m'.dj) (m'.types.map Ty.enc) (dc m'.words) s m'.fault.1 m'.fault.2.1 m'.fault.2.2.1 m'.fault.2.2.2 b):SA f a H N0:=
 ⟨_,h,fun r q ⟨e1,e2⟩=>⟨_,_,_,_,_,_,_,_,_,_,_,_,_,_,_,_,⟨e1,e2⟩,hn⟩⟩
end
section
variable {N0:List AV->List AV->List AV->List AV->List AV->List AV->List AV->List AV->List AV->List (ByteArray×Value)->ByteArray->Int->Int->Int->ByteArray->Int->Prop} {b:Int}
theorem pcI (h:aY aj f a H (fun r q=>r=nI b/\q=MP s m')) (hn:N0 (m'.aP.map nS) (cD m'.consts) (m'.bx.map nS) (aM m'.eqs) (aM m'.rules) (bo m'.prec) (bo m'.status) (bS m'.dj) (m'.types.map Ty.enc) (dc m'.words) s m'.fault.1 m'.fault.2.1 m'.fault.2.2.1 m'.fault.2.2.2 b):aa6 f a H N0:=
 ⟨_,h,fun r q ⟨e1,e2⟩=>⟨_,_,_,_,_,_,_,_,_,_,_,_,_,_,_,_,⟨e1,e2⟩,hn⟩⟩
end
def Fl (p:List (Int×Int)):List Int->Nat->Int
 | [],_ => -1
 |c::l,k=>if kS p c c=true then(k:Int) else Fl p l (k+1)
theorem Oc (p:List (Int×Int)):∀(l:List Int) (k:Nat),Fl p l k>=0↔(l.any fun c=>kS p c c)=true
 | [],k=>by rw[Fl];exact⟨fun h=>(by omega),fun h=>by cases h⟩
 |e::l,k=>by
  rw[Fl,List.any_cons];split
  ·rename_i h;rw[h];exact⟨fun _=>rfl,fun _=>by omega⟩
  ·rename_i h;have h:kS p e e=false:=by simpa using h
   rw[h,arI];exact Oc p l (k+1)
theorem Fm {l:List Int} (hl:l.length<=1000000) (hp:m.prec.length<=1000000):aY aj 222 [.sl (cM l),.bz 156 [.ptr 11 0]] (MP s m) (fun r q=>r=nI (Fl m.prec l 0)/\q=MP s m):=by
 refine HH ⟨rfl,rfl,rfl,rfl,rfl,rfl,rfl,rfl,rfl,?_⟩;refine aI.intro (fun k:Nat=>((cM l,((),()),(l.length:Int),(k:Int),()),(m.aP.map nS,cD m.consts,m.bx.map nS,aM m.eqs,aM m.rules,bo m.prec,bo m.status,bS m.dj,m.types.map Ty.enc,dc m.words,((),(),(),(),(),(),(),(),(),s,(),m.fault.1,m.fault.2.1,m.fault.2.2.1,m.fault.2.2.2,()),((),()),()))) (fun k=>k<=l.length/\Fl m.prec l 0=Fl m.prec (l.drop k) k) (fun k=>l.length-k) 0 (by rw[gD];rfl) ⟨aqC _,rfl⟩ ?_;intro k ⟨hk,hd⟩ again cj;dsimp only;unfold w7;rw[gD];refine az.intro (fun h1=>?_) fun h1=>?_
 ·have aH:k<l.length:=by simpa using h1
  rw[aqB aH,Fl] at hd;refine⟨by omega,by omega,_,pD aH,pcB (b:=kS m.prec l[k] l[k]) (m':=m) (s:=s) (Vo ⟨rfl,_,vt hp,rfl,rfl⟩) (az.intro (fun h2=>?_) fun h2=>?_)⟩
  ·rw[if_pos h2] at hd;rw[hd];exact⟨rfl,rfl⟩
  ·rw[if_neg (by rw[h2];decide)] at hd;rw[bk (by omega)];exact⟨rfl,rfl,rfl,rfl,rfl,rfl,rfl,rfl,rfl,cj (k+1) ⟨by omega,hd⟩ (by omega)⟩
 ·have jM:l.length<=k:=by simpa using h1
  rw[aqK jM,Fl] at hd;rw[hd];exact⟨rfl,rfl⟩
theorem I3 {l:List Int} (hl:l.length<=1000000) (hp:m.prec.length<=1000000):aY aj 155 [.sl (cM l),.bz 156 [.ptr 11 0]] (MP s m) (fun r q=>r=nB (l.any fun c=>kS m.prec c c)/\q=MP s m):=by
 refine HI (pcI (Fm hl hp) ⟨congrArg nB ?_,rfl⟩);rw[ar2,decide_eq_true_iff];exact Oc _ _ _
end
section
variable {s w:ByteArray} {m m':Mk} {f:Nat} {a:List AV} {H:List aw}
theorem xD (x y:Int):∀l:List Int,eU (l++[x]++[y])=eU (l++[x])++[(x,y)]
 | []=>rfl
 | [z]=>rfl
 |z::u::l=>by
  have:=xD x y (u::l);simp only[arK,eU] at this ⊢;rw[this]
theorem xE {l:List Int} {k:Nat} (h:k+1<l.length):eU (l.take (k+2))=eU (l.take (k+1))++[(l[k],l[k+1])]:=by
 rw[<-cO h,<-cO (show k<l.length by omega),xD]
theorem tK (a:Int):∀(l:List ByteArray) (m:Mk),Fo m (fg s a l m).2
 | [],m=>Fo.refl m
 |w::l,m=>(oL w a m).trans (tK a l _)
theorem xF (a:Int):∀(l:List ByteArray) (m:Mk),(fg s a l m).1.length=l.length
 | [],m=>rfl
 |w::l,m=>by rw[fg,aqy,aqy,xF a l]
theorem Fp {x:It} (hs:s.size<=1000000000) (ha:xB s x.at_) (hw:x.words.length<=900000) (hp:m.prec.length<=90000):
  aY aj 91 [.ptr 10 0,iR x] (MO s m) (fun r q=>r=.aK []/\q=MO s (A7 s x m)):=by
 have hwl:(x.words.map nS).length=x.words.length:=aqu _;refine Zn ⟨rfl,rfl,rfl,rfl,rfl,rfl,rfl,rfl,rfl,rfl,?_⟩;refine aI.intro (fun p:Nat×List Int×Mk=>(((),(),(),x.words.map nS,(x.words.length:Int),(p.1:Int),()),(p.2.2.aP.map nS,cD p.2.2.consts,p.2.2.bx.map nS,aM p.2.2.eqs,aM p.2.2.rules,bo p.2.2.prec,bo p.2.2.status,bS p.2.2.dj,p.2.2.types.map Ty.enc,dc p.2.2.words,((),(),(),(),(),(),(),(),(),s,(),p.2.2.fault.1,p.2.2.fault.2.1,p.2.2.fault.2.2.1,p.2.2.fault.2.2.2,()),((),()),(x.kind,x.words.map nS,x.nodes.map Nd.enc,x.num,x.at_,()),cM p.2.1,())))
  (fun p=>p.1<=x.words.length/\p.2.1.length=p.1/\Fo m p.2.2/\fg s x.at_ x.words m=(p.2.1++(fg s x.at_ (x.words.drop p.1) p.2.2).1,(fg s x.at_ (x.words.drop p.1) p.2.2).2)) (fun p=>x.words.length-p.1) (0,[],m) (by rw[hwl];rfl) ⟨aqC _,rfl,Fo.refl m,rfl⟩ ?_
 intro ⟨k,l,m1⟩ ⟨hk,hl,hf,he⟩ again cj;dsimp only at hk hl hf he ⊢;unfold Np;rw[hwl];have hil:=gD l;refine az.intro (fun h=>?_) fun h=>?_
 ·have aH:k<x.words.length:=by simpa using h
  have hc:=vm (m:=m1) (w:=x.words[k]) hs ha;have hcf:=hf.trans (oL (s:=s) x.words[k] x.at_ m1);rw[aqB aH,fg] at he;refine⟨by omega,by omega,_,by rw[getD_map aH],mcI hc ⟨rfl,bJ rfl (by simp[gD];omega) (by decide),rfl,rfl,rfl,rfl,rfl,rfl,rfl,rfl,rfl,rfl,?_⟩⟩;rw[bk (by omega),pE];refine cj (k+1,l++[(eC s x.words[k] x.at_ m1).1],(eC s x.words[k] x.at_ m1).2) ⟨by dsimp only;omega,by simp;omega,hcf,?_⟩ (by dsimp only;omega);rw[he];simp only[aqT,asn]
 ·have jM:x.words.length<=k:=by simpa using h
  rw[aqK jM] at he;simp only[fg,aqR] at he;clear cj again;have jC:m1.prec.length<=90000:=by obtain⟨g,rfl⟩:=hf;exact hp
  have e1:decide (ag .i64 (((cM l).length:Nat)-1:Int)<=ag .i64 (200-(((bo m1.prec).length:Nat):Int)))=decide ((l.length:Int)-1<=200-(m1.prec.length:Int)):=by
   rw[hil,iM,ba (by omega) (by omega),ba (by omega) (by omega)]
  unfold A7;rw[he];refine⟨rfl,rfl,?_⟩;rw[e1];refine qp (bn hs ha) ?_;dsimp only;have hf2:=bA (s:=s) (decide ((l.length:Int)-1<=200-(m1.prec.length:Int))) 2 x.at_ m1;generalize cL s (decide ((l.length:Int)-1<=200-(m1.prec.length:Int))) 2 x.at_ m1=m2 at hf2 ⊢;have BI:m2.prec.length<=90000:=by obtain⟨g,rfl⟩:=hf2;exact jC
  unfold Fe;refine JD dh (az.intro (fun h=>?_) fun h=>?_)
  ·have h:¬gQ m2=true:=by simpa using h
   rw[if_neg h];exact⟨rfl,rfl⟩
  have h:gQ m2=true:=by simpa using h
  rw[if_pos h];refine⟨rfl,rfl,rfl,rfl,rfl,rfl,rfl,rfl,rfl,rfl,?_⟩;refine aI.intro (fun i:Nat=>(((),(),(),((i+1:Nat):Int),()),(m2.aP.map nS,cD m2.consts,m2.bx.map nS,aM m2.eqs,aM m2.rules,bo (m2.prec++eU (l.take (i+1))),bo m2.status,bS m2.dj,m2.types.map Ty.enc,dc m2.words,((),(),(),(),(),(),(),(),(),s,(),m2.fault.1,m2.fault.2.1,m2.fault.2.2.1,m2.fault.2.2.2,()),((),()),(x.kind,x.words.map nS,x.nodes.map Nd.enc,x.num,x.at_,()),cM l,())))
   (fun i=>i<=l.length/\(eU (l.take (i+1))).length<=i) (fun i=>l.length-i) 0 ?_ ⟨aqC _,?_⟩ ?_
  ·cases l with
   |nil=>simp[eU]
   |cons c l=>simp[eU]
  ·cases l with
   |nil=>simp[eU]
   |cons c l=>simp[eU]
  intro i ⟨hi,hq⟩ again cj;dsimp only;unfold HJ;rw[hil];refine⟨rfl,az.intro (fun h=>?_) fun h=>?_⟩
  ·have aH:i+1<l.length:=by have:=of_decide_eq_true h;omega
   have ew:ag .i64 (((i+1:Nat):Int)-1)=(i:Int):=by rw[ba (by omega) (by omega)];omega
   rw[ew];refine⟨rfl,by omega,by omega,_,pD (by omega),rfl,by omega,by omega,_,pD aH,rfl,bJ rfl (by simp[iM];omega) (by decide),rfl,rfl,rfl,rfl,rfl,rfl,rfl,rfl,rfl,rfl,?_⟩;rw[Be,bk (by omega),aqT,<-xE aH];refine cj (i+1) ⟨by omega,?_⟩ (by omega);rw[xE aH,aqz];simp;omega
  ·have jM:l.length<=i+1:=by have:=of_decide_eq_false h;omega
   rw[aqP jM] at hq ⊢;have key:Ai (cM l) (m2.aP.map nS) (cD m2.consts) (m2.bx.map nS) (aM m2.eqs) (aM m2.rules) (bo (m2.prec++eU l)) (bo m2.status) (bS m2.dj) (m2.types.map Ty.enc) (dc m2.words) s m2.fault.1 m2.fault.2.1 m2.fault.2.2.1 m2.fault.2.2.2 x.at_ (fun r q=>r=.aK []/\q=MO s (Lz s l x.at_ { m2 with prec:=m2.prec++eU l })):=
    ⟨rfl,pcB (I3 (m:={ m2 with prec:=m2.prec++eU l }) (by omega) (by simp;omega)) (qp (bn (m:={ m2 with prec:=m2.prec++eU l }) hs ha) ⟨rfl,rfl⟩)⟩
   exact⟨key,key⟩
end
section
variable {s w:ByteArray} {m m':Mk} {f:Nat} {a:List AV} {H:List aw}
structure MJ (c n:Nat) (m:Mk):Prop where
 mi:MI c m
 b:m.aP.length<=n
 c:m.consts.length<=n
 v:m.bx.length<=n
 t:m.types.length<=n
 e:m.eqs.length<=n
 r:m.rules.length<=n
 p:m.prec.length<=n
 s:m.status.length<=n
 k:m.dj.length<=n
theorem MJ.fo {c n:Nat} (h:MJ c n m) (k:Fo m m'):MJ c n m':=by
 have hi:=h.mi.fo k;obtain⟨f,rfl⟩:=k;exact⟨hi,h.b,h.c,h.v,h.t,h.e,h.r,h.p,h.s,h.k⟩
theorem MI.mono {c c':Nat} (h:MI c m) (hc:c<=c'):MI c' m:=⟨h.hc,h.hm,aqU h.cl hc,aqU h.ml hc,h.wk⟩
theorem MJ.mono {c n c' n':Nat} (h:MJ c n m) (hc:c<=c') (hn:n<=n'):MJ c' n' m:=
 ⟨h.mi.mono hc,aqU h.b hn,aqU h.c hn,aqU h.v hn,aqU h.t hn,aqU h.e hn,aqU h.r hn,aqU h.p hn,aqU h.s hn,aqU h.k hn⟩
theorem I4 {v:Mn}:∀{l:Qi} {p:ByteArray×Mn},p∈Ly l w v->p∈l\/p.2=v
 | [],p,h=>by
  rw[Ly] at h;rw[aqJ.1 h];exact .inr rfl
 |(k,u)::l,p,h=>by
  rw[Ly] at h;split at h
  ·rcases aqZ.1 h with rfl|h
   ·exact .inr rfl
   ·exact .inl (aqI _ h)
  ·rcases aqZ.1 h with rfl|h
   ·exact .inl aqG
   ·rcases I4 h with h|h
    ·exact .inl (aqI _ h)
    ·exact .inr h
theorem MJ.name {c n:Nat} {x:Mn} {a:Int} (h:MJ c n m) (hx:lO x.kind/\lO x.idx):MJ c n (iO s w x a m):=by
 have h1:=h.fo (bA (s:=s) (!(tH m.words w).isSome) 4 a m);unfold iO Dg;split
 ·refine⟨⟨h1.mi.hc,h1.mi.hm,h1.mi.cl,h1.mi.ml,fun p hp=>?_⟩,h1.b,h1.c,h1.v,h1.t,h1.e,h1.r,h1.p,h1.s,h1.k⟩;rcases I4 hp with hp|hp
  ·exact h1.mi.wk p hp
  ·rw[hp];exact hx
 ·exact h1
theorem Qq {c a:Int} (hc:c≠0):gQ (xA s c a m)=false:=by
 unfold xA;split
 ·show (c==0)=false;exact beq_eq_false_iff_ne.2 hc
 ·rename_i h;simpa using h
theorem Bf {b:Bool} {c a:Int} (hc:c≠0) (h:gQ (cL s b c a m)=true):b=true/\cL s b c a m=m:=by
 unfold cL at h ⊢;split at h
 ·rename_i hb;exact⟨hb,if_pos hb⟩
 ·rw[Qq hc] at h;cases h
theorem Bg (n:Nd) (m:Mk):(kd s n m).1.size<=1000:=by
 show (if _ then _ else _:Ty).size<=_;split
 ·rename_i h;unfold vk at h;split at h
  ·have:=(Bf (by decide) h).1;unfold Ty.bG at this;rw[aqv] at this;exact of_decide_eq_true this.1
  ·rename_i h2;exact(h2 h).elim
 ·rw[oK];decide
structure Qr (s:ByteArray) (x:It):Prop where
 at_:xB s x.at_
 wl:x.words.length<=80000
 ty:x.kind=2\/x.kind=3->1<=x.words.length/\1<=x.nodes.length/\Dj s (dX x 0).size (dX x 0)=true/\(dX x 0).size<=900000
 two:x.kind=4\/x.kind=5->Two s x
 st:x.kind=7->2<=x.words.length
 cm:CmI s x
def JE (x:It):Nat:=if x.kind=2\/x.kind=3 then 1 else 0
def wwI (x:It):Nat:=1+x.words.length
theorem Wv:lO 1:=⟨by decide,by decide⟩
theorem abt:lO 2:=⟨by decide,by decide⟩
theorem Bh {k:Nat} (h:k<=1000000):lO (k:Int):=⟨by omega,by omega⟩
theorem Dm {c:Nat} (a:Int):∀(l:List ByteArray) (n:Nat) (m:Mk),n+l.length<=900000->MJ c n m->MJ c (n+l.length) (rI s a l m)
 | [],n,m,_,h=>h
 |w::l,n,m,hn,h=>by
  rw[aqy] at hn ⊢;have h1:=h.name (s:=s) (w:=w) (x:=⟨true,0,m.aP.length⟩) (a:=a) ⟨fx,Bh (by have:=h.b;omega)⟩;have h2:MJ c (n+1) (IP w (iO s w ⟨true,0,m.aP.length⟩ a m)):=
   ⟨⟨h1.mi.hc,h1.mi.hm,h1.mi.cl,h1.mi.ml,h1.mi.wk⟩,by have:=h1.b;simp[IP];omega,arJ h1.c,arJ h1.v,arJ h1.t,arJ h1.e,arJ h1.r,arJ h1.p,arJ h1.s,arJ h1.k⟩
  have:=Dm a l (n+1) _ (by omega) h2;rw[show n+(l.length+1)=n+1+l.length by omega];exact this
theorem Bi:∀l:List Int,(eU l).length<=l.length
 | []=>aqw _
 | [z]=>aqC _
 |z::u::l=>by
  have:=Bi (u::l);simp only[eU,aqy] at this ⊢;omega
theorem Bj (x:It) (m:Mk):Fo m (yF s x m).2:=by
 refine(bA (s:=s) (!(ga (eo x 0) m.eqs)&&!(ga (eo x 0) m.rules)) 4 x.at_ m).trans ?_;unfold yF eqG;split
 ·refine(yG (s:=s) (dX x 0) (dX x 1) true _).trans ?_;show Fo _ (eqF s x _);unfold eqF;split
  ·exact bA _ _ _ _
  ·exact Fo.refl _
 ·exact Fo.refl _
theorem I5 {c n:Nat} {x:It} (h:MJ c n m) (hn:n+wwI x<=900000):MJ (c+JE x) (n+wwI x) (oJ s x m):=by
 unfold wwI at *;have hm:=h.mono (aq0 c (JE x)) (aq0 n (1+x.words.length));have one:∀{q:Nat},q<=n->q+1<=n+(1+x.words.length):=fun h=>by omega
 unfold oJ;split
 ·exact(Dm x.at_ x.words n m (by omega) h).mono (aq0 _ _) (by omega)
 split
 ·rename_i k2;have h1:=h.name (s:=s) (w:=eo x 0) (x:=⟨false,1,m.consts.length⟩) (a:=x.at_) ⟨Wv,Bh (by have:=h.c;omega)⟩;have ec:JE x=1:=if_pos (.inl k2);generalize iO s (eo x 0) ⟨false,1,m.consts.length⟩ x.at_ m=m1 at h1;unfold Ff;split
  ·have h2:=h1.fo (nm (s:=s) (dX x 0) m1);have hz:=Bg (s:=s) (dX x 0) m1;generalize kd s (dX x 0) m1=p at h2 hz;have h3:=h2.mono (aq0 c (JE x)) (aq0 n (1+x.words.length));refine⟨⟨fun q hq=>?_,h3.mi.hm,?_,h3.mi.ml,h3.mi.wk⟩,h3.b,?_,h3.v,h3.t,h3.e,h3.r,h3.p,h3.s,h3.k⟩
   ·rcases aq7.1 hq with hq|hq
    ·exact h1.mi.hc q hq
    ·rw[aqJ.1 hq];exact hz
   ·have:=h1.mi.cl;simp;omega
   ·have:=h1.c;simp;omega
  ·exact h1.mono (aq0 _ _) (aq0 _ _)
 split
 ·rename_i _ k3;have h1:=h.name (s:=s) (w:=eo x 0) (x:=⟨false,2,m.bx.length⟩) (a:=x.at_) ⟨abt,Bh (by have:=h.v;omega)⟩;have ec:JE x=1:=if_pos (.inr k3);generalize iO s (eo x 0) ⟨false,2,m.bx.length⟩ x.at_ m=m1 at h1;unfold Z7;split
  ·have hz:=Bg (s:=s) (dX x 0) { m1 with bx:=m1.bx++[eo x 0] };have h2:MJ c (n+(1+x.words.length)) { m1 with bx:=m1.bx++[eo x 0] }:=by
    have h3:=h1.mono (aqw c) (aq0 n (1+x.words.length));exact⟨⟨h3.mi.hc,h3.mi.hm,h3.mi.cl,h3.mi.ml,h3.mi.wk⟩,h3.b,h3.c,by have:=h1.v;simp;omega,h3.t,h3.e,h3.r,h3.p,h3.s,h3.k⟩
   have h3:=(h2.fo (nm (s:=s) (dX x 0) _)).mono (aq0 c (JE x)) (aqw _);generalize kd s (dX x 0) { m1 with bx:=m1.bx++[eo x 0] }=p at h3 hz;refine⟨⟨h3.mi.hc,fun q hq=>?_,h3.mi.cl,?_,h3.mi.wk⟩,h3.b,h3.c,h3.v,?_,h3.e,h3.r,h3.p,h3.s,h3.k⟩
   ·rcases aq7.1 hq with hq|hq
    ·exact h1.mi.hm q hq
    ·rw[aqJ.1 hq];exact hz
   ·have:=h1.mi.ml;simp;omega
   ·have:=h1.t;simp;omega
  ·exact h1.mono (aq0 _ _) (aq0 _ _)
 split
 ·have h1:=h.fo (bA (s:=s) (decide ((m.eqs.length:Int)<200)) 2 x.at_ m);unfold nk;generalize cL s (decide ((m.eqs.length:Int)<200)) 2 x.at_ m=m1 at h1;unfold eqP;split
  ·have h3:=(h1.fo (Bj (s:=s) x m1)).mono (aq0 c (JE x)) (aq0 n (1+x.words.length));exact⟨⟨h3.mi.hc,h3.mi.hm,h3.mi.cl,h3.mi.ml,h3.mi.wk⟩,h3.b,h3.c,h3.v,h3.t,by have:=h1.e;simp;omega,h3.r,h3.p,h3.s,h3.k⟩
  ·exact h1.mono (aq0 _ _) (aq0 _ _)
 split
 ·have h1:=h.fo (bA (s:=s) (decide ((m.rules.length:Int)<200)) 2 x.at_ m);unfold nk;generalize cL s (decide ((m.rules.length:Int)<200)) 2 x.at_ m=m1 at h1;unfold N6;split
  ·have h3:=(h1.fo (Bj (s:=s) x m1)).mono (aq0 c (JE x)) (aq0 n (1+x.words.length));exact⟨⟨h3.mi.hc,h3.mi.hm,h3.mi.cl,h3.mi.ml,h3.mi.wk⟩,h3.b,h3.c,h3.v,h3.t,h3.e,by have:=h1.r;simp;omega,h3.p,h3.s,h3.k⟩
  ·exact h1.mono (aq0 _ _) (aq0 _ _)
 split
 ·unfold A7;have hl:=xF (s:=s) x.at_ x.words m;have h1:=h.fo (tK (s:=s) x.at_ x.words m);generalize fg s x.at_ x.words m=p at hl h1;have h2:=h1.fo (bA (s:=s) (decide ((p.1.length:Int)-1<=200-(p.2.prec.length:Int))) 2 x.at_ p.2);generalize cL s (decide ((p.1.length:Int)-1<=200-(p.2.prec.length:Int))) 2 x.at_ p.2=m1 at h2;have h3:=h2.mono (aq0 c (JE x)) (aq0 n (1+x.words.length));unfold Fe;split
  ·refine MJ.fo ?_ (bA _ _ _ _);have hq:=Bi p.1;exact⟨⟨h3.mi.hc,h3.mi.hm,h3.mi.cl,h3.mi.ml,h3.mi.wk⟩,h3.b,h3.c,h3.v,h3.t,h3.e,h3.r,by have:=h2.p;simp;omega,h3.s,h3.k⟩
  ·exact h3
 split
 ·unfold Di;have h1:=h.fo (oL (s:=s) (eo x 0) x.at_ m);generalize eC s (eo x 0) x.at_ m=p at h1;have h2:=h1.fo (bA (s:=s) (!(p.2.status.any fun q=>q.1==p.1)) 4 x.at_ p.2);generalize cL s (!(p.2.status.any fun q=>q.1==p.1)) 4 x.at_ p.2=m1 at h2;have h3:=(h2.fo (bA (s:=s) (decide (Dh (eo x 1)>=0)) 3 x.at_ m1)).mono (aq0 c (JE x)) (aq0 n (1+x.words.length));exact⟨⟨h3.mi.hc,h3.mi.hm,h3.mi.cl,h3.mi.ml,h3.mi.wk⟩,h3.b,h3.c,h3.v,h3.t,h3.e,h3.r,h3.p,by have:=h2.s;simp[N5];omega,h3.k⟩
 ·unfold Wj;have h1:=h.fo (bA (s:=s) (decide ((m.dj.length:Int)<200)) 2 x.at_ m);unfold nk;generalize cL s (decide ((m.dj.length:Int)<200)) 2 x.at_ m=m1 at h1;have add:∀{m2:Mk} {cm:Xd},Fo m1 m2->MJ (c+JE x) (n+(1+x.words.length)) (IM cm m2):=by
   intro m2 cm hf;have h2:=h1.fo hf;have h3:=h2.mono (aq0 c (JE x)) (aq0 n (1+x.words.length));exact⟨⟨h3.mi.hc,h3.mi.hm,h3.mi.cl,h3.mi.ml,h3.mi.wk⟩,h3.b,h3.c,h3.v,h3.t,h3.e,h3.r,h3.p,h3.s,by have:=h2.k;simp[IM];omega⟩
  unfold Wi;split
  ·exact h1.mono (aq0 _ _) (aq0 _ _)
  split
  ·exact add (kJ _ _)
  split
  ·exact add (yG _ _ _ _)
  split
  ·exact add (bA _ _ _ _)
  ·exact add (Fo.refl _)
end
section
variable {s w:ByteArray} {m m':Mk} {f:Nat} {a:List AV} {H:List aw}
section
variable {N0:List AV->List AV->List AV->List AV->List AV->List AV->List AV->List AV->List AV->List (ByteArray×Value)->ByteArray->Int->Int->Int->ByteArray->ByteArray->List AV->Int->Int->List AV->List AV->Int->Int->List AV->Prop} {e:A2}
theorem mcE (h:aY aj f a H (fun r q=>r=Oa e/\q=MO s m')) (hn:N0 (m'.aP.map nS) (cD m'.consts) (m'.bx.map nS) (aM m'.eqs) (aM m'.rules) (bo m'.prec) (bo m'.status) (bS m'.dj) (m'.types.map Ty.enc) (dc m'.words) s m'.fault.1 m'.fault.2.1 m'.fault.2.2.1 m'.fault.2.2.2 e.name (e.left.binds.map Ty.enc) e.left.kind e.left.index (e.left.args.map Tm.enc) (e.right.binds.map Ty.enc) e.right.kind e.right.index (e.right.args.map Tm.enc)):ij f a H N0:=
 ⟨_,h,fun r q ⟨e1,e2⟩=>⟨_,_,_,_,_,_,_,_,_,_,_,_,_,_,_,_,_,_,_,_,_,_,_,_,⟨e1,e2⟩,hn⟩⟩
end
theorem LJ (l:List (ByteArray×Ty)) (w:ByteArray) (t:Ty):cD l++[.agg [nS w,.sl (t.args.map Ty.enc),nI t.base]]=cD (l++[(w,t)]):=by simp[cD]
theorem xG (l:List A2) (e:A2):aM l++[Oa e]=aM (l++[e]):=by simp[aM]
theorem Bk (l:List ByteArray) (w:ByteArray):l.map nS++[nS w]=(l++[w]).map nS:=by simp
theorem Ww {l:List AV} {z x:AV} {k:Nat} (h:k=l.length):List.set (l++[z]) k x=l++[x]:=by
 subst h;rw[List.set_append_right _ _ (aqw _),arO];rfl
theorem I6 {x:It} {c n:Nat} (hs:s.size<=1000000000) (hx:Qr s x) (hm:MJ c n m) (hn:n<=800000):
  Ns (((),(),x.words.map nS,(((x.words.map nS).length:Nat):Int),0,()),(m.aP.map nS,cD m.consts,m.bx.map nS,aM m.eqs,aM m.rules,bo m.prec,bo m.status,bS m.dj,m.types.map Ty.enc,dc m.words,((),(),(),(),(),(),(),(),(),s,(),m.fault.1,m.fault.2.1,m.fault.2.2.1,m.fault.2.2.2,()),(x.kind,x.words.map nS,x.nodes.map Nd.enc,x.num,x.at_,()),())) (fun r q=>r=.aK []/\q=MO s (rI s x.at_ x.words m)):=by
 have hwl:(x.words.map nS).length=x.words.length:=aqu _;have hl:=hx.wl;refine aI.intro (fun p:Nat×Mk=>(((),(),x.words.map nS,(x.words.length:Int),(p.1:Int),()),(p.2.aP.map nS,cD p.2.consts,p.2.bx.map nS,aM p.2.eqs,aM p.2.rules,bo p.2.prec,bo p.2.status,bS p.2.dj,p.2.types.map Ty.enc,dc p.2.words,((),(),(),(),(),(),(),(),(),s,(),p.2.fault.1,p.2.fault.2.1,p.2.fault.2.2.1,p.2.fault.2.2.2,()),(x.kind,x.words.map nS,x.nodes.map Nd.enc,x.num,x.at_,()),())))
  (fun p=>p.1<=x.words.length/\p.2.aP.length<=n+p.1/\rI s x.at_ x.words m=rI s x.at_ (x.words.drop p.1) p.2) (fun p=>x.words.length-p.1) (0,m) (by rw[hwl];rfl) ⟨aqC _,hm.b,rfl⟩ ?_
 intro ⟨k,m1⟩ ⟨hk,hb,he⟩ again cj;dsimp only at hk hb he ⊢;unfold Nr;rw[hwl];have el:(m1.aP.map nS).length=m1.aP.length:=aqu _;rw[el];refine az.intro (fun h=>?_) fun h=>?_
 ·have aH:k<x.words.length:=by simpa using h
  rw[aqB aH,rI] at he;refine⟨by omega,by omega,_,getD_map aH,rfl,qp (rJ (m:=m1) (w:=x.words[k]) (x:=⟨true,0,m1.aP.length⟩) hs hx.at_) ?_⟩;have K8:(iO s x.words[k] ⟨true,0,m1.aP.length⟩ x.at_ m1).aP=m1.aP:=by
   obtain⟨g,e⟩:=bA (s:=s) (!(tH m1.words x.words[k]).isSome) 4 x.at_ m1;unfold iO Dg;rw[e]
   split<;>rfl
  generalize iO s x.words[k] ⟨true,0,m1.aP.length⟩ x.at_ m1=m2 at he K8 ⊢;refine⟨rfl,bJ rfl (by simp[K8];omega) (by decide),rfl,rfl,rfl,rfl,rfl,rfl,rfl,rfl,rfl,?_⟩;rw[bk (by omega),Bk];exact cj (k+1,IP x.words[k] m2) ⟨by dsimp only;omega,by simp[IP,K8];omega,he⟩ (by dsimp only;omega)
 ·have jM:x.words.length<=k:=by simpa using h
  rw[aqK jM] at he;rw[he];exact⟨rfl,rfl⟩
theorem I7 {x:It} {n:Nat} (hs:s.size<=1000000000) (hx:Qr s x) (hm:MJ 500 n m) (hn:n<=80000):
  aY aj 32 [.ptr 10 0,iR x] (MO s m) (fun r q=>r=.aK []/\q=MO s (oJ s x m)):=by
 have ha:=hx.at_;have hwl:(x.words.map nS).length=x.words.length:=aqu _;have hnl:(x.nodes.map Nd.enc).length=x.nodes.length:=aqu _;have g0:1<=x.words.length->ae (x.words.map nS) (af 0) .top=nS (eo x 0):=fun h=>si (k:=0) (by omega);have g1:1<=x.nodes.length->ae (x.nodes.map Nd.enc) (af 0) .top=iE (dX x 0):=fun h=>vn (k:=0) (by omega);unfold oJ;refine Zr (az.intro (fun k1=>?_) fun k1=>az.intro (fun k2=>?_) fun k2=>az.intro (fun k3=>?_) fun k3=>az.intro (fun k4=>?_) fun k4=>az.intro (fun k5=>?_) fun k5=>az.intro (fun k6=>?_) fun k6=>az.intro (fun k7=>?_) fun k7=>?_)
 ·rw[if_pos (by simpa using k1)];exact⟨rfl,rfl,rfl,rfl,rfl,rfl,rfl,rfl,rfl,I6 hs hx hm (by omega)⟩
 all_goals rw[if_neg (show ¬x.kind=1 by simpa using k1)]
 ·have k2:x.kind=2:=by simpa using k2
  obtain⟨z1,z2,z3,z4⟩:=hx.ty (.inl k2);rw[if_pos k2];have el:(cD m.consts).length=m.consts.length:=aqu _;have hnm:=hm.name (s:=s) (w:=eo x 0) (x:=⟨false,1,m.consts.length⟩) (a:=x.at_) ⟨Wv,Bh (by have:=hm.c;omega)⟩;have fP:=rJ (m:=m) (w:=eo x 0) (x:=⟨false,1,m.consts.length⟩) hs ha;refine⟨by omega,by omega,_,g0 z1,rfl,?_⟩;rw[el];refine qp fP ?_;clear fP;generalize iO s (eo x 0) ⟨false,1,m.consts.length⟩ x.at_ m=m1 at hnm ⊢;unfold Ff;refine JD dh (az.intro (fun h=>?_) fun h=>?_)
  ·have h:gQ m1=true:=h;rw[if_pos h];have ht:=tI (m:=m1) (k:=0) hs z3 (by omega);have hf:=nm (s:=s) (dX x 0) m1;have JV:=hnm.c;generalize kd s (dX x 0) m1=p at ht hf ⊢;obtain⟨t,m2⟩:=p;obtain⟨g,rfl⟩:∃g,m2={ m1 with fault:=g }:=hf;have key:∀{d:TD},d.size=3->d.bytes<=1000->bw d (cD m1.consts++[AV.agg [nS (eo x 0),.sl (t.args.map Ty.enc),nI t.base]]).length [] [.agg [nS (eo x 0),.sl (t.args.map Ty.enc),nI t.base]]:=fun h1 h2=>bJ h1.symm (by simp;omega) h2;refine⟨by omega,by omega,_,g0 z1,by omega,by omega,_,_,_,_,g1 z2,Z9 ht ⟨rfl,key rfl (by decide),rfl,?_⟩,Z9 ht ⟨rfl,key rfl (by decide),rfl,?_⟩⟩
   all_goals dsimp only;rw[LJ]
  ·have h:¬gQ m1=true:=by rw[show gQ m1=false from h];decide
   rw[if_neg h];exact⟨rfl,rfl⟩
 all_goals rw[if_neg (show ¬x.kind=2 by simpa using k2)]
 ·have k3:x.kind=3:=by simpa using k3
  obtain⟨z1,z2,z3,z4⟩:=hx.ty (.inr k3);rw[if_pos k3];have el:(m.bx.map nS).length=m.bx.length:=aqu _;have hnm:=hm.name (s:=s) (w:=eo x 0) (x:=⟨false,2,m.bx.length⟩) (a:=x.at_) ⟨abt,Bh (by have:=hm.v;omega)⟩;have fP:=rJ (m:=m) (w:=eo x 0) (x:=⟨false,2,m.bx.length⟩) hs ha;refine⟨by omega,by omega,_,g0 z1,rfl,?_⟩;rw[el];refine qp fP ?_;clear fP;generalize iO s (eo x 0) ⟨false,2,m.bx.length⟩ x.at_ m=m1 at hnm ⊢;unfold Z7;refine JD dh (az.intro (fun h=>?_) fun h=>?_)
  ·have h:gQ m1=true:=h;rw[if_pos h];have ht:=tI (m:={ m1 with bx:=m1.bx++[eo x 0] }) (k:=0) hs z3 (by omega);have hf:=nm (s:=s) (dX x 0) { m1 with bx:=m1.bx++[eo x 0] };have hv1:=hnm.v;have ht1:=hnm.t;generalize kd s (dX x 0) { m1 with bx:=m1.bx++[eo x 0] }=p at ht hf ⊢;obtain⟨t,m2⟩:=p;obtain⟨g,rfl⟩:∃g,m2={ m1 with bx:=m1.bx++[eo x 0],fault:=g }:=hf;dsimp only at ht ⊢;have ew:bT (m1.aP.map nS) (cD m1.consts) (m1.bx.map nS++[nS (eo x 0)]) (aM m1.eqs) (aM m1.rules) (bo m1.prec) (bo m1.status) (bS m1.dj) (m1.types.map Ty.enc) (dc m1.words) s m1.fault.1 m1.fault.2.1 m1.fault.2.2.1 m1.fault.2.2.2=MO s { m1 with bx:=m1.bx++[eo x 0] }:=by rw[Bk]
   have etl:(m1.types.map Ty.enc).length=m1.types.length:=aqu _;have e1:List.set (m1.types.map Ty.enc++[.agg [.sl [],nI 0]]) (af (((m1.types.map Ty.enc).length:Nat):Int)) (LA t)=(m1.types++[t]).map Ty.enc:=by
    rw[arv,Ww rfl,arq];show _=_++[Ty.enc t];rw[Ty.aG]
   have e2:(m1.types.map Ty.enc++[AV.agg [.sl [],nI 0]]).length=((m1.types++[t]).map Ty.enc).length:=by simp
   have Yi:rh (m1.types.map Ty.enc) (m1.types.map Ty.enc) (fun r q=>r=.aK []/\q=MO s { m1 with bx:=m1.bx++[eo x 0],fault:=g,types:=m1.types++[t] }) (m1.aP.map nS) (cD m1.consts) ((m1.bx++[eo x 0]).map nS) (aM m1.eqs) (aM m1.rules) (bo m1.prec) (bo m1.status) (bS m1.dj) (t.args.map Ty.enc) t.base (dc m1.words) s g.1 g.2.1 g.2.2.1 g.2.2.2:=by
    refine⟨rfl,by rw[arv];simp,rfl,?_⟩;rw[e1,e2]
   have ap:∀{d:TD},d.size=2->d.bytes<=1000->bw d (m1.types.map Ty.enc++[AV.agg [.sl [],nI 0]]).length [] [.agg [.sl [],nI 0]]:=fun h1 h2=>bJ h1.symm (by simp;omega) h2;have bd:0<=(((m1.types.map Ty.enc).length:Nat):Int)/\(((m1.types.map Ty.enc).length:Nat):Int)<(((m1.types.map Ty.enc++[AV.agg [.sl [],nI 0]]).length:Nat):Int)/\(m1.types.map Ty.enc++[AV.agg [.sl [],nI 0]]).length=(m1.types.map Ty.enc++[AV.agg [.sl [],nI 0]]).length:=⟨by omega,Int.ofNat_lt.2 (by rw[aqz,art];omega),rfl⟩;have QP:=ew▸ht;refine⟨by omega,by omega,_,g0 z1,rfl,bJ rfl (by simp;omega) (by decide),by omega,by omega,_,_,_,_,g1 z2,⟨Z9 QP ⟨rfl,rfl,ap rfl (by decide),bd,Yi,Yi⟩,⟨rfl,Z9 QP ⟨rfl,ap rfl (by decide),bd,Yi,Yi⟩⟩⟩,Z9 QP ⟨rfl,rfl,ap rfl (by decide),bd,Yi,Yi⟩⟩
  ·have h:¬gQ m1=true:=by rw[show gQ m1=false from h];decide
   rw[if_neg h];exact⟨rfl,rfl⟩
 all_goals rw[if_neg (show ¬x.kind=3 by simpa using k3)]
 ·have k4:x.kind=4:=by simpa using k4
  rw[if_pos k4];have el:(aM m.eqs).length=m.eqs.length:=aqu _;refine⟨rfl,?_⟩;rw[el];refine qp (rM hs ha) ?_;have h1:=hm.fo (bA (s:=s) (decide ((m.eqs.length:Int)<200)) 2 x.at_ m);unfold nk;generalize cL s (decide ((m.eqs.length:Int)<200)) 2 x.at_ m=m1 at h1;unfold eqP;refine JD dh (az.intro (fun h=>?_) fun h=>?_)
  ·rw[if_pos (show gQ m1=true from h)];have he:=Bd hs ha h1.mi (hx.two (.inl k4)) (by have:=h1.e;omega) (by have:=h1.r;omega);have hf:=Bj (s:=s) x m1;have hz:=h1.e;generalize yF s x m1=p at he hf ⊢;obtain⟨e,m2⟩:=p;obtain⟨g,rfl⟩:∃g,m2={ m1 with fault:=g }:=hf;dsimp only at he ⊢;have ap:∀{d:TD},d.size=9->d.bytes<=1000->bw d (aM m1.eqs++[Oa e]).length [] [Oa e]:=fun h1 h2=>bJ h1.symm (by simp;omega) h2;refine⟨mcE he ⟨rfl,ap rfl (by decide),rfl,?_⟩,mcE he ⟨rfl,ap rfl (by decide),rfl,?_⟩⟩
   all_goals dsimp only;rw[xG]
  ·rw[if_neg (by rw[show gQ m1=false from h];decide)];exact⟨rfl,rfl⟩
 all_goals rw[if_neg (show ¬x.kind=4 by simpa using k4)]
 ·have k5:x.kind=5:=by simpa using k5
  rw[if_pos k5];have el:(aM m.rules).length=m.rules.length:=aqu _;refine⟨rfl,?_⟩;rw[el];refine qp (rM hs ha) ?_;have h1:=hm.fo (bA (s:=s) (decide ((m.rules.length:Int)<200)) 2 x.at_ m);unfold nk;generalize cL s (decide ((m.rules.length:Int)<200)) 2 x.at_ m=m1 at h1;unfold N6;refine JD dh (az.intro (fun h=>?_) fun h=>?_)
  ·rw[if_pos (show gQ m1=true from h)];have he:=Bd hs ha h1.mi (hx.two (.inr k5)) (by have:=h1.e;omega) (by have:=h1.r;omega);have hf:=Bj (s:=s) x m1;have hz:=h1.r;generalize yF s x m1=p at he hf ⊢;obtain⟨e,m2⟩:=p;obtain⟨g,rfl⟩:∃g,m2={ m1 with fault:=g }:=hf;dsimp only at he ⊢;have ap:∀{d:TD},d.size=9->d.bytes<=1000->bw d (aM m1.rules++[Oa e]).length [] [Oa e]:=fun h1 h2=>bJ h1.symm (by simp;omega) h2;refine⟨mcE he ⟨rfl,ap rfl (by decide),rfl,?_⟩,mcE he ⟨rfl,ap rfl (by decide),rfl,?_⟩⟩
   all_goals dsimp only;rw[xG]
  ·rw[if_neg (by rw[show gQ m1=false from h];decide)];exact⟨rfl,rfl⟩
 all_goals rw[if_neg (show ¬x.kind=5 by simpa using k5)]
 ·rw[if_pos (show x.kind=6 by simpa using k6)];exact qp (Fp hs ha (by have:=hx.wl;omega) (by have:=hm.p;omega)) ⟨rfl,rfl⟩
 all_goals rw[if_neg (show ¬x.kind=6 by simpa using k6)]
 ·have k7:x.kind=7:=by simpa using k7
  rw[if_pos k7];exact qp (IZ hs ha (hx.st k7) (by have:=hm.s;omega)) ⟨rfl,rfl⟩
 ·rw[if_neg (show ¬x.kind=7 by simpa using k7)];exact qp (LH hs ha hm.mi hx.cm (by have:=hm.e;omega) (by have:=hm.k;omega)) ⟨rfl,rfl⟩
end
section
variable {s w:ByteArray} {m m':Mk} {f:Nat} {a:List AV} {H:List aw}
abbrev prA (m:Mk):AV:=.agg [.sl (m.aP.map nS),.sl (cD m.consts),.sl (m.bx.map nS),.sl (m.types.map Ty.enc),.sl (aM m.eqs),.sl (aM m.rules),.sl (bo m.prec),.sl (bo m.status),.sl (bS m.dj)]
def p7:List It->Nat
 | []=>0
 |x::l=>JE x+p7 l
def nH:List It->Nat
 | []=>0
 |x::l=>wwI x+nH l
theorem Od (c n:Nat):MJ c n Cf:=by
 refine⟨⟨(fun q h=>by cases h),(fun q h=>by cases h),aqC _,aqC _,(fun q h=>by cases h)⟩,?_,?_,?_,?_,?_,?_,?_,?_,?_⟩<;>exact aqC _
theorem Wx {l:List It} {k:Nat} (h:k<l.length):ae (l.map iR) (af (k:Int)) .top=iR l[k]:=getD_map h
theorem Oe:∀l:List It,l.length<=nH l
 | []=>aqw _
 |x::l=>by have:=Oe l;simp only[nH,wwI,aqy];omega
theorem xH (hs:s.size<=1000000000) (hi:∀x∈(dN s).1,Qr s x) (hc:p7 (dN s).1<=500) (hw:nH (dN s).1<=80000):ay aj 7 [nS s] (.aK [prA (jL s).1,.agg (K6 (jL s).2)]):=by
 have hp:=yb hs;unfold jL;generalize dN s=P at *;obtain⟨its,fa⟩:=P;dsimp only at *;refine acS ⟨_,_,_,_,_,hp,az.intro (fun h=>?_) fun h=>?_⟩
 ·rw[if_neg (by simpa using h)];rfl
 rw[if_pos (by simpa using h)];have hil:(its.map iR).length=its.length:=aqu _;have hle:=Oe its;refine⟨rfl,rfl,rfl,rfl,rfl,rfl,rfl,rfl,rfl,?_⟩;refine aI.intro (fun p:Nat×Mk=>(((),(),(),its.map iR,(its.length:Int),(p.1:Int),()),(((),(),(),(),(),(),(),(),(),()),(0,0,0,⟨#[]⟩,()),(fa.1,fa.2.1,fa.2.2.1,fa.2.2.2,()),dc p.2.words,((),(),(),(),(),(),(),(),(),s,(),p.2.fault.1,p.2.fault.2.1,p.2.fault.2.2.1,p.2.fault.2.2.2,()),p.2.aP.map nS,cD p.2.consts,p.2.bx.map nS,aM p.2.eqs,aM p.2.rules,bo p.2.prec,bo p.2.status,bS p.2.dj,p.2.types.map Ty.enc,())))
  (fun p=>p.1<=its.length/\gQ p.2=true/\(p7 (its.drop p.1)<=500/\nH (its.drop p.1)<=80000)/\MJ (500-p7 (its.drop p.1)) (80000-nH (its.drop p.1)) p.2/\nG s its Cf=nG s (its.drop p.1) p.2) (fun p=>its.length-p.1) (0,Cf) (by rw[hil];rfl) ⟨aqC _,rfl,⟨hc,hw⟩,Od _ _,rfl⟩ ?_
 intro ⟨k,m1⟩ ⟨hk,ho,⟨JV,J9⟩,hj,he⟩ again cj;dsimp only at hk ho JV J9 hj he ⊢;unfold VC;rw[hil];refine az.intro (fun h=>?_) fun h=>?_
 ·have aH:k<its.length:=by simpa using h
  rw[aqB aH] at JV J9 hj he;simp only[p7,nH] at JV J9 hj;rw[nG] at he;have hx:=hi _ (aqL aH);have fP:=I7 hs hx (hj.mono (Nat.sub_le _ _) (Nat.sub_le _ _)) (aqw _);have hj2:=I5 (s:=s) (x:=its[k]) hj (by omega);refine⟨by omega,by omega,_,_,_,_,_,Wx aH,qp fP (JD dh (az.intro (fun h=>?_) fun h=>?_))⟩
  ·have h:¬gQ (oJ s its[k] m1)=true:=by simpa using h
   rw[if_neg h] at he;rw[he,Z8,if_neg h];rfl
  ·have h:gQ (oJ s its[k] m1)=true:=by simpa using h
   rw[if_pos h] at he;rw[bk (by omega)];exact⟨rfl,rfl,rfl,rfl,rfl,rfl,rfl,rfl,rfl,cj (k+1,oJ s its[k] m1) ⟨by dsimp only;omega,h,⟨by dsimp only;omega,by dsimp only;omega⟩,hj2.mono (by dsimp only;omega) (by dsimp only;omega),he⟩ (by dsimp only;omega)⟩
 ·have jM:its.length<=k:=by simpa using h
  rw[aqK jM,nG] at he;rw[he,Z8,if_pos ho];exact⟨rfl,rfl,rfl,rfl,rfl,rfl,rfl,rfl,rfl,rfl⟩
theorem vv (hc:∀q∈m.consts,q.2.size<=1000) (ht:∀q∈m.types,q.size<=1000) (hl:m.consts.length<=1000000) (BA:m.types.length<=1000000):ay aj 16 [prA m] (wTy m):=by
 have dK:(cD m.consts).length=m.consts.length:=aqu _;have Gt:(m.types.map Ty.enc).length=m.types.length:=aqu _;refine Yy ⟨rfl,?_⟩;refine aI.intro (fun k:Nat=>(((),(),(),cD m.consts,(m.consts.length:Int),(k:Int),()),((m.aP.map nS,cD m.consts,m.bx.map nS,m.types.map Ty.enc,aM m.eqs,aM m.rules,bo m.prec,bo m.status,bS m.dj,()),(0,(),(),()),((m.aP.length:Int),(),(),()),((m.consts.take k).map (·.2)).map Ty.enc,())))
  (fun k=>k<=m.consts.length) (fun k=>m.consts.length-k) 0 (by rw[dK,aqu];rfl) (aqC _) ?_
 intro k hk again cj;dsimp only;unfold M1;rw[dK];refine az.intro (fun h=>?_) fun h=>?_
 ·have aH:k<m.consts.length:=by simpa using h
  have cx:=hc _ (aqL aH);refine⟨by omega,by omega,_,_,_,N8 aH,_,_,jW (t:=m.consts[k].2) (by omega),rfl,bJ rfl (by simp;omega) (by decide),rfl,?_⟩;have e:((m.consts.take k).map (·.2)).map Ty.enc++[LA m.consts[k].2]=((m.consts.take (k+1)).map (·.2)).map Ty.enc:=by
   rw[<-cO aH,arq,arq];show _=_++[Ty.enc m.consts[k].2];rw[Ty.aG]
  rw[e,bk (by omega)];exact cj (k+1) (by omega) (by omega)
 ·have jM:m.consts.length<=k:=by simpa using h
  rw[aqP jM];refine⟨rfl,rfl,?_⟩;clear cj;refine aI.intro (fun k:Nat=>(((),(),m.types.map Ty.enc,(m.types.length:Int),(k:Int),()),((m.aP.map nS,cD m.consts,m.bx.map nS,m.types.map Ty.enc,aM m.eqs,aM m.rules,bo m.prec,bo m.status,bS m.dj,()),(0,(),(),()),((m.aP.length:Int),(),(),()),(m.consts.map (·.2)).map Ty.enc,(m.types.take k).map Ty.enc,())))
   (fun k=>k<=m.types.length) (fun k=>m.types.length-k) 0 (by rw[Gt];rfl) (aqC _) ?_
  intro k hk again cj;dsimp only;unfold M0;rw[Gt];refine az.intro (fun h=>?_) fun h=>?_
  ·have aH:k<m.types.length:=by simpa using h
   have cx:=ht _ (aqL aH);refine⟨by omega,by omega,_,_,Ty.bh aH,_,_,jW (t:=m.types[k]) (by omega),rfl,bJ rfl (by simp;omega) (by decide),rfl,rfl,?_⟩;have e:(m.types.take k).map Ty.enc++[LA m.types[k]]=(m.types.take (k+1)).map Ty.enc:=by
    rw[<-cO aH,arq];show _=_++[Ty.enc m.types[k]];rw[Ty.aG]
   rw[e,bk (by omega)];exact cj (k+1) (by omega) (by omega)
  ·have jM:m.types.length<=k:=by simpa using h
   rw[aqP jM];exact⟨rfl,rfl,rfl⟩
def aiB (s:ByteArray) (x:It):Bool:=decide (1<=x.words.length)&&(decide (2<=x.nodes.length)&&(tO s (dX x 0).size (dX x 0)&&(tO s (dX x 1).size (dX x 1)&&(decide ((dX x 0).size<=900000)&&decide ((dX x 1).size<=900000)))))
def itB (s:ByteArray) (x:It):Bool:=
 (decide (0<=x.at_)&&decide (x.at_<(s.size:Int)))&&(decide (x.words.length<=80000) &&
  (if x.kind=2\/x.kind=3 then decide (1<=x.words.length)&&(decide (1<=x.nodes.length)&&(Dj s (dX x 0).size (dX x 0)&&decide ((dX x 0).size<=900000)))
  else if x.kind=4\/x.kind=5 then aiB s x
  else if x.kind=7 then decide (2<=x.words.length)
  else if x.kind=9 then decide (1<=x.nodes.length)&&(tO s (dX x 0).size (dX x 0)&&decide ((dX x 0).size<=900000))
  else if x.kind=10 then decide (2<=x.nodes.length)&&(tO s (dX x 0).size (dX x 0)&&(tO s (dX x 1).size (dX x 1)&&(decide ((dX x 0).size<=900000)&&decide ((dX x 1).size<=900000))))
  else if x.kind=12 then decide (1<=x.words.length) else true))
theorem adn {x:It} (h:itB s x=true):Qr s x:=by
 unfold itB at h;simp only[aqv,decide_eq_true_eq] at h;obtain⟨⟨h1,h2⟩,h3,h⟩:=h;refine⟨⟨h1,h2⟩,h3,fun k=>?_,fun k=>?_,fun k=>?_,⟨fun k=>?_,fun k=>?_,fun k=>?_⟩⟩
 ·rw[if_pos k] at h;simpa [aqv] using h
 ·rw[if_neg (by omega),if_pos k] at h;unfold aiB at h;simp only[aqv,decide_eq_true_eq] at h;exact⟨h.1,h.2.1,h.2.2.1,h.2.2.2.1,h.2.2.2.2.1,h.2.2.2.2.2⟩
 ·rw[if_neg (by omega),if_neg (by omega),if_pos k] at h;simpa using h
 ·rw[if_neg (by omega),if_neg (by omega),if_neg (by omega),if_pos k] at h;simpa [aqv] using h
 ·rw[if_neg (by omega),if_neg (by omega),if_neg (by omega),if_neg (by omega),if_pos k] at h;simpa [aqv] using h
 ·rw[if_neg (by omega),if_neg (by omega),if_neg (by omega),if_neg (by omega),if_neg (by omega),if_pos k] at h;simpa using h
end
section
variable {L:List Tk} {s w:ByteArray} {st:St} {P:Nd->Prop}
theorem oN {c:Int} (hc:c≠0):jz (jJ L s c st)=false:=by
 cases h:jz st with
 |true=>exact rq hc h
 |false=>rw[jJ,if_neg (by rw[h];decide)];exact h
def On1 (L:List Tk) (st st':St):Prop:=jz st=true/\st'=(st.1+1,st.2)/\st.1+1<=L.length
theorem LK (hp:PE L s) {k:Int} (hk:k≠4) (h:jz (mQ L s k st).2=true):On1 L st (mQ L s k st).2/\(mQ L s k st).1=pk L s st.1:=by
 unfold mQ at h ⊢;split at h
 ·rename_i ho;rw[if_pos ho];split at h
  ·rename_i h1;rw[if_pos h1];exact⟨⟨ho,rfl,u7 hp (by rw[h1];exact hk)⟩,rfl⟩
  ·rw[oN (by decide)] at h;cases h
 ·rename_i ho;exact(ho h).elim
theorem np (h:jz (dF L s w st)=true):On1 L st (dF L s w st):=by
 unfold dF at h ⊢;split at h
 ·rename_i ho;rw[if_pos ho];split at h
  ·rename_i h1;rw[if_pos h1];exact⟨ho,rfl,EJ h1⟩
  ·rw[oN (by decide)] at h;cases h
 ·rename_i ho;exact(ho h).elim
theorem yI:(jz st=true/\dE L s w st=(true,(st.1+1,st.2))/\st.1+1<=L.length)\/dE L s w st=(false,st):=by
 unfold dE;split
 ·rename_i h;rw[aqv] at h;exact .inl ⟨h.1,rfl,EJ h.2⟩
 ·exact .inr rfl
theorem LL (hp:PE L s) {i:Nat} (h:i<L.length):xB s (pk L s i).2.2:=by
 rw[VM h];exact hp.at_ _ (aqL h)
def Gn (L:List Tk) (P:Nd->Prop) (f:St->Nd×St):Prop:=
 ∀st,jz (f st).2=true->jz st=true/\P (f st).1/\2*st.1+(f st).1.size+1<=2*(f st).2.1/\(f st).2.1<=L.length
theorem Wy {k a:Int}:(Nd.mk k w a []).size=1:=by rw[Nd.size_eq];rfl
theorem wD {k a:Int} {x y:Nd}:(Nd.mk k w a [x,y]).size=1+x.size+y.size:=by simp[Nd.size,Nd.sizes];omega
theorem yJ (hp:PE L s) {f:St->Nd×St} (hf:Gn L P f) (hn:∀w a,xB s a->P (.mk 1 w a [])):Gn L P (cC L s f):=by
 intro st h;unfold cC at h ⊢;rcases yI (L:=L) (s:=s) (w:=Lk) (st:=st) with⟨h1,h2,h3⟩|e
 ·rw[h2] at h ⊢;dsimp only at h ⊢;obtain⟨g1,g2,g3⟩:=np h;obtain⟨_,f2,f3,f4⟩:=hf _ g1;dsimp only at f3 ⊢;rw[g2];exact⟨h1,f2,by dsimp only;omega,g3⟩
 ·rw[e] at h ⊢;obtain⟨⟨g1,g2,g3⟩,g4⟩:=LK hp (by decide) h;dsimp only at g2 g4 ⊢;rw[g2,g4,Wy];exact⟨g1,hn _ _ (LL hp g3),by dsimp only;omega,g3⟩
def TyG (s:ByteArray) (t:Nd):Prop:=∀k,t.size<=k->Dj s k t=true
def LM (s:ByteArray) (t:Nd):Prop:=∀k,t.size<=k->tO s k t=true
theorem Wz (w:ByteArray) (a:Int) (h:xB s a):TyG s (.mk 1 w a []):=by
 intro k hk;rw[Wy] at hk;obtain⟨j,rfl⟩:∃j,k=j+1:=⟨k-1,by omega⟩;rw[Dj];exact aqv _ _▸⟨aqv _ _▸⟨decide_eq_true h.1,decide_eq_true h.2⟩,rfl⟩
theorem Bl (w:ByteArray) (a:Int) (h:xB s a):LM s (.mk 1 w a []):=by
 intro k hk;rw[Wy] at hk;obtain⟨j,rfl⟩:∃j,k=j+1:=⟨k-1,by omega⟩;rw[tO];exact aqv _ _▸⟨aqv _ _▸⟨decide_eq_true h.1,decide_eq_true h.2⟩,rfl⟩
theorem TyG.at_ {t:Nd} (h:TyG s t):xB s t.at_:=LB (h _ (aqw _))
theorem LM.at_ {t:Nd} (h:LM s t):xB s t.at_:=tJ (h _ (aqw _))
theorem aaf {k a:Int} {x y:Nd} (h:xB s a) (hx:TyG s x) (hy:TyG s y):TyG s (.mk k w a [x,y]):=by
 intro n hn;rw[wD] at hn;obtain⟨j,rfl⟩:∃j,n=j+1:=⟨n-1,by omega⟩;rw[Dj];show ((decide (0<=a)&&decide (a<(s.size:Int)))&&(k==1||(Dj s j x&&Dj s j y)))=true;rw[hx j (by omega),hy j (by omega),decide_eq_true h.1,decide_eq_true h.2]
 cases (k==1)<;>rfl
theorem aag {a:Int} {x y:Nd} (h:xB s a) (hx:TyG s x) (hy:LM s y):LM s (.mk 3 w a [x,y]):=by
 intro n hn;rw[wD] at hn;obtain⟨j,rfl⟩:∃j,n=j+1:=⟨n-1,by omega⟩;rw[tO];show ((decide (0<=a)&&decide (a<(s.size:Int)))&&(((3:Int)==1)||(if(3:Int)=3 then Dj s x.size x&&tO s j y else _)))=true;rw[if_pos rfl,hx _ (aqw _),hy j (by omega),decide_eq_true h.1,decide_eq_true h.2];rfl
theorem aah {a:Int} {x y:Nd} (h:xB s a) (hx:LM s x) (hy:LM s y):LM s (.mk 4 w a [x,y]):=by
 intro n hn;rw[wD] at hn;obtain⟨j,rfl⟩:∃j,n=j+1:=⟨n-1,by omega⟩;rw[tO];show ((decide (0<=a)&&decide (a<(s.size:Int)))&&(((4:Int)==1)||(if(4:Int)=3 then _ else tO s j x&&tO s j y)))=true;rw[if_neg (by decide),hx j (by omega),hy j (by omega),decide_eq_true h.1,decide_eq_true h.2];rfl
theorem Of {f:St->Nd×St} (hf:Gn L P f):Gn L P (gS L s false f):=by
 intro st h;unfold gS at h ⊢;split at h
 ·rename_i ho;rw[if_pos ho,if_neg (by decide)];exact hf st h
 ·rename_i ho;exact(ho h).elim
theorem Og {f:St->Nd×St}:Gn L P (gS L s true f):=by
 intro st h;unfold gS at h;split at h
 ·rw[if_pos rfl,oN (by decide)] at h;cases h
 ·rename_i ho;exact(ho h).elim
theorem Fq (hp:PE L s):∀n,Gn L (TyG s) (rA L s n)
 |0=>Og
 |n+1=>by
  refine Of fun st h=>?_;have ha:=yJ hp (Fq hp n) Wz st;unfold PN at h ⊢;generalize cC L s (rA L s n) st=A at h ha ⊢;rcases yI (L:=L) (s:=s) (w:=arW) (st:=A.2) with⟨h1,h2,h3⟩|e
  ·rw[h2] at h ⊢;dsimp only at h ⊢;obtain⟨a1,a2,a3,a4⟩:=ha h1;obtain⟨_,f2,f3,f4⟩:=Fq hp n _ h;dsimp only at f3 ⊢;rw[wD];exact⟨a1,aaf a2.at_ a2 f2,by omega,f4⟩
  ·rw[e] at h ⊢;exact ha h
theorem Fs (hp:PE L s) {g:St->Nd×St} (hg:Gn L (LM s) g):∀(n:Nat) (a:Nd) (st:St),jz (mE L s g n a st).2=true->jz st=true
 |0,_,_,h=>h
 |n+1,a,st,h=>by
  rw[mE] at h;split at h
  ·exact(yJ hp hg Bl st (Fs hp hg n _ _ h)).1
  ·exact h
theorem Oh (hp:PE L s) {g:St->Nd×St} (hg:Gn L (LM s) g):∀(n:Nat) (a:Nd) (st:St),LM s a->st.1<=L.length->jz (mE L s g n a st).2=true->
  jz st=true/\LM s (mE L s g n a st).1/\2*st.1+(mE L s g n a st).1.size<=2*(mE L s g n a st).2.1+a.size/\(mE L s g n a st).2.1<=L.length
 |0,a,st,ha,hl,h=>⟨h,ha,aqw _,hl⟩
 |n+1,a,st,ha,hl,h=>by
  have hx:=yJ hp hg Bl st;have ih:=fun h1 h2=>Oh hp hg n (.mk 4 ⟨#[]⟩ a.at_ [a,(cC L s g st).1]) (cC L s g st).2 h1 h2;rw[mE] at h ⊢;split at h
  ·rename_i h1;rw[if_pos h1];generalize cC L s g st=X at h hx ih ⊢;obtain⟨x1,x2,x3,x4⟩:=hx (Fs hp hg _ _ _ h);obtain⟨_,i2,i3,i4⟩:=ih (aah ha.at_ ha x2) x4 h;rw[wD] at i3;exact⟨x1,i2,by omega,i4⟩
  ·rename_i h1;rw[if_neg h1];exact⟨h,ha,aqw _,hl⟩
theorem kn (hp:PE L s) (h:jz (bM L s st).2=true):On1 L st (bM L s st).2:=(LK hp (by decide) h).1
theorem yK (hp:PE L s):∀n,Gn L (LM s) (jq L s n)
 |0=>Og
 |n+1=>by
  refine Of fun st h=>?_;have ht:=Fq hp n;have hm:=yK hp n;generalize rA L s n=F at ht h ⊢;generalize jq L s n=G at hm h ⊢;have ha:=yJ hp hm Bl st;unfold C3 at h ⊢;rcases yI (L:=L) (s:=s) (w:=bsW) (st:=st) with⟨h1,h2,h3⟩|e
  ·rw[h2] at h ⊢;dsimp only at h ⊢;unfold VX at h ⊢;dsimp only at h ⊢;obtain⟨m1,m2,m3,m4⟩:=hm _ h;obtain⟨d1,d2,_⟩:=np m1;obtain⟨t1,t2,t3,t4⟩:=ht _ d1;obtain⟨c1,c2,_⟩:=np t1;obtain⟨w1,w2,_⟩:=kn hp c1;have e2:=congrArg Prod.fst w2;have e3:=congrArg Prod.fst c2;have e4:=congrArg Prod.fst d2;dsimp only at e2 e3 e4;rw[wD];exact⟨h1,aag (LL hp h3) t2 m2,by omega,m4⟩
  ·rw[e] at h ⊢;dsimp only at h ⊢;have hb:=fun h1 h2=>Oh hp hm (L.length+1) (cC L s G st).1 (cC L s G st).2 h1 h2 h;obtain⟨a1,a2,a3,a4⟩:=ha (Fs hp hm _ _ _ h);obtain⟨_,b2,b3,b4⟩:=hb a2 a4;exact⟨a1,b2,by omega,b4⟩
theorem WA (hp:PE L s) (h:jz (Aw L s st).2=true):On1 L st (Aw L s st).2:=(LK hp (by decide) h).1
theorem abv (hp:PE L s):∀(n:Nat) (l:List ByteArray) (st:St),jz (FC L s n l st).2=true->jz st=true/\(FC L s n l st).1.length+st.1<=(FC L s n l st).2.1+l.length/\l.length<=(FC L s n l st).1.length
 |0,l,st,h=>⟨h,asi (Nat.add_comm _ _),aqw _⟩
 |n+1,l,st,h=>by
  rw[FC] at h ⊢;split at h
  ·rename_i h1;rw[if_pos h1];obtain⟨i1,i2,i3⟩:=abv hp n _ _ h;obtain⟨w1,w2,_⟩:=kn hp i1;have:=congrArg Prod.fst w2;dsimp only at this;rw[aqz,art] at i2 i3;exact⟨w1,by omega,by omega⟩
  ·rename_i h1;rw[if_neg h1];exact⟨h,asi (Nat.add_comm _ _),aqw _⟩
theorem abw (hp:PE L s):∀(n:Nat) (l:List ByteArray) (st:St),jz (NM L s n l st).2=true->jz st=true/\(NM L s n l st).1.length+st.1<=(NM L s n l st).2.1+l.length/\l.length<=(NM L s n l st).1.length
 |0,l,st,h=>⟨h,asi (Nat.add_comm _ _),aqw _⟩
 |n+1,l,st,h=>by
  rw[NM] at h ⊢;rcases yI (L:=L) (s:=s) (w:=Cb) (st:=st) with⟨h1,h2,h3⟩|e
  ·rw[h2,if_pos rfl] at h ⊢;dsimp only at h ⊢;obtain⟨i1,i2,i3⟩:=abw hp n _ _ h;obtain⟨w1,w2,_⟩:=kn hp i1;have e1:=congrArg Prod.fst w2;dsimp only at e1;rw[aqz,art] at i2 i3;exact⟨h1,by omega,by omega⟩
  ·rw[e,if_neg (fun h=>by cases h)] at h ⊢;exact⟨h,asi (Nat.add_comm _ _),aqw _⟩
theorem vw (hp:PE L s) (h:jz (fI L s w st).2=true):jz st=true/\∃x y,(fI L s w st).1=[x,y]/\LM s x/\LM s y/\2*st.1+x.size+y.size<=2*(fI L s w st).2.1:=by
 obtain⟨y1,y2,y3,_⟩:=yK hp 60 _ h;obtain⟨m1,m2,_⟩:=np y1;obtain⟨x1,x2,x3,_⟩:=yK hp 60 _ m1;have e:=congrArg Prod.fst m2;dsimp only at e;exact⟨x1,_,_,rfl,x2,y2,by show _<=2*(jq L s 60 _).2.1;omega⟩
structure BG (s:ByteArray) (k:Int) (st:St) (B:(List ByteArray×List Nd×Int)×St):Prop where
 ok:jz st=true
 it:∀a,xB s a->Qr s ⟨k,B.1.1,B.1.2.1,B.1.2.2,a⟩
 wd:st.1+B.1.1.length<=B.2.1
 cw:k=2\/k=3->st.1+3<=B.2.1
theorem Bm (hp:PE L s) (h:jz (eB L s st).2=true):jz st=true/\(eB L s st).2.1=st.1+2:=by
 obtain⟨m1,m2,_⟩:=np h;obtain⟨w1,w2,_⟩:=kn hp m1;have e:=congrArg Prod.fst m2;have e2:=congrArg Prod.fst w2;dsimp only at e e2;exact⟨w1,by rw[show (eB L s st).2.1=(dF L s Xc (bM L s st).2).1 from rfl];omega⟩
theorem Bn (hp:PE L s) (h:jz (dV L s st).2=true):jz st=true/\(dV L s st).2.1=st.1+2:=by
 obtain⟨m1,m2,_⟩:=np h;obtain⟨w1,w2,_⟩:=WA hp m1;have e:=congrArg Prod.fst m2;have e2:=congrArg Prod.fst w2;dsimp only at e e2;exact⟨w1,by rw[show (dV L s st).2.1=(dF L s Xc (Aw L s st).2).1 from rfl];omega⟩
theorem aai (hp:PE L s) {k:Int} (hB:(cY L s k st).2.1<=10000) (h:jz (cY L s k st).2=true):BG s k st (cY L s k st):=by
 unfold cY at h hB ⊢
 by_cases k1:k=1
 ·rw[if_pos k1] at h hB ⊢;obtain⟨i1,i2,i3⟩:=abv hp _ _ _ h;obtain⟨w1,w2,_⟩:=kn hp i1;have e:=congrArg Prod.fst w2;dsimp only at e hB;have hl:st.1+(pT L s st).1.length<=(pT L s st).2.1:=by
   rw[art] at i2;show st.1+(FC _ _ _ _ _).1.length<=(FC _ _ _ _ _).2.1;omega
  refine⟨w1,fun a ha=>⟨ha,(by dsimp only;omega),fun q=>?_,fun q=>?_,fun q=>?_,fun q=>?_,fun q=>?_,fun q=>?_⟩,hl,fun q=>by omega⟩
  all_goals dsimp only at q;exfalso;omega
 rw[if_neg k1] at h hB ⊢
 by_cases k2:k=2\/k=3
 ·rw[if_pos k2] at h hB ⊢;obtain⟨t1,t2,t3,_⟩:=Fq hp 60 _ h;obtain⟨n1,n2⟩:=Bm hp t1;have hz:=(rA L s 60 (eB L s st).2).1.size_pos;change (rA L s 60 (eB L s st).2).2.1<=_ at hB;refine⟨n1,fun a ha=>⟨ha,(by show 1<=_;decide),fun q=>⟨aqw 1,aqw 1,t2 _ (aqw _),?_⟩,fun q=>?_,fun q=>?_,fun q=>?_,fun q=>?_,fun q=>?_⟩,?_,fun _=>?_⟩
  ·show (rA L s 60 (eB L s st).2).1.size<=_;omega
  iterate 5 dsimp only at q;exfalso;omega
  ·show st.1+1<=(rA L s 60 (eB L s st).2).2.1;omega
  ·show st.1+3<=(rA L s 60 (eB L s st).2).2.1;omega
 rw[if_neg k2] at h hB ⊢;have two:∀{st:St} {ws:List ByteArray} {n:Int} {w':ByteArray},(k=4\/k=5\/k=10)->ws.length<=1->(k=4\/k=5->ws.length=1)->(fI L s w' st).2.1<=10000->jz (fI L s w' st).2=true->∀a,xB s a->Qr s ⟨k,ws,(fI L s w' st).1,n,a⟩:=by
  intro st ws n w' hk hw J9 hb h a ha;obtain⟨_,x,y,e,hx,hy,hz⟩:=vw hp h;rw[e];refine⟨ha,(by dsimp only;omega),fun q=>?_,fun q=>⟨(by have:=J9 q;dsimp only;omega),aqw 2,hx _ (aqw _),hy _ (aqw _),(by show x.size<=_;omega),(by show y.size<=_;omega)⟩,fun q=>?_,fun q=>?_,fun q=>⟨aqw 2,hx _ (aqw _),hy _ (aqw _),(by show x.size<=_;omega),(by show y.size<=_;omega)⟩,fun q=>?_⟩
  all_goals dsimp only at q;exfalso;omega
 by_cases k4:k=4
 ·rw[if_pos k4] at h hB ⊢;obtain⟨t1,x,y,_,_,_,t3⟩:=vw hp h;obtain⟨n1,n2⟩:=Bm hp t1;exact⟨n1,two (.inl k4) (aqw 1) (fun _=>rfl) hB h,(by show st.1+1<=(fI L s eqW (eB L s st).2).2.1;have:=x.size_pos;omega),fun q=>by omega⟩
 rw[if_neg k4] at h hB ⊢
 by_cases k5:k=5
 ·rw[if_pos k5] at h hB ⊢;obtain⟨t1,x,y,_,_,_,t3⟩:=vw hp h;obtain⟨n1,n2⟩:=Bm hp t1;exact⟨n1,two (.inr (.inl k5)) (aqw 1) (fun _=>rfl) hB h,(by show st.1+1<=(fI L s Cb (eB L s st).2).2.1;have:=x.size_pos;omega),fun q=>by omega⟩
 rw[if_neg k5] at h hB ⊢
 by_cases k6:k=6
 ·rw[if_pos k6] at h hB ⊢;obtain⟨i1,i2,i3⟩:=abw hp _ _ _ h;obtain⟨w1,w2,_⟩:=kn hp i1;obtain⟨m1,m2,_⟩:=np w1;obtain⟨v1,v2,_⟩:=kn hp m1;have e:=congrArg Prod.fst w2;have e2:=congrArg Prod.fst m2;have e3:=congrArg Prod.fst v2;dsimp only at e e2 e3 hB;have hl:st.1+(rC L s st).1.length<=(rC L s st).2.1:=by
   simp only[aqy,aqW] at i2;show st.1+(NM _ _ _ _ _).1.length<=(NM _ _ _ _ _).2.1;omega
  refine⟨v1,fun a ha=>⟨ha,(by dsimp only;omega),fun q=>?_,fun q=>?_,fun q=>?_,fun q=>?_,fun q=>?_,fun q=>?_⟩,hl,fun q=>by omega⟩
  all_goals dsimp only at q;exfalso;omega
 rw[if_neg k6] at h hB ⊢
 by_cases k7:k=7
 ·rw[if_pos k7] at h hB ⊢;obtain⟨w1,w2,_⟩:=kn hp h;obtain⟨v1,v2,_⟩:=kn hp w1;have e:=congrArg Prod.fst w2;have e2:=congrArg Prod.fst v2;dsimp only at e e2;refine⟨v1,fun a ha=>⟨ha,(by show 2<=_;decide),fun q=>?_,fun q=>?_,fun q=>aqw 2,fun q=>?_,fun q=>?_,fun q=>?_⟩,(by show st.1+2<=(bM _ _ _).2.1;omega),fun q=>by omega⟩
  all_goals dsimp only at q;exfalso;omega
 rw[if_neg k7] at h hB ⊢
 by_cases k9:k=9
 ·rw[if_pos k9] at h hB ⊢;obtain⟨t1,t2,t3,_⟩:=yK hp 60 _ h;obtain⟨n1,n2⟩:=Bn hp t1;change (jq L s 60 (dV L s st).2).2.1<=_ at hB;refine⟨n1,fun a ha=>⟨ha,aqC _,fun q=>?_,fun q=>?_,fun q=>?_,fun q=>⟨aqw 1,t2 _ (aqw _),?_⟩,fun q=>?_,fun q=>?_⟩,?_,fun q=>by omega⟩
  iterate 3 dsimp only at q;exfalso;omega
  ·show (jq L s 60 (dV L s st).2).1.size<=_;omega
  iterate 2 dsimp only at q;exfalso;omega
  ·show st.1+0<=(jq L s 60 (dV L s st).2).2.1;omega
 rw[if_neg k9] at h hB ⊢
 by_cases LI:k=10
 ·rw[if_pos LI] at h hB ⊢;obtain⟨t1,x,y,_,_,_,t3⟩:=vw hp h;obtain⟨n1,n2⟩:=Bn hp t1;exact⟨n1,two (.inr (.inr LI)) (aqC _) (fun q=>by omega) hB h,(by show st.1+0<=(fI L s eqW (dV L s st).2).2.1;omega),fun q=>by omega⟩
 rw[if_neg LI] at h hB ⊢
 by_cases Wu:k=12
 ·rw[if_pos Wu] at h hB ⊢;obtain⟨w1,w2,_⟩:=kn hp h;have e:=congrArg Prod.fst w2;dsimp only at e;refine⟨w1,fun a ha=>⟨ha,(by show 1<=_;decide),fun q=>?_,fun q=>?_,fun q=>?_,fun q=>?_,fun q=>?_,fun q=>aqw 1⟩,(by show st.1+1<=(bM _ _ _).2.1;omega),fun q=>by omega⟩
  all_goals dsimp only at q;exfalso;omega
 rw[if_neg Wu] at h hB ⊢;obtain⟨w1,w2,_⟩:=WA hp h;have e:=congrArg Prod.fst w2;dsimp only at e;refine⟨w1,fun a ha=>⟨ha,aqC _,fun q=>?_,fun q=>?_,fun q=>?_,fun q=>?_,fun q=>?_,fun q=>?_⟩,(by show st.1+0<=(Aw _ _ _).2.1;omega),fun q=>by omega⟩
 all_goals dsimp only at q;exfalso;omega
theorem aaj (hp:PE L s) (hL:L.length<=10000) (h:jz (fS L s st).2=true):Qr s (fS L s st).1/\st.1+wwI (fS L s st).1<=(fS L s st).2.1/\st.1+5*JE (fS L s st).1<=(fS L s st).2.1/\(fS L s st).2.1<=L.length:=by
 unfold fS at h ⊢;split at h
 ·rename_i hk;rw[if_pos hk];have ha:=LL (i:=st.1) hp (u7 hp (by rw[hk.1];decide));generalize AJ (pk L s st.1).2.1=k at h ⊢;obtain⟨m1,m2,m3⟩:=np h;have e:=congrArg Prod.fst m2;dsimp only at e ⊢;have hb:=aai hp (by omega) m1;have h1:=hb.wd;have h2:=hb.cw;dsimp only at h1 h2;refine⟨hb.it _ ha,?_,?_,by omega⟩
  ·unfold wwI;dsimp only;omega
  ·unfold JE;dsimp only;split
   ·rename_i q;have:=h2 q;omega
   ·omega
 ·rw[oN (by decide)] at h;cases h
theorem Oi (x:It):∀l,nH (l++[x])=nH l+wwI x
 | []=>by simp[nH]
 |y::l=>by rw[arK,nH,nH,Oi x l];omega
theorem Oj (x:It):∀l,p7 (l++[x])=p7 l+JE x
 | []=>by simp[p7]
 |y::l=>by rw[arK,p7,p7,Oj x l];omega
theorem WB (hp:PE L s) (hL:L.length<=10000):∀(n:Nat) (l:List It) (st:St),(∀x∈l,Qr s x)->nH l<=st.1->5*p7 l<=st.1->st.1<=L.length->jz (oE L s n l st).2=true->
  (∀x∈(oE L s n l st).1,Qr s x)/\nH (oE L s n l st).1<=L.length/\5*p7 (oE L s n l st).1<=L.length
 |0,l,st,h1,h2,h3,h4,h=>⟨h1,aqU h2 h4,aqU h3 h4⟩
 |n+1,l,st,h1,h2,h3,h4,h=>by
  rw[oE] at h ⊢;split at h
  ·rename_i c;rw[if_pos c];split at h
   ·rw[oN (by decide)] at h;cases h
   ·rename_i c2;rw[if_neg c2];have ho:jz (fS L s st).2=true:=by
     revert h
     cases n with
     |zero=>exact id
     |succ n=>
      intro h;rw[oE] at h;split at h
      ·rename_i c3;rw[aqv] at c3;exact c3.1
      ·exact h
    obtain⟨i1,i2,i3,i4⟩:=aaj hp hL ho;refine WB hp hL n _ _ (fun x hx=>?_) (by rw[Oi];omega) (by rw[Oj];omega) i4 h;rcases aq7.1 hx with hx|hx
    ·exact h1 x hx
    ·rw[aqJ.1 hx];exact i1
  ·rename_i c;rw[if_neg c];exact⟨h1,aqU h2 h4,aqU h3 h4⟩
theorem Dn {s:ByteArray} (hs:s.size<=10000):(∀x∈(dN s).1,Qr s x)/\nH (dN s).1<=s.size/\5*p7 (dN s).1<=s.size:=by
 have no:(∀x∈([]:List It),Qr s x)/\nH []<=s.size/\5*p7 []<=s.size:=⟨(fun x h=>by cases h),aqC _,aqC _⟩;have hl:(da s).1.length<=s.size:=by
  rw[da,if_neg (by omega),VL];split
  ·exact(EY (s:=s) (s.size+1) 0 [] (aqC _) (aqw _) fun t ht=>by cases ht).1
  ·exact aqC _
 have hp:=(Iq (s:=s)).resolve_right fun h=>by omega
 unfold dN;split
 ·split
  ·rename_i h1;generalize (da s).1=L at *;have ho:jz (oE L s (L.length+2) [] (0,pL)).2=true:=by
    unfold tz at h1;split at h1
    ·exact h1
    ·rw[oN (by decide)] at h1;cases h1
   obtain⟨a,b,c⟩:=WB hp (by omega) _ [] (0,pL) (fun x h=>by cases h) (aqw 0) (aqw 0) (aqC _) ho;exact⟨a,aqU b hl,aqU c hl⟩
  ·exact no
 ·exact no
end
inductive La where
 |var (i:Nat)
 |sO (k i:Int)
 |lam (t:Ty) (b:La)
 |app (f a:La)
def upR (ρ:Nat->Nat):Nat->Nat
 |0=>0
 |i+1=>ρ i+1
def La.fb:La->(Nat->Nat)->La
 | .var i,ρ=>.var (ρ i)
 | .sO k i,_=>.sO k i
 | .lam t b,ρ=>.lam t (b.fb (upR ρ))
 | .app f a,ρ=>.app (f.fb ρ) (a.fb ρ)
def up (σ:Nat->La):Nat->La
 |0=>.var 0
 |i+1=>(σ i).fb (·+1)
def La.sub:La->(Nat->La)->La
 | .var i,σ=>σ i
 | .sO k i,_=>.sO k i
 | .lam t b,σ=>.lam t (b.sub (up σ))
 | .app f a,σ=>.app (f.sub σ) (a.sub σ)
theorem La.jv:∀(t:La) {ρ uc:Nat->Nat},(∀i,ρ i=uc i)->t.fb ρ=t.fb uc
 | .var i,_,_,h=>by rw[La.fb,La.fb,h]
 | .sO k i,_,_,h=>rfl
 | .lam t b,ρ,uc,h=>by
  rw[La.fb,La.fb,La.jv b];intro i;cases i with
  |zero=>rfl
  |succ i=>show ρ i+1=uc i+1;rw[h]
 | .app f a,_,_,h=>by rw[La.fb,La.fb,La.jv f h,La.jv a h]
theorem La.dR:∀(t:La) {σ τ:Nat->La},(∀i,σ i=τ i)->t.sub σ=t.sub τ
 | .var i,_,_,h=>h i
 | .sO k i,_,_,h=>rfl
 | .lam t b,σ,τ,h=>by
  rw[La.sub,La.sub,La.dR b];intro i;cases i with
  |zero=>rfl
  |succ i=>show (σ i).fb _=(τ i).fb _;rw[h]
 | .app f a,_,_,h=>by rw[La.sub,La.sub,La.dR f h,La.dR a h]
theorem La.ko:∀(t:La) (ρ uc:Nat->Nat),(t.fb ρ).fb uc=t.fb (fun i=>uc (ρ i))
 | .var i,_,_=>rfl
 | .sO k i,_,_=>rfl
 | .lam t b,ρ,uc=>by
  rw[La.fb,La.fb,La.fb,La.ko b]
  congr 1
  exact La.jv b fun i=>by cases i<;>rfl
 | .app f a,_,_=>by rw[La.fb,La.fb,La.fb,La.ko f,La.ko a]
theorem La.jw:∀(t:La) (ρ:Nat->Nat) (σ:Nat->La),(t.fb ρ).sub σ=t.sub (fun i=>σ (ρ i))
 | .var i,_,_=>rfl
 | .sO k i,_,_=>rfl
 | .lam t b,ρ,σ=>by
  rw[La.fb,La.sub,La.sub,La.jw b]
  congr 1
  exact La.dR b fun i=>by cases i<;>rfl
 | .app f a,_,_=>by rw[La.fb,La.sub,La.sub,La.jw f,La.jw a]
theorem La.vy:∀(t:La) (σ:Nat->La) (ρ:Nat->Nat),(t.sub σ).fb ρ=t.sub (fun i=>(σ i).fb ρ)
 | .var i,_,_=>rfl
 | .sO k i,_,_=>rfl
 | .lam t b,σ,ρ=>by
  rw[La.sub,La.fb,La.sub,La.vy b]
  congr 1
  refine La.dR b fun i=>?_
  cases i with
  |zero=>rfl
  |succ i=>show ((σ i).fb _).fb _=((σ i).fb _).fb _;rw[La.ko,La.ko];exact La.jv _ fun j=>rfl
 | .app f a,_,_=>by rw[La.sub,La.fb,La.sub,La.vy f,La.vy a]
theorem La.sub_sub:∀(t:La) (σ τ:Nat->La),(t.sub σ).sub τ=t.sub (fun i=>(σ i).sub τ)
 | .var i,_,_=>rfl
 | .sO k i,_,_=>rfl
 | .lam t b,σ,τ=>by
  rw[La.sub,La.sub,La.sub,La.sub_sub b]
  congr 1
  refine La.dR b fun i=>?_
  cases i with
  |zero=>rfl
  |succ i=>show ((σ i).fb _).sub _=((σ i).sub _).fb _;rw[La.jw,La.vy];exact La.dR _ fun j=>rfl
 | .app f a,_,_=>by rw[La.sub,La.sub,La.sub,La.sub_sub f,La.sub_sub a]
theorem La.lF:∀(t:La),t.sub .var=t
 | .var i=>rfl
 | .sO k i=>rfl
 | .lam t b=>by
  rw[La.sub]
  congr 1
  exact(La.dR b fun i=>by cases i<;>rfl).trans (La.lF b)
 | .app f a=>by rw[La.sub,La.lF f,La.lF a]
theorem La.Bo (t:La) {ρ:Nat->Nat} (h:∀i,ρ i=i):t.fb ρ=t:=by
 have e:=La.jw t ρ .var;rw[La.lF] at e;rw[e];exact(La.dR t fun i=>by rw[h]).trans (La.lF t)
theorem La.tL (t:La) (ρ:Nat->Nat):t.fb ρ=t.sub (fun i=>.var (ρ i)):=by
 have e:=La.jw t ρ .var;rw[La.lF] at e;exact e
def one (a:La):Nat->La
 |0=>a
 |i+1=>.var i
inductive Conv:La->La->Prop
 |beta (t:Ty) (b a:La):Conv (.app (.lam t b) a) (b.sub (one a))
 |refl (a:La):Conv a a
 |symm {a b:La}:Conv a b->Conv b a
 |trans {a b c:La}:Conv a b->Conv b c->Conv a c
 |lam {t:Ty} {a b:La}:Conv a b->Conv (.lam t a) (.lam t b)
 |app {f g a b:La}:Conv f g->Conv a b->Conv (.app f a) (.app g b)
theorem Conv.of_eq {a b:La} (h:a=b):Conv a b:=h ▸ .refl a
theorem I8 (b a:La) (σ:Nat->La):(b.sub (one a)).sub σ=(b.sub (up σ)).sub (one (a.sub σ)):=by
 rw[La.sub_sub,La.sub_sub];refine La.dR b fun i=>?_
 cases i with
 |zero=>rfl
 |succ i=>
  show σ i=((σ i).fb _).sub _;rw[La.jw];exact(La.lF (σ i)).symm
theorem Conv.sub {a b:La} (h:Conv a b):∀σ,Conv (a.sub σ) (b.sub σ):=by
 induction h with
 |beta t b a=>intro σ;rw[I8];exact .beta t _ _
 |refl a=>intro σ;exact .refl _
 |symm _ ih=>intro σ;exact(ih σ).symm
 |trans _ _ BD Dp=>intro σ;exact(BD σ).trans (Dp σ)
 |lam _ ih=>intro σ;exact .lam (ih _)
 |app _ _ BD Dp=>intro σ;exact .app (BD σ) (Dp σ)
theorem Conv.fb {a b:La} (h:Conv a b) (ρ:Nat->Nat):Conv (a.fb ρ) (b.fb ρ):=by rw[La.tL,La.tL];exact h.sub _
theorem Conv.up {σ τ:Nat->La} (h:∀i,Conv (σ i) (τ i)):∀i,Conv (up σ i) (up τ i)
 |0=>.refl _
 |i+1=>(h i).fb _
inductive mL:La->La->Prop
 |var (i:Nat):mL (.var i) (.var i)
 |sO (k i:Int):mL (.sO k i) (.sO k i)
 |lam {t:Ty} {a b:La}:mL a b->mL (.lam t a) (.lam t b)
 |app {f g a b:La}:mL f g->mL a b->mL (.app f a) (.app g b)
 |beta {t:Ty} {b c a d:La}:mL b c->mL a d->mL (.app (.lam t b) a) (c.sub (one d))
theorem mL.refl:∀(a:La),mL a a
 | .var i=>.var i
 | .sO k i=>.sO k i
 | .lam t b=>.lam (mL.refl b)
 | .app f a=>.app (mL.refl f) (mL.refl a)
theorem mL.aiD {a b:La} (h:mL a b):∀{σ τ:Nat->La},(∀i,mL (σ i) (τ i))->(∀i (ρ:Nat->Nat),mL ((σ i).fb ρ) ((τ i).fb ρ))->mL (a.sub σ) (b.sub τ):=by
 have upP:∀{σ τ:Nat->La},(∀i (ρ:Nat->Nat),mL ((σ i).fb ρ) ((τ i).fb ρ))->(∀i,mL (up σ i) (up τ i))/\∀i (ρ:Nat->Nat),mL ((up σ i).fb ρ) ((up τ i).fb ρ):=by
  intro σ τ h;refine⟨fun i=>?_,fun i ρ=>?_⟩
  ·cases i with
   |zero=>exact .var 0
   |succ i=>exact h i _
  ·cases i with
   |zero=>exact .var _
   |succ i=>show mL (((σ i).fb _).fb _) (((τ i).fb _).fb _);rw[La.ko,La.ko];exact h i _
 induction h with
 |var i=>intro σ τ h1 h2;exact h1 i
 |sO k i=>intro σ τ h1 h2;exact .sO k i
 |lam _ ih=>intro σ τ h1 h2;exact .lam (ih (upP h2).1 (upP h2).2)
 |app _ _ BD Dp=>intro σ τ h1 h2;exact .app (BD h1 h2) (Dp h1 h2)
 |beta _ _ BD Dp=>intro σ τ h1 h2;rw[I8];exact .beta (BD (upP h2).1 (upP h2).2) (Dp h1 h2)
theorem mL.fb {a b:La} (h:mL a b) (ρ:Nat->Nat):mL (a.fb ρ) (b.fb ρ):=by
 rw[La.tL,La.tL];exact h.aiD (fun i=>.var _) fun i ρ=>.var _
theorem mL.sub {a b:La} (h:mL a b) {σ τ:Nat->La} (hs:∀i,mL (σ i) (τ i)):mL (a.sub σ) (b.sub τ):=h.aiD hs fun i ρ=>(hs i).fb ρ
theorem mL.one {a b:La} (h:mL a b):∀i,mL (one a i) (one b i)
 |0=>h
 |i+1=>.var i
def La.dev:La->La
 | .var i=>.var i
 | .sO k i=>.sO k i
 | .lam t b=>.lam t b.dev
 | .app (.lam _ b) a=>b.dev.sub (Go.Proofs.YtnkjkpmbgoehkaaGreat.one a.dev)
 | .app (.var i) a=>.app (.var i) a.dev
 | .app (.sO k i) a=>.app (.sO k i) a.dev
 | .app (.app f b) a=>.app (La.dev (.app f b)) a.dev
theorem mL.dev {a b:La} (h:mL a b):mL b a.dev:=by
 induction h with
 |var i=>exact .var i
 |sO k i=>exact .sO k i
 |lam _ ih=>exact .lam ih
 |app h1 _ BD Dp=>
  rename_i f g a b h2
  cases f with
  |var i=>exact .app BD Dp
  |sO k i=>exact .app BD Dp
  |app f b=>exact .app BD Dp
  |lam t c=>
   cases h1 with
   |lam h1=>
    cases BD with
    |lam BD=>exact .beta BD Dp
 |beta _ _ BD Dp=>exact BD.sub Dp.one
inductive kK:La->La->Prop
 |refl (a:La):kK a a
 |step {a b c:La}:mL a b->kK b c->kK a c
theorem kK.strip {a b c:La} (h:kK a c) (hb:mL a b):∃d,kK b d/\mL c d:=by
 induction h generalizing b with
 |refl a=>exact⟨b,.refl b,hb⟩
 |step h1 _ ih=>
  obtain⟨d,h3,h4⟩:=ih h1.dev;exact⟨d,.step hb.dev h3,h4⟩
theorem kK.trans {a b c:La} (h:kK a b) (g:kK b c):kK a c:=by
 induction h with
 |refl=>exact g
 |step h1 _ ih=>exact .step h1 (ih g)
theorem kK.meet {a b c:La} (h:kK a b) (g:kK a c):∃d,kK b d/\kK c d:=by
 induction h generalizing c with
 |refl a=>exact⟨c,g,.refl c⟩
 |step h1 _ ih=>
  obtain⟨d,h3,h4⟩:=g.strip h1;obtain⟨e,h5,h6⟩:=ih h3;exact⟨e,h5,.step h4 h6⟩
theorem kK.lam {t:Ty} {a b:La} (h:kK a b):kK (.lam t a) (.lam t b):=by
 induction h with
 |refl=>exact .refl _
 |step h1 _ ih=>exact .step (.lam h1) ih
theorem kK.app {f g a b:La} (h:kK f g) (k:kK a b):kK (.app f a) (.app g b):=by
 induction h with
 |refl f=>
  induction k with
  |refl=>exact .refl _
  |step h1 _ ih=>exact .step (.app (mL.refl f) h1) ih
 |step h1 _ ih=>exact .step (.app h1 (mL.refl _)) ih
theorem Conv.meet {a b:La} (h:Conv a b):∃d,kK a d/\kK b d:=by
 induction h with
 |beta t b a=>exact⟨_,.step (.beta (mL.refl b) (mL.refl a)) (.refl _),.refl _⟩
 |refl a=>exact⟨a,.refl a,.refl a⟩
 |symm _ ih=>obtain⟨d,h1,h2⟩:=ih;exact⟨d,h2,h1⟩
 |trans _ _ BD Dp=>
  obtain⟨d,h1,h2⟩:=BD;obtain⟨e,h3,h4⟩:=Dp;obtain⟨f,h5,h6⟩:=h2.meet h3;exact⟨f,h1.trans h5,h4.trans h6⟩
 |lam _ ih=>obtain⟨d,h1,h2⟩:=ih;exact⟨_,h1.lam,h2.lam⟩
 |app _ _ BD Dp=>
  obtain⟨d,h1,h2⟩:=BD;obtain⟨e,h3,h4⟩:=Dp;exact⟨_,h1.app h3,h2.app h4⟩
def La.abx:La->Bool
 | .lam _ _=>true
 |_=>false
def La.nf:La->Prop
 | .var _=>True
 | .sO _ _=>True
 | .lam _ b=>b.nf
 | .app f a=>f.abx=false/\f.nf/\a.nf
theorem mL.nf {a b:La} (h:mL a b):a.nf->b=a:=by
 induction h with
 |var=>intro _;rfl
 |sO=>intro _;rfl
 |lam _ ih=>intro h;rw[ih h]
 |app _ _ BD Dp=>intro h;rw[BD h.2.1,Dp h.2.2]
 |beta _ _ _ _=>intro h;cases h.1
theorem kK.nf {a b:La} (h:kK a b) (hn:a.nf):b=a:=by
 induction h with
 |refl=>rfl
 |step h1 _ ih=>
  have e:=h1.nf hn;subst e;exact ih hn
theorem Conv.nf {a b:La} (h:Conv a b) (ha:a.nf) (hb:b.nf):a=b:=by
 obtain⟨d,h1,h2⟩:=h.meet;rw[<-h1.nf ha,h2.nf hb]
def apps (h:La) (l:List La):La:=l.foldl .app h
def iS (bs:List Ty) (b:La):La:=bs.foldr .lam b
theorem sj (h a:La) (l:List La):apps h (a::l)=apps (.app h a) l:=rfl
theorem ke (t:Ty) (bs:List Ty) (b:La):iS (t::bs) b=.lam t (iS bs b):=rfl
theorem oO (σ:Nat->La):∀(l:List La) (h:La),(apps h l).sub σ=apps (h.sub σ) (l.map (·.sub σ))
 | [],h=>rfl
 |a::l,h=>by rw[sj,oO σ l];rfl
theorem Bp (ρ:Nat->Nat):∀(l:List La) (h:La),(apps h l).fb ρ=apps (h.fb ρ) (l.map (·.fb ρ))
 | [],h=>rfl
 |a::l,h=>by rw[sj,Bp ρ l];rfl
def rN (n:Nat) (ρ:Nat->Nat):Nat->Nat:=fun i=>if i<n then i else ρ (i-n)+n
def yL (n:Nat) (σ:Nat->La):Nat->La:=fun i=>if i<n then .var i else(σ (i-n)).fb (·+n)
theorem Qs (n:Nat) (ρ:Nat->Nat) (i:Nat):rN n (upR ρ) i=rN (n+1) ρ i:=by
 unfold rN
 by_cases h:i<n
 ·rw[if_pos h,if_pos (by omega)]
 ·rw[if_neg h]
  by_cases h2:i=n
  ·subst h2;rw[if_pos (by omega),arO];show 0+i=i;omega
  ·rw[if_neg (by omega),show i-n=(i-(n+1))+1 from by omega];show ρ (i-(n+1))+1+n=_;omega
theorem WC (n:Nat) (σ:Nat->La) (i:Nat):yL n (up σ) i=yL (n+1) σ i:=by
 unfold yL
 by_cases h:i<n
 ·rw[if_pos h,if_pos (by omega)]
 ·rw[if_neg h]
  by_cases h2:i=n
  ·subst h2;rw[if_pos (by omega),arO];show La.var (0+i)=La.var i;rw[aqV]
  ·rw[if_neg (by omega),show i-n=(i-(n+1))+1 from by omega];show ((σ (i-(n+1))).fb _).fb _=_;rw[La.ko];exact La.jv _ fun j=>by omega
theorem vz:∀(bs:List Ty) (b:La) (ρ:Nat->Nat),(iS bs b).fb ρ=iS bs (b.fb (rN bs.length ρ))
 | [],b,ρ=>(La.jv b fun i=>by unfold rN;simp)
 |t::bs,b,ρ=>by
  rw[ke,La.fb,vz bs,ke]
  congr 2
  exact La.jv b fun i=>Qs _ _ _
theorem rO:∀(bs:List Ty) (b:La) (σ:Nat->La),(iS bs b).sub σ=iS bs (b.sub (yL bs.length σ))
 | [],b,σ=>(La.dR b fun i=>by
   unfold yL;simp only[aqW,asj,if_false,asl]
   exact(La.Bo _ fun i=>rfl).symm)
 |t::bs,b,σ=>by
  rw[ke,La.sub,rO bs,ke]
  congr 2
  exact La.dR b fun i=>WC _ _ _
theorem Conv.iS {a b:La} (h:Conv a b):∀(bs:List Ty),Conv (iS bs a) (iS bs b)
 | []=>h
 |t::bs=>.lam (h.iS bs)
inductive oP:List La->List La->Prop
 |nil:oP [] []
 |cons {a b:La} {l m:List La}:Conv a b->oP l m->oP (a::l) (b::m)
theorem oP.refl:∀(l:List La),oP l l
 | []=>.nil
 |a::l=>.cons (.refl a) (oP.refl l)
theorem Conv.apps {l m:List La} (h:oP l m):∀{f g:La},Conv f g->Conv (apps f l) (apps g m):=by
 induction h with
 |nil=>intro f g h;exact h
 |cons h1 _ ih=>intro f g h;exact ih (.app h h1)
def iz (us:List La) (n:Nat):Nat->La:=fun v=>if v<n-us.length then .var v else if v<n then(us.getD (n-1-v) (.var 0)).fb (·+(n-us.length)) else .var (v-us.length)
theorem WD (n v:Nat):iz [] n v=.var v:=by
 unfold iz
 by_cases h:v<n
 ·rw[if_pos (by simpa using h)]
 ·rw[if_neg (by simpa using h),if_neg h];rfl
theorem lR:∀(us:List La) (bs:List Ty) (b:La),us.length<=bs.length->Conv (apps (iS bs b) us) (iS (bs.drop us.length) (b.sub (iz us bs.length)))
 | [],bs,b,_=>.of_eq (by
   show iS bs b=iS bs _
   congr 1
   exact((La.dR b fun i=>WD _ i).trans (La.lF b)).symm)
 |u::us,[],b,h=>by simp at h
 |u::us,t::bs,b,h=>by
  have hl:us.length<=bs.length:=by simpa using h
  rw[sj,ke];refine(Conv.apps (oP.refl us) (.beta t (iS bs b) u)).trans ?_;rw[rO];refine(lR us bs _ hl).trans (.of_eq ?_);rw[aqy,aqy,List.drop_succ_cons,La.sub_sub]
  congr 1
  refine La.dR b fun i=>?_;unfold yL
  by_cases h1:i<bs.length
  ·rw[if_pos h1];show iz us bs.length i=iz (u::us) (bs.length+1) i;unfold iz;rw[aqy,show bs.length+1-(us.length+1)=bs.length-us.length from by omega,if_pos (show i<bs.length+1 from by omega),if_pos h1]
   by_cases h2:i<bs.length-us.length
   ·rw[if_pos h2,if_pos h2]
   ·rw[if_neg h2,if_neg h2,show bs.length+1-1-i=(bs.length-1-i)+1 from by omega];rfl
  ·rw[if_neg h1]
   by_cases h2:i=bs.length
   ·subst h2;rw[arO];show (u.fb _).sub _=iz (u::us) (bs.length+1) bs.length;rw[La.jw];unfold iz;rw[aqy,show bs.length+1-(us.length+1)=bs.length-us.length from by omega,if_neg (by omega),if_pos (show bs.length<bs.length+1 from by omega),show bs.length+1-1-bs.length=0 from by omega];show _=u.fb _;rw[La.tL];refine La.dR u fun j=>?_;rw[if_neg (by omega),if_neg (by omega)]
    congr 1;omega
   ·rw[show i-bs.length=(i-bs.length-1)+1 from by omega];show iz us bs.length (i-bs.length-1+bs.length)=iz (u::us) (bs.length+1) i;unfold iz;rw[aqy,if_neg (by omega),if_neg (by omega),if_neg (by omega),if_neg (by omega)]
    congr 1;omega
theorem Ol:∀(l:List La) (h:La),h.abx=false->h.nf->(∀a∈l,La.nf a)->(apps h l).nf
 | [],h,_,hn,_=>hn
 |a::l,h,hl,hn,ha=>Ol l (.app h a) rfl ⟨hl,hn,ha a aqG⟩ fun b hb=>ha b (aqI _ hb)
theorem Om {b:La} (h:b.nf):∀(bs:List Ty),(iS bs b).nf
 | []=>h
 |t::bs=>Om h bs
def mR (k i:Int):La:=if k=0 then .var i.toNat else .sO k i
mutual
def Tm.la:Tm->La
 | .mk bs k i l=>iS bs (apps (mR k i) (Tm.kL l))
def Tm.kL:List Tm->List La
 | []=>[]
 |t::l=>Tm.la t::Tm.kL l
end
theorem Tm.rP:∀(l:List Tm),Tm.kL l=l.map Tm.la
 | []=>rfl
 |t::l=>by rw[Tm.kL,Tm.rP l];rfl
theorem Tm.On (t:Tm):t.la=iS t.binds (apps (mR t.kind t.index) (t.args.map Tm.la)):=by cases t;rw[Tm.la,Tm.rP];rfl
mutual
def Tm.Sc:Nat->Tm->Prop
 |N,.mk bs k i l=>(k=0->0<=i/\i<((N+bs.length:Nat):Int))/\Tm.Oo (N+bs.length) l
def Tm.Oo:Nat->List Tm->Prop
 |_,[]=>True
 |N,t::l=>Tm.Sc N t/\Tm.Oo N l
end
theorem Tm.Bq {N:Nat} {t:Tm}:t.Sc N↔(t.kind=0->0<=t.index/\t.index<((N+t.binds.length:Nat):Int))/\Tm.Oo (N+t.binds.length) t.args:=by cases t;exact ase
theorem Tm.Oq {N:Nat} {l:List Tm}:Tm.Oo N l↔∀t∈l,t.Sc N:=by
 induction l with
 |nil=>exact⟨fun _ t h=>(by cases h),fun _=>ai⟩
 |cons u l ih=>
  rw[Tm.Oo,ih];exact⟨fun⟨h1,h2⟩ t ht=>(aqZ.1 ht).elim (fun h=>h▸h1) (h2 t),fun h=>⟨h u aqG,fun t ht=>h t (aqI _ ht)⟩⟩
def LN (d b:Nat):Nat->Nat:=fun j=>if j<d then j else j+b
theorem Ot (n d b j:Nat):rN n (LN d b) j=LN (d+n) b j:=by
 unfold rN LN
 by_cases h:j<n
 ·rw[if_pos h,if_pos (by omega)]
 ·rw[if_neg h]
  by_cases h2:j-n<d
  ·rw[if_pos h2,if_pos (by omega)];omega
  ·rw[if_neg h2,if_neg (by omega)];omega
theorem Ou (k i:Int) (ρ:Nat->Nat):(mR k i).fb ρ=if k=0 then .var (ρ i.toNat) else .sO k i:=by
 unfold mR;split<;>rfl
mutual
theorem Ov {B b:Nat}:∀(t:Tm) (d N:Nat),t.Lo B->t.Sc N->N+B*t.nodes+b<=9000000000000000000->(t.lift b d).la=t.la.fb (LN d b)/\(t.lift b d).Sc (N+b)
 | .mk bs k i l,d,N,gW,hsc,hb=>by
  obtain⟨⟨h1,h2⟩,⟨h3,h4⟩,h5⟩:=gW;obtain⟨h6,h7⟩:=hsc;have YO:=Ty.aO bs;rw[Tm.nodes,Nat.mul_add,arG] at hb;obtain⟨g1,g2⟩:=I9 (b:=b) l (d+bs.length) (N+bs.length) h5 h7 (by omega);rw[Tm.lift,Tm.la,Tm.la,vz,Bp,Ou];constructor
  ·rw[g1]
   congr 2
   ·unfold mR
    by_cases hk:k=0
    ·obtain⟨h8,h9⟩:=h6 hk;rw[if_pos hk,if_pos hk,Ot];unfold LN
     by_cases hi:((d+bs.length:Nat):Int)<=i
     ·rw[if_pos ⟨hk,hi⟩,ba (by omega) (by omega),if_neg (by omega)];congr 1;omega
     ·rw[if_neg (fun h=>hi h.2),if_pos (by omega)]
    ·rw[if_neg hk,if_neg hk,if_neg (fun h=>hk h.1)]
   ·exact arD fun a _=>La.jv a fun j=>(Ot _ _ _ _).symm
  ·refine⟨fun hk=>?_,?_⟩
   ·obtain⟨h8,h9⟩:=h6 hk
    by_cases hi:((d+bs.length:Nat):Int)<=i
    ·rw[if_pos ⟨hk,hi⟩,ba (by omega) (by omega)];omega
    ·rw[if_neg (fun h=>hi h.2)];omega
   ·rw[show N+b+bs.length=N+bs.length+b from by omega];exact g2
theorem I9 {B b:Nat}:∀(l:List Tm) (d N:Nat),Tm.tD B l->Tm.Oo N l->N+B*Tm.dA l+b<=9000000000000000000->Tm.kL (Tm.rG b d l)=(Tm.kL l).map (·.fb (LN d b))/\Tm.Oo (N+b) (Tm.rG b d l)
 | [],d,N,_,_,_=>⟨rfl,ai⟩
 |t::l,d,N,gW,hsc,hb=>by
  rw[Tm.dA,Nat.mul_add] at hb;obtain⟨g1,g2⟩:=Ov (b:=b) t d N gW.1 hsc.1 (by omega);obtain⟨g3,g4⟩:=I9 (b:=b) l d N gW.2 hsc.2 (by omega);rw[Tm.rG,Tm.kL,Tm.kL,g1,g3];exact⟨rfl,g2,g4⟩
end
theorem Ja (σ:Nat->La) (i:Nat):yL 0 σ i=σ i:=by
 unfold yL;simp only[asj,if_false,asl];exact La.Bo _ fun i=>rfl
theorem aak (n d:Nat) (σ:Nat->La) (i:Nat):yL n (yL d σ) i=yL (d+n) σ i:=by
 unfold yL
 by_cases h:i<n
 ·rw[if_pos h,if_pos (by omega)]
 ·rw[if_neg h]
  by_cases h2:i-n<d
  ·rw[if_pos h2,if_pos (by omega)];show La.var (i-n+n)=_;congr 1;omega
  ·rw[if_neg h2,if_neg (by omega),La.ko,show i-n-d=i-(d+n) from by omega];exact La.jv _ fun j=>by omega
theorem xI {g:Mt->Tm->Mt×Tm} (hg:AY g) {σ:Nat->La} {N:Nat}:∀(l:List Tm) (m:Mt),m.count<=100000->(∀t∈l,∀m:Mt,m.count<=100000->(g m t).1.err=0->Conv (t.la.sub σ) (g m t).2.la/\(g m t).2.Sc N)->(cd g m l).1.err=0->
  oP ((Tm.kL l).map (·.sub σ)) (Tm.kL (cd g m l).2)/\Tm.Oo N (cd g m l).2
 | [],m,_,_,_=>⟨.nil,ai⟩
 |t::l,m,hm,h,he=>by
  rw[cd] at he ⊢;simp only at he ⊢;have h1:=h t aqG m hm ((iN hg l _).ok he);have h2:=xI hg l (g m t).1 ((hg m t).pY hm) (fun u hu=>h u (aqI _ hu)) he;exact⟨.cons h1.1 h2.1,h1.2,h2.2⟩
theorem WE {l:List Tm} {k:Nat} (h:k<l.length):(Tm.kL l).getD k (.var 0)=l[k].la:=by
 rw[Tm.rP,aru,aqE,aqx h];rfl
theorem p8 (l:List Tm):(Tm.kL l).length=l.length:=by rw[Tm.rP,aqu]
theorem wE {B:Nat} (hB:B<=1000000):∀(f:Nat) (m:Mt) (k i:Int) (args us:List Tm) (n D G:Nat),m.count<=100000->lO k->lO i->args.length<=B->Tm.tD B args->Tm.tD B us->us.length<=n->n<=B->(∀t∈us,t.nodes<=1000000000)->
  (k=0->0<=i/\i<((D+n+G:Nat):Int))->Tm.Oo (D+n+G) args->Tm.Oo G us->G+D+n+B*f<=4000000000000000000->(bC f m k i args us n D).1.err=0->
  Conv ((apps (mR k i) (Tm.kL args)).sub (yL D (iz (Tm.kL us) n))) (bC f m k i args us n D).2.la/\(bC f m k i args us n D).2.Sc (D+(n-us.length)+G)
 |0,m,k,i,args,us,n,D,G,_,_,_,_,_,_,_,_,_,_,_,_,_,he=>by
  rw[bC] at he;simp only at he;split at he
  ·cases he
  ·rename_i h;exact(h he).elim
 |f+1,m,k,i,args,us,n,D,G,hm,hk,hi,hla,gW,sW,jA,hnB,hnd,NH,hsa,hsu,hK,he=>by
  have hmul:B*(f+1)=B*f+B:=Nat.mul_succ _ _;rw[bC] at he ⊢;split at he
  ·rename_i h1;exact((kb h1).1 he).elim
  rename_i h1;rw[if_neg h1];obtain⟨g0,g1,g2,g3⟩:=mF (by simpa using h1);have kA:=mH f us n D;have FD:=iN kA args m.one.1;have Fy:m.one.1.count<=100000:=(Mt.wA m).pY hm;have jr:=kI (B:=B) kA args m.one.1 (fun t ht m' ada Cs=>by
   have fZ:=Tm.fu.1 (Tm.gp.1 gW t ht);have:=gG (B:=B) f m' t.kind t.index t.args us n (D+t.binds.length) fZ.2.1.1 fZ.2.1.2 fZ.1.2 fZ.2.2 sW jA Cs;have hq:=Tm.fu.1 this.1.lo;have NV:=this.1.nodes;rw[Tm.ft] at NV
   exact⟨by unfold ct;rw[Tm.ft,Tm.gn];exact NV,Tm.fu.2 ⟨⟨fZ.1.1,hq.1.2⟩,hq.2⟩⟩)
  have Ow:=xI kA (σ:=yL D (iz (Tm.kL us) n)) (N:=D+(n-us.length)+G) args m.one.1 Fy (fun t ht m' qA Cs=>by
   have fZ:=Tm.fu.1 (Tm.gp.1 gW t ht);have aiE:=Tm.Bq.1 (Tm.Oq.1 hsa t ht);have YO:=Ty.aO t.binds;have hf:=gG (B:=B) f m' t.kind t.index t.args us n (D+t.binds.length) fZ.2.1.1 fZ.2.1.2 fZ.1.2 fZ.2.2 sW jA Cs;have hb:=wE hB f m' t.kind t.index t.args us n (D+t.binds.length) G qA fZ.2.1.1 fZ.2.1.2 fZ.1.2 fZ.2.2 sW jA hnB hnd
    (fun h=>by have:=aiE.1 h;omega) (by rw[show D+t.binds.length+n+G=D+n+G+t.binds.length from by omega];exact aiE.2) hsu (by omega) Cs
   unfold ct;generalize (bC f m' t.kind t.index t.args us n (D+t.binds.length)).2=R at hf hb;obtain⟨rb,rk,ri,ra⟩:=R;obtain⟨ui,K8⟩:=hb;have yf:rb=[]:=hf.2;subst yf;refine⟨?_,?_⟩
   ·rw[Tm.On t,rO,<-Tm.rP];show Conv _ (iS t.binds (apps (mR rk ri) (Tm.kL ra)));refine Conv.iS ?_ _;refine Conv.trans (.of_eq (La.dR _ fun j=>?_)) ui;exact aak _ _ _ _
   ·have K8:=Tm.Bq.1 K8;refine Tm.Bq.2 ?_;simp only[Tm.ox,Tm.uX,Tm.rj,Tm.gn,aqW,arw] at K8 ⊢;rw[show D+(n-us.length)+G+t.binds.length=D+t.binds.length+(n-us.length)+G from by omega]
    exact K8)
  have hlen:=mG (g:=ct (bC f) us n D) args m.one.1;generalize cd (ct (bC f) us n D) m.one.1 args=r at he FD jr hlen Ow;rw[oO];have adp:=p8 us;have hσ:∀j,yL D (iz (Tm.kL us) n) j=if j<D then .var j else(iz (Tm.kL us) n (j-D)).fb (·+D):=fun j=>rfl;unfold AW at he ⊢;split at he
  ·rename_i h2;exact(h2 he).elim
  rename_i h2;have h2:r.1.err=0:=by simpa using h2
  obtain⟨q1,q2⟩:=jr h2;obtain⟨c1,c2⟩:=Ow h2;rw[if_neg (by simp[h2])];have fin:∀i':Int,Conv ((mR k i).sub (yL D (iz (Tm.kL us) n))) (mR k i')->(k=0->0<=i'/\i' < ((D+(n-us.length)+G:Nat):Int))->Conv (apps ((mR k i).sub (yL D (iz (Tm.kL us) n))) ((Tm.kL args).map (·.sub (yL D (iz (Tm.kL us) n))))) (Tm.mk [] k i' r.2).la/\(Tm.mk [] k i' r.2).Sc (D+(n-us.length)+G):=by
   intro i' g1 g2;rw[Tm.la];exact⟨Conv.apps c1 g1,⟨by simpa using g2,by simpa using c2⟩⟩
  split at he
  ·rename_i h3;rw[if_pos h3]
   by_cases rR:k=0
   ·have hid:i<D:=h3.resolve_left (fun h=>h rR);have hs:=NH rR;refine fin i (.of_eq ?_) (fun _=>by omega);unfold mR;rw[if_pos rR,La.sub,hσ,if_pos (by omega)]
   ·refine fin i (.of_eq ?_) (fun h=>(rR h).elim);unfold mR;rw[if_neg rR,La.sub]
  rename_i h3;rw[if_neg h3];have rR:k=0:=asa fun hc=>h3 (.inl hc);have hDi:¬i<D:=fun h=>h3 (.inr h);have hs:=NH rR;have hj:mR k i=.var i.toNat:=by unfold mR;rw[if_pos rR]
  split at he
  ·rename_i h4;rw[if_pos h4];refine fin _ (.of_eq ?_) (fun _=>by omega);rw[hj,La.sub,hσ,if_neg (by omega)];unfold iz mR;rw[if_pos rR,adp,if_neg (by omega),if_neg (by omega)];show La.var (i.toNat-D-us.length+D)=_
   congr 1;omega
  rename_i h4;rw[if_neg h4];split at he
  ·rename_i h5;rw[if_pos h5];refine fin i (.of_eq ?_) (fun _=>by omega);rw[hj,La.sub,hσ,if_neg (by omega)];unfold iz;rw[adp,if_pos (by omega)];show La.var (i.toNat-D+D)=_
   congr 1;omega
  rename_i h5;rw[if_neg h5];split at he
  ·cases he
  rename_i h6;rw[if_neg h6];have h6:(bN us i n D).binds.length=r.2.length:=by simpa using h6
  have aH:n-1-(i-D).toNat<us.length:=by omega
  have sS:bN us i n D=us[n-1-(i-D).toNat].lift (D+n-us.length) 0:=by
   unfold bN;rw[aru,aqx aH];rfl
  have F4:=aqL aH;have hBn:B*us[n-1-(i-D).toNat].nodes<=1000000*1000000000:=arT hB (hnd _ F4);obtain⟨l1,l2⟩:=Ov (b:=D+n-us.length) us[n-1-(i-D).toNat] 0 G (Tm.gp.1 sW _ F4) (Tm.Oq.1 hsu _ F4) (by omega);rw[<-sS] at l1 l2;have Cg:=Tm.fu.1 (se sW i n D);have hsb:=Ty.aO (bN us i n D).binds;have aiF:(mR k i).sub (yL D (iz (Tm.kL us) n))=(bN us i n D).la:=by
   rw[hj,La.sub,hσ,if_neg (by omega)];unfold iz;rw[adp,if_neg (by omega),if_pos (by omega),show n-1-(i.toNat-D)=n-1-(i-D).toNat from by omega,WE aH,La.ko,l1];exact La.jv _ fun j=>by unfold LN;rw[if_neg (by omega)];omega
  rw[aiF];generalize bN us i n D=st at *;have l2:=Tm.Bq.1 l2;have Qd:r.1.count<=100000:=FD.pY Fy;have Br:=wE hB f r.1 st.kind st.index st.args r.2 st.binds.length 0 (D+(n-us.length)+G) Qd Cg.2.1.1 Cg.2.1.2 Cg.1.2 Cg.2.2 q2 (by omega) (by omega) (fun t ht=>by
   have h1:=Tm.pX ht
   omega) (fun h=>by have:=l2.1 h;omega) (by rw[show 0+st.binds.length+(D+(n-us.length)+G)=G+(D+n-us.length)+st.binds.length from by omega];exact l2.2) c2 (by omega) he
  rw[show 0+(st.binds.length-r.2.length)+(D+(n-us.length)+G)=D+(n-us.length)+G from by omega] at Br;refine⟨?_,Br.2⟩;refine Conv.trans (Conv.apps c1 (.refl _)) ?_;rw[Tm.On st];refine Conv.trans (lR _ _ _ (by rw[p8];omega)) ?_;rw[p8,<-h6,ar0,<-Tm.rP];show Conv (La.sub _ _) _;refine Conv.trans (.of_eq (La.dR _ fun j=>?_)) Br.1;exact(Ja _ _).symm
theorem WG {B:Nat} (hB:B<=1000000) {f:Nat} {m:Mt} {t:Tm} {us:List Tm} {G:Nat} (hm:m.count<=100000) (ht:t.Lo B) (sW:Tm.tD B us) (hnd:∀t∈us,t.nodes<=1000000000) (sS:t.Sc G) (hsu:Tm.Oo G us) (hK:G+B+B*f<=4000000000000000000)
  (he:(gF f m t us).1.err=0):Conv (apps t.la (Tm.kL us)) (gF f m t us).2.la/\(gF f m t us).2.Sc G:=by
 have gW:=Tm.fu.1 ht;have hsc:=Tm.Bq.1 sS;have YO:=Ty.aO t.binds;unfold gF at he ⊢;split at he
 ·rename_i h;exact(h he).elim
 rename_i h;rw[if_neg h];split at he
 ·cases he
 rename_i h2;rw[if_neg h2];have hf:=gG (B:=B) f m t.kind t.index t.args us t.binds.length 0 gW.2.1.1 gW.2.1.2 gW.1.2 gW.2.2 sW (by omega) he;have hb:=wE hB f m t.kind t.index t.args us t.binds.length 0 G hm gW.2.1.1 gW.2.1.2 gW.1.2 gW.2.2 sW (by omega) (by omega) hnd (fun h=>by have:=hsc.1 h;omega) (by rw[show 0+t.binds.length+G=G+t.binds.length from by omega];exact hsc.2) hsu (by omega) he;generalize bC f m t.kind t.index t.args us t.binds.length 0=Q at hf hb;obtain⟨qm,rb,rk,ri,ra⟩:=Q;obtain⟨ui,K8⟩:=hb;have yf:rb=[]:=hf.2;subst yf;constructor
 ·rw[Tm.On t];refine Conv.trans (lR _ _ _ (by rw[p8];omega)) ?_;rw[p8,<-Tm.rP];show Conv _ (iS (t.binds.drop us.length) (apps (mR rk ri) (Tm.kL ra)));refine Conv.iS ?_ _;refine Conv.trans (.of_eq (La.dR _ fun j=>?_)) ui;exact(Ja _ _).symm
 ·have K8:=Tm.Bq.1 K8;refine Tm.Bq.2 ?_;simp only[Tm.ox,Tm.uX,Tm.rj,Tm.gn,aqW,arw,aqY,aqV] at K8 ⊢;rw[show G+(t.binds.length-us.length)=t.binds.length-us.length+G from by omega];exact K8
mutual
theorem Tm.WH:∀(t:Tm),t.la.nf
 | .mk bs k i l=>by
  rw[Tm.la];refine Om (Ol _ _ ?_ ?_ (Tm.WJ l)) _
  ·unfold mR;split<;>rfl
  ·unfold mR;split<;>exact ai
theorem Tm.WJ:∀(l:List Tm),∀a∈Tm.kL l,La.nf a
 | [],a,h=>by cases h
 |t::l,a,h=>by
  rw[Tm.kL] at h;rcases aqZ.1 h with rfl|h
  ·exact Tm.WH t
  ·exact Tm.WJ l a h
end
theorem oQ (h:La) (l:List La) (a:La):apps h (l++[a])=.app (apps h l) a:=by rw[apps,List.foldl_append];rfl
theorem Ox {k i:Int} {f a:La} (h:mR k i=.app f a):False:=by
 unfold mR at h
 split at h<;>cases h
theorem aan {k i:Int} {t:Ty} {b:La} (h:mR k i=.lam t b):False:=by
 unfold mR at h
 split at h<;>cases h
theorem Jb {k i k' i':Int} (h0:k=0->0<=i) (h0':k'=0->0<=i'):∀(l m:List La),apps (mR k i) l.reverse=apps (mR k' i') m.reverse->(k=k'/\i=i')/\l=m
 | [],[],h=>by
  refine⟨?_,rfl⟩;have h:mR k i=mR k' i':=h;unfold mR at h;split at h
  ·rename_i hk;split at h
   ·rename_i yP;have:=h0 hk;have:=h0' yP;have h:=La.var.inj h;exact⟨by omega,by omega⟩
   ·cases h
  ·split at h
   ·cases h
   ·exact⟨(La.sO.inj h).1,(La.sO.inj h).2⟩
 |a::l,[],h=>by
  rw[asc,oQ] at h;exact(Ox h.symm).elim
 | [],b::m,h=>by
  rw[asc,oQ] at h;exact(Ox h).elim
 |a::l,b::m,h=>by
  rw[asc,asc,oQ,oQ] at h;obtain⟨h1,h2⟩:=La.app.inj h;obtain⟨g1,g2⟩:=Jb h0 h0' l m h1;exact⟨g1,by rw[g2,h2]⟩
theorem Qt {k i k' i':Int} (h0:k=0->0<=i) (h0':k'=0->0<=i') {l m:List La} (h:apps (mR k i) l=apps (mR k' i') m):(k=k'/\i=i')/\l=m:=by
 have:=Jb h0 h0' l.reverse m.reverse (by rw[ar8,ar8];exact h);exact⟨this.1,by rw[<-ar8 l,this.2,ar8]⟩
theorem Qu {k i:Int} {t:Ty} {b:La}:∀(l:List La),apps (mR k i) l.reverse=.lam t b->False
 | [],h=>aan h
 |a::l,h=>by
  rw[asc,oQ] at h;cases h
theorem Jc {k i:Int} (l:List La) {t:Ty} {b:La} (h:apps (mR k i) l=.lam t b):False:=Qu l.reverse (by rw[ar8];exact h)
theorem Jd {k i k' i':Int} {l m:List La}:∀(bs cs:List Ty),iS bs (apps (mR k i) l)=iS cs (apps (mR k' i') m)->bs=cs/\apps (mR k i) l=apps (mR k' i') m
 | [],[],h=>⟨rfl,h⟩
 |t::bs,[],h=>(Jc m h.symm).elim
 | [],t::cs,h=>(Jc l h).elim
 |t::bs,u::cs,h=>by
  obtain⟨h1,h2⟩:=La.lam.inj h;obtain⟨g1,g2⟩:=Jd bs cs h2;exact⟨by rw[h1,g1],g2⟩
mutual
theorem Tm.WK:∀(t u:Tm) (N M:Nat),t.Sc N->u.Sc M->t.la=u.la->t=u
 | .mk bs k i l,.mk cs k' i' m,N,M,hs,hs',h=>by
  rw[Tm.la,Tm.la] at h;obtain⟨h1,h2⟩:=Jd _ _ h;obtain⟨⟨h3,h4⟩,h5⟩:=Qt (fun hk=>(hs.1 hk).1) (fun hk=>(hs'.1 hk).1) h2;rw[h1,h3,h4,Tm.Oy l m _ _ hs.2 hs'.2 h5]
theorem Tm.Oy:∀(l m:List Tm) (N M:Nat),Tm.Oo N l->Tm.Oo M m->Tm.kL l=Tm.kL m->l=m
 | [],[],_,_,_,_,_=>rfl
 | [],_::_,_,_,_,_,h=>by simp[Tm.kL] at h
 |_::_,[],_,_,_,_,h=>by simp[Tm.kL] at h
 |t::l,u::m,N,M,hs,hs',h=>by
  rw[Tm.kL,Tm.kL] at h;obtain⟨h1,h2⟩:=List.cons.inj h;rw[Tm.WK t u N M hs.1 hs'.1 h1,Tm.Oy l m N M hs.2 hs'.2 h2]
end
theorem aao {t u:Tm} {N M:Nat} (ht:t.Sc N) (hu:u.Sc M) (h:Conv t.la u.la):t=u:=Tm.WK t u N M ht hu (h.nf t.WH u.WH)
mutual
def Tm.Is (c m:List Ty):List Ty->Tm->Ty->Prop
 |x,.mk bs k i l,of=>bs=of.args/\∃h,bp c m (x++bs) k i=some h/\h.base=of.base/\Tm.tP c m (x++bs) l h.args
def Tm.tP (c m:List Ty):List Ty->List Tm->List Ty->Prop
 |_,[],[]=>True
 |x,t::l,u::us=>Tm.Is c m x t u/\Tm.tP c m x l us
 |_,_,_=>False
end
theorem Tm.xJ {c m x:List Ty} {t:Tm} {of:Ty}:t.Is c m x of↔t.binds=of.args/\∃h,bp c m (x++t.binds) t.kind t.index=some h/\h.base=of.base/\Tm.tP c m (x++t.binds) t.args h.args:=by cases t;exact ase
mutual
theorem Tm.WL (c m:List Ty):∀(t:Tm) (x:List Ty) (of:Ty),t.QO c m x of=true↔t.Is c m x of
 | .mk bs k i l,x,of=>by
  rw[Tm.QO,Tm.Is,aqv,Ty.jT];refine and_congr_right fun _=>?_
  cases bp c m (x++bs) k i with
  |none=>exact⟨fun h=>(by cases h),fun⟨_,h,_⟩=>(by cases h)⟩
  |some u=>
   dsimp only;rw[aqv,aqv,beq_iff_eq,beq_iff_eq];refine⟨fun⟨h1,h2,h3⟩=>⟨u,rfl,h1,(Tm.yM c m l _ _).1 ⟨h2.symm,h3⟩⟩,fun⟨u',h1,h2,h3⟩=>?_⟩
   cases aqs h1
   obtain⟨g1,g2⟩:=(Tm.yM c m l _ _).2 h3;exact⟨h2,g1.symm,g2⟩
theorem Tm.yM (c m:List Ty):∀(l:List Tm) (x us:List Ty),(l.length=us.length/\Tm.AE c m x l us=true)↔Tm.tP c m x l us
 | [],x,[]=>by simp[Tm.AE,Tm.tP]
 | [],x,u::us=>by simp[Tm.tP]
 |t::l,x,[]=>by simp[Tm.tP]
 |t::l,x,u::us=>by
  rw[Tm.AE,Tm.tP,aqv,Tm.WL c m t,<-Tm.yM c m l,aqy,aqy];exact⟨fun⟨h1,h2,h3⟩=>⟨h2,by omega,h3⟩,fun⟨h1,h2,h3⟩=>⟨by omega,h1,h3⟩⟩
end
theorem Tm.yN {c m:List Ty}:∀{l:List Tm} {x us:List Ty},Tm.tP c m x l us->l.length=us.length:=fun {l x us} h=>((Tm.yM c m l x us).2 h).1
theorem kf (c m x:List Ty) (i:Nat):bp c m x 0 (i:Int)=if i<x.length then x[x.length-1-i]? else none:=by
 unfold bp;rw[if_neg (by omega),if_pos rfl,arv]
 by_cases h:i<x.length
 ·rw[if_pos h,if_pos (by omega)]
 ·rw[if_neg h,if_neg (by omega)]
theorem cP (c m x bs:List Ty) (i:Nat):bp c m (x++bs) 0 (i:Int)=if i<bs.length then bp c m bs 0 i else bp c m x 0 ((i-bs.length:Nat):Int):=by
 rw[kf,kf,kf,aqz]
 by_cases h:i<bs.length
 ·rw[if_pos h,if_pos h,if_pos (by omega),aq5 (by omega)]
  congr 1;omega
 ·rw[if_neg h]
  by_cases h2:i-bs.length<x.length
  ·rw[if_pos h2,if_pos (by omega),aqD (by omega)]
   congr 1;omega
  ·rw[if_neg h2,if_neg (by omega)]
theorem fJ {c m x:List Ty} {i:Int} {u:Ty} (h:bp c m x 0 i=some u):0<=i/\i.toNat<x.length/\x[x.length-1-i.toNat]?=some u:=by
 unfold bp at h;split at h
 ·cases h
 ·rw[if_pos rfl] at h;split at h
  ·exact⟨by omega,by omega,h⟩
  ·cases h
theorem tM {c m x y:List Ty} {k i:Int} (hk:k≠0):bp c m x k i=bp c m y k i:=by
 unfold bp;rw[if_neg hk,if_neg hk]
mutual
def p9:Ty->La->La
 | .mk l _,u=>iS l (apps (u.fb (·+l.length)) (jx l.length 0 l))
def jx (n:Nat):Nat->List Ty->List La
 |_,[]=>[]
 |j,t::r=>p9 t (.var (n-1-j))::jx n (j+1) r
end
theorem LO (t:Ty) (u:La):p9 t u=iS t.args (apps (u.fb (·+t.args.length)) (jx t.args.length 0 t.args)):=by cases t;rw[p9];rfl
theorem rQ (n:Nat):∀(l:List Ty) (j:Nat),(jx n j l).length=l.length
 | [],_=>rfl
 |t::l,j=>by rw[jx,aqy,aqy,rQ n l]
theorem Je (n:Nat):∀(l:List Ty) (j k:Nat) (h:k<l.length) (d:La),(jx n j l).getD k d=p9 l[k] (.var (n-1-(j+k)))
 |t::l,j,0,_,d=>by rw[jx];rfl
 |t::l,j,k+1,h,d=>by
  rw[jx,List.getD_cons_succ,Je n l (j+1) k (by simpa using h),List.getElem_cons_succ,show j+1+k=j+(k+1) by omega]
mutual
theorem Ft:∀(t:Ty) (u:La) (σ:Nat->La),(p9 t u).sub σ=p9 t (u.sub σ)
 | .mk l b,u,σ=>by
  rw[p9,p9,rO,oO,Jf l l.length 0 _ (fun i hi=>by unfold yL;rw[if_pos hi]) (by omega),La.jw,La.vy]
  congr 2
  refine La.dR u fun i=>?_;unfold yL;rw[if_neg (by omega),show i+l.length-l.length=i from by omega]
theorem Jf:∀(l:List Ty) (n j:Nat) (σ:Nat->La),(∀i,i<n->σ i=.var i)->j+l.length<=n->(jx n j l).map (·.sub σ)=jx n j l
 | [],n,j,σ,_,_=>rfl
 |t::l,n,j,σ,h,hj=>by
  rw[aqy] at hj;rw[jx,aqS,Ft t,Jf l n (j+1) σ h (by omega),La.sub,h _ (by omega)]
end
theorem Fu (t:Ty) (u:La) (ρ:Nat->Nat):(p9 t u).fb ρ=p9 t (u.fb ρ):=by rw[La.tL,Ft,La.tL]
mutual
theorem Oz:∀(t:Ty) (k i:Int),(k=0->0<=i/\i<4000000000000000000)->t.size<=4000000000000000000->(oC k i t).la=p9 t (mR k i)
 | .mk l b,k,i,h0,hs=>by
  have hl:=Ty.aO l;rw[Ty.size] at hs;rw[oC,Tm.la,p9,Jg l l.length 0 (by omega) (by omega) (by omega)]
  congr 2
  rw[Ou];unfold mR
  by_cases hk:k=0
  ·have:=h0 hk;rw[if_pos hk,if_pos hk,if_pos hk,ba (by omega) (by omega)]
   congr 1;omega
  ·rw[if_neg hk,if_neg hk,if_neg hk]
theorem Jg:∀(l:List Ty) (n j:Nat),j+l.length<=n->n<=4000000000000000000->Ty.sizes l<=4000000000000000000->Tm.kL (iw n j l)=jx n j l
 | [],n,j,_,_,_=>rfl
 |t::l,n,j,hj,hn,hs=>by
  rw[aqy] at hj;rw[Ty.sizes] at hs;rw[iw,Tm.kL,jx,Oz t 0 _ (fun _=>⟨by omega,by omega⟩) (by omega),Jg l n (j+1) (by omega) (by omega) (by omega)]
  congr 2
  unfold mR;rw[if_pos rfl]
  congr 1;omega
end
def Qv:List Ty->List La->List La
 |t::l,u::us=>p9 t u::Qv l us
 |_,_=>[]
theorem Bs (us:List La):∀(l:List Ty) (j:Nat),j+l.length=us.length->(jx us.length j l).map (·.sub (iz us us.length))=Qv l (us.drop j)
 | [],j,h=>by rw[jx,Qv];rfl;intro _ _ _ _ h;cases h
 |t::l,j,h=>by
  rw[aqy] at h;rw[jx,aqS,Bs us l (j+1) (by omega),aqB (show j<us.length by omega),Qv,Ft,La.sub]
  congr 2
  unfold iz;rw[if_neg (by omega),if_pos (by omega),show us.length-1-(us.length-1-j)=j from by omega,aru,aqx (show j<us.length by omega)];exact La.Bo _ fun i=>by omega
def aap (c m:List Ty) (s:Nat):Prop:=∀(B:Ty),B.size<s->∀(x:List Ty) (t:Tm),t.Is c m x B->Conv (p9 B t.la) t.la
theorem Bt {c m:List Ty} {s:Nat} (hK:aap c m s) (ρ:Nat->Nat) (x:List Ty):∀(l:List Tm) (us:List Ty),Tm.tP c m x l us->(∀u∈us,u.size<s)->oP (Qv us ((Tm.kL l).map (·.fb ρ))) ((Tm.kL l).map (·.fb ρ))
 | [],[],_,_=>.nil
 |t::l,u::us,h,hu=>by
  rw[Tm.kL,aqS,Qv];refine .cons ?_ (Bt hK ρ x l us h.2 fun v hv=>hu v (aqI _ hv));rw[<-Fu];exact(hK u (hu u aqG) x t h.1).fb ρ
 | [],_::_,h,_=>h.elim
 |_::_,[],h,_=>h.elim
def WM (c m:List Ty) (s:Nat) (x:List Ty) (σ:Nat->La) (ρ:Nat->Nat):Prop:=∀(i:Nat) (A:Ty),bp c m x 0 (i:Int)=some A->σ i=.var (ρ i)\/A.size<=s/\σ i=p9 A (.var (ρ i))
theorem WM.up {c m:List Ty} {s:Nat} {x:List Ty} {σ:Nat->La} {ρ:Nat->Nat} (h:WM c m s x σ ρ) (bs:List Ty):WM c m s (x++bs) (yL bs.length σ) (rN bs.length ρ):=by
 intro i A hA;rw[cP] at hA;unfold yL rN;split at hA
 ·rename_i hi;rw[if_pos hi,if_pos hi];exact .inl rfl
 ·rename_i hi;rw[if_neg hi,if_neg hi];rcases h _ _ hA with h|⟨h1,h2⟩
  ·rw[h];exact .inl rfl
  ·rw[h2,Fu];exact .inr ⟨h1,rfl⟩
mutual
theorem Jh {c m:List Ty} {s:Nat} (hK:aap c m s):∀(t:Tm) (x:List Ty) (of:Ty) (σ:Nat->La) (ρ:Nat->Nat),t.Is c m x of->WM c m s x σ ρ->Conv (t.la.sub σ) (t.la.fb ρ)
 | .mk bs k i l,x,of,σ,ρ,ht,hσ=>by
  obtain⟨h1,u,h2,h3,h4⟩:=ht;rw[Tm.la,rO,vz,oO,Bp];refine Conv.iS ?_ bs;have hup:=hσ.up bs;have hl:=Dq hK l (x++bs) u.args _ _ h4 hup;have hlen:=Tm.yN h4;generalize yL bs.length σ=σ' at hup hl;generalize rN bs.length ρ=uc at hup hl
  by_cases hk:k=0
  ·subst hk;have hi:=fJ h2;rw[show i=((i.toNat:Nat):Int) from by omega] at h2;have hh:mR 0 i=.var i.toNat:=by unfold mR;rw[if_pos rfl]
   rw[hh];rcases hup _ _ h2 with h|⟨h5,h⟩
   ·exact Conv.apps hl (.of_eq h)
   ·show Conv (apps (σ' i.toNat) _) (apps (.var (uc i.toNat)) _);rw[h];refine(Conv.apps hl (.refl _)).trans ?_;have hz:=Bt hK uc (x++bs) l u.args h4 (fun v hv=>by
     have:=Ty.cV hv;have:=u.size_eq
     omega)
    have hn:((Tm.kL l).map (·.fb uc)).length=u.args.length:=by rw[aqu,p8,hlen]
    generalize (Tm.kL l).map (·.fb uc)=us at hz hn;rw[LO];refine(lR us u.args _ (by omega)).trans ?_;rw[<-hn,hn,ar0,oO,<-hn,Bs us u.args 0 (by omega),arX];refine Conv.apps hz (.of_eq ?_);show iz us us.length (uc i.toNat+us.length)=_;unfold iz;rw[if_neg (by omega),if_neg (by omega)]
    congr 1;omega
  ·have hh:mR k i=.sO k i:=by unfold mR;rw[if_neg hk]
   rw[hh];exact Conv.apps hl (.refl _)
theorem Dq {c m:List Ty} {s:Nat} (hK:aap c m s):∀(l:List Tm) (x us:List Ty) (σ:Nat->La) (ρ:Nat->Nat),Tm.tP c m x l us->WM c m s x σ ρ->oP ((Tm.kL l).map (·.sub σ)) ((Tm.kL l).map (·.fb ρ))
 | [],x,[],σ,ρ,_,_=>.nil
 |t::l,x,u::us,σ,ρ,h,hσ=>by
  rw[Tm.kL,aqS,aqS];exact .cons (Jh hK t x u σ ρ h.1 hσ) (Dq hK l x us σ ρ h.2 hσ)
 | [],_,_::_,_,_,h,_=>h.elim
 |_::_,_,[],_,_,h,_=>h.elim
end
theorem Dr (c m:List Ty):∀(s:Nat),aap c m s
 |0=>fun B h=>(by omega)
 |s+1=>by
  intro B hB x t ht;have hK:=Dr c m s;obtain⟨bs,k,i,l⟩:=t;obtain⟨h1,u,h2,h3,h4⟩:=ht;subst h1;have hBs:=B.size_eq;rw[Tm.la,LO,vz];generalize hbs:B.args=bs at *;refine Conv.iS ?_ bs;refine(lR _ bs _ (by rw[rQ];omega)).trans ?_;rw[rQ,ar0,La.jw];have hb:Tm.Is c m (x++bs) (.mk [] k i l) (.mk [] u.base):=⟨rfl,u,by rw[aqR];exact h2,rfl,by rw[aqR];exact h4⟩;have:=Jh hK (.mk [] k i l) (x++bs) _ (fun j=>iz (jx bs.length 0 bs) bs.length (rN bs.length (·+bs.length) j)) id hb (fun j A hA=>by
   rw[cP] at hA;show iz (jx bs.length 0 bs) bs.length (rN bs.length (·+bs.length) j)=La.var j\/_/\iz (jx bs.length 0 bs) bs.length (rN bs.length (·+bs.length) j)=p9 A (.var j);split at hA
   ·rename_i hj;have e:rN bs.length (·+bs.length) j=j:=by unfold rN;rw[if_pos hj]
    rw[e];unfold iz;rw[rQ];obtain⟨_,g2,g3⟩:=fJ hA;rw[arv] at g2 g3;rw[aqx (by omega)] at g3;have g3:=aqs g3;have:=Ty.cV (aqL (show bs.length-1-j<bs.length by omega));refine .inr ⟨by rw[<-g3];omega,?_⟩;rw[if_neg (by omega),if_pos hj,Je _ _ _ _ (by omega),g3,Fu]
    congr 1
    show La.var (bs.length-1-(0+(bs.length-1-j))+(bs.length-bs.length))=La.var j
    congr 1;omega
   ·rename_i hj;refine .inl ?_;have e:rN bs.length (·+bs.length) j=j+bs.length:=by unfold rN;rw[if_neg hj];show j-bs.length+bs.length+bs.length=_;omega
    rw[e];have hl:=rQ bs.length bs 0;unfold iz;rw[if_neg (by omega),if_neg (by omega)]
    congr 1;omega)
  rw[Tm.la,La.Bo (ρ:=id) _ (fun _=>rfl)] at this;exact this
mutual
theorem Ji {c m:List Ty}:∀(t:Tm) (x:List Ty) (of:Ty),t.Is c m x of->t.Sc x.length
 | .mk bs k i l,x,of,h=>by
  obtain⟨h1,u,h2,h3,h4⟩:=h;have:=OA l (x++bs) u.args h4;rw[aqz] at this;refine⟨fun hk=>?_,this⟩;subst hk;have:=fJ h2;rw[aqz] at this;omega
theorem OA {c m:List Ty}:∀(l:List Tm) (x us:List Ty),Tm.tP c m x l us->Tm.Oo x.length l
 | [],x,us,_=>ai
 |t::l,x,u::us,h=>⟨Ji t x u h.1,OA l x us h.2⟩
 |_::_,_,[],h=>h.elim
end
theorem Jj {c m g e d:List Ty} {k i:Int} {u:Ty} (h:bp c m (g++d) k i=some u):bp c m (g++e++d) k (if k=0/\((d.length:Nat):Int)<=i then i+(e.length:Nat) else i)=some u:=by
 by_cases hk:k=0
 ·subst hk;obtain⟨h1,h2,_⟩:=fJ h;obtain⟨j,rfl⟩:∃j:Nat,i=j:=⟨i.toNat,by omega⟩;rw[cP] at h
  by_cases hj:j<d.length
  ·rw[if_pos hj] at h;rw[if_neg (show ¬((0:Int)=0/\((d.length:Nat):Int)<=(j:Int)) by omega),cP,if_pos hj];exact h
  ·rw[if_neg hj] at h;rw[if_pos (show (0:Int)=0/\((d.length:Nat):Int)<=(j:Int) by omega),show ((j:Int)+(e.length:Nat))=((j+e.length:Nat):Int) by omega,cP,if_neg (by omega),cP,if_neg (by omega),show j+e.length-d.length-e.length=j-d.length by omega];exact h
 ·rw[if_neg (fun h=>hk h.1),tM (y:=g++d) hk];exact h
mutual
theorem OB {c m:List Ty} {B:Nat}:∀(t:Tm) (g e d:List Ty) (of:Ty),t.Lo B->t.Is c m (g++d) of->g.length+e.length+d.length+B*t.nodes<=9000000000000000000->(t.lift e.length d.length).Is c m (g++e++d) of
 | .mk bs k i l,g,e,d,of,gW,h,hb=>by
  obtain⟨⟨q1,q2⟩,⟨q3,q4⟩,q5⟩:=gW;obtain⟨h1,u,h2,h3,h4⟩:=h;have YO:=Ty.aO bs;rw[Tm.nodes,Nat.mul_add,arG] at hb;have hl:=Jk l g e (d++bs) u.args q5 (by rw[<-aqT];exact h4) (by rw[aqz];omega);have hh:=Jj (e:=e) (show bp c m (g++(d++bs)) k i=some u by rw[<-aqT];exact h2);rw[aqz] at hl hh;rw[Tm.lift];refine⟨h1,u,?_,h3,by rw[<-aqT] at hl;exact hl⟩;rw[<-aqT] at hh;rw[<-hh]
  congr 1
  by_cases hk:k=0/\((d.length+bs.length:Nat):Int)<=i
  ·rw[if_pos hk,if_pos hk];obtain⟨hk,JA⟩:=hk;subst hk;have:=fJ h2;rw[aqz,aqz] at this;exact ba (by omega) (by omega)
  ·rw[if_neg hk,if_neg hk]
theorem Jk {c m:List Ty} {B:Nat}:∀(l:List Tm) (g e d us:List Ty),Tm.tD B l->Tm.tP c m (g++d) l us->g.length+e.length+d.length+B*Tm.dA l<=9000000000000000000->Tm.tP c m (g++e++d) (Tm.rG e.length d.length l) us
 | [],g,e,d,[],_,_,_=>ai
 |t::l,g,e,d,u::us,gW,h,hb=>by
  rw[Tm.dA,Nat.mul_add] at hb;exact⟨OB t g e d u gW.1 h.1 (by omega),Jk l g e d us gW.2 h.2 (by omega)⟩
 | [],_,_,_,_::_,_,h,_=>h.elim
 |_::_,_,_,_,[],_,h,_=>h.elim
end
theorem yO {m:Mt} (h:m.one.1.err=1):m.err=1:=by
 unfold Mt.one at h;split at h
 ·exact h
 ·split at h
  ·simp at h
  ·split at h
   ·simp at h
   ·exact h
theorem wF:∀(n:Nat) {m:Mt},(m.ee n).1.err=1->m.err=1
 |0,m,h=>h
 |n+1,m,h=>by
  rw[Mt.ee] at h;split at h
  ·exact yO (wF n h)
  ·exact yO h
theorem Ds {c m:List Ty} {g:Mt->Tm->Mt×Tm} (hg:AY g) {x y:List Ty}:∀(l:List Tm) (us:List Ty) (mt:Mt),mt.count<=100000->Tm.tP c m x l us->(∀t∈l,∀u,t.Is c m x u->∀mt:Mt,mt.count<=100000->((g mt t).1.err=0->(g mt t).2.Is c m y u)/\((g mt t).1.err=1->mt.err=1))->
  ((cd g mt l).1.err=0->Tm.tP c m y (cd g mt l).2 us)/\((cd g mt l).1.err=1->mt.err=1)
 | [],[],mt,_,_,_=>⟨fun _=>ai,fun h=>h⟩
 |t::l,u::us,mt,hm,h,hp=>by
  rw[cd];have h1:=hp t aqG u h.1 mt hm;have h2:=Ds hg l us (g mt t).1 ((hg mt t).pY hm) h.2 fun v hv=>hp v (aqI _ hv);exact⟨fun he=>⟨h1.1 ((iN hg l _).ok he),h2.1 he⟩,fun he=>h1.2 (h2.2 he)⟩
 | [],_::_,_,_,h,_=>h.elim
 |_::_,[],_,_,h,_=>h.elim
theorem OC {c m:List Ty}:∀{l:List Tm} {x us:List Ty} {k:Nat} (h:Tm.tP c m x l us) (h1:k<l.length) (h2:k<us.length),Tm.Is c m x l[k] us[k]
 |t::l,x,u::us,0,h,_,_=>h.1
 |t::l,x,u::us,k+1,h,h1,h2=>OC (k:=k) h.2 (by simpa using h1) (by simpa using h2)
theorem Fv {B:Nat} (hB:B<=1000000) {c m:List Ty}:∀(f:Nat) (mt:Mt) (k i:Int) (args us:List Tm) (z bs ds:List Ty) (h:Ty),mt.count<=100000->lO k->lO i->args.length<=B->Tm.tD B args->Tm.tD B us->us.length<=bs.length->bs.length<=B->(∀t∈us,t.nodes<=1000000000)->
  bp c m (z++bs++ds) k i=some h->Tm.tP c m (z++bs++ds) args h.args->Tm.tP c m z us (bs.take us.length)->z.length+ds.length+bs.length+B*f<=4000000000000000000->
  ((bC f mt k i args us bs.length ds.length).1.err=0->(bC f mt k i args us bs.length ds.length).2.Is c m (z++bs.drop us.length++ds) (.mk [] h.base))/\((bC f mt k i args us bs.length ds.length).1.err=1->mt.err=1)
 |0,mt,k,i,args,us,z,bs,ds,h,_,_,_,_,_,_,_,_,_,_,_,_,_=>by
  rw[bC];simp only
  by_cases h:mt.err=0
  ·rw[if_pos h];exact⟨fun h=>(by simp at h),fun h=>(by simp at h)⟩
  ·rw[if_neg h];exact⟨fun h'=>(h h').elim,fun h=>h⟩
 |f+1,mt,k,i,args,us,z,bs,ds,h,hm,hk,hi,hla,gW,sW,jA,hnB,hnd,hh,ha,hu,hK=>by
  have hmul:B*(f+1)=B*f+B:=Nat.mul_succ _ _;rw[bC];split
  ·rename_i h1;exact⟨fun he=>((kb h1).1 he).elim,fun he=>yO he⟩
  rename_i h1;obtain⟨g0,g1,g2,g3⟩:=mF (by simpa using h1);have kA:=mH f us bs.length ds.length;have FD:=iN kA args mt.one.1;have Fy:mt.one.1.count<=100000:=(Mt.wA mt).pY hm;have jr:=kI (B:=B) kA args mt.one.1 (fun t ht m' ada Cs=>by
   have fZ:=Tm.fu.1 (Tm.gp.1 gW t ht);have:=gG (B:=B) f m' t.kind t.index t.args us bs.length (ds.length+t.binds.length) fZ.2.1.1 fZ.2.1.2 fZ.1.2 fZ.2.2 sW jA Cs;have hq:=Tm.fu.1 this.1.lo;have NV:=this.1.nodes;rw[Tm.ft] at NV
   exact⟨by unfold ct;rw[Tm.ft,Tm.gn];exact NV,Tm.fu.2 ⟨⟨fZ.1.1,hq.1.2⟩,hq.2⟩⟩)
  have his:=Ds (c:=c) (m:=m) kA (x:=z++bs++ds) (y:=z++bs.drop us.length++ds) args h.args mt.one.1 Fy ha (fun t ht u htu m' qA=>by
   have fZ:=Tm.fu.1 (Tm.gp.1 gW t ht);have YO:=Ty.aO t.binds;obtain⟨t1,v,t2,t3,t4⟩:=Tm.xJ.1 htu;have hb:=Fv hB f m' t.kind t.index t.args us z bs (ds++t.binds) v qA fZ.2.1.1 fZ.2.1.2 fZ.1.2 fZ.2.2 sW jA hnB hnd (by rw[<-aqT];exact t2) (by rw[<-aqT];exact t4) hu (by rw[aqz];omega);rw[aqz] at hb;unfold ct;refine⟨fun he=>?_,hb.2⟩;obtain⟨b1,w,b2,b3,b4⟩:=Tm.xJ.1 (hb.1 he);have b1:(bC f m' t.kind t.index t.args us bs.length (ds.length+t.binds.length)).2.binds=[]:=b1;rw[b1,aqR,<-aqT] at b2 b4
   exact⟨t1,w,b2,b3.trans t3,b4⟩)
  have hlen:=mG (g:=ct (bC f) us bs.length ds.length) args mt.one.1;generalize cd (ct (bC f) us bs.length ds.length) mt.one.1 args=r at FD jr hlen his;have hul:=Tm.yN hu;rw[arp] at hul;unfold AW;split
  ·rename_i h2;exact⟨fun he=>(h2 he).elim,fun he=>yO (his.2 he)⟩
  rename_i h2;have h2:r.1.err=0:=by simpa using h2
  obtain⟨q1,q2⟩:=jr h2;have hr:=his.1 h2;have sq:r.1.count<=100000:=FD.pY Fy;have fin:∀i',bp c m (z++bs.drop us.length++ds) k i'=some h->((r.1,Tm.mk [] k i' r.2).1.err=0->(r.1,Tm.mk [] k i' r.2).2.Is c m (z++bs.drop us.length++ds) (.mk [] h.base))/\((r.1,Tm.mk [] k i' r.2).1.err=1->mt.err=1):=
   fun i' tR=>⟨fun _=>⟨rfl,h,by rw[aqR];exact tR,rfl,by rw[aqR];exact hr⟩,fun he=>by rw[h2] at he;cases he⟩
  by_cases rR:k=0
  case neg=>
   rw[if_pos (.inl rR)];exact fin i (by rw[tM (y:=z++bs++ds) rR];exact hh)
  subst rR;obtain⟨v1,v2,_⟩:=fJ hh;rw[aqz,aqz] at v2;obtain⟨j,rfl⟩:∃j:Nat,i=j:=⟨i.toNat,by omega⟩;rw[arv] at v2;have WN:=hh;rw[cP] at WN;split
  ·rename_i h3;have h3:j<ds.length:=by omega
   rw[if_pos h3] at WN;exact fin j (by rw[cP,if_pos h3];exact WN)
  rename_i h3;have h3:¬j<ds.length:=by omega
  rw[if_neg h3,cP] at WN;split
  ·rename_i h4;rw[if_neg (by omega)] at WN;refine fin _ ?_;rw[show ((j:Int)-(us.length:Nat))=((j-us.length:Nat):Int) by omega,cP,if_neg (by omega),cP,aqY,if_neg (by omega),show j-us.length-ds.length-(bs.length-us.length)=j-ds.length-bs.length by omega];exact WN
  rename_i h4;have hjn:j-ds.length<bs.length:=by omega
  rw[if_pos hjn,kf,if_pos hjn,aqx (by omega)] at WN;have WN:=aqs WN;split
  ·rename_i h5;refine fin j ?_;rw[cP,if_neg h3,cP,aqY,if_pos (by omega),kf,aqY,if_pos (by omega),arB,aqx (by omega),<-WN]
   congr 2;omega
  rename_i h5;have aH:bs.length-1-((j:Int)-(ds.length:Nat)).toNat<us.length:=by omega
  have sS:bN us j bs.length ds.length=us[bs.length-1-((j:Int)-(ds.length:Nat)).toNat].lift (ds.length+bs.length-us.length) 0:=by
   unfold bN;rw[aru,aqx aH];rfl
  have F4:=aqL aH;have hBn:B*us[bs.length-1-((j:Int)-(ds.length:Nat)).toNat].nodes<=1000000*1000000000:=arT hB (hnd _ F4);have hui:=OC hu aH (by rw[arp];omega);rw[List.getElem_take,show bs[bs.length-1-((j:Int)-(ds.length:Nat)).toNat]=h from by rw[<-WN];congr 1;omega] at hui;have hsi:=OB (B:=B) us[bs.length-1-((j:Int)-(ds.length:Nat)).toNat] z (bs.drop us.length++ds) [] h (Tm.gp.1 sW _ F4) (by rw[aqR];exact hui) (by rw[aqz,aqY,aqW];omega);rw[aqR,aqz,aqY,show bs.length-us.length+ds.length=ds.length+bs.length-us.length by omega,aqW,<-sS,<-aqT] at hsi;have Cg:=Tm.fu.1 (se sW j bs.length ds.length);generalize bN us j bs.length ds.length=st at hsi Cg ⊢;obtain⟨s1,w,s2,s3,s4⟩:=Tm.xJ.1 hsi;have hrl:=Tm.yN hr;have hsb:=Ty.aO st.binds;rw[if_neg (by rw[s1,hrl];simp)];have Br:=Fv hB f r.1 st.kind st.index st.args r.2 (z++bs.drop us.length++ds) st.binds [] w sq Cg.2.1.1 Cg.2.1.2 Cg.1.2 Cg.2.2 q2 (by rw[s1,hrl];omega) (by omega) (fun t ht=>by
   have h1:=Tm.pX ht
   omega) (by rw[aqR];exact s2) (by rw[aqR];exact s4) (by rw[s1,hrl,List.take_length];exact hr) (by rw[aqz,aqz,aqY,aqW];omega)
  rw[aqR,s1,hrl,ar0,aqR,<-s1,s3] at Br;exact⟨Br.1,fun he=>by
   have:=Br.2 he
   rw[h2] at this;cases this⟩
theorem adq {B:Nat} (hB:B<=1000000) {c m:List Ty} {f:Nat} {mt:Mt} {t:Tm} {us:List Tm} {z:List Ty} {of:Ty} (hm:mt.count<=100000) (ht:t.Lo B) (sW:Tm.tD B us) (hnd:∀t∈us,t.nodes<=1000000000) (hti:t.Is c m z of) (hn:us.length<=of.args.length) (hui:Tm.tP c m z us (of.args.take us.length)) (hK:z.length+B+B*f<=4000000000000000000):
  ((gF f mt t us).1.err=0->(gF f mt t us).2.Is c m z (.mk (of.args.drop us.length) of.base))/\((gF f mt t us).1.err=1->mt.err=1):=by
 have gW:=Tm.fu.1 ht;have YO:=Ty.aO t.binds;obtain⟨t1,v,t2,t3,t4⟩:=Tm.xJ.1 hti;have hb:=Fv hB f mt t.kind t.index t.args us z t.binds [] v hm gW.2.1.1 gW.2.1.2 gW.1.2 gW.2.2 sW (by rw[t1];omega) (by omega) hnd (by rw[aqR];exact t2) (by rw[aqR];exact t4) (by rw[t1];exact hui) (by rw[aqW];omega);rw[aqW,aqR] at hb;unfold gF;split
 ·rename_i h;exact⟨fun he=>(h he).elim,fun he=>he⟩
 rename_i h;rw[if_neg (by rw[t1];omega)];refine⟨fun he=>?_,hb.2⟩;obtain⟨b1,w,b2,b3,b4⟩:=Tm.xJ.1 (hb.1 he);have b1:(bC f mt t.kind t.index t.args us t.binds.length 0).2.binds=[]:=b1;rw[b1,aqR] at b2 b4;exact⟨by rw[t1];rfl,w,b2,b3.trans t3,b4⟩
theorem WO {c m x:List Ty} {T:Ty} {k i:Int} (h:bp c m x k i=some T) (l:List Ty):bp c m (x++l) k (if k=0 then i+(l.length:Nat) else i)=some T:=by
 by_cases hk:k=0
 ·subst hk;obtain⟨h1,h2,_⟩:=fJ h;obtain⟨j,rfl⟩:∃j:Nat,i=j:=⟨i.toNat,by omega⟩;rw[if_pos rfl,show ((j:Int)+(l.length:Nat))=((j+l.length:Nat):Int) by omega,cP,if_neg (by omega),show j+l.length-l.length=j by omega];exact h
 ·rw[if_neg hk,tM (y:=x) hk];exact h
theorem sP:∀{l:List Ty} {t:Ty},t∈l->t.size+l.length<=Ty.sizes l+1
 |u::l,t,h=>by
  rw[Ty.sizes,aqy];rcases aqZ.1 h with rfl|h
  ·have:=Ty.aO l;omega
  ·have:=sP h;have:=u.size_pos;omega
mutual
theorem OD {c m:List Ty}:∀(T:Ty) (x:List Ty) (k i:Int),bp c m x k i=some T->x.length+T.size<=4000000000000000000->(oC k i T).Is c m x T
 | .mk l b,x,k,i,h,hb=>by
  have hl:=Ty.aO l;rw[Ty.size] at hb;rw[oC];refine⟨rfl,.mk l b,?_,rfl,Jl l (x++l) l.length 0 (fun k hk=>?_) (fun t ht=>by have:=sP ht;rw[aqz];omega)⟩
  ·have:=WO h l
   by_cases hk:k=0
   ·subst hk;have hv:=fJ h;rw[if_pos rfl] at this ⊢;rw[ba (by omega) (by omega)];exact this
   ·rw[if_neg hk] at this ⊢;exact this
  ·rw[show ((l.length:Nat):Int)-1-((0+k:Nat):Int)=((l.length-1-k:Nat):Int) by omega,cP,if_pos (by omega),kf,if_pos (by omega),aqx (by omega)]
   congr 2;omega
theorem Jl {c m:List Ty}:∀(l y:List Ty) (n j:Nat),(∀(k:Nat) (hk:k<l.length),bp c m y 0 ((n:Int)-1-((j+k:Nat):Int))=some l[k])->(∀t∈l,y.length+t.size<=4000000000000000000)->Tm.tP c m y (iw n j l) l
 | [],y,n,j,_,_=>ai
 |t::l,y,n,j,h,hb=>by
  rw[iw];exact⟨OD t y 0 _ (h 0 (by simp)) (hb t aqG),Jl l y n (j+1) (fun k hk=>by
   have:=h (k+1) (by simpa using hk);rw[show j+(k+1)=j+1+k by omega] at this
   exact this) fun t ht=>hb t (aqI _ ht)⟩
end
theorem WQ {c m x:List Ty} {T:Ty} {l:List Tm} (h:La) (hl:Tm.tP c m x l T.args):Conv (apps (p9 T h) (Tm.kL l)) (apps h (Tm.kL l)):=by
 have hlen:=Tm.yN hl;have hn:(Tm.kL l).length=T.args.length:=by rw[p8,hlen]
 have hz:=Bt (Dr c m T.size) id x l T.args hl (fun v hv=>by
  have:=Ty.cV hv;have:=T.size_eq
  omega)
 rw[show (Tm.kL l).map (·.fb id)=Tm.kL l from(arD fun a _=>La.Bo (ρ:=id) a fun _=>rfl).trans (List.map_id _)] at hz;generalize Tm.kL l=us at hz hn ⊢;rw[LO];refine(lR us T.args _ (by omega)).trans ?_;rw[hn,ar0,oO,<-hn,Bs us T.args 0 (by omega),arX];refine Conv.apps hz (.of_eq ?_);rw[La.jw];refine(La.dR h fun i=>?_).trans (La.lF h);unfold iz;rw[if_neg (by omega),if_neg (by omega)]
 congr 1;omega
mutual
def Rw.Jm (c m:List Ty):List Ty->Rw->La
 |x,.mk k t i l=>if k=3 then .lam t ((Rw.mS c m (x++[t]) l).getD 0 (.var 0)) else if k=4 then .app ((Rw.mS c m x l).getD 0 (.var 0)) ((Rw.mS c m x l).getD 1 (.var 0)) else p9 ((bp c m x k i).getD jY) (mR k i)
def Rw.mS (c m:List Ty):List Ty->List Rw->List La
 |_,[]=>[]
 |x,r::l=>Rw.Jm c m x r::Rw.mS c m x l
end
mutual
theorem OE {S:Nat} {c m:List Ty} (hS:S<=1000):∀(r:Rw) (st:Mt) (x:List Ty) (u:Ty),r.Ok->st.count<=100000->x.length+r.depth<=1000000->Rw.oF S c m x r u->
  ((Rw.dB c m st x r).1.err=0->(Rw.dB c m st x r).2.Is c m x u/\Conv (Rw.Jm c m x r) (Rw.dB c m st x r).2.la)/\((Rw.dB c m st x r).1.err=1->st.err=1)
 | .mk k t i l,st,x,u,hk,sS,eP,dJ=>by
  have mN:∀r∈l,r.depth<(Rw.mk k t i l).depth:=fun r hr=>Rw.AQ hr;obtain⟨fq,JA,NB⟩:=hk;rw[Rw.oF] at dJ;obtain⟨sW,dJ⟩:=dJ;rw[Rw.dB,Rw.Jm];split
  ·rename_i h;exact⟨fun he=>(h he).elim,fun he=>he⟩
  by_cases h3:k=3
  ·rw[if_pos h3] at dJ ⊢;rw[if_pos h3];obtain⟨htS,v,rfl,hl⟩:=dJ;obtain⟨a,rfl,ha⟩:=wx hl;have ih:=Bu hS [a] st (x++[t]) [v] NB sS (fun r hr=>by have:=mN r hr;rw[aqz,art];omega) hl;unfold Cc;have e:(Rw.cK c m st (x++[t]) [a]).2=[(Rw.dB c m st (x++[t]) a).2]:=by rw[Rw.cK,Rw.cK]
   generalize (Rw.dB c m st (x++[t]) a).2=b at e;generalize Rw.cK c m st (x++[t]) [a]=q at ih e ⊢;obtain⟨qm,ql⟩:=q;simp only at e;subst e;split
   ·rename_i h;exact⟨fun he=>(h he).elim,ih.2⟩
   refine⟨fun he=>?_,ih.2⟩;obtain⟨⟨i1,_⟩,i2⟩:=ih.1 he
   cases i2 with
   |cons i2 _=>
    obtain⟨b1,w,b2,b3,b4⟩:=Tm.xJ.1 i1;rw[aqT] at b2 b4;refine⟨⟨by rw[show ([b].getD 0 di)=b from rfl,b1];rfl,w,b2,b3,b4⟩,?_⟩;rw[Rw.mS,Rw.mS];show Conv (.lam t (Rw.Jm c m (x++[t]) a)) (Tm.mk (t::b.binds) b.kind b.index b.args).la;rw[Tm.la,ke];refine .lam (i2.trans (.of_eq ?_));rw[Tm.On,Tm.rP]
  rw[if_neg h3] at dJ ⊢;rw[if_neg h3]
  by_cases h4:k=4
  ·rw[if_pos h4] at dJ ⊢;rw[if_pos h4];obtain⟨v,hl⟩:=dJ;obtain⟨f,a,rfl,hf,ha⟩:=wy hl;have ih:=Bu hS [f,a] st x [.mk (v::u.args) u.base,v] NB sS (fun r hr=>by have:=mN r hr;omega) hl;have jr:=nj hS [f,a] st x [.mk (v::u.args) u.base,v] hl NB;have FD:=Rw.oH c m [f,a] st x;unfold wz;have e:∃p q,(Rw.cK c m st x [f,a]).2=[p,q]:=⟨_,_,by rw[Rw.cK,Rw.cK,Rw.cK]⟩;obtain⟨p,b,e⟩:=e;generalize Rw.cK c m st x [f,a]=q at ih e jr FD ⊢;obtain⟨qm,ql⟩:=q;simp only at e;subst e;split
   ·rename_i h;exact⟨fun he=>(h he).elim,ih.2⟩
   rename_i h;have h:qm.err=0:=by simpa using h
   obtain⟨⟨i1,i2,_⟩,i3⟩:=ih.1 h;obtain⟨j1,⟨j2,j3,_⟩,_⟩:=jr h;have II:=FD.pY sS;simp only[Tm.dA] at j1 II j2 j3;have hmul:S*100001<=1000000*100001:=ard _ (by omega);have We:=adq (B:=S) (by omega) (c:=c) (m:=m) (f:=100001) (mt:=qm) (t:=p) (us:=[b]) (z:=x) (of:=.mk (v::u.args) u.base) II j2 ⟨j3,ai⟩ (fun t ht=>by rw[aqJ.1 ht];omega) i1 (by show 1<=(v::u.args).length;simp) ⟨i2,ai⟩ (by omega);refine⟨fun he=>?_,fun he=>?_⟩
   ·have Ow:=WG (B:=S) (by omega) (f:=100001) (m:=qm) (t:=p) (us:=[b]) (G:=x.length) II j2 ⟨j3,ai⟩ (fun t ht=>by rw[aqJ.1 ht];omega) (Ji _ _ _ i1) ⟨Ji _ _ _ i2,ai⟩ (by omega) he;refine⟨?_,?_⟩
    ·have:=We.1 he;rw[show (Ty.mk (v::u.args) u.base).args.drop [b].length=u.args from rfl,show (Ty.mk (v::u.args) u.base).base=u.base from rfl,Ty.eta] at this;exact this
    ·rw[Rw.mS,Rw.mS,Rw.mS]
     cases i3 with
     |cons c1 i3=>
      cases i3 with
      |cons c2 _=>exact(Conv.app c1 c2).trans Ow.1
   ·have:=We.2 he;rw[h] at this;cases this
  rw[if_neg h4] at dJ ⊢;rw[if_neg h4];obtain⟨hh,rfl⟩:=dJ;have hxl:x.length<=1000000:=by omega
  unfold Db;rw[hh];simp only[aq9];have hu:=Mt.vg u.size st;split
  ·rename_i h5;exact⟨fun he=>(by rw[hu.1.2 he] at h5;cases h5),fun he=>wF _ he⟩
  ·refine⟨fun _=>⟨OD u x k i hh (by omega),?_⟩,fun he=>wF _ he⟩;refine .of_eq (Oz u k i (fun hk=>?_) (by omega)).symm;subst hk;have:=fJ hh;omega
theorem Bu {S:Nat} {c m:List Ty} (hS:S<=1000):∀(l:List Rw) (st:Mt) (x us:List Ty),Rw.JC l->st.count<=100000->(∀r∈l,x.length+r.depth<=1000000)->Rw.oG S c m x l us->
  ((Rw.cK c m st x l).1.err=0->Tm.tP c m x (Rw.cK c m st x l).2 us/\oP (Rw.mS c m x l) (Tm.kL (Rw.cK c m st x l).2))/\((Rw.cK c m st x l).1.err=1->st.err=1)
 | [],st,x,[],_,_,_,_=>⟨fun _=>⟨ai,.nil⟩,fun he=>he⟩
 |r::l,st,x,u::us,hk,sS,eP,dJ=>by
  rw[Rw.cK,Rw.mS];simp only;have h1:=OE hS r st x u hk.1 sS (eP r aqG) dJ.1;have h2:=Bu hS l _ x us hk.2 ((Rw.vh c m r st x).pY sS) (fun r hr=>eP r (aqI _ hr)) dJ.2;refine⟨fun he=>?_,fun he=>h1.2 (h2.2 he)⟩;obtain⟨a1,a2⟩:=h1.1 ((Rw.oH c m l _ x).ok he);obtain⟨b1,b2⟩:=h2.1 he;exact⟨⟨a1,b1⟩,.cons a2 b2⟩
 | [],_,_,_::_,_,_,_,h=>h.elim
 |_::_,_,_,[],_,_,_,h=>h.elim
end
theorem Jn (c m:List Ty):∀(bs x:List Ty) (r:Rw),Rw.Jm c m x (r.bind bs)=iS bs (Rw.Jm c m (x++bs) r)
 | [],x,r=>by rw[aqR];rfl
 |t::bs,x,r=>by
  show Rw.Jm c m x (.mk 3 t 0 [r.bind bs])=_;rw[Rw.Jm,if_pos rfl,Rw.mS,Rw.mS,ke];show La.lam t (Rw.Jm c m (x++[t]) (r.bind bs))=_;rw[Jn c m bs (x++[t]) r,aqT];rfl
theorem Jo (c m x:List Ty):∀(l:List Rw) (r:Rw),Rw.Jm c m x (r.call l)=apps (Rw.Jm c m x r) (Rw.mS c m x l)
 | [],r=>by rw[Rw.mS];rfl
 |a::l,r=>by
  show Rw.Jm c m x ((Rw.mk 4 jY 0 [r,a]).call l)=_;rw[Jo c m x l,Rw.Jm,if_neg (by decide),if_pos rfl,Rw.mS,Rw.mS,Rw.mS,Rw.mS,sj];rfl
mutual
theorem OG {c m:List Ty}:∀(t:Tm) (x:List Ty) (of:Ty),t.Is c m x of->Conv (Rw.Jm c m x t.raw) t.la
 | .mk bs k i l,x,of,h=>by
  obtain⟨h1,u,h2,h3,h4⟩:=h;rw[Tm.raw,Jn,Jo,Tm.la];refine Conv.iS ?_ bs;have hk:=xw h2;have hh:Rw.Jm c m (x++bs) (fY k i)=p9 u (mR k i):=by
   rw[Rw.Jm,if_neg (by omega),if_neg (by omega),h2];rfl
  rw[hh];exact(Conv.apps (Jp l (x++bs) u.args h4) (.refl _)).trans (WQ _ h4)
theorem Jp {c m:List Ty}:∀(l:List Tm) (x us:List Ty),Tm.tP c m x l us->oP (Rw.mS c m x (Tm.AP l)) (Tm.kL l)
 | [],x,us,_=>by rw[Tm.AP,Rw.mS];exact .nil
 |t::l,x,u::us,h=>by
  rw[Tm.AP,Rw.mS,Tm.kL];exact .cons (OG t x u h.1) (Jp l x us h.2)
 |_::_,_,[],h=>h.elim
end
structure adr (b:Int) (c m x:List Ty) (r:Rw) (t:Tm) (u:Ty):Prop where
 ctx:iy b c m x=true
 inf:r.inf b c m x=(u,0)
 rgt:r.bG=true
 PG:Rw.oF 1000 c m x r u
 is:t.Is c m x u
 conv:Conv (Rw.Jm c m x r) t.la
 right:jK 0 (t.pre 0 1)=true
theorem Bv {b:Int} {c m x:List Ty} {r:Rw} {left:Nat} (ep:kU c m x r) (he:(fE b c m x r left).1.err=0):(∃u,adr b c m x r (fE b c m x r left).2 u)/\(Rw.dB c m ⟨left,0,0⟩ x r).1.err=0:=by
 unfold fE at he ⊢;split at he
 ·simp at he
 rename_i h1;rw[if_neg h1];have h1:iy b c m x=true:=by simpa using h1
 split at he
 ·rename_i h2;exact(h2 he).elim
 rename_i h2;rw[if_neg h2];have h2:(r.inf b c m x).2=0:=by simpa using h2
 have yf:r.bG=true:=by
  cases yf:r.bG with
  |true=>rfl
  |false=>rw[Rw.inf,yf] at h2;simp at h2
 have tN:r.shaped=true:=by rw[Rw.bG,aqv] at yf;exact yf.1
 have oX:r.inf b c m x=r.infer b c m x:=by rw[Rw.inf,if_pos yf]
 have al2:r.depth<=60:=by
  have h:=yf;rw[Rw.bG,aqv,aqv,decide_eq_true_eq,decide_eq_true_eq] at h;exact h.2.2
 have dJ:Rw.oF 1000 c m x r (r.infer b c m x).1:=pW b c m r x _ tN (by rw[oX] at h2;rw[<-h2]);unfold gU at he ⊢;split at he
 ·rename_i h3;exact(h3 he).elim
 rename_i h3;have h3:(Rw.dB c m ⟨left,0,0⟩ x r).1.err=0:=by simpa using h3
 rw[if_neg (by simp[h3])];split at he
 ·rename_i h4;rw[if_pos h4];obtain⟨a1,a2⟩:=(OE (aqw _) r ⟨left,0,0⟩ x _ ep.ok (by simp) (by have:=ep.xl;omega) dJ).1 h3;exact⟨⟨_,h1,by rw[oX];rw[oX] at h2;rw[<-h2],yf,dJ,a1,a2,h4⟩,h3⟩
 ·simp at he
theorem Jq {t:Tm} (h:jK 0 (t.pre 0 1)=true):t.nodes<=5000:=by
 rw[Ix,Tm.bG,aqv,decide_eq_true_eq] at h;exact h.1
theorem Jr {b:Int} {c m x:List Ty} {r:Rw} {left:Nat} (ep:kU c m x r) (he:(fE b c m x r left).1.err=0):(fE b c m x r left).2.size<=5005000/\(fE b c m x r left).2.Lo 1000:=by
 obtain⟨⟨u,h1⟩,h2⟩:=Bv ep he;have hf:=(kc (aqw _) r ⟨left,0,0⟩ x u h1.PG ep.ok h2).1;have hn:=Jq h1.right;have e:(fE b c m x r left).2=(Rw.dB c m ⟨left,0,0⟩ x r).2:=by
  unfold fE at he ⊢;split
  ·rename_i h;rw[if_pos h] at he;simp at he
  rename_i h;rw[if_neg h] at he;split
  ·rename_i h3;rw[if_pos h3] at he;exact(h3 he).elim
  rename_i h3;rw[if_neg h3] at he;unfold gU at he ⊢;rw[if_neg (by simp[h2])] at he ⊢;split
  ·rfl
  ·rename_i h4;rw[if_neg h4] at he;simp at he
 have hs:=Tm.yD hf.lo;rw[e] at hn ⊢;have:(Rw.dB c m ⟨left,0,0⟩ x r).2.nodes*(1+1000)<=5000*1001:=arT hn (by omega);exact⟨by omega,hf.lo⟩
end Go.Proofs.YtnkjkpmbgoehkaaGreat
