/- Lemmas. -/
import Derived.KernelRfl
import Derived.Test.YtnkjkpmbgoehkaaGreatQ41
namespace Go.Proofs.YtnkjkpmbgoehkaaGreat
open Go
open _root_.Int renaming toNat->af
open _root_.True renaming intro->ai
open Go.Proofs.Tryz renaming prog->aj
set_option linter.unusedSimpArgs false
set_option linter.unusedVariables false
set_option maxRecDepth 100000
section
variable {s w:ByteArray} {m m':Mk}
theorem Js {c m x:List Ty} {k i:Int} {u:Ty} (c' m':List Ty) (h:bp c m x k i=some u):bp (c++c') (m++m') x k i=some u:=by
 have ap:∀{a b:List Ty},a[i.toNat]?=some u->(a++b)[i.toNat]?=some u:=fun h=>by
  rw[aqD (aqr.1 h).1];exact h
 unfold bp at h ⊢;split at h
 ·cases h
 rename_i h0;rw[if_neg h0];split at h
 ·rename_i h1;rw[if_pos h1];exact h
 rename_i h1;rw[if_neg h1];split at h
 ·rename_i h2;rw[if_pos h2];exact ap h
 rename_i h2;rw[if_neg h2];split at h
 ·rename_i h3;rw[if_pos h3];exact ap h
 ·cases h
mutual
theorem Tm.OH {c m:List Ty} (c' m':List Ty):∀(t:Tm) (x:List Ty) (u:Ty),t.Is c m x u->t.Is (c++c') (m++m') x u
 | .mk b k i l,x,u,h=>by
  rw[Tm.xJ] at h ⊢;obtain⟨h1,v,h2,h3,h4⟩:=h;exact⟨h1,v,Js c' m' h2,h3,Tm.Jt c' m' l _ _ h4⟩
theorem Tm.Jt {c m:List Ty} (c' m':List Ty):∀(l:List Tm) (x us:List Ty),Tm.tP c m x l us->Tm.tP (c++c') (m++m') x l us
 | [],x,[],h=>by rw[Tm.tP];exact ai
 | [],x,u::us,h=>by rw[Tm.tP] at h;exact h.elim;all_goals simp
 |t::l,x,[],h=>by rw[Tm.tP] at h;exact h.elim;all_goals simp
 |t::l,x,u::us,h=>by
  rw[Tm.tP] at h ⊢;exact⟨Tm.OH c' m' t x u h.1,Tm.Jt c' m' l x us h.2⟩
end
structure SdW (c v:List Ty) (t:Tm) (u:Ty):Prop where
 is:t.Is c v [] u
 r:jK 0 (t.pre 0 1)=true
 z:t.size<=5005000
 lo:t.Lo 1000
def Qw (c v:List Ty) (e:A2):Prop:=∃u:Ty,u.args=[]/\SdW c v e.left u/\SdW c v e.right u
theorem SdW.mono {c v:List Ty} {t:Tm} {u:Ty} (c' v':List Ty) (h:SdW c v t u):SdW (c++c') (v++v') t u:=⟨Tm.OH c' v' _ _ _ h.is,h.r,h.z,h.lo⟩
theorem Qw.mono {c v:List Ty} {e:A2} (c' v':List Ty) (h:Qw c v e):Qw (c++c') (v++v') e:=by
 obtain⟨u,h1,h2,h3⟩:=h;exact⟨u,h1,h2.mono c' v',h3.mono c' v'⟩
theorem Ju {t:Ty} {a b:Int} (h:t.bG a=true) (hab:a<=b):t.bG b=true:=by
 unfold Ty.bG at h ⊢;rw[aqv,aqF] at h ⊢;refine⟨h.1,fun p hp=>?_⟩;have:=h.2 p hp;unfold AB at this ⊢;simp only[aqv,decide_eq_true_eq] at this ⊢;omega
theorem WR {p q:List (Int×Int)} {a b:Int} (h:eL (p++q) a b):eL p a b\/∃c d,(c,d)∈q/\(a=c\/eL (p++q) a c)/\(d=b\/eL (p++q) d b):=by
 induction h with
 |one h=>
  rcases aq7.1 h with h|h
  ·exact .inl (.one h)
  ·exact .inr ⟨_,_,h,.inl rfl,.inl rfl⟩
 |more h1 h2 ih=>
  rcases ih with ih|⟨c,d,hq,ha,hd⟩
  ·rcases aq7.1 h2 with h|h
   ·exact .inl (.more ih h)
   ·exact .inr ⟨_,_,h,.inr h1,.inl rfl⟩
  ·refine .inr ⟨c,d,hq,ha,.inr ?_⟩;rcases hd with rfl|hd
   ·exact .one h2
   ·exact .more hd h2
theorem Qx {p q:List (Int×Int)} {i:Int} (h:eL (p++q) i i):eL p i i\/∃c d,(c,d)∈q/\eL (p++q) c c:=by
 refine(WR h).imp id fun⟨c,d,hq,ha,hd⟩=>⟨c,d,hq,?_⟩;have h1:eL (p++q) c d:=.one (List.mem_append_right _ hq);have h2:eL (p++q) c i:=by
  rcases hd with rfl|hd
  ·exact h1
  ·exact h1.trans hd
 rcases ha with rfl|ha
 ·exact h2
 ·exact h2.trans ha
theorem Bw {c d:Int}:∀{l:List Int},(c,d)∈eU l->c∈l
 | [],h=>by cases h
 | [z],h=>by cases h
 |z::u::l,h=>by
  rcases aqZ.1 h with h|h
  ·cases h;exact aqG
  ·exact aqI _ (Bw h)
structure WI (m:Mk):Prop where
 c:∀t∈cT m,t.bG m.aP.length=true
 t:∀t∈m.types,t.bG m.aP.length=true
 n:m.bx.length=m.types.length
 e:∀e∈m.eqs,Qw (cT m) m.types e
 r:∀e∈m.rules,Qw (cT m) m.types e
 p:∀i,¬eL m.prec i i
theorem WI.fo (h:WI m) (k:Fo m m'):WI m':=by
 obtain⟨f,rfl⟩:=k;exact⟨h.c,h.t,h.n,h.e,h.r,h.p⟩
theorem sk {b:Bool} {c a:Int} (hc:c≠0) (h:gQ (cL s b c a m)=true):b=true/\gQ m=true:=by
 obtain⟨h1,h2⟩:=Bf hc h;rw[h2] at h;exact⟨h1,h⟩
theorem Bx {n:Nd} (h:gQ (kd s n m).2=true):(kd s n m).1.bG m.aP.length=true:=by
 have hf:=vl (s:=s) n.size n m;have e:(kd s n m).1=(dG s n.size n m).1:=if_pos h;rw[e];change gQ (vk s n (dG s n.size n m))=true at h;generalize dG s n.size n m=R at hf h;obtain⟨t,m1⟩:=R;obtain⟨f,rfl⟩:=hf;unfold vk at h;split at h
 ·exact(sk (by decide) h).1
 ·rename_i h2;exact(h2 h).elim
theorem Qy:∀{f:Nat} {n:Nd} {b:List ByteArray},gQ (gI s f n b m).2=true->gQ m=true
 |0,_,_,h=>h
 |f+1,n,b,h=>by
  cases ho:gQ m with
  |true=>rfl
  |false=>
   rw[gI,if_pos ho] at h;rw[ho] at h;exact h
theorem Dt {n:Nd} (hm:MI 500 m) (hz:n.size<=900000) (h:gQ (eO s n m).2=true):gQ m=true/\SdW (cT m) m.types (eO s n m).1.1 (eO s n m).1.2:=by
 have hf:=nn (s:=s) n.size n [] m;have hn:=hm.nok (s:=s) (k:=n.size) hz;have hb:=fun h=>Qy (s:=s) (m:=m) (f:=n.size) (n:=n) (b:=[]) h;unfold eO A6 at h ⊢;generalize gI s n.size n [] m=R at hf hn hb h;obtain⟨r,m1⟩:=R;dsimp only at hb hn hf h
 by_cases h1:gQ m1=true
 ·rw[if_pos h1] at h ⊢;dsimp only at h ⊢;refine⟨hb h1,?_⟩;obtain⟨f,rfl⟩:=hf;have he:(oI { m with fault:=f } r).2=0:=by
   by_cases hc:(oI { m with fault:=f } r).2=0
   ·exact hc
   ·simpa using (sk hc h).1
  unfold oI at he ⊢;split at he
  ·rename_i h2;rw[if_pos h2];obtain⟨⟨u,hl⟩,_⟩:=Bv hn he;obtain⟨cx,gW⟩:=Jr hn he;have hi:=congrArg Prod.fst hl.inf;dsimp only at hi ⊢;exact⟨by rw[show ((r.inf _ (cT { m with fault:=f }) m.types []).1:Ty)=u from hi];exact hl.is,hl.right,cx,gW⟩
  ·rename_i h2;exact(h2 he).elim
 ·rw[if_neg h1] at h;exact(h1 h).elim
theorem WS {x y:Nd} (hm:MI 500 m) (hx:x.size<=900000) (hy:y.size<=900000) (h:gQ (kV s x y true m).2=true):Qw (cT m) m.types ⟨w,(kV s x y true m).1.1,(kV s x y true m).1.2⟩:=by
 have hf:=kJ (s:=s) x m;unfold kV ait at h ⊢;dsimp only at h ⊢;obtain⟨h1,h⟩:=sk (by decide) h;obtain⟨h2,h⟩:=sk (by decide) h;have hx:=fun h=>Dt (s:=s) hm hx h;generalize eO s x m=R at *;obtain⟨⟨t,u⟩,m1⟩:=R;dsimp only at *;obtain⟨ho,hy⟩:=Dt (hm.fo hf) hy h;obtain⟨_,hl⟩:=hx ho;obtain⟨f,rfl⟩:=hf;have e:=(Ty.ow _ _).1 h1;refine⟨u,List.length_eq_zero_iff.1 (by simpa using h2),hl,?_⟩;rw[e];exact hy
theorem aaq {x:It} (hm:MI 500 m) (hx:Two s x) (h:gQ (yF s x m).2=true):Qw (cT m) m.types (yF s x m).1:=by
 have hf:=bA (s:=s) (!(ga (eo x 0) m.eqs)&&!(ga (eo x 0) m.rules)) 4 x.at_ m;unfold yF eqG at h ⊢;generalize cL s (!(ga (eo x 0) m.eqs)&&!(ga (eo x 0) m.rules)) 4 x.at_ m=m1 at hf h ⊢;obtain⟨f,rfl⟩:=hf;split at h
 ·rename_i h1;rw[if_pos h1];refine WS (hm.fo ⟨f,rfl⟩) hx.zx hx.zy ?_;dsimp only at h;unfold eqF at h;split at h
  ·rename_i h2;exact h2
  ·exact h
 ·rename_i h1;exact(h1 h).elim
theorem WI.aP {l:List ByteArray} (h:WI m):WI { m with aP:=m.aP++l }:=by
 have e:∀{t:Ty},t.bG m.aP.length=true->t.bG (m.aP++l).length=true:=fun h=>Ju h (by rw[aqz];omega);exact⟨fun t ht=>e (h.c t ht),fun t ht=>e (h.t t ht),h.n,h.e,h.r,h.p⟩
theorem WI.name {x:Mn} {a:Int} (h:WI m):WI (iO s w x a m):=by
 have h1:=h.fo (bA (s:=s) (!(tH m.words w).isSome) 4 a m);unfold iO Dg;split
 ·exact⟨h1.c,h1.t,h1.n,h1.e,h1.r,h1.p⟩
 ·exact h1
theorem Du (a:Int):∀(l:List ByteArray) (m:Mk),WI m->WI (rI s a l m)
 | [],m,h=>h
 |w::l,m,h=>Du a l _ (h.name (s:=s) (w:=w) (x:=⟨true,0,m.aP.length⟩) (a:=a)).aP
theorem WT {x:It} (hx:Qr s x) (hm:MI 500 m) (h:WI m) (ho:gQ (oJ s x m)=true):WI (oJ s x m):=by
 unfold oJ at ho ⊢
 by_cases k1:x.kind=1
 ·rw[if_pos k1];exact Du x.at_ x.words m h
 rw[if_neg k1] at ho ⊢
 by_cases k2:x.kind=2
 ·rw[if_pos k2] at ho ⊢;have h1:=h.name (s:=s) (w:=eo x 0) (x:=⟨false,1,m.consts.length⟩) (a:=x.at_);generalize iO s (eo x 0) ⟨false,1,m.consts.length⟩ x.at_ m=m1 at h1 ho ⊢;unfold Ff at ho ⊢;split at ho
  ·rename_i h2;rw[if_pos h2];have hr:=Bx (s:=s) (m:=m1) (n:=dX x 0) ho;have hf:=nm (s:=s) (dX x 0) m1;generalize kd s (dX x 0) m1=R at hr hf;obtain⟨t,m2⟩:=R;obtain⟨f,rfl⟩:=hf;have e:cT { m1 with fault:=f,consts:=m1.consts++[(eo x 0,t)] }=cT m1++[t]:=by simp[cT]
   have hv:∀e,Qw (cT m1) m1.types e->Qw (cT m1++[t]) m1.types e:=fun e he=>by have:=he.mono [t] [];rwa [aqR] at this
   refine⟨fun u hu=>?_,h1.t,h1.n,fun q hq=>?_,fun q hq=>?_,h1.p⟩
   ·rw[e] at hu;rcases aq7.1 hu with hu|hu
    ·exact h1.c u hu
    ·rw[aqJ.1 hu];exact hr
   ·rw[e];exact hv q (h1.e q hq)
   ·rw[e];exact hv q (h1.r q hq)
  ·rename_i h2;exact(h2 ho).elim
 rw[if_neg k2] at ho ⊢
 by_cases k3:x.kind=3
 ·rw[if_pos k3] at ho ⊢;have h1:=h.name (s:=s) (w:=eo x 0) (x:=⟨false,2,m.bx.length⟩) (a:=x.at_);generalize iO s (eo x 0) ⟨false,2,m.bx.length⟩ x.at_ m=m1 at h1 ho ⊢;unfold Z7 at ho ⊢;split at ho
  ·rename_i h2;rw[if_pos h2];have hr:=Bx (s:=s) (m:={ m1 with bx:=m1.bx++[eo x 0] }) (n:=dX x 0) ho;have hf:=nm (s:=s) (dX x 0) { m1 with bx:=m1.bx++[eo x 0] };generalize kd s (dX x 0) { m1 with bx:=m1.bx++[eo x 0] }=R at hr hf;obtain⟨t,m2⟩:=R;obtain⟨f,rfl⟩:=hf;have hv:∀e,Qw (cT m1) m1.types e->Qw (cT m1) (m1.types++[t]) e:=fun e he=>by have:=he.mono [] [t];rwa [aqR] at this
   refine⟨h1.c,fun u hu=>?_,?_,fun q hq=>hv q (h1.e q hq),fun q hq=>hv q (h1.r q hq),h1.p⟩
   ·rcases aq7.1 hu with hu|hu
    ·exact h1.t u hu
    ·rw[aqJ.1 hu];exact hr
   ·show (m1.bx++[eo x 0]).length=(m1.types++[t]).length;rw[aqz,aqz,h1.n];rfl
  ·rename_i h2;exact(h2 ho).elim
 rw[if_neg k3] at ho ⊢;have eqs:∀{n:Nat} {m1:Mk},(x.kind=4\/x.kind=5)->m1=nk s n x.at_ m->gQ m1=true->gQ (yF s x m1).2=true->WI (yF s x m1).2/\Qw (cT (yF s x m1).2) (yF s x m1).2.types (yF s x m1).1/\(yF s x m1).2.eqs=m1.eqs/\(yF s x m1).2.rules=m1.rules:=by
  intro n m1 hk e h2 h3;have hf:Fo m m1:=by rw[e];exact bA _ _ _ _
  have he:=aaq (hm.fo hf) (hx.two hk) h3;have hf2:=Bj (s:=s) x m1;generalize yF s x m1=R at he hf2;obtain⟨q,m2⟩:=R;refine⟨(h.fo hf).fo hf2,?_⟩;obtain⟨f,rfl⟩:=hf2;exact⟨he,rfl,rfl⟩
 by_cases k4:x.kind=4
 ·rw[if_pos k4] at ho ⊢;have eqs:=@eqs m.eqs.length _ (.inl k4) rfl;generalize nk s m.eqs.length x.at_ m=m1 at eqs ho ⊢;unfold eqP at ho ⊢;split at ho
  ·rename_i h2;rw[if_pos h2];obtain⟨g1,g2,g3,_⟩:=eqs h2 (by unfold gQ at ho ⊢;dsimp only at ho;exact ho);refine⟨g1.c,g1.t,g1.n,fun q hq=>?_,g1.r,g1.p⟩;rcases aq7.1 hq with hq|hq
   ·exact g1.e q (g3▸hq)
   ·rw[aqJ.1 hq];exact g2
  ·rename_i h2;exact(h2 ho).elim
 rw[if_neg k4] at ho ⊢
 by_cases k5:x.kind=5
 ·rw[if_pos k5] at ho ⊢;have eqs:=@eqs m.rules.length _ (.inr k5) rfl;generalize nk s m.rules.length x.at_ m=m1 at eqs ho ⊢;unfold N6 at ho ⊢;split at ho
  ·rename_i h2;rw[if_pos h2];obtain⟨g1,g2,_,g3⟩:=eqs h2 (by unfold gQ at ho ⊢;dsimp only at ho;exact ho);refine⟨g1.c,g1.t,g1.n,g1.e,fun q hq=>?_,g1.p⟩;rcases aq7.1 hq with hq|hq
   ·exact g1.r q (g3▸hq)
   ·rw[aqJ.1 hq];exact g2
  ·rename_i h2;exact(h2 ho).elim
 rw[if_neg k5] at ho ⊢
 by_cases k6:x.kind=6
 ·rw[if_pos k6] at ho ⊢;unfold A7 at ho ⊢;have h1:=h.fo (tK (s:=s) x.at_ x.words m);generalize fg s x.at_ x.words m=R at h1 ho ⊢;have h2:=h1.fo (bA (s:=s) (decide ((R.1.length:Int)-1<=200-(R.2.prec.length:Int))) 2 x.at_ R.2);generalize cL s (decide ((R.1.length:Int)-1<=200-(R.2.prec.length:Int))) 2 x.at_ R.2=m1 at h2 ho ⊢;unfold Fe at ho ⊢;split at ho
  ·rename_i h3;rw[if_pos h3];unfold Lz at ho ⊢;obtain⟨g1,g2⟩:=Bf (by decide) ho;rw[g2];refine⟨h2.c,h2.t,h2.n,h2.e,h2.r,fun i hi=>?_⟩;rcases Qx hi with hi|⟨c,d,hq,hc⟩
   ·exact h2.p i hi
   ·have hn:(R.1.any fun c=>kS (m1.prec++eU R.1) c c)=false:=by simpa using g1
    rw[List.any_eq_false] at hn;exact hn c (Bw hq) ((pH _ _ _).2 hc)
  ·rename_i h3;exact(h3 ho).elim
 rw[if_neg k6] at ho ⊢
 by_cases k7:x.kind=7
 ·rw[if_pos k7];unfold Di N5;have h1:=(h.fo (oL (s:=s) (eo x 0) x.at_ m)).fo (bA (s:=s) (!((eC s (eo x 0) x.at_ m).2.status.any fun q=>q.1==(eC s (eo x 0) x.at_ m).1)) 4 x.at_ _);generalize cL s (!((eC s (eo x 0) x.at_ m).2.status.any fun q=>q.1==(eC s (eo x 0) x.at_ m).1)) 4 x.at_ (eC s (eo x 0) x.at_ m).2=m1 at h1 ⊢;have h2:=h1.fo (bA (s:=s) (decide (Dh (eo x 1)>=0)) 3 x.at_ m1);exact⟨h2.c,h2.t,h2.n,h2.e,h2.r,h2.p⟩
 rw[if_neg k7];unfold Wj;have h1:=h.fo (bA (s:=s) (decide ((m.dj.length:Int)<200)) 2 x.at_ m);unfold nk;generalize cL s (decide ((m.dj.length:Int)<200)) 2 x.at_ m=m1 at h1 ⊢;have add:∀{m2:Mk} {cm:Xd},Fo m1 m2->WI (IM cm m2):=fun hf=>by
  have h2:=h1.fo hf;exact⟨h2.c,h2.t,h2.n,h2.e,h2.r,h2.p⟩
 unfold Wi;split
 ·exact h1
 split
 ·exact add (kJ _ _)
 split
 ·exact add (yG _ _ _ _)
 split
 ·exact add (bA _ _ _ _)
 ·exact add (Fo.refl _)
theorem Dv:∀(l:List It) (c n:Nat) (m:Mk),(∀x∈l,Qr s x)->c+p7 l<=500->n+nH l<=80000->MJ c n m->WI m->gQ (nG s l m)=true->WI (nG s l m)/\MJ 500 80000 (nG s l m)
 | [],c,n,m,_,hc,hn,hj,h,_=>⟨h,hj.mono hc hn⟩
 |x::l,c,n,m,hx,hc,hn,hj,h,ho=>by
  rw[p7] at hc;rw[nH] at hn;have hj2:=I5 (s:=s) (x:=x) hj (by omega);rw[nG] at ho ⊢;split at ho
  ·rename_i h1;rw[if_pos h1];exact Dv l _ _ _ (fun y hy=>hx y (aqI _ hy)) (by omega) (by omega) hj2 (WT (hx x aqG) (hj.mono (by omega) (aqw _)).mi h h1) ho
  ·rename_i h1;exact(h1 ho).elim
theorem aar:WI Cf:=⟨(fun q h=>by cases h),(fun q h=>by cases h),rfl,(fun q h=>by cases h),(fun q h=>by cases h),fun i h=>by cases h with|one h=>cases h|more _ h=>cases h⟩
theorem WU (hs:s.size<=1500):((jL s).2.1=0/\WI (jL s).1/\MJ 500 80000 (jL s).1)\/((jL s).2.1≠0/\(jL s).1=Cf):=by
 obtain⟨h1,h2,h3⟩:=Dn (s:=s) (by omega);unfold jL;split
 ·rename_i h0;unfold Z8;split
  ·rename_i h4;exact .inl ⟨rfl,Dv _ 0 0 Cf h1 (by omega) (by omega) (Od _ _) aar h4⟩
  ·rename_i h4;exact .inr ⟨fun e=>h4 (by unfold gQ;rw[e];rfl),rfl⟩
 ·rename_i h0;exact .inr ⟨h0,rfl⟩
end
def WV:ByteArray:=⟨#[115,111,114,116,32,97,59,32,99,111,110,115,116,32,102,58,32,97,32,45,62,32,97,59,32,118,97,114,32,88,58,32,97,59,32,101,113,32,101,58,32,102,32,88,32,61,32,88,59,32,110,111,114,109,97,108,32,53,58,32,102,59]⟩
def sK2:ByteArray:=⟨#[115,111,114,116,32,97,59,32,99,111,110,115,116,32,102,58,32,97,59,32,99,111,110,115,116,32,102,58,32,97,59]⟩
theorem kI1:((dN WV).1.all (itB WV)&&(decide (p7 (dN WV).1<=500)&&decide (nH (dN WV).1<=80000)))=true:=by kernel_rfl
theorem kI2:((dN sK2).1.all (itB sK2)&&(decide (p7 (dN sK2).1<=500)&&decide (nH (dN sK2).1<=80000)))=true:=by kernel_rfl
theorem xK {s:ByteArray} (hs:s.size<=1000000000) (h:((dN s).1.all (itB s)&&(decide (p7 (dN s).1<=500)&&decide (nH (dN s).1<=80000)))=true):ay aj 7 [nS s] (.aK [prA (jL s).1,.agg (K6 (jL s).2)]):=by
 simp only[aqv,decide_eq_true_eq,aqF] at h;exact xH hs (fun x hx=>adn (h.1 x hx)) h.2.1 h.2.2
def kTm:Tm:=.mk [jY] 1 0 [.mk [] 0 0 []]
def kCm:Xd:=⟨9,5,kTm,di,0⟩
theorem kE1:(jL WV).2.1=0:=by kernel_rfl
theorem kE2:(jL WV).1.eqs.length=1:=by kernel_rfl
theorem kE3:(jL WV).1.dj=[kCm]:=by kernel_rfl
theorem kE4:(jL WV).1.consts=[(⟨#[102]⟩,.mk [jY] 0)]:=by kernel_rfl
theorem kE5:(jL WV).1.types=[jY]:=by kernel_rfl
theorem kE6:(jL sK2).2=(4,1,21,⟨#[99,111,110,115,116]⟩):=by kernel_rfl
theorem kE7:jK 0 (kTm.pre 0 1)=true:=by kernel_rfl
theorem kE8:kTm.QO [.mk [jY] 0] [jY] [] (.mk [jY] 0)=true:=by kernel_rfl
theorem LP {p q:Mk×Fa} (h1:ay aj 7 [nS WV] (.aK [prA p.1,.agg (K6 p.2)])) (h2:ay aj 7 [nS sK2] (.aK [prA q.1,.agg (K6 q.2)]))
  (e1:p.2.1=0) (e2:p.1.eqs.length=1) (e3:p.1.dj=[kCm]) (e4:p.1.consts=[(⟨#[102]⟩,.mk [jY] 0)]) (e5:p.1.types=[jY]) (e6:q.2=(4,1,21,⟨#[99,111,110,115,116]⟩)):ay aj 9 [] (nB true):=by
 have hk:kTm.Ok:=⟨Wv,fx,⟨fx,fx,ai⟩,ai⟩;have z1:(Ty.mk [jY] 0).size<=1000:=by simp[Ty.size,Ty.sizes]
 have z2:jY.size<=1000:=by rw[oK];decide
 have hw:=vv (m:=p.1) (by rw[e4];intro q hq;rw[aqJ.1 hq];exact z1) (by rw[e5];intro q hq;rw[aqJ.1 hq];exact z2) (by rw[e4];decide) (by rw[e5];decide);have hc:=xp (b:=(p.1.aP.length:Int)) (c:=[.mk [jY] 0]) (m:=[jY]) (x:=[]) (t:=kTm) (of:=.mk [jY] 0) (fun t ht=>by rw[aqJ.1 ht];omega) (fun t ht=>by rw[aqJ.1 ht];omega) hk (fun u hu=>by cases hu) (by simp[kTm,Tm.size,Tm.sizes,Ty.size,Ty.sizes]) (by omega);rw[if_pos kE7,if_pos kE8] at hc;have ew:wTy p.1=.agg [nI (p.1.aP.length:Int),.sl ([Ty.mk [jY] 0].map Ty.enc),.sl ([jY].map Ty.enc)]:=by unfold wTy cT;rw[e4,e5];rfl
 rw[ew] at hw;have Jy:List.getD (bS p.1.dj) (af 0) .top=cmA kCm:=by rw[e3];rfl
 have hle:(bS p.1.dj).length=1:=by rw[e3];rfl
 have hlq:(aM p.1.eqs).length=1:=by rw[aqu,e2]
 rw[e6] at h2;exact acP ⟨_,_,_,_,_,_,_,_,_,_,_,_,_,h1,_,_,_,_,_,_,_,_,_,_,_,_,_,h2,az.pos (by rw[e1];rfl) (az.pos (by rw[hlq];rfl) (az.pos (by rw[hle];rfl) ⟨by omega,by omega,_,_,_,_,_,_,_,_,_,_,_,Jy,az.pos rfl
  ⟨_,_,_,hw,by omega,by omega,_,_,_,_,_,_,_,_,_,_,_,Jy,_,_,pS 0,_,_,va (b:=0) (l:=[jY]) (by simp[Ty.size,Ty.sizes]),_,hc,az.pos rfl (congrArg nB (by simp))⟩⟩))⟩
theorem sQ:ay aj 9 [] (nB true):=
 LP (xK (s:=WV) (by decide) kI1) (xK (s:=sK2) (by decide) kI2) kE1 kE2 kE3 kE4 kE5 kE6
section
variable {s:ByteArray} {m:Mk}
theorem aI.once {τ:Type} {x0:τ} {body:τ->(τ->Prop)->Prop} (h:∀again,body x0 again):aI τ x0 body:=
 aI.intro (fun _:Unit=>x0) (fun _=>True) (fun _=>0) () rfl ai fun _ _ again _=>h again
theorem Jv:ay aj 15 [prA Cf,.agg [.sl [],.sl [],.sl [],.sl [],.sl [],.sl [],.sl [],.sl [],.sl []]] (nB true):=by
 have hw:ay aj 46 [.sl [],.sl []] (nB true):=PU (a:=[]) (b:=[]) (aqC _);have he:ay aj 49 [.sl [],.sl [],.bz 50 []] (nB true):=
  ZB (az.neg rfl (aI.once fun _=>az.neg rfl rfl))
 exact Zv ⟨_,hw,az.pos rfl ⟨_,Zy (az.neg rfl (aI.once fun _=>az.neg rfl rfl)),az.pos rfl ⟨_,hw,az.pos rfl
  ⟨_,jl (l:=[]) (m:=[]) (aqC _) (fun k h=>by cases h),az.pos rfl ⟨_,he,az.pos rfl ⟨_,he,az.pos rfl
  ⟨_,ZF (az.neg rfl (aI.once fun _=>az.neg rfl rfl)),az.pos rfl
  ⟨_,ZI (az.neg rfl (aI.once fun _=>az.neg rfl rfl)),az.pos rfl
  ⟨_,ZL (az.neg rfl (aI.once fun _=>az.neg rfl rfl)),rfl⟩⟩⟩⟩⟩⟩⟩⟩⟩
theorem adu {c v x:List Ty} {t:Tm} {u:Ty} (h:t.Is c v x u):t.PG c v x=(u,0):=by
 obtain⟨h1,w,h2,h3,_⟩:=Tm.xJ.1 h;unfold Tm.PG;rw[h2,h1];show ((Ty.mk u.args w.base,0):Ty×Int)=_;rw[h3,Ty.eta]
theorem Jw {l:List A2} {k:Nat} (h:k<l.length):List.getD (aM l) (af (k:Int)) .top=Oa l[k]:=getD_map h
theorem vA (l:List A2):∀x:AV,x∈aM l->x.cells.length=9:=fun x hx=>by
 obtain⟨e,_,rfl⟩:=arx.1 hx;rfl
theorem OI {t:Tm} {u:Ty} (hm:∀q∈cT m,q.size<=1000) (ht:∀q∈m.types,q.size<=1000) (hu:u.args=[]) (h:SdW (cT m) m.types t u):
  ay aj 19 [wTy m,.sl [],Ql t,LA u] (nI 0):=by
 have hs:u.size<=1000:=by rw[show u.size=1+Ty.sizes u.args from by cases u;rfl,hu];decide
 have:=xp (b:=(m.aP.length:Int)) (c:=cT m) (m:=m.types) (x:=[]) (t:=t) (of:=u) (fun q hq=>by have:=hm q hq;omega) (fun q hq=>by have:=ht q hq;omega) (Tm.AU h.lo) (fun q hq=>by cases hq) (by have:=h.z;simp only[aqW];omega) (by omega)
 rwa [if_pos h.r,if_pos ((Tm.WL _ _ _ _ _).2 h.is)] at this
theorem By {s0:ByteArray}:ay aj 5 [nS s0] (nB true):=by
 refine acU ⟨⟨by decide,by split<;>omega,by split<;>omega⟩,?_⟩;have hz:(s0.extract (af 0) (af (if(1500:Int)<((s0.size:Nat):Int) then 1500 else((s0.size:Nat):Int)))).size<=1500:=by
  rw[ar3];split
  ·have:af 1500=1500:=rfl;omega
  ·rw[arv];omega
 generalize s0.extract (af 0) (af (if(1500:Int)<((s0.size:Nat):Int) then 1500 else((s0.size:Nat):Int)))=s at hz;obtain⟨p1,p2,p3⟩:=Dn (s:=s) (by omega);have htx:=xH (s:=s) (by omega) p1 (by omega) (by omega);have ep:=WU hz;generalize jL s=E at htx ep;obtain⟨m,fa⟩:=E;dsimp only at htx ep;refine⟨_,_,_,_,_,_,_,_,_,_,_,_,_,htx,az.intro (fun h=>?_) fun h=>?_⟩
 ·have h:¬fa.1=0:=by simpa using h
  rcases ep with⟨h1,_⟩|⟨_,rfl⟩
  ·exact(h h1).elim
  ·exact⟨_,sQ,az.pos rfl ⟨_,Jv,rfl⟩⟩
 have h:fa.1=0:=by simpa using h
 obtain⟨hw,hj⟩:WI m/\MJ 500 80000 m:=by
  rcases ep with⟨_,h⟩|⟨h1,_⟩
  ·exact h
  ·exact(h1 h).elim
 clear ep htx h;have hc:∀q∈cT m,q.size<=1000:=fun q hq=>by
  obtain⟨p,hp,rfl⟩:=arx.1 hq;exact hj.mi.hc p hp
 have dK:(cT m).length=m.consts.length:=aqu _;have c1:=hj.mi.cl;have c2:=hj.mi.ml;have c3:=hj.e;have c4:=hj.r;have c5:=hj.p;have hwd:=vv (m:=m) hj.mi.hc hj.mi.hm (by omega) (by omega);have hz1:=ju (S:=1000) (l:=cT m++m.types) (fun q hq=>(aq7.1 hq).elim (hc q) (hj.mi.hm q));have hrw:=oB (b:=(m.aP.length:Int)) (c:=cT m) (m:=m.types) (by omega) (by omega) (by rw[aqz] at hz1;omega);have DO:(cT m++m.types).all (Ty.bG (m.aP.length:Int))=true:=aqF.2 fun q hq=>(aq7.1 hq).elim (hw.c q) (hw.t q);rw[xC,DO] at hrw;have l1:(m.eqs++m.rules).length<=200000:=by rw[aqz];omega
 have el:(([]:List AV)++aM m.eqs)++aM m.rules=aM (m.eqs++m.rules):=by rw[arF,aM,aM,<-arq]
 have tU:(aM (m.eqs++m.rules)).length=(m.eqs++m.rules).length:=aqu _;have aiG:((cT m).map Ty.enc).length=m.consts.length:=by rw[aqu,dK]
 refine⟨_,_,_,hwd,_,hrw,az.neg rfl (az.neg ?_ (az.neg ?_ ⟨fun _=>rfl,ir (fun x hx=>by cases hx) (vA _) ?_ (by decide),rfl,ir (fun x hx=>by cases hx) (vA _) ?_ (by decide),rfl,?_⟩))⟩
 ·rw[aiG,aqu];simp
 ·rw[aqu,aqu,hw.n];simp
 ·rw[arF,aqu];omega
 ·rw[el,tU];omega
 rw[el];have hq:∀e∈m.eqs++m.rules,Qw (cT m) m.types e:=fun e he=>(aq7.1 he).elim (hw.e e) (hw.r e);generalize m.eqs++m.rules=L at l1 tU hq;refine aI.intro (fun k:Nat=>(((),(),(),(k:Int),()),((m.aP.map nS,cD m.consts,m.bx.map nS,m.types.map Ty.enc,aM m.eqs,aM m.rules,bo m.prec,bo m.status,bS m.dj,()),(fa.1,fa.2.1,fa.2.2.1,fa.2.2.2,()),((m.aP.length:Int),(cT m).map Ty.enc,m.types.map Ty.enc,()),aM L,())))
  (fun k=>k<=L.length) (fun k=>L.length-k) 0 rfl (aqC _) ?_
 intro k hk again cj;dsimp only;unfold Nu;rw[tU];refine⟨rfl,az.intro (fun h=>?_) fun h=>?_⟩
 ·have aH:k<L.length:=by simpa using h
  obtain⟨u,hu,h1,h2⟩:=hq _ (aqL aH);have hg:=Jw aH;generalize L[k]=e at h1 h2 hg;have dJ:=EO (b:=(m.aP.length:Int)) (c:=cT m) (m:=m.types) (x:=[]) (t:=e.left) (Tm.AU h1.lo) (by have:=h1.z;simp only[aqW];omega);rw[adu h1.is] at dJ;have on:again (((),(),(),IntKind.wrap .i64 ((k:Int)+1),()),((m.aP.map nS,cD m.consts,m.bx.map nS,m.types.map Ty.enc,aM m.eqs,aM m.rules,bo m.prec,bo m.status,bS m.dj,()),(fa.1,fa.2.1,fa.2.2.1,fa.2.2.2,()),((m.aP.length:Int),(cT m).map Ty.enc,m.types.map Ty.enc,()),aM L,())):=by
   rw[bk (by omega)];exact cj (k+1) (by omega) (by omega)
  have qt:=Lv _ e.left (aqw _) (by have:=h1.z;omega);rw[Tm.aG,Rw.aG] at qt;have hn:kU (cT m) m.types [] e.left.raw:=⟨hc,hj.mi.hm,(fun q hq=>by cases hq),by omega,by omega,aqC _,by have:=Tm.wv e.left;have:=h1.z;omega,Tm.V9 _ (Tm.AU h1.lo)⟩;have W5:=De (b:=(m.aP.length:Int)) hn;refine⟨rfl,by omega,by omega,_,_,_,_,_,_,_,_,_,hg,_,_,_,dJ,az.neg rfl (az.neg (by rw[hu];rfl) ⟨rfl,by omega,by omega,_,_,_,_,_,_,_,_,_,hg,_,OI hc hj.mi.hm hu h1,az.neg rfl
   ⟨rfl,by omega,by omega,_,_,_,_,_,_,_,_,_,hg,_,OI hc hj.mi.hm hu h2,az.neg rfl ⟨by rw[tU],by omega,by rw[tU];omega,_,_,_,_,_,_,_,_,_,hg,_,_,_,_,_,qt,_,_,_,_,_,W5,az.intro (fun h=>?_) fun h=>⟨by rw[tU],on⟩⟩⟩⟩)⟩
  have h:(fE (m.aP.length:Int) (cT m) m.types [] e.left.raw 100000).1.err=0:=by simpa using h
  obtain⟨⟨v,hl⟩,_⟩:=Bv hn h;have e1:(fE (m.aP.length:Int) (cT m) m.types [] e.left.raw 100000).2=e.left:=aao (Ji _ _ _ hl.is) (Ji _ _ _ h1.is) (hl.conv.symm.trans (OG _ _ _ h1.is));rw[e1];have heq:=Fg _ e.left e.left (aqw _) (by have:=h1.z;omega);rw[Tm.PB] at heq;exact⟨by rw[tU],by omega,by rw[tU];omega,_,_,_,_,_,_,_,_,_,hg,_,heq,az.neg rfl ⟨by rw[tU],on⟩⟩
 ·refine aI.intro (fun k:Nat=>(((),(),(k:Int),()),((m.aP.map nS,cD m.consts,m.bx.map nS,m.types.map Ty.enc,aM m.eqs,aM m.rules,bo m.prec,bo m.status,bS m.dj,()),(fa.1,fa.2.1,fa.2.2.1,fa.2.2.2,()),((m.aP.length:Int),(cT m).map Ty.enc,m.types.map Ty.enc,()),aM L,())))
   (fun k=>k<=m.consts.length) (fun k=>m.consts.length-k) 0 rfl (aqC _) ?_
  intro k hk again cj;dsimp only;unfold Nt;rw[aiG];refine az.intro (fun h=>⟨_,vt (l:=m.prec) (a:=k) (b:=k) (by omega),az.neg ?_ ?_⟩) fun h=>⟨_,sQ,rfl⟩
  ·cases hb:kS m.prec k k with
   |false=>rfl
   |true=>exact(hw.p _ ((pH _ _ _).1 hb)).elim
  ·have aH:k<m.consts.length:=by simpa using h
   rw[bk (by omega)];exact cj (k+1) (by omega) (by omega)
end
end Go.Proofs.YtnkjkpmbgoehkaaGreat
