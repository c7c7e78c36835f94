/- Lemmas. -/
import Derived.Lib.ConvBytes
import Derived.Laws.LoneSync
import Derived.Laws.Pointers
import Derived.Laws.Entries
import Derived.Laws.BytesArg
import Derived.RangeFuncIn
import Derived.RangeFuncRecord
import Derived.Test.YthnnplohnceogaaGreatDoorQ02
namespace Go.Proofs.YthnnplohnceogaaGreatDoor
open Go
open _root_.List renaming getD->ae
open _root_.True renaming intro->ai
open Go.Result renaming andThen_ok->al
open Go.Sem renaming run_bind->ao,run_pure->aq
set_option linter.unusedSimpArgs false
set_option linter.unusedVariables false
section
variable {G:Type} {Γ:Env G} {s s':AS G} {a:Act} {w w':World} {η:List Value} {hp hp':List ax} {P:Program} {ops:Array Oper} {H:Oper->Bool}
def Tj(Γ:Env G)(ops:Array Oper)(o:Oper)(l:List Nat)(s:AS G)(K:AS G->Prop):Prop:=
 ∃N:AV->List ax->Prop,(∀s':AS G,(∀t,t∈o.looksAt ops->s'.tmps t=s.tmps t)->s'.hp=s.hp->∀K':AS G->Prop,(∀r hp',N r hp'->K' (AS.put { s' with hp:=hp' } o.dst r))->bR Γ o s' K')/\
  ∀r hp',N r hp'->ov l s.hp hp'/\K (AS.put { s with hp:=hp' } o.dst r)
def LG(Γ:Env G)(ops:Array Oper)(X:List (Option (List Nat)))(i:Nat)(o:Oper)(s:AS G)(K:AS G->Prop):Prop:=
 match X.getD i none with
 |none=>bR Γ o s K
 |some l=>Tj Γ ops o l s K
theorem LG.call{X:List (Option (List Nat))}{i:Nat}{o:Oper}{K:AS G->Prop}(h:LG Γ ops X i o s K):bR Γ o s K:=by unfold LG at h;split at h;exact h;obtain⟨N,h1,h2⟩:=h;exact h1 s (λ_ _=>rfl) rfl K λr hp' hn=>(h2 r hp' hn).2
def kJ(Γ:Env G)(ops:Array Oper)(H:Oper->Bool)(C X:List (Option (List Nat)))(i:Nat)(K:AS G->Prop)(s:AS G):Prop:=
 match ops[i]? with
 |none=>K s
 |some o=>if fG o.op=true then eu Γ.nt o.dst/\o.guard=none/\∃r hp',xh Γ ops o s r hp'/\sH C i s.hp hp'/\K (AS.put { s with hp:=hp' } o.dst r)
  else if H o=true then xp Γ ops o s (LG Γ ops X i o s K) K
  else ∃x,pt Γ ops o s x (λhp hp'=>hp'=hp)/\K (s.put o.dst x)
def gP(Γ:Env G)(ops:Array Oper)(H:Oper->Bool)(C X:List (Option (List Nat)))(Q:AS G->Prop):Nat->Array Bool->AS G->Prop
 |0,listed,s=>Region.ready .any ops listed=[]/\Q s|fuel+1,listed,s=>(Region.ready .any ops listed=[]->Q s)/\∀i∈Region.ready .any ops listed,kJ Γ ops H C X i (gP Γ ops H C X Q fuel (listed.setIfInBounds i true)) s
theorem gP.any(aN:Γ.Ok){C X:List (Option (List Nat))}{Q:AS G->Prop}:∀(fuel:Nat)(listed:Array Bool)(s:AS G),gP Γ ops H C X Q fuel listed s->Dg Γ ops H Q fuel listed s:=by intro fuel;induction fuel with|zero=>intro listed s h;exact h|succ fuel ih=>intro listed s h;refine⟨h.1,λi hi=>?_⟩;have h1:=h.2 i hi;unfold kJ at h1;unfold Ak;split at h1;rename_i ho;rw[ho];exact ih _ _ h1;rename_i o ho;rw[ho];simp only;split at h1;rename_i he;rw[if_pos he];obtain⟨g1,g2,r,hp',g3,_,g4⟩:=h1;exact⟨g1,g2,r,hp',g3.run aN,ih _ _ g4⟩;rename_i he;rw[if_neg he];split at h1;rename_i hH;rw[if_pos hH];exact h1.mono (λh2 a w η Kc Qc hk hr=>h2.call a w η Kc Qc (λs' a' w' bj hs gJ=>hk s' a' w' bj (ih _ _ hs) gJ) hr) (ih _);rename_i hH;rw[if_neg hH];obtain⟨x,g1,g2⟩:=h1;exact⟨x,pt.aef (R:=λhp hp'=>hp'=hp) aN rfl g1,ih _ _ g2⟩
theorem gP.first{C X:List (Option (List Nat))}{Q:AS G->Prop}{i:Nat}{oi:Oper}{x:AV}{R:List ax->List ax->Prop}(htr:∀kX yY hp3,R kX yY->R yY hp3->R kX hp3)(hrf:∀hp,R hp hp)(hi:ops[i]?=some oi)(bW:Ai H oi=false): ∀(fuel:Nat)(listed:Array Bool)(s:AS G),Shut ops listed-> (∀(j:Nat) oj,ops[j]?=some oj->j≠i->listed.getD j true=false->Reach ops i j\/(oi.apart ops oj=true/\((H oj=false/\(fG oj.op=false\/∀hp hp',sH C j hp hp'->R hp hp'))\/(H oj=true/\fG oj.op=false/\∃l,X.getD j none=some l/\∀hp hp',ov l hp hp'->R hp hp'))))-> i∈Region.ready .any ops listed->pt Γ ops oi s x R->gP Γ ops H C X Q fuel (listed.setIfInBounds i true) (s.put oi.dst x)->gP Γ ops H C X Q (fuel+1) listed s:=by
 have own:∀{K:AS G->Prop}{s:AS G},pt Γ ops oi s x R->K (s.put oi.dst x)->kJ Γ ops H C X i K s:=by intro K s hy hK;unfold kJ;rw[hi];simp only[(Aj bW).1,(Aj bW).2,auO,if_false];exact⟨x,⟨hy.1,hy.2.imp (λg=>⟨g.1,λs' h1 h2=>g.2 s' h1 (by rw[h2];exact hrf _)⟩) id⟩,hK⟩
 intro fuel;induction fuel with
  |zero=>intro listed s _ _ hr hy H1;refine⟨λh=>(by rw[h]at hr;cases hr),λj hj=>?_⟩;by_cases CA:j=i;subst CA;exact own hy H1;have:=ready_mono hj CA;rw[H1.1]at this;cases this|succ fuel ih=>
   intro listed s qR ib hr hy H1;refine⟨λh=>(by rw[h]at hr;cases hr),λj hj=>?_⟩;by_cases CA:j=i;subst CA;exact own hy H1;have h1:=H1.2 j (ready_mono hj CA);obtain⟨Zc,oj,KW,Y3⟩:=mem_ready.1 hj;rcases ib j oj KW CA Zc with h2|⟨hap,SJ⟩;exact(C9 qR hr hj h2).elim;(obtain⟨p1,p2,p3⟩:=Oper.apart_spec hap;have p1':∀t,t∈oj.looksAt ops->(s.put oi.dst x).tmps t=s.tmps t:=by intro t ht;cases hd:oi.dst with|none=>rfl|some d=>show Cm _ _ _ _=_;rw[gS,if_neg];intro e;subst e;exact p1 _ hd ht);(have dv:∀k ok,ops[k]?=some ok->k≠i->(listed.setIfInBounds j true).getD k true=false->Reach ops i k\/(oi.apart ops ok=true/\((H ok=false/\(fG ok.op=false\/∀hp hp',sH C k hp hp'->R hp hp'))\/(H ok=true/\fG ok.op=false/\∃l,X.getD k none=some l/\∀hp hp',ov l hp hp'->R hp hp'))):=by intro k ok hk hki Dh;refine ib k ok hk hki ?_;by_cases QD:j=k;subst QD;exact Zc;rw[getD_set_ne true QD]at Dh;exact Dh);(have ac5:∀(hp':List ax)(r:AV),(AS.put { s with hp:=hp' } oj.dst r).put oi.dst x=AS.put { s.put oi.dst x with hp:=hp' } oj.dst r:=by intro hp' r;rw[<-put_comm p2];congr 1;cases oi.dst<;>rfl);(have Lx:(s.put oi.dst x).hp=s.hp:=by cases oi.dst<;>rfl);rcases SJ with⟨hnH,qH⟩|⟨hyH,hnE,l,hl,hR⟩;unfold kJ at h1 ⊢;rw[KW]at h1 ⊢;simp only at h1 ⊢;split at h1;rename_i hej;rw[if_pos hej];obtain⟨g1,g2,r,hp',g3,g4,g5⟩:=h1;rw[Lx]at g4;have hR:=(qH.resolve_left (by rw[hej];simp)) _ _ g4;refine⟨g1,g2,r,hp',g3.Ly p1,g4,ih (listed.setIfInBounds j true) _ (gu qR hj) dv (ready_mono hr (avW CA)) ((hy.heap htr hR).put p3) ?_⟩;rw[avZ _ _ CA];rw[ac5];exact g5;rename_i hej;rw[if_neg hej,if_neg (by rw[hnH];simp)];rw[if_neg (by rw[hnH];simp)]at h1;obtain⟨y,hyj,hK⟩:=h1;refine⟨y,hyj.Ly p1,ih (listed.setIfInBounds j true) (s.put oj.dst y) (gu qR hj) dv (ready_mono hr (avW CA)) (hy.put p3) ?_⟩;rw[avZ _ _ CA,<-put_comm p2];exact hK
   ·unfold kJ at h1 ⊢;rw[KW]at h1 ⊢;simp only[hnE,hyH,auO,if_true,if_false]at h1 ⊢;unfold xp at h1 ⊢;rw[ph p1]at h1;refine h1.imp (λh1=>⟨h1.1,?_⟩) λh1=>⟨h1.1,h1.2.1,?_⟩;rotate_left;refine ih (listed.setIfInBounds j true) _ (gu qR hj) dv (ready_mono hr (avW CA)) (hy.put p3) ?_;rw[avZ _ _ CA,<-put_comm p2];exact h1.2.2;have h2:=h1.2;unfold LG at h2 ⊢;rw[hl]at h2 ⊢;obtain⟨N,h3,h4⟩:=h2;refine⟨N,λs' h5 h6=>h3 s' (λt ht=>(h5 t ht).trans (p1' t ht).symm) (h6.trans Lx.symm),λr hp' hn=>?_⟩;obtain⟨g4,g5⟩:=h4 r hp' hn;rw[Lx]at g4;refine⟨g4,ih (listed.setIfInBounds j true) _ (gu qR hj) dv (ready_mono hr (avW CA)) ((hy.heap htr (hR _ _ g4)).put p3) ?_⟩;rw[avZ _ _ CA];rw[ac5];exact g5
theorem gP.HJ{C X:List (Option (List Nat))}{Q:AS G->Prop}{i:Nat}{fuel:Nat}{listed:Array Bool}(qR:Shut ops listed)(ib:∀(j:Nat) oj,ops[j]?=some oj->j≠i->listed.getD j true=false->Reach ops i j)(hr:i∈Region.ready .any ops listed)(H0:kJ Γ ops H C X i (gP Γ ops H C X Q fuel (listed.setIfInBounds i true)) s):gP Γ ops H C X Q (fuel+1) listed s:=by refine⟨λh=>(by rw[h]at hr;cases hr),λj hj=>?_⟩;by_cases CA:j=i;subst CA;exact H0;obtain⟨Zc,oj,KW,_⟩:=mem_ready.1 hj;exact(C9 qR hr hj (ib j oj KW CA Zc)).elim
def y6(H:Oper->Bool)(C M:List (Option (List Nat)))(l:List Oper):Bool:=
 let m:=Cw l []
 (List.range l.length).all λk=>match l[k]? with
  |none=>false
  |some ok=>ok.after.toList.all (λe=>!Region.binds .any e||decide (e.on<k)) &&
    (List.range l.length).all λj=>decide (j<=k)||(m.getD j 0).testBit k||match l[j]? with
     |none=>true
     |some oj=>!Ai H ok&&(!H oj&&ok.apart l.toArray oj&&(!fG oj.op||mj C M k j ok.op))
def kQ(Γ:Env G)(ops:Array Oper)(H:Oper->Bool)(C M:List (Option (List Nat)))(K:AS G->Prop):Nat->List Oper->AS G->Prop
 |_,[],s=>K s|k,o::rest,s=>if fG o.op=true then eu Γ.nt o.dst/\o.guard=none/\∃r hp',xh Γ ops o s r hp'/\sH C k s.hp hp'/\kQ Γ ops H C M K (k+1) rest (AS.put { s with hp:=hp' } o.dst r)
  else if H o=true then xp Γ ops o s (bR Γ o s (kQ Γ ops H C M K (k+1) rest)) (kQ Γ ops H C M K (k+1) rest)
  else ∃x,pt Γ ops o s x (tY M k o.op)/\kQ Γ ops H C M K (k+1) rest (s.put o.dst x)
theorem kQ.any{C M:List (Option (List Nat))}{Q:AS G->Prop}{l0:List Oper}(hd:y6 H C M l0=true):∀(l:List Oper)(k:Nat)(listed:Array Bool)(s:AS G),(∀(j:Nat),l[j]?=l0[k+j]?)->listed.size=l0.length->(∀(j:Nat),j<l0.length->listed.getD j true=decide (j<k))->k+l.length=l0.length-> kQ Γ l0.toArray H C M Q k l s->gP Γ l0.toArray H C [] Q l.length listed s:=by intro l;induction l with|nil=>(intro k listed s _ cY Di hk h;refine⟨?_,h⟩;apply List.eq_nil_iff_forall_not_mem.2;intro j hj;obtain⟨h1,o,ho,_⟩:=mem_ready.1 hj;have aF:j<l0.length:=by have:=(au3.1 ho).1;simpa using this);rw[Di j aF]at h1;simp at h1;simp at hk;omega|cons o l ih=>(intro k listed s hl cY Di hk h;have aN:l0[k]?=some o:=by have:=hl 0;simpa using this.symm);(have hka:l0.toArray[k]?=some o:=by simpa using aN);(have hkl:k<l0.length:=(aun.1 aN).1;have fj:=hd;simp only[y6,auI,List.mem_range]at fj;have sq:=fj k hkl;rw[aN]at sq;simp only[auq,auI,List.mem_range]at sq;obtain⟨hd1,hd2⟩:=sq;have amf:listed.getD k true=false:=by rw[Di k hkl];simp);(have Tl:∀j,j<l0.length->listed.getD j false=decide (j<k):=by intro j hj;have:=Di j hj;simp only[au8,avc (show j<listed.size by omega),avj]at this ⊢;exact this);(have YD:k∈Region.ready .any l0.toArray listed:=by refine mem_ready.2 ⟨amf,o,hka,λe he hb=>?_⟩;have:=hd1 e (by simpa using he);rw[hb]at this;simp at this;rw[Tl e.on (by omega)];simp;exact this);(have qR:Shut l0.toArray listed:=by (intro q oq hq hoq e he hb;have hql:q<l0.length:=by have:=(au3.1 hoq).1;simpa using this);(rw[Tl q hql]at hq;have Sn:q<k:=by simpa using hq);(have h2:=fj q hql;have amg:l0[q]?=some oq:=by simpa using hoq);rw[amg]at h2;simp only[auq,auI]at h2;have h3:=h2.1 e (by simpa using he);rw[hb]at h3;simp at h3;rw[Tl e.on (by omega)];simp;omega);(have Tn:∀(j:Nat),(ae (Cw l0 []) j 0).testBit k=true->Reach l0.toArray k j:=by intro j hj;cases hm:(Cw l0 [])[j]? with|none=>simp[ae,hm]at hj|some m=>simp only[ae,hm,avj]at hj;exact Da (ops:=l0.toArray) l0 [] (λj=>by simp) (λj m i hj=>by simp at hj) j m k hm hj);(have Tp:∀(j:Nat) oj,l0.toArray[j]?=some oj->j≠k->listed.getD j true=false->Reach l0.toArray k j\/(Ai H o=false/\H oj=false/\o.apart l0.toArray oj=true/\(fG oj.op=false\/mj C M k j o.op=true)):=by (intro j oj KW QD Dh;have Lg:j<l0.length:=by have:=(au3.1 KW).1;simpa using this);(rw[Di j Lg]at Dh;have amh:l0[j]?=some oj:=by simpa using KW);have h2:=hd2 j Lg;rw[amh]at h2;simp only[avo,decide_eq_true_eq,auq,avd]at h2;rcases h2 with(h2|h2)|h2;simp at Dh;omega;exact .inl (Tn j h2);exact .inr ⟨h2.1,h2.2.1.1,h2.2.1.2,h2.2.2⟩);(have dv:∀s',kQ Γ l0.toArray H C M Q (k+1) l s'->gP Γ l0.toArray H C [] Q l.length (listed.setIfInBounds k true) s':=by intro s' h';refine ih (k+1) _ s' (λj=>by have:=hl (j+1);simp only[ava]at this;rw[this];congr 1;omega) (by simpa using cY) (λj hj=>?_) (by simp at hk;omega) h';by_cases QD:j=k;(subst QD;have:j<listed.size:=by omega);simp[this];rw[getD_set_ne true (avW QD),Di j hj];simp;omega);simp only[kQ]at h;split at h;(rename_i he;obtain⟨h1,h2,r,hp',h3,h4,h5⟩:=h;have SS:Ai H o=true:=by simp[Ai,he]);refine gP.HJ qR (λj oj KW QD Dh=>?_) YD ?_;rcases Tp j oj KW QD Dh with h5|h5;exact h5;rw[SS]at h5;cases h5.1;unfold kJ;rw[hka];simp only[he,if_true];exact⟨h1,h2,r,hp',h3,h4,dv _ h5⟩;rename_i he;split at h;(rename_i hH;have SS:Ai H o=true:=by simp[Ai,hH]);refine gP.HJ qR (λj oj KW QD Dh=>?_) YD ?_;rcases Tp j oj KW QD Dh with h5|h5;exact h5;rw[SS]at h5;cases h5.1;unfold kJ;rw[hka];simp only[he,hH,auO,if_true,if_false];refine h.mono (λh2=>?_) dv;show bR Γ o s _;exact λa w η Kc Qc hk hr=>h2 a w η Kc Qc (λs' a' w' bj hs gJ=>hk s' a' w' bj (dv _ hs) gJ) hr;rename_i hH;obtain⟨x,h1,h2⟩:=h;exact gP.first (R:=tY M k o.op) (λ_ _ _=>tY.trans) (λ_=>tY.refl) hka (by simp[Ai,he,hH]) l.length listed s qR (λj oj KW QD Dh=>(Tp j oj KW QD Dh).imp id λh=>⟨h.2.2.1,.inl ⟨h.2.1,h.2.2.2.imp id λhm hp hp' hc=>nD hm hc⟩⟩) YD h1 (dv _ h2)
theorem gk.agS(aN:Γ.Ok)(hm:Γ.P.follows .mixedOrders=true){id:Nat}{l:List Oper}{Q:Exit->AS G->Prop}(C M:List (Option (List Nat)))(hd:y6 H C M l=true)(h:kQ Γ l.toArray H C M (Q .normal) 0 l s):gk Γ (.region id l.toArray true) Q s:=by intro a w η hr;refine wpIn_region_any hm ?_;have:=(kQ.any (Γ:=Γ) (C:=C) (M:=M) hd l 0 (Array.replicate l.length false) s (λj=>by simp) (by simp) (λj hj=>by simp[hj]) (by simp) h).any aN;have h2:=Dg.sound (Qc:=λe a' w'=>∃s' bj,Q e s'/\Rel Γ s' a' w' bj) aN (λs' a' w' bj h1 h2=>⟨s',bj,h1,h2⟩) _ _ _ a w.drew η this (hr.same aN (cj.drew w));simpa using h2
end
section
variable {Γ:Env Unit} {s s':AS Unit} {a:Act} {w w':World} {η:List Value} {hp:List ax}
def Tq(r:Nat)(e:AV):AV->AV
 | .ptr r' o=>(match Nat.beq r r' with|true=>.aU e o|false=>.ptr r' o)|x=>x
def NJ(r:Nat)(e:AV):List AV->List AV
 | []=>[]|x::l=>Tq r e x::NJ r e l
def Tr(r:Nat)(e:AV):AV->AV
 | .ptr r' o=>(match Nat.beq r r' with|true=>.aU e o|false=>.ptr r' o)| .bz f caps=>.bz f (NJ r e caps)|x=>x
theorem HK(r:Nat)(e:AV):∀(l:List AV),NJ r e l=l.map (Tq r e)
 | []=>rfl|x::l=>by simp[NJ,HK r e l]
theorem cU.ami(aN:Γ.Ok){f:Nat->AV}{g:Unit}{r:Nat}{cs:List AV}(hr:hp[r]?=some (.box cs)):cU Γ ⟨f,hp,g⟩ ⟨λt=>Tr r (Hr (cs.map (AV.eN hp))) (f t),hp.set r .dead,g⟩:=by
 intro a w η h;have aF:r<η.length:=by have:=h.heap.len;simp only at this;rw[this];exact(aun.1 hr).1
 have hv:η[r]?=some η[r]:=by simp[aF]
 obtain⟨b,vs,T,hb,mc,cY,gY⟩:=h.heap.obj r _ _ hr hv;have fU:η.set r η[r]=η:=by apply avf;intro i;by_cases hi:r=i;subst hi;rw[aD hv,hv];rw[getElem?_set_ne hi]
 have hd:=Rel.change (w':=w) (o':=.dead) (v':=η[r]) aN h hr ai hv (cy.refl _ w) (λb hb=>.inl hb) (λk hk=>hk.elim) (λ_ _ _ _ hk _=>hk.elim) (λ_ _ _ _ hk _=>hk.elim) (λn u ho=>by simp[bk,hr]at ho) (λ_ _=>rfl) (λ_ _=>rfl) (λb' d gb hd=>by rw[hb]at gb;simp only[dn,aul]at gb;subst gb;rw[mc]at hd;cases hd) (λ_=>ai);rw[fU]at hd;have hm:=h.cu r _ _ b hr ai hv (by rw[hb];rfl);have su:∀k,bw Γ w η (hp.set r .dead) b k:=by intro k;refine⟨.inr hm.1,ck mc,hm.2 _,?_⟩;intro r1 u h1 xq;by_cases bW:r=r1;subst bW;rw[aD hr];trivial;(rw[getElem?_set_ne bW];have Ts:r1<hp.length:=by have:=h.heap.len;simp only at this;rw[<-this];exact(aun.1 h1).1);(have ho:hp[r1]?=some hp[r1]:=by simp[Ts]);rw[ho];cases hk:hp[r1]with|dead=>trivial|box eJ=>exact(h.heap.sep r r1 _ (.box eJ) _ u b bW hr (by rw[<-hk];exact ho) ai ai hv h1 (by rw[hb];rfl) xq).elim|row e z els=>exact(h.heap.sep r r1 _ (.row e z els) _ u b bW hr (by rw[<-hk];exact ho) ai ai hv h1 (by rw[hb];rfl) xq).elim|cJ es'=>exact(h.heap.sep r r1 _ (.cJ es') _ u b bW hr (by rw[<-hk];exact ho) ai ai hv h1 (by rw[hb];rfl) xq).elim|jm q k=>exact(h.heap.sep r r1 _ (.jm q k) _ u b bW hr (by rw[<-hk];exact ho) ai ai hv h1 (by rw[hb];rfl) xq).elim|aV e z els=>exact(h.heap.sep r r1 _ (.aV e z els) _ u b bW hr (by rw[<-hk];exact ho) ai ai hv h1 (by rw[hb];rfl) xq).elim|fz e m ns=>exact(h.heap.sep r r1 _ (.fz e m ns) _ u b bW hr (by rw[<-hk];exact ho) ai ai hv h1 (by rw[hb];rfl) xq).elim
 have Tt:∀b k,bw Γ w η hp b k->bw Γ w η (hp.set r .dead) b k:=by intro b k hf;refine⟨hf.1,hf.2.1,hf.2.2.1,(bp b k).2 λr1 u h1 xq=>?_⟩;obtain⟨o,g1,g2⟩:=(bp b k).1 hf.2.2.2 r1 u h1 xq;by_cases bW:r=r1;subst bW;exact⟨.dead,aD hr,ai⟩;exact⟨o,by rw[getElem?_set_ne bW];exact g1,g2⟩
 have key:∀(o:Nat)(v:Value){oT:List Value}{kX:List ax},bq w (bw Γ w η (hp.set r .dead)) η (hp.set r .dead) (.ptr r o) v->bq w (bw Γ w η (hp.set r .dead)) oT kX (.aU (Hr (cs.map (AV.eN hp))) o) v:=by
  intro o v oT kX hp';cases hp' with
   |ptr _ _ b' gb=>
    rw[hv,hb]at gb;simp only[aul,Value.pointer.injEq,Addr.mk.injEq,and_true]at gb;subst gb;have eh:∀(j:Nat)(x:AV),(cs.map (AV.eN hp))[j]?=some x->∃y u,cs[j]?=some y/\x=y.eN hp/\vs[j]?=some u:=by intro j x hx;rw[auA]at hx;cases hj:cs[j]? with|none=>rw[hj]at hx;cases hx|some y=>(rw[hj]at hx;obtain rfl:=auo hx;have:j<vs.size:=by rw[cY];exact(aun.1 hj).1);exact⟨y,vs[j],rfl,rfl,by simp[this]⟩
    have hE:=bq.aU (w:=w) (F:=bw Γ w η (hp.set r .dead)) (η:=oT) (hp:=kX) (Hr (cs.map (AV.eN hp))) o b 0 (λj=>(vs[j]?).getD undef) (λj x hx=>by
      rw[pg]at hx;obtain⟨y,u,h1,h2,h3⟩:=eh j x hx;refine⟨?_,su _,?_⟩;simp[World.cell?,mc,h3]
      ·simp only[h3,avj];exact(gY j y u h1 h3).2) (λj x hx=>by
      rw[pg]at hx;obtain⟨y,u,h1,h2,h3⟩:=eh j x hx;subst h2;simp only[h3,avj];exact(jD h.heap h.cu (gY j y u h1 h3).1).ext ⟨λ_ _ _ _ h=>h,λ_ _ _ _ h=>h,Tt,λ_ _ h=>h,λ_ _ h=>h,λ_ _ _ h=>h⟩)
    rw[auZ]at hE;exact hE
 refine⟨η,hd.nt,λt=>?_,hd.heap,hd.cu,hd.keeps,hd.inv,hd.marks,hd.ext⟩;have ht:=hd.tmps t;simp only at ht ⊢;cases hx:f t with
  |ptr r' o=>rw[hx]at ht;simp only[Tr];split;rename_i YC;obtain rfl:=auN YC;exact key o _ ht;exact ht|bz fn caps=>rw[hx]at ht;simp only[Tr,HK];generalize hvt:a.tmps.getD t undef=v at ht;cases ht with|bz _ _ us hl YA=>refine .bz fn _ us (by simpa using hl) λj y u hy hu=>?_;rw[auA]at hy;cases hj:caps[j]? with|none=>rw[hj]at hy;cases hy|some z=>rw[hj]at hy;obtain rfl:=auo hy;have hz:=YA j z u hj hu;cases z with|ptr r' o=>simp only[Tq];split;rename_i YC;obtain rfl:=auN YC;exact key o _ hz;exact hz|_=>exact hz
  |_=>rw[hx]at ht;exact ht
def aej(r:Nat)(es:ME):AV->AV
 | .mp r'=>if r=r' then .eo es else .mp r'|x=>x
def NK(r:Nat)(es:ME):List AV->List AV
 | []=>[]|x::l=>aej r es x::NK r es l
def Tu(r:Nat)(es:ME):AV->AV
 | .mp r'=>if r=r' then .eo es else .mp r'| .agg cs=>.agg (NK r es cs)|x=>x
theorem HL(r:Nat)(es:ME):∀(l:List AV),NK r es l=l.map (aej r es)
 | []=>rfl|x::l=>by simp[NK,HL r es l]
theorem cU.frz(aN:Γ.Ok){f:Nat->AV}{g:Unit}{r:Nat}{es:ME}(hr:hp[r]?=some (.cJ es)):cU Γ ⟨f,hp,g⟩ ⟨λt=>Tu r es (f t),hp.set r .dead,g⟩:=by
 intro a w η h;have aF:r<η.length:=by have:=h.heap.len;simp only at this;rw[this];exact(aun.1 hr).1
 have hv:η[r]?=some η[r]:=by simp[aF]
 obtain⟨b,en,c,hb,mc,zT⟩:=h.heap.obj r _ _ hr hv;have fU:η.set r η[r]=η:=by apply avf;intro i;by_cases hi:r=i;subst hi;rw[aD hv,hv];rw[getElem?_set_ne hi]
 have hd:=Rel.change (w':=w) (o':=.dead) (v':=η[r]) aN h hr ai hv (cy.refl _ w) (λb hb=>.inl hb) (λk hk=>hk.elim) (λ_ _ _ _ hk _=>hk.elim) (λ_ _ _ _ hk _=>hk.elim) (λn u ho=>by simp[bk,hr]at ho) (λ_ _=>rfl) (λ_ _=>rfl) (λb' d gb hd=>by rw[hb]at gb;simp only[dn,aul]at gb;subst gb;rw[mc]at hd;cases hd) (λ_=>ai);rw[fU]at hd;have key:∀{v:Value},bq w (bw Γ w η (hp.set r .dead)) η (hp.set r .dead) (.mp r) v->bq w (bw Γ w η (hp.set r .dead)) η (hp.set r .dead) (.eo es) v:=by intro v ht;cases ht with|mp _ b' gb=>rw[hv,hb]at gb;simp only[aul,Value.map.injEq]at gb;subst gb;have hm:=h.cu r _ _ b hr ai hv (by rw[hb];rfl);refine .eo b en c mc ⟨.inr hm.1,?_,hm.2 _,?_⟩ es zT;exact(au3.1 mc).1;intro r1 u h1 xq;by_cases bW:r=r1;subst bW;rw[aD hr];trivial;(rw[getElem?_set_ne bW];have Ts:r1<hp.length:=by have:=h.heap.len;simp only at this;rw[<-this];exact(aun.1 h1).1);(have ho:hp[r1]?=some hp[r1]:=by simp[Ts]);rw[ho];cases hk:hp[r1]with|dead=>trivial|box cs=>exact(h.heap.sep r r1 _ (.box cs) _ u b bW hr (by rw[<-hk];exact ho) ai ai hv h1 (by rw[hb];rfl) xq).elim|row e z els=>exact(h.heap.sep r r1 _ (.row e z els) _ u b bW hr (by rw[<-hk];exact ho) ai ai hv h1 (by rw[hb];rfl) xq).elim|cJ es'=>exact(h.heap.sep r r1 _ (.cJ es') _ u b bW hr (by rw[<-hk];exact ho) ai ai hv h1 (by rw[hb];rfl) xq).elim|jm q k=>exact(h.heap.sep r r1 _ (.jm q k) _ u b bW hr (by rw[<-hk];exact ho) ai ai hv h1 (by rw[hb];rfl) xq).elim|aV e z els=>exact(h.heap.sep r r1 _ (.aV e z els) _ u b bW hr (by rw[<-hk];exact ho) ai ai hv h1 (by rw[hb];rfl) xq).elim|fz e m ns=>exact(h.heap.sep r r1 _ (.fz e m ns) _ u b bW hr (by rw[<-hk];exact ho) ai ai hv h1 (by rw[hb];rfl) xq).elim
 refine⟨η,hd.nt,λt=>?_,hd.heap,hd.cu,hd.keeps,hd.inv,hd.marks,hd.ext⟩;have ht:=hd.tmps t;simp only at ht ⊢;cases hx:f t with
  |mp r'=>rw[hx]at ht;simp only[Tu];split;rename_i YC;subst YC;exact key ht;exact ht|agg cs=>rw[hx]at ht;simp only[Tu,HL];generalize hvt:a.tmps.getD t undef=v at ht;cases ht with|agg _ us hl h1 YA=>refine .agg _ us (by simpa using hl) h1 λj y u hy hu=>?_;rw[auA]at hy;cases hj:cs[j]? with|none=>rw[hj]at hy;cases hy|some z=>rw[hj]at hy;obtain rfl:=auo hy;have hz:=YA j z u hj hu;cases z with|mp r'=>simp only[aej];split;rename_i YC;subst YC;exact key hz;exact hz|_=>exact hz
  |_=>rw[hx]at ht;exact ht
def Tv:List AV->List Nat
 | []=>[]| .ptr r _::l=>r::Tv l|_::l=>Tv l
def Tw:List AV->List Nat
 | []=>[]| .mp r::l=>r::Tw l|_::l=>Tw l
def ET:List AV->List Nat
 | []=>[]| .bz _ caps::l=>Tv caps++ET l| .agg cs::l=>Tw cs++ET l|_::l=>ET l
def nh:List Nat->AS Unit->List Prop×AS Unit
 | [],s=>([],s)|r::l,s=>(match s.hp[r]? with|some (.box cs)=>((cZ (AV.jE s.hp) cs).1++(nh l ⟨λt=>Tr r (Hr (cZ (AV.jE s.hp) cs).2) (s.tmps t),s.hp.set r .dead,s.g⟩).1, (nh l ⟨λt=>Tr r (Hr (cZ (AV.jE s.hp) cs).2) (s.tmps t),s.hp.set r .dead,s.g⟩).2)|some (.cJ es)=>nh l ⟨λt=>Tu r es (s.tmps t),s.hp.set r .dead,s.g⟩|_=>nh l s)
theorem ud(aN:Γ.Ok):∀(l:List Nat)(s:AS Unit),eK (nh l s).1->cU Γ s (nh l s).2
 | [],s,_=>.refl s|r::l,s,hc=>by simp only[nh]at hc ⊢;split at hc;rename_i cs hr;rw[bV]at hc;have hm:=cE (g:=AV.eN s.hp) (λx=>lI) cs hc.1;refine(?_:cU Γ s _).trans (ud aN l _ hc.2);have:=cU.ami (Γ:=Γ) (f:=s.tmps) (g:=s.g) aN hr;rw[hm]at this;exact this;rename_i es hr;exact cU.trans (cU.frz (Γ:=Γ) (f:=s.tmps) (g:=s.g) aN hr) (ud aN l _ hc);exact ud aN l s hc
end
section
def ac7(F:Nat->Nat->Prop)(w w':World)(v:Value)(b o:Nat):Prop:=F b o\/(w.heap.size<=b/\b<w'.heap.size/\dn v≠some b)
def ac8(w:World)(F:Nat->Nat->Prop)(w':World)(e size:Nat)(els:List AV)(v:Value):Prop:=
 cj w w'/\v.oneCell'=true/\(∀b,dn v=some b->w.heap.size<=b)/\0<size/\∃xs:List Value,mX w' e size v els.length xs 0/\
  ∀(i:Nat)(el:AV),els[i]?=some el->el.cells.length=size/\
   ∀(j:Nat)(x:AV),el.cells[j]?=some x->∃u,xs[i*size+j]?=some u/\bq w' (ac7 F w w' v) [] [] x u/\u.oneCell'=true
def MFn(P:Program)(f:FuncId)(args:List AV)(e size:Nat)(els:List AV):Prop:=
 ou P f/\∀(w:World)(F:Nat->Nat->Prop)(vals:List Value),(∀b o,F b o->b<w.heap.size)->oW w->cC w F [] [] args vals->
  CallsIn Fence.wide 0 P f vals.toArray w (λen w'=>∃v,en=.returned v/\ac8 w F w' e size els v)
variable {G:Type} {Γ:Env G} {s s':AS G} {a:Act} {w w':World} {η:List Value} {hp:List ax} {P:Program}
theorem QE(aN:Γ.Ok)(h:Rel Γ s a w η)(hs:cj w w'){v:Value}(hv:∀b,dn v=some b->w.heap.size<=b){o:ax}{b k:Nat}(hb:ac7 (bw Γ w η s.hp) w w' v b k):bw Γ w' (η++[v]) (s.hp++[o]) b k:=by rcases hb with h1|⟨h1,h2,h3⟩;exact(tO (Γ:=Γ) (o:=o) h.heap.len hs hv).bD b k h1;refine⟨.inr (.inl (auP h.keeps.size h1)),h2,λhx=>by have:=aN.no hx;have:=h.keeps.size;omega,(bp b k).2 λr u hu Sl=>?_⟩;rcases ea hu with g1|⟨g1,g2⟩;(have gJ:r<s.hp.length:=by rw[<-h.heap.len];exact(aun.1 g1).1);(have ho:s.hp[r]?=some s.hp[r]:=by simp[gJ]);refine⟨s.hp[r],cS ho,?_⟩;(cases hk:s.hp[r]with|dead=>exact ai|_=>rw[hk]at ho;have:=h.heap.block ho ai g1 Sl;omega);subst g2;exact(h3 Sl).elim
theorem bR.fresh(aN:Γ.Ok){o:Oper}{c:Call}{x:Operand}(ho:o.op=.call c)(hc:c.callee=.value x){f:FuncId}{caps:List AV}(hx:s.ev x=.bz f caps){e size:Nat}{els:List AV}(hP:MFn Γ.P f ((c.args.toList.map s.ev++caps).map (AV.cd s.hp)) e size els)(hd:eu Γ.nt o.dst){K:AS G->Prop}(hK:K (AS.put { s with hp:=s.hp++[.aV e size els] } o.dst (.own s.hp.length els.length))):bR Γ o s K:=by intro a w η Kc Qc hk hr;have eU:=hr.ev x;rw[hx]at eU;generalize hv:a.eval x=v at eU;cases eU with|bz _ _ vs hl eD=>(refine⟨λ_ _=>trivial,?_⟩;have bW:∀c',o.op ≠ .defer c':=by intro c' h;rw[ho]at h;cases h);(rw[Oper.semAt_eq _ _ _ bW,gK ho hc hP.1 hv];have bl:(c.args.map a.eval++vs)=(c.args.toList.map a.eval++vs.toList).toArray:=by apply avR;simp);have ej:cC w (bw Γ w η s.hp) η s.hp caps vs.toList:=dK (by simpa using hl) λj y u hy hu=>eD j y u hy (by simpa using hu);have iD:=na hr _ _ (eO _ _ (ir hr c.args.toList) ej);refine⟨λh=>(by cases h),?_⟩;rw[bl];have ee:=hP.2 w (bw Γ w η s.hp) _ (λ_ _=>fg) (hr.iK aN) iD;refine CallsIn.mono (F:=Γ.fO) ?_ (R:=λen w'=>∃v,en=.returned v/\ac8 w (bw Γ w η s.hp) w' e size els v) λen w' ⟨u,he,hs,h1,su,hz,xs,fh,fA⟩=>?_;exact ee;subst he;have Dc:Rel Γ (s.add (.aV e size els)) a w' (η++[u]):=hr.add aN (o:=.aV e size els) (v:=u) hs su ⟨hz,xs,fh,λi el hi=>⟨(fA i el hi).1,λj y hj=>let ⟨v1,q1,q2,q3⟩:=(fA i el hi).2 j y hj;⟨v1,q1,q2.bD λb k h=>QE aN hr hs su h,q3⟩⟩⟩;(refine hk _ _ _ _ hK (Rel.put (s:={ s with hp:=s.hp++[.aV e size els] }) Dc (da hd) (.own _ _ _ h1 ?_));unfold bk;have:(s.hp++[ax.aV e size els])[s.hp.length]?=some (.aV e size els):=by simp);rw[this];exact⟨aur _,λ_=>by rw[<-hr.heap.len];simp⟩
end
section
inductive YE where
 |load (k:IntKind)
 |store
 |add (k:IntKind)
 |cas (k:IntKind)
 |same
def YE.run:YE->Array Value->Sem Value
 | .load k=>Extern.Atomic.loadT (.int k)| .store=>Extern.Atomic.storeT| .add k=>Extern.Atomic.update (Op.intArith .add) k true| .cas k=>Extern.Atomic.casT (.int k)| .same=>Extern.AbiNoEscape.same
def XOk(P:Program)(f:Nat)(x:YE):Prop:=∃fn,P.funcs[f]?=some fn/\(fn.name == "runtime.NumGoroutine")=false/\fn.body.isNone=true/\Extern.findNext fn=none/\Extern.find fn=some x.run
def ac9(hp:List ax)(r off:Nat):YE->Option (AV×List ax)
 | .load k=>(match hp[r]? with|some (.box cs)=>(match cs[off]? with|some (.ay (.int k' n))=>if k'=k then some (.ay (.int k n),hp)else none|_=>none)|_=>none)| .same=>some (.ptr r off,hp)|_=>none
def ada(hp:List ax)(r off:Nat)(k1:IntKind)(y:Int):YE->Option (AV×List ax)
 | .store=>(match hp[r]? with|some (.box cs)=>if off<cs.length then some (.ay (.tuple #[]),hp.set r (.box (cs.set off (.ay (.int k1 y)))))else none|_=>none)| .add k=>(match hp[r]? with|some (.box cs)=>(match cs[off]? with|some (.ay (.int k' n))=>if k'=k/\k1=k then some (.ay (.int k (k.wrap (n+y))),hp.set r (.box (cs.set off (.ay (.int k (k.wrap (n+y)))))))else none|_=>none)|_=>none)|_=>none
def adb(hp:List ax)(r off:Nat)(k1:IntKind)(y:Int)(k2:IntKind)(z:Int):YE->Option (AV×List ax)
 | .cas k=>(match hp[r]? with|some (.box cs)=>(match cs[off]? with|some (.ay (.int k' n))=>if k'=k/\k1=k/\k2=k then some (.ay (.bool (decide (n=y))),hp.set r (.box (cs.set off (.ay (.int k (if n=y then z else n))))))else none|_=>none)|_=>none)|_=>none
def aek(x:YE)(hp:List ax):List AV->Option (AV×List ax)
 | [.ptr r off]=>ac9 hp r off x| [.ptr r off,.ay (.int k1 y)]=>ada hp r off k1 y x| [.ptr r off,.ay (.int k1 y),.ay (.int k2 z)]=>adb hp r off k1 y k2 z x|_=>none
variable {G:Type} {Γ:Env G} {s s':AS G} {a:Act} {w w':World} {η:List Value} {hp:List ax} {P:Program}
theorem Al(hr:Rel Γ s a w η){r off b:Nat}{cs:List AV}{v:Value}(hb:s.hp[r]?=some (.box cs))(fU:η[r]?=some (.pointer (some ⟨b,0,none⟩)))(hc:cs[off]?=some (.ay v)): w.cell? ⟨b,off,none⟩=some v/\w.frozen? ⟨b,off,none⟩=false:=by (obtain⟨b',ws,T,he,hg,cY,gY⟩:=hr.heap.obj r _ _ hb fU;simp only[Value.pointer.injEq,aul,Addr.mk.injEq,and_true]at he;subst he;have aF:off<ws.size:=by grind);(have hu:ws[off]?=some ws[off]:=by simp[aF]);have:=(gY off _ _ hc hu).1.aB;grind [frozen_of_row,cell_of_row]
theorem LH(aN:Γ.Ok){f:Nat}{x:YE}(hX:XOk Γ.P f x){o:Oper}{c:Call}{y:Operand}(ho:o.op=.call c)(hc:c.callee=.value y){caps:List AV}(ej:s.ev y=.bz f caps){r:AV}{hp':List ax}(h:aek x s.hp (c.args.toList.map s.ev++caps)=some (r,hp')):gV Γ o s r hp':=by intro a w η hr;obtain⟨fn,hf,gO,kP,dv,qG⟩:=hX;have hyr:=hr.ev y;rw[ej]at hyr;generalize hv:a.eval y=v at hyr;cases hyr with|bz _ _ vs hl eD=>(have bl:(c.args.map a.eval++vs)=(c.args.toList.map a.eval++vs.toList).toArray:=by apply avR;simp);(have K0:cC w (bw Γ w η s.hp) η s.hp caps vs.toList:=by grind [dK]);(have iD:=eO _ _ (ir hr c.args.toList) K0;have qf:(execOp a.eval o).run Γ.P w=(callFunc f (c.args.toList.map a.eval++vs.toList).toArray).run Γ.P w:=by rw[<-bl];simp[execOp,ho,resolve,hc,hv,Deferred.ofValue,invoke]);(generalize c.args.toList.map a.eval++vs.toList=vals at iD qf;have one:∀{r1 off:Nat}{l:List AV}{vals:List Value},cC w (bw Γ w η s.hp) η s.hp (.ptr r1 off::l) vals->∃b us,vals=.pointer (some ⟨b,off,none⟩)::us/\η[r1]?=some (.pointer (some ⟨b,0,none⟩))/\cC w (bw Γ w η s.hp) η s.hp l us:=by intro r1 off l vals h;match vals,h with|u::us,h=>cases h.1 with|ptr _ _ b fU=>exact⟨b,us,rfl,fU,h.2⟩);(have ay:∀{u:Value}{l:List AV}{vals:List Value},cC w (bw Γ w η s.hp) η s.hp (.ay u::l) vals->∃us,vals=u::us/\cC w (bw Γ w η s.hp) η s.hp l us:=by intro u l vals h;match vals,h with|u'::us,h=>exact⟨us,by rw[h.1.aB],h.2⟩);(have nil:∀{vals:List Value},cC w (bw Γ w η s.hp) η s.hp [] vals->vals=[]:=by intro vals h;match vals,h with| [],_=>rfl);unfold aek at h;split at h;rename_i r1 off hL;rw[hL]at iD;obtain⟨b,us,rfl,fU,Ag⟩:=one iD;obtain rfl:=nil Ag;unfold ac9 at h;split at h;rename_i k;split at h;rename_i cs hb;split at h;rename_i k' n aT;split at h;rename_i hk;subst hk;simp only[aul,aup]at h;obtain⟨rfl,rfl⟩:=h;have CB:=(Al hr hb fU aT).1;exact⟨_,w,η,.inl (qf.trans (run_call_load hf gO kP dv _ qG CB)),hr,.ay _⟩;cases h;cases h;cases h;simp only[aul,aup]at h;obtain⟨rfl,rfl⟩:=h;refine⟨.pointer (some ⟨b,off,none⟩),w,η,.inl (qf.trans ?_),hr,.ptr _ _ b fU⟩;rw[run_callFunc_extern hf gO kP dv qG];rfl;cases h;rename_i r1 off k1 y1 hL;rw[hL]at iD;obtain⟨b,us,rfl,fU,Ag⟩:=one iD;obtain⟨us',rfl,LI⟩:=ay Ag;obtain rfl:=nil LI;unfold ada at h;split at h;split at h;rename_i cs hb;split at h;rename_i aF;simp only[aul,aup]at h;obtain⟨rfl,rfl⟩:=h;obtain⟨h1,h2,u',h3⟩:=hr.write aN (off:=off) (v:=.int k1 y1) (x:=.ay (.int k1 y1)) hb fU aF rfl (.ay _);exact⟨_,_,η,.inl (qf.trans (run_call_store hf gO kP dv qG h3 h2)),h1,.ay _⟩;cases h;cases h;rename_i k;split at h;rename_i cs hb;split at h;rename_i k' n aT;split at h;rename_i hk;obtain⟨rfl,rfl⟩:=hk;simp only[aul,aup]at h;obtain⟨rfl,rfl⟩:=h;have CB:=(Al hr hb fU aT).1;obtain⟨h1,h2,_⟩:=hr.write aN (off:=off) (v:=.int k1 (k1.wrap (n+y1))) (x:=.ay (.int k1 (k1.wrap (n+y1)))) hb fU (by grind) rfl (.ay _);exact⟨_,_,η,.inl (qf.trans (run_call_add hf gO kP dv _ qG CB h2 rfl)),h1,.ay _⟩;cases h;cases h;cases h;cases h;rename_i r1 off k1 y1 k2 z1 hL;rw[hL]at iD;obtain⟨b,us,rfl,fU,Ag⟩:=one iD;obtain⟨us',rfl,LI⟩:=ay Ag;obtain⟨arG,rfl,ael⟩:=ay LI;obtain rfl:=nil ael;unfold adb at h;split at h;rename_i k;split at h;rename_i cs hb;split at h;rename_i k' n aT;split at h;rename_i hk;obtain⟨rfl,rfl,rfl⟩:=hk;simp only[aul,aup]at h;obtain⟨rfl,rfl⟩:=h;obtain⟨CB,hfz⟩:=Al hr hb fU aT;by_cases hn:n=y1;subst hn;obtain⟨h1,h2,_⟩:=hr.write aN (off:=off) (v:=.int k2 z1) (x:=.ay (.int k2 z1)) hb fU (by grind) rfl (.ay _);rw[if_pos rfl,decide_eq_true rfl];exact⟨_,_,η,.inl (qf.trans (run_call_cas_hit hf gO kP dv _ qG CB hfz)),h1,.ay _⟩;(rw[if_neg hn,decide_eq_false hn];have yr:s.hp.set r1 (.box (cs.set off (.ay (.int k2 n))))=s.hp:=by (have:cs.set off (.ay (.int k2 n))=cs:=by apply avf;grind);rw[this];apply avf;grind);rw[yr];exact⟨_,w,η,.inl (qf.trans (run_call_cas_miss hf gO kP dv _ qG CB hfz hn)),hr,.ay _⟩;cases h;cases h;cases h;cases h;cases h
def Tx:AV->Bool
 | .ay (.pointer none)=>true|_=>false
def aem(tab:Nat->Option TD)(ρ:Operand->AV):Op->Option AV
 | .binOp op T x y _=>(match tab T,EF (ρ x),Tx (ρ y)with|some d,some b,true=>(match d.kind with| .ptr _=>(match op with| .eql=>some (.ay (.bool b))| .neq=>some (.ay (.bool (!b)))|_=>none)|_=>none)|_,_,_=>none)| .convert S D x=>(match tab S,tab D,ρ x with|some _,some d,.ay (.int _ n)=>(match d.kind with| .int k=>some (.ay (.int k (k.wrap n)))|_=>none)|_,_,_=>none)|_=>none
theorem LJ{tab:Nat->Option TD}(aC:bn Γ.P tab){o:Oper}{r:AV}(h:aem tab s.ev o.op=some r):fN Γ o s r:=by generalize ho:o.op=op at h;unfold aem at h;split at h;rename_i bop T x y T';split at h;(rename_i d b hd hb hy;have K8:s.ev y=.ay (.pointer none):=by grind [Tx]);split at h;(rename_i e hk;have hu:Γ.P.underlying T=some (.pointer (Γ.P.pointee T)):=by (obtain⟨u,q2,q3⟩:=(aC T d hd).mO;rw[hk]at q3;have:Γ.P.underlying T=some (.pointer e):=by rw[q2];exact congrArg some q3);grind [Program.pointee]);split at h;obtain rfl:=auo h;refine bh λa w η hr=>?_;obtain⟨p,hp,hpn⟩:=rS hb (hr.ev x);have h2:=hr.ev y;rw[K8]at h2;have h2:=h2.aB;refine⟨.bool b,?_,.ay _⟩;simp_all [execOp,eqGuard,run_eql_pointer_nil];obtain rfl:=auo h;refine bh λa w η hr=>?_;obtain⟨p,hp,hpn⟩:=rS hb (hr.ev x);have h2:=hr.ev y;rw[K8]at h2;have h2:=h2.aB;refine⟨.bool (!b),?_,.ay _⟩;simp_all [execOp,eqGuard,run_neq_pointer_nil];cases h;cases h;cases h;rename_i S D x;split at h;rename_i d1 d k n hS hD hx;split at h;(rename_i k2 hk;obtain rfl:=auo h;refine bh λa w η hr=>?_;have h1:=hr.ev x;rw[hx]at h1;have h1:=h1.aB;obtain⟨u1,q1,_⟩:=(aC S d1 hS).mO;have hu:Γ.P.underlying D=some (.int k2):=by obtain⟨u,q2,q3⟩:=(aC D d hD).mO;rw[hk]at q3;rw[q2];exact congrArg some q3);refine⟨.int k2 (k2.wrap n),?_,.ay _⟩;simp only[execOp,ho,h1,convert,ao,run_underlying q1,run_underlying hu,al];rfl;cases h;cases h;cases h
def vZ:List AV->Option (List Int)
 | []=>some []| .ay (.int .u8 n)::l=>(match vZ l with|some zs=>some (n::zs)|none=>none)|_=>none
theorem Am:∀{l:List AV}{zs:List Int},vZ l=some zs->zs.length=l.length/\∀i,i<l.length->l[i]?=some (.ay (.int .u8 (zs.getD i 0)))
 | [],zs,h=>by cases h;simp|x::l,zs,h=>by unfold vZ at h;split at h;simp_all;rename_i n l' e;obtain⟨rfl,rfl⟩:=List.cons.inj e;split at h;rename_i ys hy;obtain rfl:=auo h;obtain⟨h1,h2⟩:=Am hy;grind;cases h;cases h
def An:AV->Option (List Int)
 | .clip (x::l)=>vZ (x::l)| .sl (x::l)=>vZ (x::l)|_=>none
def Tz(tab:Nat->Option TD)(hp:List ax)(ρ:Operand->AV):Op->Option (List Prop×AV×List ax)
 | .convert S D x=>(match tab S,tab D with|some d,some du=>(match d.kind,du.kind with| .kW e,.str=>(match tab e with|some de=>(match de.kind with| .int .u8=>(match An (ρ x)with|some zs=>some ([],.ay (.string (strOfNums zs)),hp)|none=>none)|_=>none)|none=>none)| .str,.kW e=>(match tab e,ρ x with|some de,.ay (.string u)=>(match de.kind with| .int .u8=>some ([u.size<=140737488355328],.sl (jx u),hp)|_=>none)|_,_=>none)|_,_=>none)|_,_=>none)| .call c=>(match c.callee,c.args.toList,c.argTypes.toList with| .builtin .append,[b,x],[T,T']=>(match tab T,tab T',ρ b,ρ x with|some d,some du,.own r n,.ay (.string s)=>(match d.kind,du.kind,hp[r]? with| .kW e,.str,some (.row e' size els)=>(match tab e with|some d'=>(match d'.zero with| .int .u8 0=>if e'=e/\size=d'.size/\d'.size=1/\d'.bytes=1 then some ([n=els.length,els.length+s.size<=140737488355328],.own r (els++jx s).length,hp.set r (.row e size (els++jx s)))else none|_=>none)|none=>none)|_,_,_=>none)|_,_,_,_=>none)|_,_,_=>none)| .load T p=>(match tab T,ρ p with|some d,.ptr r 1=>(match d.kind,hp[r]? with| .kW _,some (.jm q n)=>if d.size=1 then some ([],.own q n,hp)else none|_,_=>none)|_,_=>none)| .store T p x=>(match tab T,ρ p,ρ x with|some d,.ptr r 1,.own q m=>(match d.kind,hp[r]? with| .kW _,some (.jm q' _)=>if d.size=1/\q'=q then some ([m≠0],.top,hp.set r (.jm q m))else none|_,_=>none)|_,_,_=>none)| .box T x=>if T=Ez then(match ρ x with| .agg [.ay (.pointer none),.ay (.slice none 0 0)]=>(match tab 5 with|some d=>(match d.zero with| .int .u8 0=>if d.size=1 then some ([],.ptr hp.length 0,hp++[.jm (hp.length+1) ([]:List AV).length,.row 5 1 []])else none|_=>none)|none=>none)|_=>none)else none|_=>none
theorem HM(aN:Γ.Ok){tab:Nat->Option TD}(aC:bn Γ.P tab){o:Oper}{c:Call}(ho:o.op=.call c)(hb:c.callee=.builtin .append){b x:Operand}(hl:c.args.toList=[b,x]){T T' e r:Nat}(hT:c.argTypes.toList=[T,T']){d du d':TD}(hd:tab T=some d)(hdu:tab T'=some du)(hk:d.kind=.kW e)(hku:du.kind=.str)(fj:tab e=some d')(hz:d'.zero=.int .u8 0)(h1:d'.size=1)(h2:d'.bytes=1){els:List AV}{u:aw}(xb:s.ev b=.own r els.length)(hx:s.ev x=.ay (.string u))(fh:s.hp[r]?=some (.row e d'.size els))(hm:els.length+u.size<=140737488355328): gV Γ o s (.own r (els++jx u).length) (s.hp.set r (.row e d'.size (els++jx u))):=by (intro a w η hr;have hu:Γ.P.underlying T=some (.slice e):=by obtain⟨u,q2,q3⟩:=(aC T d hd).mO;rw[hk]at q3;rw[q2];exact congrArg some q3);(have Lp:Γ.P.underlying T'=some .string:=by obtain⟨u,q2,q3⟩:=(aC T' du hdu).mO;rw[hku]at q3;rw[q2];exact congrArg some q3);(have eU:=hr.ev x;rw[hx]at eU;have w7:=eU.aB;have SN:=hr.ev b;rw[xb]at SN;have sR:bk η s.hp r els.length (a.eval b):=by cases SN;assumption);(have xg:c.argTypes=#[T,T']:=by grind);(have bl:c.args=#[b,x]:=by grind);have hn:=K1 (w:=w) (F:=bw Γ w η s.hp) (ty:=o.type) hu Lp (aC e d' fj) h1 hz u;have sS:=vQ u;obtain⟨v',w',bj,g1,g2,g3,g4⟩:=zJ (M:=false) aN hr (aC e d' fj) fh sR hn (λy hy=>by rw[h1];simp only[jx,avs]at hy;obtain⟨q,_,rfl⟩:=hy;rfl) (by grind [maxLen]) (by simp_all);refine⟨v',w',bj,.inl ?_,g2,.own _ _ _ g3 ?_⟩;all_goals simp_all [execOp,resolve,invoke,builtin,bk,aD]
theorem QF(aN:Γ.Ok){tab:Nat->Option TD}(aC:bn Γ.P tab){o:Oper}{S D e:TypeId}{x:Operand}(ho:o.op=.convert S D x){d du de:TD}(hd:tab S=some d)(hdu:tab D=some du)(hk:d.kind=.kW e)(hku:du.kind=.str)(Qx:tab e=some de)(hke:de.kind=.int .u8){zs:List Int}(hx:An (s.ev x)=some zs): gV Γ o s (.ay (.string (strOfNums zs))) s.hp:=by (intro a w η hr;have hs:Γ.P.underlying S=some (.slice e):=by obtain⟨u,q2,q3⟩:=(aC S d hd).mO;rw[hk]at q3;rw[q2];exact congrArg some q3);(have hD:Γ.P.underlying D=some .string:=by obtain⟨u,q2,q3⟩:=(aC D du hdu).mO;rw[hku]at q3;rw[q2];exact congrArg some q3);(have hE:Γ.P.underlying e=some (.int .u8):=by obtain⟨u,q2,q3⟩:=(aC e de Qx).mO;rw[hke]at q3;rw[q2];exact congrArg some q3);(have hrx:=hr.ev x;obtain⟨y,l,ub,hz⟩:∃y l,bq w (bw Γ w η s.hp) η s.hp (.sl (y::l)) (a.eval x)/\vZ (y::l)=some zs:=by unfold An at hx;split at hx;rename_i y l e;rw[e]at hrx;exact⟨y,l,hrx.mW,hx⟩;rename_i y l e;rw[e]at hrx;exact⟨y,l,hrx,hx⟩;cases hx);obtain⟨Zd,Lr⟩:=Am hz;generalize hv:a.eval x=v at ub;cases ub with|sl size els b o c f hc hm hl aT YA=>(have h0:size=1:=by have:=hl 0 _ (Lr 0 (by simp));exact this.symm);(subst h0;have cell:∀i,i<(y::l).length->w.cell? ⟨b,o+i,none⟩=some (.int .u8 (zs.getD i 0)):=λi hi=>by have h1:=(aT i _ 0 _ (Lr i hi) rfl).1;have h2:=(YA i _ 0 _ (Lr i hi) rfl).aB;rw[h2]at h1;simpa using h1);have jt:=run_convert_bytes_arg (P:=Γ.P) w S e hs hE b o (y::l).length c zs Zd cell D hD;refine⟨.string (strOfNums zs),w,η,.inl ?_,hr,.ay _⟩;simp_all [execOp]
theorem LK(aN:Γ.Ok){tab:Nat->Option TD}(aC:bn Γ.P tab){o:Oper}{S D e:TypeId}{x:Operand}(ho:o.op=.convert S D x){d du de:TD}(hd:tab S=some d)(hdu:tab D=some du)(hk:d.kind=.str)(hku:du.kind=.kW e)(Qx:tab e=some de)(hke:de.kind=.int .u8){u:aw}(hx:s.ev x=.ay (.string u))(hm:u.size<=140737488355328):gV Γ o s (.sl (jx u)) s.hp:=by
 intro a w η hr;have hs:Γ.P.underlying S=some .string:=by obtain⟨u,q2,q3⟩:=(aC S d hd).mO;rw[hk]at q3;rw[q2];exact congrArg some q3
 have hD:Γ.P.underlying D=some (.slice e):=by obtain⟨u,q2,q3⟩:=(aC D du hdu).mO;rw[hku]at q3;rw[q2];exact congrArg some q3
 have hE:Γ.P.underlying e=some (.int .u8):=by obtain⟨u,q2,q3⟩:=(aC e de Qx).mO;rw[hke]at q3;rw[q2];exact congrArg some q3
 have hrx:=hr.ev x;rw[hx]at hrx;have w7:=hrx.aB;have jt:=Lib.run_convert_string_bytes (P:=Γ.P) w S D e u hs hD hE;have xa:cj w (Lib.bytesWorld w e u):=⟨by unfold Lib.bytesWorld World.freeze;split<;>rfl,by rfl,by rfl,by simp[Lib.bytesWorld_size],by simp_all [Lib.bytesWorld_at_old]⟩;refine⟨_,_,η,.inl (by simp only[execOp,ho,w7,ao,jt,al];rfl),hr.same aN xa,?_⟩;have hl:=vQ u;have iM:∀k,bw Γ (Lib.bytesWorld w e u) η s.hp w.heap.size k:=λk=> ⟨.inr (.inl hr.keeps.size),by simp[Lib.bytesWorld_size],(NB (T:=e) (cs:=#[]) hr k (λ_ _=>aN.no)).2.2⟩;have qy:∀(i:Nat)(y:AV),(jx u)[i]?=some y->∃c:UInt8,i<u.size/\u.data.toList.getD i 0=c/\y=.ay (.int .u8 c.toNat):=by grind [jx]
 have:=bq.sl (w:=Lib.bytesWorld w e u) (F:=bw Γ (Lib.bytesWorld w e u) η s.hp) (η:=η) (hp:=s.hp) 1 (jx u) w.heap.size 0 (grownCap w u.size 0 e) (λi j=>.int .u8 (u.data.toList.getD i 0).toNat) (by rw[hl];exact grownCap_ge _ _ _ _) (grownCap_le_maxLen _ _ _ _ (by unfold maxLen;omega))
  (λi y hi=>by obtain⟨c,_,_,rfl⟩:=qy i y hi;rfl) (λi y j z hi hj=>by
   obtain⟨c,h1,h2,rfl⟩:=qy i y hi;have hj0:j=0:=by(have:=(aun.1 hj).1;simp[AV.cells]at this;omega)
   subst hj0;refine⟨?_,iM _,rfl⟩;rw[auZ,avt,avu];exact Lib.bytesWorld_cell w e u i h1) (λi y j z hi hj=>by
   obtain⟨c,h1,h2,rfl⟩:=qy i y hi;have hj0:j=0:=by(have:=(aun.1 hj).1;simp[AV.cells]at this;omega)
   subst hj0;rw[h2];obtain rfl:AV.ay (.int .u8 c.toNat)=z:=by simpa [AV.cells]using hj
   exact .ay _)
 simp_all
theorem TB(aN:Γ.Ok){o:Oper}{x:Operand}(ho:o.op=.box Ez x)(hx:s.ev x=.agg [.ay (.pointer none),.ay (.slice none 0 0)]):gV Γ o s (.ptr s.hp.length 0) (s.hp++[.jm (s.hp.length+1) 0,.row 5 1 []]):=by intro a w η hr;have eU:=hr.ev x;rw[hx]at eU;generalize hv:a.eval x=v at eU;cases eU with|agg _ vs hl h1 YA=>(have e0:vs[0]?=some (.pointer none):=by (have:0<vs.size:=by grind);have h2:=YA 0 _ _ rfl (avc this);rw[avc this,h2.aB]);(have e1:vs[1]?=some (.slice none 0 0):=by (have:1<vs.size:=by grind);have h2:=YA 1 _ _ rfl (avc this);rw[avc this,h2.aB]);(have xa:=cj.alloc w (.cells vs Ez);have hl0:=hr.heap.len;have hn:∀{r:Nat}{u:Value}{b:Nat},(η++[.pointer (some ⟨w.heap.size,0,none⟩),.slice none 0 0])[r]?=some u->dn u=some b->(η[r]?=some u/\r<s.hp.length)\/(r=s.hp.length/\b=w.heap.size):=by grind [dn]);(have ho0:∀{r:Nat}{ob:ax},(s.hp++[ax.jm (s.hp.length+1) 0,.row 5 1 []])[r]?=some ob->(s.hp[r]?=some ob/\r<s.hp.length)\/(r=s.hp.length/\ob=.jm (s.hp.length+1) 0)\/(r=s.hp.length+1/\ob=.row 5 1 []):=by grind);(have Cz:(η++[Value.pointer (some ⟨w.heap.size,0,none⟩),.slice none 0 0])[s.hp.length]?=some (.pointer (some ⟨w.heap.size,0,none⟩)):=by simp_all);(have amn:(η++[Value.pointer (some ⟨w.heap.size,0,none⟩),.slice none 0 0])[s.hp.length+1]?=some (.slice none 0 0):=by simp_all);(have gh1:(s.hp++[ax.jm (s.hp.length+1) 0,.row 5 1 []])[s.hp.length+1]?=some (.row 5 1 []):=by simp);(have hold:∀{r:Nat}{u:Value},η[r]?=some u->(η++[Value.pointer (some ⟨w.heap.size,0,none⟩),.slice none 0 0])[r]?=some u:=by grind);(have he:Ext w (bw Γ w η s.hp) η s.hp (w.alloc (.cells vs Ez)) (bw Γ (w.alloc (.cells vs Ez)) (η++[.pointer (some ⟨w.heap.size,0,none⟩),.slice none 0 0]) (s.hp++[.jm (s.hp.length+1) 0,.row 5 1 []])) (η++[.pointer (some ⟨w.heap.size,0,none⟩),.slice none 0 0]) (s.hp++[.jm (s.hp.length+1) 0,.row 5 1 []]):=by refine⟨λb k u hf hc=>by rw[World.cell?_of_block (xa.block b (fg hf))];exact hc,λb es c hf hc=>by rw[xa.block b (fg hf)];exact hc,λb k hf=>⟨hf.1,auK hf.2.1 xa.size,hf.2.2.1,(bp b k).2 λr u hu hb=>?_⟩,λ_ _ h=>hold h,λ_ _ h=>hold h,λr n u ho=>?_⟩;rcases hn hu hb with⟨g1,g2⟩|⟨_,g2⟩;obtain⟨ob,q1,q2⟩:=(bp b k).1 hf.2.2.2 r u g1 hb;grind;have:=fg hf;omega;unfold bk at ho ⊢;cases Dc:s.hp[r]? with|none=>simp_all|some ob=>rw[auB (by grind),Dc];rw[Dc]at ho;cases ob with|row e z els=>simp_all|aV e z els=>simp_all|fz e m ns=>simp_all|_=>exact ho);refine⟨.pointer (some ⟨w.heap.size,0,none⟩),_,η++[.pointer (some ⟨w.heap.size,0,none⟩),.slice none 0 0],.inl (by simp[execOp,ho,hv,Instr.box,newVar,newRow,Value.cells];rfl),?_,.ptr _ 0 w.heap.size Cz⟩;have kb:∀(r:Nat)(ob:ax)(u:Value)(b:Nat),s.hp[r]?=some ob->ob.live->η[r]?=some u->dn u=some b->b<w.heap.size:=λr ob u b g1 g2 g3 g4=>hr.heap.block g1 g2 g3 g4;refine⟨hr.nt,λt=>(hr.tmps t).ext he,⟨by simp[hl0],λr ob u g1 g2=>?_,λr r' o1 o2 u u' b bW g1 g2 l1 l2 g3 g4 hb gb=>?_⟩,λr ob u b g1 g2 g3 g4=>?_,hr.keeps.EB xa,aN.qA _ _ _ (λb hb=>xa.block b (auK (aN.x b hb) hr.keeps.size)) xa.size hr.inv,(xa.keeps λ_=>False).marks hr.marks λ_ hf=>hf.elim,hr.ext.trans he⟩;rcases ho0 g1 with⟨g3,g4⟩|⟨rfl,rfl⟩|⟨rfl,rfl⟩;rw[auB (by omega)]at g2;exact(hr.heap.obj r ob u g3 g2).ext he xa.size λb _ aF=>xa.block b aF;rw[Cz]at g2;obtain rfl:=auo g2;exact⟨w.heap.size,vs,rfl,heap_alloc_new w _,⟨hl,λ_=>e1⟩,.inl e0,_,e1,.own _ 0 _ rfl (by simp_all [bk])⟩;rw[amn]at g2;obtain rfl:=auo g2;exact⟨Nat.one_pos,[],⟨by simp,.inl ⟨rfl,.inl rfl⟩⟩,λi el hi=>by simp at hi⟩;rcases hn g3 hb with⟨p1,p2⟩|⟨p1,p2⟩;rcases hn g4 gb with⟨q1,q2⟩|⟨q1,q2⟩;rw[auB p2]at g1;rw[auB q2]at g2;exact hr.heap.sep r r' o1 o2 u u' b bW g1 g2 l1 l2 p1 q1 hb gb;grind;grind;rcases hn g3 g4 with⟨p1,p2⟩|⟨p1,p2⟩;rw[auB p2]at g1;exact hr.cu r ob u b g1 g2 p1 g4;subst p2;exact⟨.inl hr.keeps.size,λk hx=>by have:=aN.no hx;have:=hr.keeps.size;omega⟩
theorem EU(aN:Γ.Ok){tab:Nat->Option TD}(aC:bn Γ.P tab){o:Oper}{T r q n:Nat}{p:Operand}(ho:o.op=.load T p){d:TD}(hd:tab T=some d)(ha:d.kind.agg=false)(hp:s.ev p=.ptr r 1)(hb:s.hp[r]?=some (.jm q n)):gV Γ o s (.own q n) s.hp:=by intro a w η hr;have hx:=hr.ev p;rw[hp]at hx;generalize hv:a.eval p=v at hx;cases hx with|ptr _ _ b fU=>(obtain⟨b',vs,he,hg,⟨cY,_⟩,_,u,hu,eD⟩:=hr.heap.obj r _ _ hb fU;simp only[Value.pointer.injEq,aul,Addr.mk.injEq,and_true]at he;subst he;have h1:u.oneCell'=true:=by cases eD;assumption);(have hd1:=aC.sz hd ha;have agW:=ma (P:=Γ.P) (aC T d hd) (o:=1) (vW hg) (by simp_all);have e:((vs.toList.drop 1).take d.size).headD undef=u:=by (rw[hd1];have h2:vs.toList[1]?=some u:=by simp_all);cases hl:vs.toList with|nil=>simp_all|cons x l=>rw[hl]at h2;cases l with|nil=>simp at h2|cons y l=>simp_all);rw[ha,e]at agW;refine⟨u,w,η,.inl ?_,hr,eD⟩;simp_all [execOp,Instr.loadAt,Instr.sureAddr]
theorem Rel.TC(aN:Γ.Ok)(h:Rel Γ s a w η){r q n m b:Nat}{v:Value}(hm:m≠0)(hr:s.hp[r]?=some (.jm q n))(hv:η[r]?=some (.pointer (some ⟨b,0,none⟩)))(hx:bq w (bw Γ w η s.hp) η s.hp (.own q m) v): Rel Γ { s with hp:=s.hp.set r (.jm q m) } a (w.setCell ⟨b,1,none⟩ v) η/\w.frozen? ⟨b,1,none⟩=false/\∃u,w.cell? ⟨b,1,none⟩=some u:=by
 obtain⟨b',vs,he,hg,⟨cY,_⟩,h0,u,hu,eD⟩:=h.heap.obj r _ _ hr hv;simp only[Value.pointer.injEq,aul,Addr.mk.injEq,and_true]at he;subst he;have yr:(w.setCell ⟨b,1,none⟩ v).heap[b]?=some (.cells (vs.setIfInBounds 1 v) Ez (0,0)):=Go.heap_setCell_same w b 1 vs Ez v hg;have fU:η.set r (.pointer (some ⟨b,0,none⟩))=η:=by apply avf;intro i;by_cases hi:r=i;subst hi;rw[aD hv,hv];rw[getElem?_set_ne hi]
 refine⟨?_,frozen_of_row w b 1 vs Ez hg,?_⟩;have:=Rel.change (w':=w.setCell ⟨b,1,none⟩ v) (o':=.jm q m) (v':=.pointer (some ⟨b,0,none⟩)) aN h hr ai hv
  ⟨rfl,rfl,rfl,by simp[World.setCell],λk hk hb=>avU w _ k v (by intro e;exact hb (by rw[e];rfl))⟩
  (λc hc=>.inl hc) (λk hk=>hk.elim) (λ_ _ _ _ hk=>hk.elim) (λ_ _ _ _ hk=>hk.elim)
  (λn u ho=>by simp[bk,hr]at ho)
  (λ_ _=>rfl) (λ_ hx=>by cases hx)
  (λc d hb hd=>by simp only[dn,aul]at hb;subst hb;rw[hg]at hd;cases hd)
  (λhe=>⟨b,vs.setIfInBounds 1 v,rfl,yr,⟨by simp[cY],λe=>(hm e).elim⟩,by rw[avy];simpa using h0,v,by rw[avy];simp[cY],hx.ext he⟩)
 rw[fU]at this;exact this;grind [cell_of_row]
theorem CC(aN:Γ.Ok){tab:Nat->Option TD}(aC:bn Γ.P tab){o:Oper}{T r q n m:Nat}{p x:Operand}(ho:o.op=.store T p x){d:TD}(hd:tab T=some d)(h1:d.size=1)(hm:m≠0)(hp:s.ev p=.ptr r 1)(hx:s.ev x=.own q m)(hb:s.hp[r]?=some (.jm q n)):gV Γ o s .top (s.hp.set r (.jm q m)):=by intro a w η hr;have zU:=hr.ev p;rw[hp]at zU;have eU:=hr.ev x;rw[hx]at eU;generalize hv:a.eval p=v at zU;cases zU with|ptr _ _ b fU=>(obtain⟨g1,g2,u,g3⟩:=hr.TC aN hm hb fU eU;have yy:(a.eval x).oneCell'=true:=by cases eU;assumption);(have aeo:(a.eval x).cells=#[a.eval x]:=by cases hq:a.eval x<;>simp_all [Value.cells,Value.oneCell']);refine⟨undef,_,η,.inr ⟨?_,rfl⟩,g1,.top _⟩;simp only[execOp,ho,hv,Instr.storeAt,Instr.sureAddr,ao,aq,al,storeVar,(aC T d hd).run_sizeOf,h1,aeo,avQ,auy,au7,auZ,ne_eq,not_true_eq_false,if_false,storeCells,Addr.add_lit];simp_all [run_store]
theorem TE(aN:Γ.Ok){tab:Nat->Option TD}(aC:bn Γ.P tab){o:Oper}{l:List Prop}{r:AV}{hp':List ax}(h:Tz tab s.hp s.ev o.op=some (l,r,hp'))(hc:∀p∈l,p):gV Γ o s r hp':=by
 generalize ho:o.op=op at h;unfold Tz at h;split at h
 ·rename_i S D x;split at h;all_goals grind [QF,LK,auC]
 rename_i c;split at h
 ·rename_i b x T T' HN bl dP;split at h;all_goals grind [auC,HM]
 cases h;rename_i T p;split at h;rename_i d r' hd hp;split at h;rename_i e q n hk hb;split at h;simp only[aul,aup]at h;obtain⟨_,rfl,rfl⟩:=h;exact EU aN aC ho hd (by rw[hk];rfl) hp hb;cases h;cases h;cases h;all_goals grind [CC,auC,TB]
end
section
variable {P:Program} {w w':World} {F F':Nat->Nat->Prop} {η bj nF:List Value} {hp hp' H:List ax} {g:Nat->Nat}
def TG(g:Nat->Nat):AV->AV
 | .ptr r o=>.ptr (g r) o|x=>x
def yC(g:Nat->Nat):AV->AV
 | .own r n=>.own (g r) n| .ptr r o=>.ptr (g r) o| .mp r=>.mp (g r)| .bz f cs=>.bz f (cs.map (TG g))|x=>x
def HO(g:Nat->Nat):AV->AV
 | .agg cs=>.agg (cs.map (yC g))|x=>yC g x
def sY(g:Nat->Nat):AV->AV
 | .aG vs=>.aG (vs.map (HO g))| .bz f cs=>.bz f (cs.map (HO g))| .dt f cs=>.dt f (cs.map (HO g))|x=>HO g x
def kg(g:Nat->Nat):ax->ax
 | .box cs=>.box (cs.map (yC g))| .jm r n=>.jm (g r) n|o=>o
theorem eM{o:ax}:(kg g o).live↔o.live:=by cases o<;>exact av9
theorem v7{o:ax}{k:Nat}:(kg g o).bD k↔o.bD k:=by cases o<;>exact av9
theorem ue{r j n:Nat}{v:Value}{o:ax}(h1:hp[r]?=some o)(h2:H[j]?=some (kg g o))(h3:η[r]?=nF[j]?):bk η hp r n v↔bk nF H j n v:=by unfold bk;rw[h1,h2,h3];cases o<;>exact av9
structure yD(g:Nat->Nat)(η:List Value)(hp:List ax)(nF:List Value)(H:List ax):Prop where
 obj:∀(i:Nat)(o:ax),hp[i]?=some o->H[g i]?=some (kg g o)
 val:∀(i:Nat),i<hp.length->η[i]?=nF[g i]?
theorem yD.unP(e:yD g η hp nF H){x:AV}{v:Value}(hc:x.fe hp.length=true)(h:bq w F nF H (TG g x) v):bq w F η hp x v:=by
 cases x with
  |ptr r o=>(have hr:r<hp.length:=by simpa [AV.fe]using hc);cases h with|ptr _ _ b h1=>exact .ptr r o b (by rw[e.val r hr];exact h1)
  |ay u=>cases h;exact .ay _|aU y off=>cases h with|aU _ _ b o f aT hr=>exact .aU y off b o f aT hr
  |_=>simp[AV.fe]at hc
theorem yD.reP(e:yD g η hp nF H){x:AV}{v:Value}(hc:x.fe hp.length=true)(h:bq w F η hp x v):bq w F nF H (TG g x) v:=by
 cases x with
  |ptr r o=>(have hr:r<hp.length:=by simpa [AV.fe]using hc);cases h with|ptr _ _ b h1=>exact .ptr (g r) o b (by rw[<-e.val r hr];exact h1)
  |ay u=>cases h;exact .ay _|aU y off=>cases h with|aU _ _ b o f aT hr=>exact .aU y off b o f aT hr
  |_=>simp[AV.fe]at hc
theorem dA{α β:Type}{f:α->β}{l:List α}{j:Nat}{y:β}(h:(l.map f)[j]?=some y):∃x,l[j]?=some x/\y=f x:=by rw[auA]at h;cases hj:l[j]? with|none=>rw[hj]at h;cases h|some x=>rw[hj]at h;exact⟨x,rfl,(auo h).symm⟩
theorem yD.CD(e:yD g η hp nF H){x:AV}{v:Value}(hc:x.bb hp.length=true)(h:bq w F nF H (yC g x) v):bq w F η hp x v:=by
 cases x with
  |own r m=>(have hr:r<hp.length:=by simpa [AV.bb]using hc);cases h with|own _ _ _ h1 h2=>exact .own r m v h1 ((ue (aus hr) (e.obj r _ (aus hr)) (e.val r hr)).2 h2)
  |ptr r o=>(have hr:r<hp.length:=by simpa [AV.bb]using hc);cases h with|ptr _ _ b h1=>exact .ptr r o b (by rw[e.val r hr];exact h1)
  |mp r=>(have hr:r<hp.length:=by simpa [AV.bb]using hc);cases h with|mp _ b h1=>exact .mp r b (by rw[e.val r hr];exact h1)
  |agg cs=>simp[AV.bb]at hc|aG cs=>simp[AV.bb]at hc|bz f cs=>cases h with|bz _ _ vs hl hr=>exact .bz f cs vs (by simpa using hl) λj y u hy hu=>e.unP (by simp only[AV.bb,auI]at hc;exact hc y (auu hy)) (hr j _ u (by rw[auA,hy];rfl) hu)
  |dt f cs=>simp[AV.bb]at hc|fY r n i z=>simp[AV.bb]at hc|top=>exact .top v|ay u=>cases h;exact .ay _|fn u=>cases h with|fn _ h1=>exact .fn _ h1
  |sl els=>cases h with|mV a=>exact .mV a|sl size els b o c f hc hm hl aT hr=>exact .sl size els b o c f hc hm hl aT hr
  |clip els=>cases h with|jv a=>exact .jv a|clip size els b o f hm hl aT hr=>exact .clip size els b o f hm hl aT hr
  |aU y off=>cases h with|aU _ _ b o f aT hr=>exact .aU y off b o f aT hr
  |eo es=>cases h with|eo b en c h1 h2 _ hl=>exact .eo b en c h1 h2 _ hl
theorem yD.reC(e:yD g η hp nF H){x:AV}{v:Value}(hc:x.bb hp.length=true)(h:bq w F η hp x v):bq w F nF H (yC g x) v:=by
 cases x with
  |own r m=>(have hr:r<hp.length:=by simpa [AV.bb]using hc);cases h with|own _ _ _ h1 h2=>exact .own (g r) m v h1 ((ue (aus hr) (e.obj r _ (aus hr)) (e.val r hr)).1 h2)
  |ptr r o=>(have hr:r<hp.length:=by simpa [AV.bb]using hc);cases h with|ptr _ _ b h1=>exact .ptr (g r) o b (by rw[<-e.val r hr];exact h1)
  |mp r=>(have hr:r<hp.length:=by simpa [AV.bb]using hc);cases h with|mp _ b h1=>exact .mp (g r) b (by rw[<-e.val r hr];exact h1)
  |agg cs=>simp[AV.bb]at hc|aG cs=>simp[AV.bb]at hc|bz f cs=>cases h with|bz _ _ vs hl hr=>exact .bz f _ vs (by simpa using hl) λj y u hy hu=>by obtain⟨y0,hy0,rfl⟩:=dA hy;exact e.reP (by simp only[AV.bb,auI]at hc;exact hc y0 (auu hy0)) (hr j y0 u hy0 hu)
  |dt f cs=>simp[AV.bb]at hc|fY r n i z=>simp[AV.bb]at hc|top=>exact .top v|ay u=>cases h;exact .ay _|fn u=>cases h with|fn _ h1=>exact .fn _ h1
  |sl els=>cases h with|mV a=>exact .mV a|sl size els b o c f hc hm hl aT hr=>exact .sl size els b o c f hc hm hl aT hr
  |clip els=>cases h with|jv a=>exact .jv a|clip size els b o f hm hl aT hr=>exact .clip size els b o f hm hl aT hr
  |aU y off=>cases h with|aU _ _ b o f aT hr=>exact .aU y off b o f aT hr
  |eo es=>cases h with|eo b en c h1 h2 _ hl=>exact .eo b en c h1 h2 _ hl
theorem yD.NL(e:yD g η hp nF H){x:AV}{v:Value}(hc:x.dX hp.length=true)(h:bq w F nF H (HO g x) v):bq w F η hp x v:=by
 cases x with
  |agg cs=>cases h with|agg _ vs hl h1 hr=>refine .agg cs vs (by simpa using hl) h1 λj y u hy hu=>e.CD (by simp only[AV.dX,auI]at hc;exact hc y (auu hy)) (hr j _ u (by rw[auA,hy];rfl) hu)
  |_=>exact e.CD hc h
theorem yD.reV(e:yD g η hp nF H){x:AV}{v:Value}(hc:x.dX hp.length=true)(h:bq w F η hp x v):bq w F nF H (HO g x) v:=by
 cases x with
  |agg cs=>cases h with|agg _ vs hl h1 hr=>refine .agg _ vs (by simpa using hl) h1 λj y u hy hu=>?_;obtain⟨z,hz,rfl⟩:=dA hy;exact e.reC (by simp only[AV.dX,auI]at hc;exact hc z (auu hz)) (hr j z u hz hu)
  |_=>first|exact e.reC (x:=.top) hc h|(refine Eq.mpr ?_ (e.reC ?_ h)<;>first|rfl|exact hc)
theorem yD.un(e:yD g η hp nF H){x:AV}{v:Value}(hc:x.closed hp.length=true)(h:bq w F nF H (sY g x) v):bq w F η hp x v:=by
 cases x with
  |aG cs=>cases h with|aG _ vs hl hr=>exact .aG cs vs (by simpa using hl) λj y u hy hu=>e.NL (by simp only[AV.closed,auI]at hc;exact hc y (auu hy)) (hr j _ u (by rw[auA,hy];rfl) hu)
  |bz f cs=>cases h with|bz _ _ vs hl hr=>exact .bz f cs vs (by simpa using hl) λj y u hy hu=>e.NL (by simp only[AV.closed,auI]at hc;exact hc y (auu hy)) (hr j _ u (by rw[auA,hy];rfl) hu)
  |dt f cs=>cases h with|dt _ _ vs hl hr=>exact .dt f cs vs (by simpa using hl) λj y u hy hu=>e.NL (by simp only[AV.closed,auI]at hc;exact hc y (auu hy)) (hr j _ u (by rw[auA,hy];rfl) hu)
  |_=>exact e.NL hc h
theorem yD.re(e:yD g η hp nF H){x:AV}{v:Value}(hc:x.closed hp.length=true)(h:bq w F η hp x v):bq w F nF H (sY g x) v:=by
 cases x with
  |aG cs=>cases h with|aG _ vs hl hr=>refine .aG _ vs (by simpa using hl) λj y u hy hu=>?_;obtain⟨z,hz,rfl⟩:=dA hy;exact e.reV (by simp only[AV.closed,auI]at hc;exact hc z (auu hz)) (hr j z u hz hu)
  |bz f cs=>cases h with|bz _ _ vs hl hr=>refine .bz f _ vs (by simpa using hl) λj y u hy hu=>?_;obtain⟨z,hz,rfl⟩:=dA hy;exact e.reV (by simp only[AV.closed,auI]at hc;exact hc z (auu hz)) (hr j z u hz hu)
  |dt f cs=>cases h with|dt _ _ vs hl hr=>refine .dt f _ vs (by simpa using hl) λj y u hy hu=>?_;obtain⟨z,hz,rfl⟩:=dA hy;exact e.reV (by simp only[AV.closed,auI]at hc;exact hc z (auu hz)) (hr j z u hz hu)
  |_=>first|exact e.reV (x:=.top) hc h|(refine Eq.mpr ?_ (e.reV ?_ h)<;>first|rfl|exact hc)
theorem yD.unL(e:yD g η hp nF H):∀{xs:List AV}{vs:List Value},xs.all (AV.closed hp.length)=true->cC w F nF H (xs.map (sY g)) vs->cC w F η hp xs vs
 | [],[],_,_=>ai|x::xs,v::vs,hc,h=>by rw[avL,auq]at hc;exact⟨e.un hc.1 h.1,e.unL hc.2 h.2⟩| [],_::_,_,h=>h.elim|_::_,[],_,h=>h.elim
theorem yD.unO(e:yD g η hp nF H){o:ax}{v:Value}(hc:o.closed hp.length=true)(h:iL w F nF H (kg g o) v):iL w F η hp o v:=by cases o with|dead=>exact ai|box cs=>obtain⟨b,vs,T,e1,e2,e3,e4⟩:=h;refine⟨b,vs,T,e1,e2,by simpa using e3,λj x u hx hu=>?_⟩;have h5:=e4 j (yC g x) u (by rw[auA,hx];rfl) hu;exact⟨e.CD (auI.1 hc x (auu hx)) h5.1,h5.2⟩|row z size els=>exact h|cJ es=>exact h|jm q k=>obtain⟨b,vs,e1,e2,e3,e4,u,e5,e6⟩:=h;exact⟨b,vs,e1,e2,e3,e4,u,e5,e.CD (x:=.own q k) (by simpa [AV.bb,ax.closed]using hc) e6⟩|aV z size els=>exact h|fz z m ns=>exact h
theorem yD.reO(e:yD g η hp nF H){o:ax}{v:Value}(hc:o.closed hp.length=true)(h:iL w F η hp o v):iL w F nF H (kg g o) v:=by cases o with|dead=>exact ai|box cs=>obtain⟨b,vs,T,e1,e2,e3,e4⟩:=h;refine⟨b,vs,T,e1,e2,by simpa using e3,λj x u hx hu=>?_⟩;obtain⟨z,hz,rfl⟩:=dA hx;have h5:=e4 j z u hz hu;exact⟨e.reC (auI.1 hc z (auu hz)) h5.1,h5.2⟩|row z size els=>exact h|cJ es=>exact h|jm q k=>obtain⟨b,vs,e1,e2,e3,e4,u,e5,e6⟩:=h;exact⟨b,vs,e1,e2,e3,e4,u,e5,e.reC (x:=.own q k) (by simpa [AV.bb,ax.closed]using hc) e6⟩|aV z size els=>exact h|fz z m ns=>exact h
def xr(g:Nat->Nat)(j:Nat):Nat->Option Nat
 |0=>none|k+1=>(match Nat.beq (g k) j with|true=>some k|false=>xr g j k)
theorem px{j:Nat}:∀{k i:Nat},xr g j k=some i->i<k/\g i=j
 |0,i,h=>by cases h|k+1,i,h=>by simp only[xr]at h;split at h;rename_i hb;obtain rfl:=auo h;exact⟨by omega,auN hb⟩;obtain⟨h1,h2⟩:=px h;exact⟨by omega,h2⟩
theorem Ao{j:Nat}:∀{k:Nat},xr g j k=none->∀i,i<k->g i≠j
 |0,_,i,hi=>by omega|k+1,h,i,hi=>by simp only[xr]at h;split at h;cases h;rename_i hb;by_cases hk:i=k;subst hk;intro hj;rw[hj,Nat.beq_refl]at hb;cases hb;exact Ao h i (by omega)
def putAt{α:Type}(g:Nat->Nat)(l L:List α)(d:α)(j:Nat):α:=match xr g j l.length with
 |some i=>l.getD i d
 |none=>L.getD j d
def py:Nat->Nat->List Nat
 |_,0=>[]|k,m+1=>k::py (k+1) m
def HP{α:Type}(g:Nat->Nat)(l L:List α)(d:α)(m:Nat):List α:=(py 0 m).map (putAt g l L d)
theorem qS:∀(m k:Nat),(py k m).length=m
 |0,_=>rfl|m+1,k=>by rw[py,auy,qS m]
theorem qT:∀(m k j:Nat),j<m->(py k m)[j]?=some (k+j)
 |0,_,_,h=>by omega|m+1,k,0,_=>rfl|m+1,k,j+1,h=>by rw[py,ava,qT m (k+1) j (by omega)];congr 1;omega
theorem uf{α:Type}{l L:List α}{d:α}{m:Nat}:(HP g l L d m).length=m:=by rw[HP,aum,qS]
theorem Ap{α:Type}{l L:List α}{d:α}{m j:Nat}(h:j<m):(HP g l L d m)[j]?=some (putAt g l L d j):=by rw[HP,auA,qT m 0 j h,auX,auZ]
def kh(g:Nat->Nat)(n:Nat)(hp' H:List ax):List ax:=HP g (hp'.map (kg g)) H .dead (H.length+(hp'.length-n))
theorem aY.agZ{f:FuncId}{args:List AV}{R:AV->List ax->Prop}(h:aY P f args hp R)(oY:∀(i:Nat)(o:ax),hp[i]?=some o->H[g i]?=some (kg g o))(ag0:∀i i',i<hp.length->i' < hp.length->g i=g i'->i=i')(su:∀i,hp.length<=i->g i=H.length+(i-hp.length))(bl:args.all (AV.closed hp.length)=true)(ej:hp.all (ax.closed hp.length)=true)(hR:∀r hp',R r hp'->hp.length<=hp'.length/\r.closed hp'.length=true/\hp'.all (ax.closed hp'.length)=true): aY P f (args.map (sY g)) H (λr2 H2=>∃r hp',R r hp'/\r2=sY g r/\H2=kh g hp.length hp' H):=by
 refine⟨h.1,λw F nF vals bA hv=>?_⟩;have hlen:nF.length=H.length:=bA.heap.len;have hgH:∀i,i<hp.length->g i<H.length:=λi hi=>(aun.1 (oY i _ (aus hi))).1;let η:List Value:=(py 0 hp.length).map λi=>nF.getD (g i) undef;have ag1:η.length=hp.length:=by simp[η,qS]
 have fU:∀i,i<hp.length->η[i]?=nF[g i]?:=by (intro i hi;have aF:g i<nF.length:=by rw[hlen];exact hgH i hi);simp only[η,auA,qT _ _ _ hi,auX,auZ];rw[aus aF];simp[ae,aF]
 have fk:yD g η hp nF H:=⟨oY,fU⟩;have mm:∀b,aS η hp b->aS nF H b:=by intro b ⟨r,o,v,h1,h2,h3,h4⟩;have aF:r<hp.length:=(aun.1 h1).1;exact⟨g r,kg g o,v,oY r o h1,eM.2 h2,by rw[<-fU r aF];exact h3,h4⟩
 have Tg:∀b o,ka nF H b o->ka η hp b o:=by (intro b o hf;refine(bp b o).2 λr v hr hb=>?_;have aF:r<hp.length:=by rw[<-ag1];exact(aun.1 hr).1);obtain⟨o1,q1,q2⟩:=(bp b o).1 hf (g r) v (by rw[<-fU r aF];exact hr) hb;rw[oY r _ (aus aF)]at q1;obtain rfl:=auo q1;exact⟨_,aus aF,v7.1 q2⟩
 have Th:qM w F η hp:=by refine⟨λb o hb=>⟨(bA.bD b o hb).1,Tg b o (bA.bD b o hb).2⟩,⟨ag1,λr o v h1 h2=>?_,λr r' o o' v v' b bW h1 h2 l1 l2 e1 e2 hb=>?_⟩,λb hb=>bA.live b (mm b hb),bA.iK,λb hb hl=>bA.gx b hb (mm b hl)⟩;have aF:r<hp.length:=(aun.1 h1).1;exact fk.unO (auI.1 ej o (auu h1)) (bA.heap.obj (g r) _ v (oY r o h1) (by rw[<-fU r aF];exact h2));have q1:r<hp.length:=(aun.1 h1).1;have q2:r' < hp.length:=(aun.1 h2).1;exact bA.heap.sep (g r) (g r') _ _ v v' b (λhe=>bW (ag0 r r' q1 q2 he)) (oY r o h1) (oY r' o' h2) (eM.2 l1) (eM.2 l2) (by rw[<-fU r q1];exact e1) (by rw[<-fU r' q2];exact e2) hb
 refine(h.2 w F η vals Th (fk.unL bl hv)).mono λe w' ⟨v,r,hp',bj,he,hRr,bF⟩=>?_;obtain⟨hle,Hh,hoc⟩:=hR r hp' hRr;have adf:bj.length=hp'.length:=bF.heap.len;let m:=H.length+(hp'.length-hp.length);let Ck:List Value:=HP g bj nF undef m;have amo:∀i i',i<hp'.length->i' < hp'.length->g i=g i'->i=i':=by intro i i' h1 h2 he;by_cases q1:i<hp.length;by_cases q2:i' < hp.length;exact ag0 i i' q1 q2 he;have:=hgH i q1;have:=su i' (by omega);omega;by_cases q2:i' < hp.length;have:=hgH i' q2;have:=su i (by omega);omega;have:=su i (by omega);have:=su i' (by omega);omega
 have hgm:∀i,i<hp'.length->g i<m:=by intro i hi;by_cases q:i<hp.length;have:=hgH i q;simp only[m];omega;have:=su i (by omega);simp only[m];omega
 have at1:∀{α:Type}{l L:List α}{d:α}{i:Nat},l.length=hp'.length->i<hp'.length->(HP g l L d m)[g i]?=l[i]?:=by intro α l L d i hl hi;rw[Ap (hgm i hi),putAt];cases hf:xr g (g i) l.length with|none=>exact(Ao hf i (by omega) rfl).elim|some i'=>obtain⟨q1,q2⟩:=px hf;have:=amo i' i (by omega) hi q2;subst this;rw[aus (by omega)];simp[ae,show i' < l.length by omega]
 have at2:∀{α:Type}{l L:List α}{d:α}{j:Nat},l.length=hp'.length->L.length=H.length->(∀i,i<hp'.length->g i≠j)->(HP g l L d m)[j]?=L[j]?:=by intro α l L d j hl hL hj;by_cases hm:j<m;(have hjH:j<H.length:=by refine Nat.lt_of_not_le λfb=>hj (hp.length+(j-H.length)) (by simp only[m]at hm;omega) ?_;rw[su _ (by omega)];omega);rw[Ap hm,putAt];(cases hf:xr g j l.length with|none=>simp only;rw[aus (by omega)];simp[ae,show j<L.length by omega]|some i'=>obtain⟨q1,q2⟩:=px hf;exact(hj i' (by omega) q2).elim);rw[auQ (by rw[uf];omega),auQ (by simp only[m]at hm;omega)]
 have o1:∀i o,hp'[i]?=some o->(kh g hp.length hp' H)[g i]?=some (kg g o):=by intro i o ho;rw[kh];have:=at1 (l:=hp'.map (kg g)) (L:=H) (d:=.dead) (i:=i) (by simp) (aun.1 ho).1;rw[this,auA,ho];rfl
 have v1:∀i,i<hp'.length->bj[i]?=Ck[g i]?:=λi hi=>(at1 (l:=bj) (L:=nF) (d:=undef) adf hi).symm;have o2:∀j,(∀i,i<hp'.length->g i≠j)->(kh g hp.length hp' H)[j]?=H[j]?:=λj hj=>at2 (l:=hp'.map (kg g)) (by simp) rfl hj;have v2:∀j,(∀i,i<hp'.length->g i≠j)->Ck[j]?=nF[j]?:=λj hj=>at2 (l:=bj) adf hlen hj;have ag2:yD g bj hp' Ck (kh g hp.length hp' H):=⟨o1,v1⟩;have image:∀j,(∃i,i<hp'.length/\g i=j)\/∀i,i<hp'.length->g i≠j:=by intro j;by_cases hj:∃i,i<hp'.length/\g i=j;exact .inl hj;exact .inr λi hi he=>hj ⟨i,hi,he⟩
 have apart:∀{j:Nat}{o:ax}{u:Value}{b:Nat},(∀i,i<hp'.length->g i≠j)->H[j]?=some o->o.live->nF[j]?=some u->dn u=some b->b<w.heap.size/\¬aS η hp b:=by intro j o u b hj h1 h2 h3 h4;refine⟨bA.live b ⟨j,o,u,h1,h2,h3,h4⟩,fun⟨r1,p1,z1,g1,g2,g3,g4⟩=>?_⟩;have aF:r1<hp.length:=(aun.1 g1).1;exact bA.heap.sep (g r1) j _ o z1 u b (hj r1 (by omega)) (oY r1 p1 g1) h1 (eM.2 g2) h2 (by rw[<-fU r1 aF];exact g3) h3 g4 h4
 have HG:∀b o,dc F w η hp w' bj hp' b o->dc F w nF H w' Ck (kh g hp.length hp' H) b o:=by intro b o ⟨h1,h2,h3⟩;refine⟨h1.imp id (Or.imp id (mm b)),h2,(bp b o).2 λj u hr hb=>?_⟩;rcases image j with⟨i,hi,rfl⟩|hj;rw[<-v1 i hi]at hr;obtain⟨p1,q1,q2⟩:=(bp b o).1 h3 i u hr hb;exact⟨_,o1 i p1 q1,v7.2 q2⟩;(rw[v2 j hj]at hr;rw[o2 j hj];have Lg:j<H.length:=by rw[<-hlen];exact(aun.1 hr).1);(have ho:H[j]?=some H[j]:=aus Lg;refine⟨H[j],ho,?_⟩;have key:H[j].live->F b o:=by intro hl;have ha:=apart hj ho hl hr hb;rcases h1 with h1|h1|h1;exact h1;omega;exact(ha.2 h1).elim);cases hk:H[j]with|dead=>exact ai|_=>rw[hk]at key ho;obtain⟨p1,q1,q2⟩:=(bp b o).1 (bA.bD b o (key ai)).2 j u hr hb;rw[ho]at q1;obtain rfl:=auo q1;exact q2
 have jy:∀{oT:List Value}{kX:List ax},Ext w' (dc F w η hp w' bj hp') oT kX w' (dc F w nF H w' Ck (kh g hp.length hp' H)) oT kX:=⟨λ_ _ _ _ h=>h,λ_ _ _ _ h=>h,HG,λ_ _ h=>h,λ_ _ h=>h,λ_ _ _ h=>h⟩;have oc:∀{i j:Nat},i<hp'.length->g i=j->j<H.length->i<hp.length:=by intro i j hi he hj;refine Nat.lt_of_not_le λfb=>?_;have:=su i fb;omega
 have eF:Ext w F nF H w' (dc F w nF H w' Ck (kh g hp.length hp' H)) Ck (kh g hp.length hp' H):=by refine⟨λb o u hf hc=>bF.ext.cell b o u hf hc,λb es c hf hc=>bF.ext.kG b es c hf hc,λb o hf=>HG b o (bF.ext.bD b o hf),λj a hr=>?_,λj a hr=>?_,λj k u ho=>?_⟩;(have Lg:j<H.length:=by rw[<-hlen];exact(aun.1 hr).1);rcases image j with⟨i,hi,rfl⟩|hj;have eG:=oc hi rfl Lg;rw[<-v1 i hi];exact bF.ext.ptr i a (by rw[fU i eG];exact hr);rw[v2 j hj];exact hr;(have Lg:j<H.length:=by rw[<-hlen];exact(aun.1 hr).1);rcases image j with⟨i,hi,rfl⟩|hj;have eG:=oc hi rfl Lg;rw[<-v1 i hi];exact bF.ext.mp i a (by rw[fU i eG];exact hr);rw[v2 j hj];exact hr;(have Lg:j<H.length:=by unfold bk at ho;refine Nat.lt_of_not_le λfb=>?_;rw[auQ fb]at ho;exact ho);rcases image j with⟨i,hi,rfl⟩|hj;have eG:=oc hi rfl Lg;have h1:bk η hp i k u:=(ue (aus eG) (oY i _ (aus eG)) (fU i eG)).2 ho;have h2:=bF.ext.own i k u h1;exact(ue (aus hi) (o1 i _ (aus hi)) (v1 i hi)).1 h2;unfold bk at ho ⊢;rw[v2 j hj,o2 j hj];exact ho
 refine⟨v,sY g r,kh g hp.length hp' H,Ck,he,⟨r,hp',hRr,rfl,rfl⟩,?_⟩;refine⟨⟨bF.keeps.os,bF.keeps.tape,bF.keeps.output,bF.keeps.size,λk hk hx=>bF.keeps.block k hk λhl=>hx (mm k hl)⟩,eF,⟨by rw[kh,uf,uf],λj o u h1 h2=>?_,λj j' p1 p2 z1 z2 b bW h1 h2 l1 l2 e1 e2 hb gb=>?_⟩,λb ⟨j,o,u,h1,h2,h3,h4⟩=>?_,(ag2.re Hh bF.rep).ext jy⟩;rcases image j with⟨i,hi,rfl⟩|hj;rw[o1 i _ (aus hi)]at h1;obtain rfl:=auo h1;rw[<-v1 i hi]at h2;exact(ag2.reO (auI.1 hoc _ (auz hi)) (bF.heap.obj i _ u (aus hi) h2)).ext jy (aur _) λ_ _ _=>rfl
 ·rw[o2 j hj]at h1;rw[v2 j hj]at h2;by_cases hl:o.live;exact(bA.heap.obj j o u h1 h2).ext eF bF.keeps.size λb hb vY=>bF.keeps.block b vY (apart hj h1 hl h2 hb).2
  ·cases o<;>first|exact ai|exact(hl ai).elim
 have HH:∀{i j:Nat}{p1 p2:ax}{z1 z2:Value},i<hp'.length->(∀i,i<hp'.length->g i≠j)->hp'[i]?=some p1->H[j]?=some p2->p1.live->p2.live->bj[i]?=some z1->nF[j]?=some z2->dn z1=some b->dn z2=some b->False:=by intro i j p1 p2 z1 z2 hi hj h1 h2 l1 l2 e1 e2 hb gb;have ha:=apart hj h2 l2 e2 gb;rcases bF.cu b ⟨i,p1,z1,h1,l1,e1,hb⟩ with h5|h5;omega;exact ha.2 h5
 rcases image j with⟨i,hi,rfl⟩|hj;rw[o1 i _ (aus hi)]at h1;obtain rfl:=auo h1;rw[<-v1 i hi]at e1;rcases image j' with⟨i',wY,rfl⟩|vJ;rw[o1 i' _ (aus wY)]at h2;obtain rfl:=auo h2;rw[<-v1 i' wY]at e2;exact bF.heap.sep i i' _ _ z1 z2 b (λhe=>bW (by rw[he])) (aus hi) (aus wY) (eM.1 l1) (eM.1 l2) e1 e2 hb gb;rw[o2 j' vJ]at h2;rw[v2 j' vJ]at e2;exact HH hi vJ (aus hi) h2 (eM.1 l1) l2 e1 e2 hb gb;rw[o2 j hj]at h1;rw[v2 j hj]at e1;rcases image j' with⟨i',wY,rfl⟩|vJ;rw[o1 i' _ (aus wY)]at h2;obtain rfl:=auo h2;rw[<-v1 i' wY]at e2;exact HH wY hj (aus wY) h1 (eM.1 l2) l1 e2 e1 gb hb;rw[o2 j' vJ]at h2;rw[v2 j' vJ]at e2;exact bA.heap.sep j j' p1 p2 z1 z2 b bW h1 h2 l1 l2 e1 e2 hb gb;rcases image j with⟨i,hi,rfl⟩|hj;rw[o1 i _ (aus hi)]at h1;obtain rfl:=auo h1;rw[<-v1 i hi]at h3;exact(bF.cu b ⟨i,_,u,aus hi,eM.1 h2,h3,h4⟩).imp id (mm b);rw[o2 j hj]at h1;rw[v2 j hj]at h3;exact .inr ⟨j,o,u,h1,h2,h3,h4⟩
end
section
def intOf:AV->Option Int
 | .ay (.int .i64 n)=>some n|_=>none
theorem HQ{x:AV}{n:Int}(h:intOf x=some n):x=.ay (.int .i64 n):=by unfold intOf at h;grind
def v8:List AV->Option (List Int)
 | []=>some []|x::l=>(match intOf x,v8 l with|some n,some ns=>some (n::ns)|_,_=>none)
theorem Dj:∀{l:List AV}{ns:List Int},v8 l=some ns->l=ns.map λn=>.ay (.int .i64 n)
 | [],ns,h=>by simp_all [v8]|x::l,ns,h=>by simp only[v8]at h;split at h;rename_i n ms h1 h2;obtain rfl:=auo h;rw[HQ h1,Dj h2];rfl;cases h
structure Que where
 r:Nat
 n:Nat
 e:Nat
 m:Nat
 ns:List Int
def Aq(hp:List ax):AV->Option Que
 | .own r n=>(match hp[r]? with|some (.fz e m ns)=>some ⟨r,n,e,m,ns⟩|_=>none)|_=>none
theorem TH{hp:List ax}{x:AV}{q:Que}(h:Aq hp x=some q):x=.own q.r q.n/\hp[q.r]?=some (.fz q.e q.m q.ns):=by unfold Aq at h;grind
def qi(tab:Nat->Option TD)(T:Nat):Option (Nat×TD×TD):=
 match tab T with
 |some d=>(match d.kind with
  | .kW e=>(tab e).map λd'=>(e,d,d')
  |_=>none)
 |none=>none
theorem ug{tab:Nat->Option TD}{T e:Nat}{d d':TD}(h:qi tab T=some (e,d,d')):tab T=some d/\d.kind=.kW e/\tab e=some d':=by grind [qi,ave]
def qOp(mk:Bool)(tab:Nat->Option TD)(hp:List ax)(ρ:Operand->AV):Op->Option (List Prop×AV×List ax)
 | .buildSlice T n parts=>(match mk,parts.toList,qi tab T with|true,[(0,x)],some (e,_,d')=>(match intOf (ρ x),Nat.beq d'.size 1&&Nat.beq n 1 with|some k,true=>some ([],.own hp.length 0,hp++[.fz e 0 [k]])|_,_=>none)|_,_,_=>none)| .indexAddr T x i=>(match qi tab T,Aq hp (ρ x),ρ i with|some (e,_,d'),some q,.ay (.int _ k)=>(match Nat.beq d'.size 1&&Nat.beq e q.e with|true=>some ([q.n=q.m,0<=k/\k<q.ns.length],.fY q.r q.n k.toNat 1,hp)|false=>none)|_,_,_=>none)| .load T x=>(match ρ x,tab T with| .fY r n i 1,some d=>(match hp[r]?,Nat.beq d.size 1&&!d.kind.agg with|some (.fz _ m ns),true=>some ([n=m,i<ns.length],.ay (.int .i64 (ns.getD i 0)),hp)|_,_=>none)|_,_=>none)| .slice T x (some lo) none none=>(match qi tab T,Aq hp (ρ x),ρ lo with|some (e,_,d'),some q,.ay (.int _ l)=>(match Nat.beq d'.size 1&&Nat.beq e q.e with|true=>some ([q.n=q.m,0<=l/\l<=q.ns.length],.own q.r (q.m+1),hp.set q.r (.fz e (q.m+1) (q.ns.drop l.toNat)))|false=>none)|_,_,_=>none)| .call c=>(match c.callee,c.args.toList,c.argTypes.toList with| .builtin .len,[x],[T]=>(match qi tab T,Aq hp (ρ x)with|some _,some q=>some ([q.n=q.m],.ay (.int .i64 q.ns.length),hp)|_,_=>none)| .builtin .append,[b,x],[T,T']=>(match qi tab T,Aq hp (ρ b),(ρ x).nf hp with|some (e,_,d'),some q,some (cs,els)=>(match v8 els,Nat.beq d'.size 1&&(Nat.beq e q.e&&Nat.beq T T')with|some ks,true=>some (cs++[q.n=q.m,(q.ns.length+ks.length<=maxLen/\(q.ns.length+ks.length)*d'.bytes<=140737488355328)],.own q.r (q.m+1),hp.set q.r (.fz e (q.m+1) (q.ns++ks)))|_,_=>none)|_,_,_=>none)|_,_,_=>none)|_=>none
variable {G:Type} {Γ:Env G} {s:AS G} {a:Act} {w w':World} {η:List Value} {hp:List ax}
theorem gp.aep{e:Nat}{v:Value}{ns:List Int}{xs:List Value}(h:mX w e 1 v ns.length xs 0)(hx:xs=ns.map λn=>.int .i64 n):gp w e v ns:=by rcases h.2 with⟨h0,h1⟩|⟨g,cap,cur,rfl,h0,⟨hi,hk,hg⟩,h2,h3,h4,h5⟩;refine .inl ⟨auV h0,?_⟩;grind;(obtain rfl:hi=0:=Nat.le_zero.1 hk;refine .inr ⟨g,0,cap,cur,rfl,h0,hg,h2,h3,by omega,λi n hn=>?_⟩;have:xs[i]?=some (.int .i64 n):=by simp_all);grind
theorem gp.slice{e:Nat}{v:Value}{ns:List Int}(h:gp w e v ns):∃ad c,v=.slice ad ns.length c:=by rcases h with⟨rfl,ad,rfl⟩|⟨g,o,cap,cur,rfl,_⟩;all_goals simp
theorem Rel.fz(aN:Γ.Ok)(h:Rel Γ s a w η){r e m:Nat}{ns ns':List Int}{v v':Value}(hr:s.hp[r]?=some (.fz e m ns))(hv:η[r]?=some v)(hk:cy (λk=>dn v=some k) w w')(hv':∀b,dn v'=some b->dn v=some b\/w.heap.size<=b)(Hb:gp w' e v' ns'):Rel Γ { s with hp:=s.hp.set r (.fz e (m+1) ns') } a w' (η.set r v'):=by
 have hq:gp w e v ns:=h.heap.obj r _ _ hr hv;obtain⟨ad,c,rfl⟩:=hq.slice;exact h.change aN (o':=.fz e (m+1) ns') hr ai hv hk hv' (λk hf=>hf.elim) (λ_ _ _ _ hf _=>hf.elim) (λ_ _ _ _ hf _=>hf.elim)
  (by grind [bk])
  (λ_ hx=>by cases hx) (λ_ hx=>by cases hx) (λb d hb hd=>by obtain⟨cur,h5⟩:=hq.lt hb;simp_all) (λ_=>Hb)
theorem lK{r e m:Nat}{ns:List Int}{v:Value}(h:hp[r]?=some (.fz e m ns)):bk η hp r m v↔η[r]?=some v:=by simp_all [bk]
theorem LL(aN:Γ.Ok)(h:Rel Γ s a w η){t ty e:TypeId}{d:TD}(ht:Γ.P.underlying t=some (.slice e))(dP:gq Γ.P e d)(h1:d.size=1){r m:Nat}{ns ks:List Int}{aL:List AV}{v0 v2:Value}(hr:s.hp[r]?=some (.fz e m ns))(vT:η[r]?=some v0)(hx:bq w (bw Γ w η s.hp) η s.hp (.sl aL) v2)(hks:v8 aL=some ks)(hm:ns.length+ks.length<=maxLen)(Sf:(ns.length+ks.length)*d.bytes<=140737488355328): ∃v' w',(Builtin.append_ #[t,t] ty #[v0,v2]).run Γ.P w=.ok v' w'/\Rel Γ { s with hp:=s.hp.set r (.fz e (m+1) (ns++ks)) } a w' (η.set r v')/\v'.oneCell'=true:=by
 have hq:gp w e v0 ns:=h.heap.obj r _ v0 hr vT;have fA:=Dj hks;have hlen:aL.length=ks.length:=by rw[fA,aum]
 have sS:∀x:AV,x∈aL->x.cells.length=d.size:=by intro x lF;rw[fA]at lF;obtain⟨n,_,rfl⟩:=avs.1 lF;rw[h1];rfl
 obtain⟨i,jw,qC,Qq,Nw⟩:=dP.info;obtain⟨ni,hn⟩:=tP (ty:=ty) ht dP (by omega) hx sS;have qD:ni=ks.map λn=>.int .i64 n:=by apply avf;intro j;by_cases hj:j<ks.length;(have e1:aL[j]?=some (.ay (.int .i64 ks[j])):=by rw[fA,auA,aus hj];rfl);obtain⟨u,q1,q2,_⟩:=hn.rep j _ 0 _ e1 rfl;rw[h1,avt,avu]at q1;rw[q1,auA,aus hj,q2.aB];rfl;rw[auQ (by rw[hn.len,h1,hlen];omega),auQ (by rw[aum];omega)]
 by_cases hz:aL=[];have w6:ks=[]:=auV (by rw[<-hlen,hz];rfl);subst w6;obtain⟨ad,c,rfl⟩:=hq.slice;have KT:ns.length<=c:=by rcases hq with⟨rfl,_⟩|⟨g,o,cap,cur,he,_,_,h5,_⟩;exact auv _;simp only[Value.slice.injEq]at he;omega
 exact⟨_,w,hn.nothing hz _ _ _ KT,h.fz aN hr vT (cy.refl _ w) (λb hb=>.inl hb) (by rw[auF];exact hq),rfl⟩;have sj:0<aL.length:=List.length_pos_iff.2 hz;have Hd:ns.length+ks.length<=9223372036854775807:=by simp only[maxLen]at hm;omega
 have grown:∀(oc:Nat),(∀b,dn v0=some b->b<w.heap.size)->
   Rel Γ { s with hp:=s.hp.set r (.fz e (m+1) (ns++ks)) } a
   (w.drew.alloc (.cells ((ns.map λn=>Value.int .i64 n).toArray++ni.toArray++Builtin.zeroCells d.zero.cells (grownCap w (ns.length+aL.length) oc e-(ns.length+aL.length))) e))
   (η.set r (.slice (some ⟨w.heap.size,0,none⟩) (ns.length+aL.length) (grownCap w (ns.length+aL.length) oc e))):=by
  intro oc aF;have hs:cj w (w.drew.alloc (.cells ((ns.map λn=>Value.int .i64 n).toArray++ni.toArray++Builtin.zeroCells d.zero.cells (grownCap w (ns.length+aL.length) oc e-(ns.length+aL.length))) e)):=
   (cj.drew w).trans (cj.alloc _ _)
  refine h.fz aN hr vT (hs.keeps _) (λb hb=>?_) (.aep (xs:=(ns.map λn=>Value.int .i64 n)++ni) ?_ (by rw[qD,auY]))
  ·rw[cK (by have:=grownCap_ge w (ns.length+aL.length) oc e;omega)]at hb;obtain rfl:=auo hb;exact .inr (aur _)
  ·have:=vO (w:=w) (e:=e) (size:=d.size) (n:=ns.length) (m:=aL.length) (z:=d.zero.cells) (ns.map λn=>Value.int .i64 n) ni (by rw[h1,aum,avt]) hn.len dP.Nv oc sj (by rw[hlen];exact hm);rw[h1]at this;rw[aut,<-hlen];exact this
 rcases hq with⟨rfl,ad,rfl⟩|⟨g,o,cap,cur,rfl,h0,hg,KT,KU,gY,qy⟩;have gr:=grown 0 (λb hb=>by cases ad<;>simp[dn]at hb);simp only[au1,au7,auZ,Array.empty_append]at gr;simp only[au7,auZ,<-hlen]at Hd Sf;cases ad with|none=>have:=hn.nil sj (by omega) (by omega);exact⟨_,_,this,gr,rfl⟩|some ad=>have:=hn.grow sj ad 0 0 [] (by simp) (λj u hj=>by simp at hj) (by omega) (by simp only[auZ];omega) (growslice_fits (by omega) (by simpa only[auZ]using Sf));simp only[auZ,avF]at this;refine⟨_,_,this,?_,rfl⟩;simpa only[Array.empty_append]using gr
 have wX:∀c,0<c->∀n,dn (.slice (some ⟨g,o,none⟩) n c)=some g:=λc hc n=>cK hc;by_cases fi:ns.length+aL.length<=cap;have hnl:ni.length=aL.length:=by rw[hn.len,h1,avt]
 have vP:o+ns.length+ni.length<=cur.size:=by omega
 obtain⟨b2,o2,c2,rfl,hc⟩:∃b2 o2 c2,v2=.slice (some ⟨b2,o2,none⟩) aL.length c2/\∀(j:Nat)(u:Value),ni[j]?=some u->w.cell? ((⟨b2,o2,none⟩:Addr).add j)=some u:=by (obtain⟨ag4,Ze⟩:=hx.yX (size:=d.size) (by omega) sS;have hnn:ag4=ni:=by rw[qD];apply avf;intro j;by_cases hj:j<ks.length;(have e1:aL[j]?=some (.ay (.int .i64 ks[j])):=by rw[fA,auA,aus hj];rfl);obtain⟨u,q1,q2,_⟩:=Ze.rep j _ 0 _ e1 rfl;rw[h1,avt,avu]at q1;rw[q1,auA,aus hj,q2.aB];rfl;rw[auQ (by rw[Ze.len,h1,hlen];omega),auQ (by rw[aum];omega)]);rcases Ze.shape with⟨_,_,q⟩|⟨b2,o2,c2,rfl,_,_,hc2⟩;exact(hz q).elim;exact⟨b2,o2,c2,rfl,λj u hj=>by rw[Addr.add_lit];exact hc2 j u (by rw[hnn];exact hj)⟩
 have hrm:=lW (us:=ni) hg (auv (o+ns.length)) vP;have jt:=run_append_room_cells (P:=Γ.P) w t ty e i ht jw g o ns.length cap ⟨b2,o2,none⟩ aL.length c2 ni (by rw[qC];exact hn.len) hc hn.one fi (by rw[qC,h1,avt];exact hrm.1) (by rw[qC,h1,avt];exact hrm.2);rw[qC,h1,avt,oZ ni _ cur w hg vP]at jt;refine⟨_,_,jt,?_,rfl⟩;have Nx:=setRow_heap w g cur (cur.toList.take (o+ns.length)++ni++cur.toList.drop (o+ns.length+ni.length)).toArray e (0,0) hg;refine h.fz aN hr vT ⟨rfl,rfl,rfl,by simp,λk hk hb=>setRow_other w g k _ (λe=>hb (by rw[wX _ h0,e]))⟩ (λb hb=>.inl (by rw[wX _ h0];rw[wX _ h0]at hb;exact hb)) (.inr ⟨g,o,cap,_,by rw[aut,<-hlen],h0,Nx,by rw[aut,<-hlen];exact fi,KU,?_,λj n hj=>?_⟩);simp only[avQ,aut,au4,auS,au2];omega;simp only[List.getElem?_toArray];by_cases aF:j<ns.length;rw[auB aF]at hj;rw[auM,auB (by simp;omega),auL,if_pos (by omega)];simpa using qy j n hj;rw[au9 (by omega)]at hj;have QD:j-ns.length<ks.length:=(aun.1 hj).1;have ej:cur.toList.length=cur.size:=au2;have HR:(List.take (o+ns.length) cur.toList).length=o+ns.length:=by rw[au4,ej];exact avX (by omega)
 have hq:o+j-(List.take (o+ns.length) cur.toList).length=j-ns.length:=by rw[HR];omega
 rw[auM,au9 (by rw[HR];omega),hq,auB (by omega),qD,auA,hj];rfl;have aT:∀(j:Nat)(u:Value),(ns.map λn=>Value.int .i64 n)[j]?=some u->w.cell? ((⟨g,o,none⟩:Addr).add j)=some u:=by intro j u hj;rw[auA]at hj;obtain⟨n,hn',rfl⟩:=ave.1 hj;rw[Addr.add_lit,cell_of_row w g _ cur e _ hg];exact qy j n hn'
 have:=hn.grow sj ⟨g,o,none⟩ ns.length cap (ns.map λn=>Value.int .i64 n) (by rw[h1,aum,avt]) aT (by omega) (by omega) (growslice_fits (by omega) (by rw[hlen];exact Sf));exact⟨_,_,this,grown cap (λb hb=>by rw[wX _ h0]at hb;obtain rfl:=auo hb;exact ck hg),rfl⟩
theorem uh{tab:Nat->Option TD}(aC:bn Γ.P tab){T e:Nat}{d d':TD}(h:qi tab T=some (e,d,d')):Γ.P.underlying T=some (.slice e)/\gq Γ.P e d':=by obtain⟨h1,h2,h3⟩:=ug h;obtain⟨u,q2,q3⟩:=(aC T d h1).mO;rw[h2]at q3;exact⟨by rw[q2];exact congrArg some q3,aC e d' h3⟩
theorem Zf{a b c d:Nat}(h:(Nat.beq a b&&Nat.beq c d)=true):a=b/\c=d:=by simp_all
theorem Rel.aeq(h:Rel Γ s a w η){x:Operand}{u:Value}(hx:s.ev x=.ay u):a.eval x=u:=by have:=h.ev x;rw[hx]at this;exact this.aB
theorem Rel.Zg(h:Rel Γ s a w η){x:Operand}{q:Que}(hq:Aq s.hp (s.ev x)=some q)(hn:q.n=q.m):s.hp[q.r]?=some (.fz q.e q.m q.ns)/\η[q.r]?=some (a.eval x)/\gp w q.e (a.eval x) q.ns:=by obtain⟨h1,h2⟩:=TH hq;have hx:=h.ev x;rw[h1,hn]at hx;generalize a.eval x=v at hx;cases hx with|own _ _ _ _ G2=>have h3:=(lK h2).1 G2;exact⟨h2,h3,h.heap.obj _ _ _ h2 h3⟩
theorem LM(aN:Γ.Ok){tab:Nat->Option TD}(aC:bn Γ.P tab){o:Oper}{T e:Nat}{x:Operand}{parts:Array (Nat×Operand)}(ho:o.op=.buildSlice T 1 parts){d d':TD}(hs:qi tab T=some (e,d,d'))(YY:parts.toList=[(0,x)])(h1:d'.size=1){k:Int}(hk:s.ev x=.ay (.int .i64 k)):gV Γ o s (.own s.hp.length 0) (s.hp++[.fz e 0 [k]]):=by (intro a w η hr;obtain⟨hu,dP⟩:=uh aC hs;have w7:=hr.aeq hk;obtain⟨r,e1,e2,e3,e4⟩:=zR (size:=d'.size) [Value.int .i64 k] 0 (parts.toList.map λp=>(p.1,a.eval p.2)) ((Array.range (1*d'.size)).map (d'.zero.cells[· % d'.zero.cells.size]!)) (by simp_all) (by grind) (λv hv=>by simp at hv;rw[hv,h1];rfl) (by simp);have e5:=e4 0 _ 0 (.int .i64 k) rfl rfl;have hb:¬1*d'.size>2 ^ 24:=by omega);(have hz:¬1*d'.size=0:=by omega);(have hrs:r.size=1:=by simp_all);refine⟨.slice (some ⟨w.heap.size,0,none⟩) 1 1,w.alloc (.cells r e),η++[.slice (some ⟨w.heap.size,0,none⟩) 1 1],.inl ?_,?_,?_⟩;simp only[execOp,ho,Instr.buildSlice,ao,run_underlying hu,al,dP.run_sizeOf,Sem.run_ite,if_neg hb,aq,if_neg hz,dP.kc,av2,e1,newRow,run_newObj];rfl;refine hr.add aN (cj.alloc w _) (λb hb=>?_) (.inr ⟨w.heap.size,0,1,r,rfl,by omega,heap_alloc_new w _,by simp,by simp[maxLen],by omega,λi n hn=>?_⟩);rw[cK (by omega)]at hb;simp_all;(cases i with|zero=>simp_all|succ i=>simp at hn);exact .own _ _ _ rfl ((lK (e:=e) (ns:=[k]) (by simp)).2 (by rw[<-hr.heap.len];simp))
theorem CE(aN:Γ.Ok){tab:Nat->Option TD}(aC:bn Γ.P tab){o:Oper}{T n e:Nat}{parts:Array (Nat×Operand)}(ho:o.op=.buildSlice T n parts){d d':TD}(hd:tab T=some d)(hk:d.kind=.kW e)(fj:tab e=some d')(hn:n=parts.toList.length)(qI:0<n)(hz:0<d'.size)(kZ:qe 0 parts.toList=true)(Hj:n<=16777216)(Hk:n*d'.size<=16777216)(hl:pc d'.size (parts.toList.map λp=>(s.ev p.2).cd s.hp)): gV Γ o s (.own s.hp.length n) (s.hp++[.row e d'.size (parts.toList.map λp=>(s.ev p.2).cd s.hp)]):=by
 intro a w η hr;obtain⟨r,e1,e2,oo,eh⟩:=yA aN aC ho hd hk fj hn kZ Hj Hk hl hr;have hls:=qF _ hl;have he:=qB (Γ:=Γ) (η:=η) (hp:=s.hp) (cj.alloc w (.cells r e)) (λ_ _=>fg);refine⟨_,_,η++[.slice (some ⟨w.heap.size,0,none⟩) n n],.inl e1,?_,?_⟩
 ·have KX:=tO (Γ:=Γ) (o:=.row e d'.size (parts.toList.map λp=>(s.ev p.2).cd s.hp)) (v:=.slice (some ⟨w.heap.size,0,none⟩) n n) hr.heap.len (cj.alloc w (.cells r e)) (λb hb=>by rw[cK qI]at hb;obtain rfl:=auo hb;exact aur _);refine hr.add aN (cj.alloc w _) (λb hb=>?_) ⟨hz,r.toList,⟨by rw[au2,e2,oo],.inr ⟨w.heap.size,n,r,by rw[oo],qI,⟨0,auv _,heap_alloc_new w _⟩,by rw[oo];exact aur _,by simp only[maxLen];omega,e2,by rw[oo,<-e2,<-au2,List.take_length]⟩⟩,λi el hi=>⟨(hls el (auu hi)).1,λj x hj=>?_⟩⟩;rw[cK qI]at hb;obtain rfl:=auo hb;exact aur _;obtain⟨u,h1,h2,h3⟩:=eh i el j x hi hj;exact⟨u,by simpa using h1,h2.ext KX.ny.ext,h3⟩
 refine .own _ _ _ rfl ?_;unfold bk;rw[<-hr.heap.len];simp[hr.heap.len,oo]
theorem gp.at{e:Nat}{v:Value}{ns:List Int}(h:gp w e v ns){i:Nat}(hi:i<ns.length):∃g o cap,v=.slice (some ⟨g,o,none⟩) ns.length cap/\w.cell? ⟨g,o+i,none⟩=some (.int .i64 (ns.getD i 0)):=by rcases h with⟨rfl,_⟩|⟨g,o,cap,cur,rfl,_,hg,_,_,_,h1⟩;all_goals grind [cell_of_row]
theorem aer(aN:Γ.Ok){tab:Nat->Option TD}(aC:bn Γ.P tab){mk:Bool}{o:Oper}{cs:List Prop}{r:AV}{hp':List ax}(h:qOp mk tab s.hp s.ev o.op=some (cs,r,hp'))(hc:eK cs):gV Γ o s r hp':=by
 generalize ho:o.op=op at h;unfold qOp at h;split at h;split at h;rename_i T n parts _ _ _ x e d d' YY hs;split at h;rename_i k hk hb;simp only[aul,aup]at h;obtain⟨rfl,rfl,rfl⟩:=h;obtain⟨b1,rfl⟩:=Zf hb;exact LM aN aC ho hs YY b1 (HQ hk);cases h;cases h;split at h;rename_i T x i _ _ _ e d d' q kk k hs hq hi;split at h;rename_i hb;simp only[aul,aup]at h;obtain⟨rfl,rfl,rfl⟩:=h;obtain⟨h1,h2,_⟩:=hc;obtain⟨b1,_⟩:=Zf hb;intro a w η hr;obtain⟨hu,dP⟩:=uh aC hs;obtain⟨g1,g2,g3⟩:=hr.Zg hq h1;have YX:=hr.aeq hi;obtain⟨g,off,cap,hv,_⟩:=g3.at (i:=k.toNat) (by omega);obtain⟨i0,Cn,jw,_⟩:=dP.info;refine⟨.pointer (some ⟨g,off+k.toNat*1,none⟩),w,η,.inl ?_,hr,.fY _ _ _ _ g off cap q.ns.length ?_⟩;simp[execOp,ho,hv,YX,Instr.indexAt,asIntOf,run_underlying hu,h2,sizeOf,typeInfo,Cn,jw,Addr.add_lit,b1];rw[h1];exact(lK g1).2 (by rw[g2,hv]);cases h;cases h;split at h;rename_i T x _ _ r0 n i d hx hd;split at h
 ·rename_i e m ns sE hb;simp only[aul,aup]at h;obtain⟨rfl,rfl,rfl⟩:=h;obtain⟨h1,h2,_⟩:=hc;simp only[auq,avd]at hb;have cY:=auN hb.1;have dP:=aC T d hd;intro a w η hr;have eU:=hr.ev x;rw[hx]at eU;cases C5:a.eval x<;>rw[C5]at eU<;>cases eU;rename_i b o' c k G2;rw[h1]at G2;have fU:=(lK sE).1 G2;obtain⟨g,off,cap,hv,aT⟩:=gp.at (hr.heap.obj _ _ _ sE fU) h2;simp only[Value.slice.injEq,aul,Addr.mk.injEq,and_true]at hv;obtain⟨⟨rfl,rfl⟩,_,_⟩:=hv;refine⟨.int .i64 (ns.getD i 0),w,η,.inl ?_,hr,.ay _⟩;simp only[execOp,ho,C5,Instr.loadAt,Instr.sureAddr,ao,aq,al];rw[dP.run_load (vs:=[.int .i64 (ns.getD i 0)]) (by rw[cY];rfl) (λj u hj=>by cases j with|zero=>simp only[avn,aul]at hj;rw[<-hj,avt,avu];exact aT|succ j=>simp at hj)];simp[hb.2]
 cases h;cases h;split at h;rename_i T x lo _ _ _ e d d' q kk l hs hq hl;split at h;rename_i hb;simp only[aul,aup]at h;obtain⟨rfl,rfl,rfl⟩:=h;obtain⟨h1,⟨h2,h3⟩,_⟩:=hc;obtain⟨b1,b2⟩:=Zf hb;intro a w η hr;obtain⟨hu,dP⟩:=uh aC hs;obtain⟨g1,g2,g3⟩:=hr.Zg hq h1;have KV:=hr.aeq hl;obtain⟨ad,c,hv,KT⟩:∃ad c,a.eval x=.slice ad q.ns.length c/\q.ns.length<=c:=by rcases g3 with⟨e0,ad,e1⟩|⟨g,off,cap,cur,e1,_,_,e2,_⟩;exact⟨ad,0,by rw[e1,e0];rfl,by rw[e0];exact aur _⟩;exact⟨_,cap,e1,e2⟩
 have Si:=run_sliceBound (P:=Γ.P) w KV (y:=q.ns.length) h2 h3 .sliceB;have jt:(Instr.sliceBounds true q.ns.length c (some (a.eval lo)) none none).run Γ.P w=.ok (l.toNat,q.ns.length,c) w:=by simp[Instr.sliceBounds,Si]
 have sF:=dP.run_sizeOf w;have hex:(execOp a.eval o).run Γ.P w=.ok (.value (.slice (if c=l.toNat then ad else ad.map (·.add (l.toNat*d'.size))) (q.ns.length-l.toNat) (c-l.toNat))) w:=by simp only[execOp,ho,Instr.sliceAt,ao,run_underlying hu,al,Instr.slice,hv,auX,Option.map_none,jt,sF,aq]
 subst b2;have wX:∀b,dn (.slice (if c=l.toNat then ad else ad.map (·.add (l.toNat*d'.size))) (q.ns.length-l.toNat) (c-l.toNat))=some b->dn (a.eval x)=some b:=by intro b hb;rw[hv];by_cases ej:c=l.toNat;rw[if_pos ej]at hb;cases ad<;>simp[dn]at hb;omega;rw[if_neg ej]at hb;cases ad with|none=>simp[dn]at hb|some ad=>(simp only[auX]at hb;rw[cK (by omega)]at hb ⊢;have he:(ad.add (l.toNat*d'.size)).block=ad.block:=by unfold Addr.add;split<;>rfl);rw[he]at hb;exact hb
 refine⟨_,w,η.set q.r _,.inl hex,hr.fz aN g1 g2 (cy.refl _ w) (λb hb=>.inl (wX b hb)) ?_,.own _ _ _ rfl ((lK (aD g1)).2 (aD g2))⟩;rw[hv]at g3;rcases g3 with⟨e0,ad',e1⟩|⟨g,off,cap,cur,e1,e2,e3,e4,e5,e6,e7⟩;simp only[Value.slice.injEq]at e1;obtain⟨rfl,e1,rfl⟩:=e1;refine .inl ⟨by rw[e0];simp,ad,?_⟩;have:l.toNat=0:=by omega
 rw[this,e1];simp;simp only[Value.slice.injEq]at e1;obtain⟨rfl,_,rfl⟩:=e1;by_cases ej:c=l.toNat;refine .inl ⟨auH (by omega),some ⟨g,off,none⟩,?_⟩;rw[if_pos ej,show q.ns.length-l.toNat=0 by omega,show c-l.toNat=0 by omega];rw[if_neg ej];refine .inr ⟨g,off+l.toNat,c-l.toNat,cur,by rw[auS,b1,avt,auX,Addr.add_lit],by omega,e3,by rw[auS];omega,by omega,by omega,λi n hn=>?_⟩;rw[avJ]at hn;have:=e7 _ _ hn;rw[av1];exact this;cases h;cases h;rename_i c;split at h;rename_i x T HN bl aes;split at h;rename_i sd q hs hq;simp only[aul,aup]at h;obtain⟨rfl,rfl,rfl⟩:=h;obtain⟨e,d,d'⟩:=sd;intro a w η hr;obtain⟨hu,dP⟩:=uh aC hs;obtain⟨g1,g2,g3⟩:=hr.Zg hq hc.1;obtain⟨ad,cc,hv⟩:=g3.slice;have xg:c.argTypes=#[T]:=by rw[<-avx (xs:=c.argTypes),aes]
 have pw:c.args=#[x]:=by rw[<-avx (xs:=c.args),bl]
 refine⟨.int .i64 q.ns.length,w,η,.inl ?_,hr,.ay _⟩;simp[execOp,ho,resolve,HN,invoke,builtin,Builtin.len_,xg,pw,hv,run_underlying hu,goInt];cases h;rename_i b x T T' HN bl aes;split at h;rename_i e d d' q eJ els hs hq hx;split at h;rename_i ks hks hb;simp only[aul,aup]at h;obtain⟨rfl,rfl,rfl⟩:=h;rw[bV]at hc;obtain⟨Hc,h1,⟨h2,h3⟩,_⟩:=hc;rw[auq]at hb;have b1:=auN hb.1;obtain⟨b2,rfl⟩:=Zf hb.2;intro a w η hr;obtain⟨hu,dP⟩:=uh aC hs;obtain⟨g1,g2,g3⟩:=hr.Zg hq h1;have eU:=lV hr.heap hr.cu (hr.ev x) (ia hx Hc);have xg:c.argTypes=#[T,T]:=by rw[<-avx (xs:=c.argTypes),aes]
 have pw:c.args=#[b,x]:=by rw[<-avx (xs:=c.args),bl]
 subst b2;obtain⟨v',w',q1,q2,q3⟩:=LL aN hr (ty:=o.type) hu dP b1 g1 g2 eU hks h2 h3;refine⟨v',w',_,.inl ?_,q2,.own _ _ _ q3 ((lK (aD g1)).2 (aD g2))⟩;simp only[execOp,ho,resolve,HN,ao,aq,al,invoke,builtin,xg,pw,av3,auR,au1,q1];cases h;cases h;cases h;cases h
end
section
inductive yE where
 |i (k:IntKind)
 |b
 |s
 |l
 |c
 |m
 |ms
 |k (x:AV)
 |o (r:Nat)
 |fn
 |q (x:AV)
inductive ui where
 |c (x:yE)
 |a (l:List yE)
inductive Sh where
 |v (x:ui)
 |t (l:List ui)
 |f (fn:Nat) (l:List ui)
 |m (fn:Nat) (l:List ui)
inductive mo where
 |dead
 |box (l:List yE)
 |row (e size:Nat)
 |cJ
 |eX
 |jm (r:Nat)
 |aV (e size:Nat)
 |fz (e:Nat)
def sv:List Nat->Nat->Nat
 | [],_=>0|x::_,0=>x|_::l,n+1=>sv l n
def aet(lens:List Nat):yE->(AV->Prop)->Prop
 | .i k,P=>∃n:Int,P (.ay (.int k n))| .b,P=>∃b:Bool,P (.ay (.bool b))| .s,P=>∃s:aw,P (.ay (.string s))| .l,P=>∃l:List AV,P (.sl l)| .c,P=>∃l:List AV,P (.clip l)| .m,P=>∃l:List (Int×Value),P (.eo (.i l))| .ms,P=>∃l:List (aw×Value),P (.eo (.s l))| .k x,P=>P x| .o r,P=>P (.own r (sv lens r))| .fn,P=>∃v:Value,P (.fn v)| .q x,P=>P x
def NM(lens:List Nat):List yE->(List AV->Prop)->Prop
 | [],P=>P []|sh::l,P=>aet lens sh λx=>NM lens l λxs=>P (x::xs)
def TI(lens:List Nat):ui->(AV->Prop)->Prop
 | .c x,P=>aet lens x P| .a l,P=>NM lens l λcs=>P (.agg cs)
def HS(lens:List Nat):List ui->(List AV->Prop)->Prop
 | [],P=>P []|sh::l,P=>TI lens sh λx=>HS lens l λxs=>P (x::xs)
def opn(lens:List Nat):Sh->(AV->Prop)->Prop
 | .v x,P=>TI lens x P| .t l,P=>HS lens l λcs=>P (.aG cs)| .f fn l,P=>HS lens l λcs=>P (.bz fn cs)| .m fn l,P=>HS lens l λcs=>P (.dt fn cs)
theorem NN{lens:List Nat}{sh:yE}{P:AV->Prop}(h:aet lens sh P):∃x,P x:=by cases sh with|i k=>obtain⟨n,h⟩:=h;grind|b=>obtain⟨n,h⟩:=h;grind|s=>obtain⟨n,h⟩:=h;grind|q x=>exact⟨_,h⟩|l=>obtain⟨n,h⟩:=h;grind|c=>obtain⟨n,h⟩:=h;grind|m=>obtain⟨n,h⟩:=h;grind|ms=>obtain⟨n,h⟩:=h;grind|fn=>obtain⟨n,h⟩:=h;grind|k x=>exact⟨_,h⟩|o r=>exact⟨_,h⟩
theorem Ar{lens:List Nat}:∀{l:List yE}{P:List AV->Prop},NM lens l P->∃xs,P xs
 | [],_,h=>⟨_,h⟩|_::_,_,h=>by obtain⟨x,h⟩:=NN h;obtain⟨xs,h⟩:=Ar h;grind
theorem y7{lens:List Nat}{sh:ui}{P:AV->Prop}(h:TI lens sh P):∃x,P x:=by cases sh with|c x=>exact NN h|a l=>obtain⟨cs,h⟩:=Ar h;grind
theorem uj{lens:List Nat}:∀{l:List ui}{P:List AV->Prop},HS lens l P->∃xs,P xs
 | [],_,h=>⟨_,h⟩|_::_,_,h=>by obtain⟨x,h⟩:=y7 h;obtain⟨xs,h⟩:=uj h;grind
theorem sZ{lens:List Nat}{sh:Sh}{P:AV->Prop}(h:opn lens sh P):∃x,P x:=by cases sh with|v x=>exact y7 h|t l=>obtain⟨cs,h⟩:=uj h;grind|f fn l=>obtain⟨cs,h⟩:=uj h;grind|m fn l=>obtain⟨cs,h⟩:=uj h;grind
def Zh:List mo->(List (List AV)->Prop)->Prop
 | [],P=>P []| .row _ _::l,P| .aV _ _::l,P=>∃els:List AV,Zh l λls=>P (els::ls)|_::l,P=>Zh l λls=>P ([]::ls)
def TJ:List (List AV)->List Nat
 | []=>[]|l::ls=>l.length::TJ ls
def ag5(lens:List Nat):mo->List AV->(ax->Prop)->Prop
 | .dead,_,P=>P .dead| .box l,_,P=>NM lens l λcs=>P (.box cs)| .row e size,els,P=>P (.row e size els)| .aV e size,els,P=>P (.aV e size els)| .cJ,_,P=>∃es:List (Int×Value),P (.cJ (.i es))| .jm r,_,P=>P (.jm r (sv lens r))| .eX,_,P=>∃es:List (aw×Value),P (.cJ (.s es))| .fz _,_,_=>False
def TL(lens:List Nat):List mo->List (List AV)->(List ax->Prop)->Prop
 | [],_,P=>P []|o::l,els::ls,P=>ag5 lens o els λx=>TL lens l ls λxs=>P (x::xs)|_::_,[],_=>False
theorem Zi{l:List mo}:∀{P:List (List AV)->Prop},Zh l P->∃ls,P ls:=by induction l with|nil=>intro P h;exact⟨_,h⟩|cons o l ih=>intro P h;cases o with|row e size=>obtain⟨els,h⟩:=h;grind|aV e size=>obtain⟨els,h⟩:=h;grind|dead=>obtain⟨ls,h⟩:=ih (P:=λls=>P ([]::ls)) h;grind|box l=>obtain⟨ls,h⟩:=ih (P:=λls=>P ([]::ls)) h;grind|cJ=>obtain⟨ls,h⟩:=ih (P:=λls=>P ([]::ls)) h;grind|eX=>obtain⟨ls,h⟩:=ih (P:=λls=>P ([]::ls)) h;grind|jm r=>obtain⟨ls,h⟩:=ih (P:=λls=>P ([]::ls)) h;grind|fz e=>obtain⟨ls,h⟩:=ih (P:=λls=>P ([]::ls)) h;grind
theorem Zj{lens:List Nat}{o:mo}{els:List AV}{P:ax->Prop}(h:ag5 lens o els P):∃x,P x:=by cases o with|dead=>exact⟨_,h⟩|box l=>obtain⟨cs,h⟩:=Ar h;grind|row e size=>exact⟨_,h⟩|aV e size=>exact⟨_,h⟩|cJ=>obtain⟨es,h⟩:=h;grind|eX=>obtain⟨es,h⟩:=h;grind|jm r=>exact⟨_,h⟩|fz e=>exact h.elim
theorem HT{lens:List Nat}:∀{l:List mo}{ls:List (List AV)}{P:List ax->Prop},TL lens l ls P->∃xs,xs.length=l.length/\P xs
 | [],_,_,h=>⟨[],rfl,h⟩|_::_,[],_,h=>h.elim|o::l,els::ls,P,h=>by obtain⟨x,h⟩:=Zj h;obtain⟨xs,hl,h⟩:=HT h;grind
def aev(a:Sh×List mo)(r:AV)(hp':List ax)(k:AV->List ax->Prop):Prop:=Zh a.2 λls=>TL (TJ ls) a.2 ls λh=>opn (TJ ls) a.1 λx=>(r=x/\hp'=h)/\k x h
def NP:List (Sh×List mo)->AV->List ax->(AV->List ax->Prop)->Prop
 | [],_,_,_=>False| [a],r,hp',k=>aev a r hp' k|a::l,r,hp',k=>aev a r hp' k\/NP l r hp' k
def adg(a:Sh)(r:AV)(k:AV->Prop):Prop:=opn [] a λx=>r=x/\k x
def EV:List Sh->AV->(AV->Prop)->Prop
 | [],_,_=>False| [a],r,k=>adg a r k|a::l,r,k=>adg a r k\/EV l r k
theorem NQ{a:Sh×List mo}{r:AV}{hp':List ax}{k:AV->List ax->Prop}(h:aev a r hp' k):k r hp':=by obtain⟨ls,h⟩:=Zi h;obtain⟨hs,_,h⟩:=HT h;obtain⟨x,⟨rfl,rfl⟩,h⟩:=sZ h;exact h
theorem iT:∀{l:List (Sh×List mo)}{r:AV}{hp':List ax}{k:AV->List ax->Prop},NP l r hp' k->k r hp'
 | [],_,_,_,h=>h.elim| [_],_,_,_,h=>NQ h|_::_::_,_,_,_,h=>h.elim NQ iT
theorem wa:∀{l:List Sh}{r:AV}{k:AV->Prop},EV l r k->k r
 | [],_,_,h=>h.elim| [_],_,_,h=>by obtain⟨x,rfl,h⟩:=sZ h;exact h|_::_::_,_,_,h=>h.elim (λh=>by obtain⟨x,rfl,h⟩:=sZ h;exact h) wa
def adh(tab:Nat->Option TD)(hp:List ax)(ρ:Operand->AV):Op->Option (List Prop×List AV×Int×Nat×Nat)
 | .indexAddr T x i=>(match tab T with|some d=>(match d.kind with| .kW e=>(match tab e,(ρ x).nf hp,ρ i with|some d',some (cs,els),.ay (.int _ n)=>some (cs,els,n,e,d'.size)|_,_,_=>none)|_=>none)|none=>none)|_=>none
def aew(tab:Nat->Option TD)(hp:List ax)(ρ:Operand->AV):Op->Option (Prop×AV)
 | .indexAddr T x i=>(match vV hp (ρ x)with|some (r,m,e',size,k)=>(match tab T with|some d=>(match d.kind with| .kW e=>(match tab e,ρ i with|some d',.ay (.int _ n)=>if e'=e/\size=d'.size then some (0<=n/\n<m/\m=k,.fY r m n.toNat size)else none|_,_=>none)|_=>none)|none=>none)|none=>none)|_=>none
theorem Zk{tab:Nat->Option TD}{hp:List ax}{ρ:Operand->AV}{op:Op}{c:Prop}{r:AV}(h:aew tab hp ρ op=some (c,r)):bL tab hp ρ op=some (c,r):=by unfold aew at h;split at h;rename_i T x i;split at h;rename_i q m e' size k' hm;split at h;rename_i d hd;split at h;rename_i e hk;split at h;rename_i d' k n fj hi;obtain⟨hx,els,sE,_⟩:=rR hm;simp_all [AV.jr,bL];cases h;cases h;cases h;cases h;cases h
def aex(tab:Nat->Option TD)(ρ:Operand->AV):Op->Option AV
 | .indexAddr T x (.const c)=>(match tab T with|some d=>(match d.kind with| .arr m=>(match ρ x,ρ (.const c)with| .ptr r 0,.ay (.int _ (.ofNat j))=>(match Nat.blt j m with|true=>some (.ptr r j)|false=>none)| .aU e 0,.ay (.int _ (.ofNat j))=>(match Nat.blt j m with|true=>some (.aU e j)|false=>none)|_,_=>none)|_=>none)|none=>none)|_=>none
theorem Zl{tab:Nat->Option TD}{hp:List ax}{ρ:Operand->AV}{op:Op}{r:AV}(h:aex tab ρ op=some r):∃c,bL tab hp ρ op=some (c,r)/\c:=by unfold aex at h;split at h;rename_i T x c;split at h;rename_i d hd;split at h;rename_i m hk;split at h;rename_i r' k j hx hc;split at h;rename_i hb;obtain rfl:=auo h;have aF:j<m:=auW hb;refine⟨0<=(Int.ofNat j)/\(Int.ofNat j)<m,?_,Int.natCast_nonneg _,Int.ofNat_lt.2 aF⟩;simp_all [bL];cases h;rename_i e k j hx hc;split at h;rename_i hb;obtain rfl:=auo h;have aF:j<m:=auW hb;refine⟨0<=(Int.ofNat j)/\(Int.ofNat j)<m,?_,Int.natCast_nonneg _,Int.ofNat_lt.2 aF⟩;simp_all [bL];cases h;cases h;cases h;cases h;cases h
def aey(tab:Nat->Option TD)(ρ:Operand->AV):Op->Option (Nat×Int×Nat)
 | .indexAddr T x i=>(match tab T with|some d=>(match d.kind with| .arr m=>(match ρ x,ρ i with| .ptr r 0,.ay (.int _ n)=>some (r,n,m)|_,_=>none)|_=>none)|none=>none)|_=>none
theorem Zm{tab:Nat->Option TD}{hp:List ax}{ρ:Operand->AV}{op:Op}{r:Nat}{n:Int}{m:Nat}(h:aey tab ρ op=some (r,n,m)):bL tab hp ρ op=some (0<=n/\n<m,.ptr r n.toNat):=by
 unfold aey at h;split at h;rename_i T x i;split at h;rename_i d hd;split at h
 ·rename_i m' hk;split at h;all_goals simp_all [bL]
 cases h;cases h;cases h
def LN(n:Int)(k:Nat->Prop):Nat->Nat->Prop
 |0,_=>False|1,j=>k j|f+2,j=>aA (n==(j:Int)) (k j) (LN n k (f+1) (j+1))
theorem Dk{n:Int}{k:Nat->Prop}:∀(f j:Nat),(j:Int)<=n->n<(j:Int)+f->LN n k f j->k n.toNat
 |0,j,h1,h2,_=>by omega|1,j,h1,h2,h=>by (have:n.toNat=j:=by omega);rw[this];exact h|f+2,j,h1,h2,h=>by by_cases e:n=(j:Int);(have h':=h.elim.1 (by simpa using e);have:n.toNat=j:=by omega);rw[this];exact h';exact Dk (f+1) (j+1) (by omega) (by omega) (h.elim.2 (by simpa using e))
def ldM(tab:Nat->Option TD)(hp:List ax)(ρ:Operand->AV):Op->Option (Prop×List AV×Nat×Nat×Bool)
 | .load T x=>(match ρ x with| .fY r m i z=>(match hp[r]?,tab T with|some (.aV _ z' els),some d=>(match Nat.beq z' z&&Nat.beq d.size z with|true=>some (m=els.length,els,i,T,d.kind.agg)|false=>none)|_,_=>none)|_=>none)|_=>none
theorem aez{tab:Nat->Option TD}{hp:List ax}{ρ:Operand->AV}{op:Op}{els:List AV}{i T:Nat}{b:Bool}{c:Prop}(h:ldM tab hp ρ op=some (c,els,i,T,b)):bL tab hp ρ op=some (c/\i<els.length/\(els.getD i .top).isAgg=b,els.getD i .top):=by unfold ldM at h;split at h;rename_i T' x;split at h;rename_i r m i' z hx;split at h;rename_i e z' gU d hr hd;split at h;rename_i hb;rw[auq]at hb;simp only[aul,aup]at h;obtain⟨rfl,rfl,rfl,rfl,rfl⟩:=h;simp_all [bL];cases h;cases h;cases h;cases h
def sized(size:Nat)(x:AV)(p:Prop):Prop:=if x.cells.length=size then p else False
def aeA(b:Bool)(x:AV)(p:Prop):Prop:=match x.isAgg==b with|true=>p|false=>False
def QG(tab:Nat->Option TD)(So:Nat->ui)(hp:List ax)(ρ:Operand->AV)(op:Op)(k:AV->Prop):Option Prop:=
 match adh tab hp ρ op with
 |some (cs,els,n,e,size)=>some (gL cs (0<=n/\n<els.length/\TI [] (So e) λx=>els.getD n.toNat .top=x/\sized size x (k (.aU x 0))))
 |none=>(match aew tab hp ρ op with
  |some (c,r)=>some (c/\k r)
  |none=>(match pv tab hp ρ op with
   |some (cs,r)=>some (gL cs (k r))
   |none=>(match aex tab ρ op with
    |some r=>some (k r)
    |none=>(match aey tab ρ op with
     |some (r,n,m)=>some ((0<=n/\n<m)/\LN n (λj=>k (.ptr r j)) m 0)
     |none=>(match ldM tab hp ρ op with
      |some (c,els,i,T,b)=>some (c/\i<els.length/\TI [] (So T) λx=>els.getD i .top=x/\aeA b x (k x))
      |none=>none)))))
theorem Zn{b:Bool}{x:AV}{p:Prop}(h:aeA b x p):x.isAgg=b/\p:=by grind [aeA]
theorem y8{tab:Nat->Option TD}{So:Nat->ui}{hp:List ax}{ρ:Operand->AV}{op:Op}{k:AV->Prop}{p:Prop}(h:QG tab So hp ρ op k=some p)(zU:p):∃c r,bL tab hp ρ op=some (c,r)/\c/\k r:=by unfold QG at h;split at h;rename_i cs els n e size kZ;obtain rfl:=auo h;rw[bG]at zU;obtain⟨hc,h0,h1,h2⟩:=zU;obtain⟨x,hx,hk⟩:=y7 h2;unfold sized at hk;split at hk;rename_i hs;unfold adh at kZ;split at kZ;rename_i T y i;split at kZ;rename_i d hd;split at kZ;rename_i e' hke;split at kZ;rename_i d' eJ gU ik n' fj hy hi;simp only[aul,aup]at kZ;obtain⟨rfl,rfl,rfl,rfl,rfl⟩:=kZ;have ub:=ia hy hc;refine⟨0<=n'/\n' < gU.length/\(gU.getD n'.toNat .top).cells.length=d'.size,.aU (gU.getD n'.toNat .top) 0,by simp only[bL,hd,hke,fj,ub,hi],⟨h0,h1,by rw[hx];exact hs⟩,by rw[hx];exact hk⟩;grind;grind;grind;grind;simp_all;split at h;grind [Zk];split at h;grind [bG,agI];split at h;rename_i r hi;obtain rfl:=auo h;obtain⟨c,h1,h2⟩:=Zl hi;exact⟨c,r,h1,h2,zU⟩;split at h;rename_i r n m hi;obtain rfl:=auo h;exact⟨_,_,Zm hi,zU.1,Dk m 0 (by omega) (by omega) zU.2⟩;split at h;rename_i c els i T b hl;obtain rfl:=auo h;obtain⟨h0,h1,h2⟩:=zU;obtain⟨x,hx,hk⟩:=y7 h2;obtain⟨h3,h4⟩:=Zn hk;exact⟨_,_,aez hl,⟨h0,h1,by rw[hx];exact h3⟩,by rw[hx];exact h4⟩;cases h
def HU(tab:Nat->Option TD)(hp:List ax)(ρ:Operand->AV)(op:Op)(k:AV->List ax->Prop):Option Prop:=
 match hv tab hp ρ op with
 |some (cs,r,hp')=>some (gL cs (k r hp'))
 |none=>none
theorem uk{tab:Nat->Option TD}{hp:List ax}{ρ:Operand->AV}{op:Op}{k:AV->List ax->Prop}{p:Prop}(h:HU tab hp ρ op k=some p)(zU:p):∃c r hp',eE tab hp ρ op=some (c,r,hp')/\c/\k r hp':=by grind [HU,bG,agJ]
def qU(s:AS Unit):Op->Option (Nat×List AV)
 | .call c=>(match c.callee with| .value x=>(match s.ev x with| .bz f caps=>some (f,c.args.toList.map s.ev++caps)|_=>none)|_=>none)|_=>none
theorem lL(s:AS Unit)(op:Op):qU s op=mh s op:=rfl
inductive jn where
 |one (sh:Sh)
 |alts (l:List Sh)
 |heap (n:Nat) (l:List (Sh×List mo))
 |raw (l:List Sh)
 |bz (f:Nat)
 |y (kind:Bool)
 |frz (sh:Sh)
 |fresh (e size:Nat)
 |fk (l:List (Sh×List mo))
def boxed:List AV->List AV
 | []=>[]|x::l=>.aU x 0::boxed l
inductive oy where
 |done
 |val (i:Nat) (p:oy)
 |cR (i:Nat) (p:oy)
 |two (i:Nat) (p:oy) (j:Nat) (q:oy)
 |three (i:Nat) (p:oy) (j:Nat) (q:oy) (k:Nat) (r:oy)
structure dw where
 P:Program
 tab:Nat->Option TD
 So:Nat->ui
 sig:Nat->Nat->jn
 nt:Nat
 dr:List (Nat×List (Option (List Nat))×List (Option (List Nat))):=[]
 hc:List (Nat×List Nat):=[]
 br:List (Nat×oy):=[]
 mt:Bool:=false
 fz:Option (List Nat):=none
 rm:List (Nat×Nat):=[]
 sgd:Nat->Option jn:=λ_=>none
 ext:{ e:Nat->Option YE // ∀f x,e f=some x->XOk P f x }:=⟨λ_=>none,λ_ _ h=>by cases h⟩
def HV(C:dw)(f:Nat)(o:Oper):jn:=
 match o.dst with
 |some d=>(match C.sgd d with
  |some g=>g
  |none=>C.sig f o.type)
 |none=>C.sig f o.type
def okB(b:Bool)(p:Prop):Prop:=
 match b with
 |true=>p
 |false=>False
theorem cX{b:Bool}{p:Prop}(h:okB b p):b=true/\p:=by cases b with|true=>exact⟨rfl,h⟩|false=>exact h.elim
def AV.mq(n:Nat)(hp:List ax)(x:AV):List Prop×AV:=
 match x.closed n with
 |true=>([],x)
 |false=>x.bZ hp
theorem qV{n:Nat}{hp:List ax}{x:AV}(hc:eK (x.mq n hp).1):x.sX n hp=(x.mq n hp).2:=by unfold AV.sX AV.mq at *;cases h:x.closed n with|true=>simp|false=>simp_all [dy]
def sw(n:Nat):List Nat->Nat->Nat
 | [],_=>n|j::js,r=>(match Nat.beq j r with|true=>n|false=>sw (n+1) js r)
def unP(js:List Nat):AV->AV
 | .ptr r o=>.ptr (sw 0 js r) o|x=>x
def CD(js:List Nat):AV->AV
 | .own r n=>.own (sw 0 js r) n| .ptr r o=>.ptr (sw 0 js r) o| .mp r=>.mp (sw 0 js r)| .bz f cs=>.bz f (cs.map (unP js))|x=>x
def NL(js:List Nat):AV->AV
 | .agg cs=>.agg (cs.map (CD js))|x=>CD js x
def Sp(js:List Nat):AV->AV
 | .aG vs=>.aG (vs.map (NL js))| .bz f cs=>.bz f (cs.map (NL js))| .dt f cs=>.dt f (cs.map (NL js))|x=>NL js x
def unO(js:List Nat):ax->ax
 | .box cs=>.box (cs.map (CD js))| .jm r n=>.jm (sw 0 js r) n|o=>o
def nG(js:List Nat)(n:Nat)(i:Nat):Nat:=(match Nat.blt i js.length with|true=>sv js i|false=>n+(i-js.length))
theorem NR:∀{js:List Nat}{n r:Nat},sw n js r<n+js.length->n<=sw n js r/\sv js (sw n js r-n)=r
 | [],n,r,h=>by simp[sw]at h|j::js,n,r,h=>by simp only[sw]at h ⊢;split;rename_i hb;rw[avV];exact⟨aur _,auN hb⟩;rename_i hb;rw[hb]at h;simp only[auy]at h;obtain⟨h1,h2⟩:=NR (js:=js) (n:=n+1) (r:=r) (by omega);refine⟨by omega,?_⟩;rw[show sw (n+1) js r-n=(sw (n+1) js r-(n+1))+1 from by omega];exact h2
theorem um{js:List Nat}{n r:Nat}(h:sw 0 js r<js.length):nG js n (sw 0 js r)=r:=by unfold nG;rw[show Nat.blt (sw 0 js r) js.length=true from Nat.ble_eq_true_of_le h];have:=(NR (js:=js) (n:=0) (r:=r) (by omega)).2;rwa [Nat.sub_zero]at this
theorem iF{js:List Nat}{n:Nat}{u:List Nat->AV->AV}{r:(Nat->Nat)->AV->AV}{c:Nat->AV->Bool}(hu:∀x,c js.length (u js x)=true->r (nG js n) (u js x)=x): ∀(l:List AV),(l.map (u js)).all (c js.length)=true->(l.map (u js)).map (r (nG js n))=l
 | [],_=>rfl|x::l,h=>by simp only[auR,avL,auq]at h ⊢;rw[hu x h.1,iF hu l h.2]
theorem aeB{js:List Nat}{n:Nat}{x:AV}(h:(unP js x).fe js.length=true):TG (nG js n) (unP js x)=x:=by cases x with|ptr r m=>simp_all [unP,AV.fe,TG,um]|_=>rfl
theorem nH{js:List Nat}{n:Nat}{x:AV}(h:(CD js x).bb js.length=true):yC (nG js n) (CD js x)=x:=by cases x with|own r m=>simp_all [CD,AV.bb,yC,um]|ptr r m=>simp_all [CD,AV.bb,yC,um]|mp r=>simp_all [CD,AV.bb,yC,um]|bz f cs=>simp only[CD,AV.bb]at h;simp only[CD,yC];rw[iF (c:=AV.fe) (λx hx=>aeB hx) cs h]|_=>rfl
theorem EW{js:List Nat}{n:Nat}{x:AV}(h:(NL js x).dX js.length=true):HO (nG js n) (NL js x)=x:=by cases x with|agg cs=>simp only[NL,HO]at h ⊢;rw[iF (λx hx=>nH hx) cs h]|own r m=>exact nH (x:=.own r m) h|ptr r m=>exact nH (x:=.ptr r m) h|mp r=>exact nH (x:=.mp r) h|bz f cs=>exact nH (x:=.bz f cs) h|_=>first|rfl|(simp[NL,CD,AV.dX,AV.bb]at h;done)
theorem aeC{js:List Nat}{n:Nat}{x:AV}(h:(Sp js x).closed js.length=true):sY (nG js n) (Sp js x)=x:=by cases x with|aG cs=>simp only[Sp,sY]at h ⊢;rw[iF (λx hx=>EW hx) cs h]|bz f cs=>simp only[Sp,sY]at h ⊢;rw[iF (λx hx=>EW hx) cs h]|dt f cs=>simp only[Sp,sY]at h ⊢;rw[iF (λx hx=>EW hx) cs h]|agg cs=>exact EW (x:=.agg cs) h|own r m=>exact nH (x:=.own r m) h|ptr r m=>exact nH (x:=.ptr r m) h|mp r=>exact nH (x:=.mp r) h|_=>first|rfl|(simp[Sp,NL,CD,AV.closed,AV.dX,AV.bb]at h;done)
theorem aeD{js:List Nat}{n:Nat}{o:ax}(h:(unO js o).closed js.length=true):kg (nG js n) (unO js o)=o:=by cases o with|box cs=>simp only[unO,kg]at h ⊢;rw[iF (λx hx=>nH hx) cs h]|jm q k=>have:=nH (js:=js) (n:=n) (x:=.own q k) h;simp_all [CD,yC,unO,kg]|_=>rfl
def AV.obj:AV->Bool
 | .own _ _| .ptr _ _| .mp _=>true|_=>false
def AV.NS(js:List Nat)(hp:List ax)(x:AV):AV:=if(x.obj&&(CD js x).bb js.length)=true then x else x.eN hp
def AV.As(js:List Nat)(hp:List ax)(x:AV):List Prop×AV:=
 match x.obj&&(CD js x).bb js.length with
 |true=>([],x)
 |false=>x.jE hp
theorem QH{js:List Nat}{hp:List ax}{x:AV}(hc:eK (x.As js hp).1):x.NS js hp=(x.As js hp).2:=by unfold AV.NS AV.As at *;cases h:x.obj&&(CD js x).bb js.length with|true=>simp|false=>simp_all [lI]
def AV.NT(js:List Nat)(hp:List ax):AV->AV
 | .agg cs=>.agg (cs.map (AV.NS js hp))|x=>x.cd hp
def AV.EX(js:List Nat)(hp:List ax):AV->List Prop×AV
 | .agg cs=>((cZ (AV.As js hp) cs).1,.agg (cZ (AV.As js hp) cs).2)|x=>x.bZ hp
theorem QI{js:List Nat}{hp:List ax}{x:AV}(hc:eK (x.EX js hp).1):x.NT js hp=(x.EX js hp).2:=by cases x with|agg cs=>grind [AV.EX,AV.NT,cE,QH]|_=>exact dy hc
def AV.LO(js:List Nat)(hp:List ax)(x:AV):AV:=if(Sp js x).closed js.length=true then x else x.NT js hp
def AV.HW(js:List Nat)(hp:List ax)(x:AV):List Prop×AV:=
 match (Sp js x).closed js.length with
 |true=>([],x)
 |false=>x.EX js hp
theorem At{js:List Nat}{hp:List ax}{x:AV}(hc:eK (x.HW js hp).1):x.LO js hp=(x.HW js hp).2:=by unfold AV.LO AV.HW at *;cases h:(Sp js x).closed js.length with|true=>simp|false=>simp_all [QI]
theorem QJ{Γ:Env Unit}{s:AS Unit}{a:Act}{w:World}{η:List Value}(hr:Rel Γ s a w η)(js:List Nat){x:AV}{v:Value}(h:bq w (bw Γ w η s.hp) η s.hp x v):bq w (bw Γ w η s.hp) η s.hp (x.NT js s.hp) v:=by
 cases x with
  |agg cs=>cases h with|agg _ vs hl h1 oU=>refine .agg _ vs (by simp_all) h1 λj y u hy hu=>?_;rw[auA]at hy;cases hj:cs[j]? with|none=>simp_all|some z=>rw[hj]at hy;obtain rfl:=auo hy;unfold AV.NS;split;grind;exact(jD hr.heap hr.cu (oU j z u hj hu)).lift
  |_=>exact(fJ hr.heap hr.cu h).lift
theorem uo{Γ:Env Unit}{s:AS Unit}{a:Act}{w:World}{η:List Value}(hr:Rel Γ s a w η)(js:List Nat):∀(xs:List AV)(vs:List Value),cC w (bw Γ w η s.hp) η s.hp xs vs->cC w (bw Γ w η s.hp) η s.hp (xs.map (AV.LO js s.hp)) vs
 | [],[],_=>ai|x::xs,v::vs,h=>⟨by unfold AV.LO;split;exact h.1;·exact QJ hr js h.1,uo hr js xs vs h.2⟩| [],_::_,h=>h.elim|_::_,[],h=>h.elim
def qj(js:List Nat):List Nat->List ax->List ax
 | [],_=>[]|j::l,H=>(match H[j]? with|some o=>unO js o|none=>.dead)::qj js l H
theorem Dl{js:List Nat}{H:List ax}:∀{l:List Nat}{i:Nat}{o:ax},(qj js l H)[i]?=some o->∃j,l[i]?=some j/\(H[j]?=none\/∃o',H[j]?=some o'/\o=unO js o')
 | [],i,o,h=>by simp[qj]at h|j::l,0,o,h=>by grind [qj]|j::l,i+1,o,h=>by simp only[qj,ava]at h ⊢;exact Dl h
theorem Dm{js:List Nat}{H:List ax}:∀{l:List Nat},(qj js l H).length=l.length
 | []=>rfl|j::l=>by simp[qj,Dm (l:=l)]
def qW(n:Nat):List Nat->Bool
 | []=>true|j::js=>Nat.blt j n&&(!LP j js&&qW n js)
where LP (k:Nat):List Nat->Bool
 | []=>false
 |x::l=>Nat.beq x k||LP k l
theorem Au{k:Nat}:∀{l:List Nat}{i:Nat},l[i]?=some k->qW.LP k l=true
 | [],i,h=>by simp at h|x::l,0,h=>by simp_all [qW.LP]|x::l,i+1,h=>by simp only[ava]at h;simp[qW.LP,Au h]
theorem qX:∀{l:List Nat}{i:Nat},i<l.length->l[i]?=some (sv l i)
 | [],i,h=>by simp at h|x::l,0,h=>rfl|x::l,i+1,h=>by simp only[ava,sv];exact qX (by grind)
theorem NU{n:Nat}:∀{js:List Nat},qW n js=true->∀i,i<js.length->sv js i<n
 | [],_,i,h=>by simp at h|j::js,h,0,_=>by simp only[qW,auq]at h;exact auW (show Nat.ble (j+1) n=true from h.1)|j::js,h,i+1,hi=>by simp only[qW,auq]at h;exact NU h.2.2 i (by simp_all)
theorem HX{n:Nat}:∀{js:List Nat},qW n js=true->∀i i',i<js.length->i' < js.length->sv js i=sv js i'->i=i'
 | [],_,i,i',h,_,_=>by simp at h|j::js,h,0,0,_,_,_=>rfl|j::js,h,0,i'+1,_,h2,he=>by simp only[qW,auq,avd]at h;have:=Au (k:=j) (l:=js) (i:=i') (by rw[qX (by simpa using h2)];exact congrArg some he.symm);rw[h.2.1]at this;cases this|j::js,h,i+1,0,h1,_,he=>by simp only[qW,auq,avd]at h;have:=Au (k:=j) (l:=js) (i:=i) (by rw[qX (by simpa using h1)];exact congrArg some he);rw[h.2.1]at this;cases this|j::js,h,i+1,i'+1,h1,h2,he=>by simp only[qW,auq]at h;rw[HX h.2.2 i i' (by simp_all) (by simp_all) he]
def mr(r:Nat)(out:List Nat):List Nat:=(match qW.LP r out with|true=>out|false=>out++[r])
def EY(hp:List ax):List Nat->List AV->List Nat
 |out,[]=>out|out,.own q _::l=>(match hp[q]? with|some (.row _ _ _)=>EY hp (mr q out) l|_=>EY hp out l)|out,_::l=>EY hp out l
mutual
def aeE(hp:List ax):Nat->List Nat->AV->List Nat
 |0,out,_=>out|n+1,out,.ptr r _=>(match qW.LP r out with|true=>out|false=>(match hp[r]? with|some (.box cs)=>mr r (jF hp n (EY hp out cs) cs)|some (.jm q _)=>mr q (mr r out)|_=>mr r out))|_+1,out,.mp r=>mr r out|_+1,out,.own r _=>(match hp[r]? with|some (.aV _ _ _)=>mr r out|_=>out)|n+1,out,.agg cs=>jF hp n out cs|n+1,out,.aG cs=>jF hp n out cs|n+1,out,.bz _ cs=>jF hp n out cs|n+1,out,.dt _ cs=>jF hp n out cs|_+1,out,_=>out
def jF(hp:List ax):Nat->List Nat->List AV->List Nat
 |0,out,_=>out|_+1,out,[]=>out|n+1,out,x::l=>jF hp n (aeE hp n out x) l
end
def NV(js:List Nat)(hp:List ax)(args:List AV):List AV:=((cZ (AV.HW js hp) args).2).map (Sp js)
def xt(js:List Nat)(x:AV)(h:List ax):Bool:=Nat.ble js.length h.length&&(x.closed h.length&&h.all (ax.closed h.length))
def CF(C:dw)(js:List Nat)(l:List (Sh×List mo))(f:Nat)(args:List AV)(o:Oper)(s:AS Unit)(next:AS Unit->Prop):Prop:=
 okB (qW s.hp.length js&&((NV js s.hp args).all (AV.closed js.length)&&(qj js js s.hp).all (ax.closed js.length)))
  (gL (cZ (AV.HW js s.hp) args).1 (∃R:AV->List ax->Prop,aY C.P f (NV js s.hp args) (qj js js s.hp) R/\∀(r:AV)(hp':List ax),R r hp'->NP l r hp' λx h=>okB (xt js x h) (next (AS.put { s with hp:=kh (nG js s.hp.length) js.length h s.hp } o.dst (sY (nG js s.hp.length) x)))))
theorem CF.hfn{P:Program}{js:List Nat}{H:List ax}{f:Nat}{args:List AV}{R:AV->List ax->Prop}(hb:(qW H.length js&&((args.map (Sp js)).all (AV.closed js.length)&&(qj js js H).all (ax.closed js.length)))=true)(hF:aY P f (args.map (Sp js)) (qj js js H) R)(hR:∀r h,R r h->xt js r h=true):aY P f args H (λr2 H2=>∃r h,R r h/\r2=sY (nG js H.length) r/\H2=kh (nG js H.length) js.length h H):=by (simp only[auq]at hb;obtain⟨h1,h2,h3⟩:=hb;have hl:(qj js js H).length=js.length:=Dm;have aF:∀i,i<js.length->nG js H.length i=sv js i:=by grind [nG,Nat.blt,Nat.ble_eq_true_of_le]);have:=aY.agZ (g:=nG js H.length) (H:=H) hF (λi o ho=>?_) (λi i' hi wY he=>?_) (λi hi=>?_) (by simp_all) (by simp_all) (λr h hr=>?_);rw[hl,iF (λx hx=>aeC hx) args h2]at this;exact this;grind [Dl,qX,NU,aeD];grind [HX];grind [nG,Nat.blt,auW];have:=hR r h hr;simp_all [xt]
def TM(C:dw)(sh:Sh)(l:List Nat)(o:Oper)(s:AS Unit)(next:AS Unit->Prop):Prop:=
 gL (nh l s).1 (match qU (nh l s).2 o.op with
  |some (f,args)=>gL (cZ (AV.bZ (nh l s).2.hp) args).1 (opn [] sh λx=>az C.P f (cZ (AV.bZ (nh l s).2.hp) args).2 x/\next ((nh l s).2.put o.dst x))
  |none=>False)
def NW(s:AS Unit):Op->Option (Nat×List AV)
 | .call c=>(match c.callee with| .value x=>(match s.ev x with| .dt f fst=>some (f,fst++c.args.toList.map s.ev)|_=>none)|_=>none)|_=>none
def Av(C:dw)(o:Oper)(s:AS Unit)(next:AS Unit->Prop):Prop:=
 match NW s o.op with
 |some (f,args)=>(match HV C f o with
  | .fk l=>CF C (jF s.hp 100 [] args) l f args o s next
  |_=>False)
 |none=>False
def adi(C:dw)(o:Oper)(s:AS Unit)(next:AS Unit->Prop):Prop:=
 match qU s o.op with
 |some (f,args)=>(match HV C f o with
  | .one sh=>gL (cZ (AV.bZ s.hp) args).1 (opn [] sh λx=>az C.P f (cZ (AV.bZ s.hp) args).2 x/\next (s.put o.dst x))
  | .bz f'=>gL (cZ (AV.bZ s.hp) args).1 (az C.P f (cZ (AV.bZ s.hp) args).2 (.bz f' (boxed (cZ (AV.bZ s.hp) args).2))/\next (s.put o.dst (.bz f' (boxed (cZ (AV.bZ s.hp) args).2))))
  | .y _=>False
  | .frz sh=>TM C sh (ET args) o s next
  | .alts l=>gL (cZ (AV.bZ s.hp) args).1 (∃R:AV->Prop,Pure C.P f (cZ (AV.bZ s.hp) args).2 R/\∀r:AV,R r->EV l r λx=>next (s.put o.dst x))
  | .raw l=>gL (cZ (AV.mq 0 s.hp) args).1 (∃R:AV->Prop,Pure C.P f (cZ (AV.mq 0 s.hp) args).2 R/\∀r:AV,R r->EV l r λx=>next (s.put o.dst x))
  | .heap n l=>okB ((cZ (AV.mq (s.hp.take n).length s.hp) args).2.all (AV.closed (s.hp.take n).length)&&(s.hp.take n).all (ax.closed (s.hp.take n).length))
    (gL (cZ (AV.mq (s.hp.take n).length s.hp) args).1 (∃R:AV->List ax->Prop,aY C.P f (cZ (AV.mq (s.hp.take n).length s.hp) args).2 (s.hp.take n) R/\∀(r:AV)(hp':List ax),R r hp'->NP l r hp' λx h=>okB (Nat.beq h.length (s.hp.take n).length) (next (AS.put { s with hp:=h++s.hp.drop n } o.dst x))))
  | .fresh e size=>gL (cZ (AV.bZ s.hp) args).1 (∃els:List AV,MFn C.P f (cZ (AV.bZ s.hp) args).2 e size els/\next (AS.put { s with hp:=s.hp++[.aV e size els] } o.dst (.own s.hp.length els.length)))
  | .fk l=>CF C (jF s.hp 100 [] args) l f args o s next)
 |none=>Av C o s next
def yF(nt:Nat):Option Nat->Bool
 |none=>true|some d=>Nat.blt d nt
theorem jT{nt:Nat}{d:Option Nat}(h:yF nt d=true):eu nt d:=by cases d with|none=>trivial|some d=>exact auW (by assumption)
def aeF(tab:Nat->Option TD)(hp:List ax)(ρ:Operand->AV):Op->Option (List Prop×AV×List ax)
 | .call c=>(match c.callee,c.args.toList,c.argTypes.toList with| .builtin .append,[b,x],[T,T']=>if T=T' then(match tab T with|some d=>(match d.kind with| .kW e=>(match tab e,(ρ x).nf hp with|some d',some (cs,aL)=>if 0<d'.size then(match ρ b with| .clip []=>some (cs++[bC d' (([]:List AV).length+aL.length) [] aL],.own hp.length ([]++aL).length,hp++[.aV e d'.size ([]++aL)])|_=>none)else none|_,_=>none)|_=>none)|none=>none)else none|_,_,_=>none)|_=>none
theorem Zo{Γ:Env Unit}{s:AS Unit}(aN:Γ.Ok){tab:Nat->Option TD}(aC:bn Γ.P tab){o:Oper}{cs:List Prop}{r:AV}{hp':List ax}(h:aeF tab s.hp s.ev o.op=some (cs,r,hp'))(hc:eK cs):gV Γ o s r hp':=by generalize ho:o.op=op at h;unfold aeF at h;split at h;split at h;rename_i c b x T T' HN bl dP;split at h;rename_i heq;subst heq;split at h;rename_i d hd;split at h;rename_i e hk;split at h;rename_i d' eJ aL fj hx;split at h;rename_i cY;split at h;rename_i hb;simp only[aul,aup]at h;obtain⟨rfl,rfl,rfl⟩:=h;rw[bV]at hc;exact EM aN aC ho HN bl dP hd hk fj (ia hx hc.1) (els:=[]) (.inr hb) cY (λ_=>rfl) hc.2.1;cases h;cases h;cases h;cases h;cases h;cases h;cases h;cases h
def LQ(C:dw)(o:Oper)(s:AS Unit)(next:AS Unit->Prop):Option Prop:=
 match qU s o.op with
 |some (f,args)=>(match C.ext.1 f with
  |some x=>(match aek x s.hp args with
   |some (r,hp')=>some (next (AS.put { s with hp:=hp' } o.dst r))
   |none=>none)
  |none=>none)
 |none=>none
theorem QK{C:dw}{Γ:Env Unit}(aN:Γ.Ok)(hP:C.P=Γ.P){o:Oper}{s:AS Unit}{next:AS Unit->Prop}{p:Prop}(h:LQ C o s next=some p)(hp:p):∃r hp',gV Γ o s r hp'/\next (AS.put { s with hp:=hp' } o.dst r):=by unfold LQ at h;split at h;rename_i f args bl;split at h;rename_i x hx;split at h;rename_i r hp' hr;obtain rfl:=auo h;have hX:=C.ext.2 f x hx;rw[hP]at hX;rw[lL]at bl;unfold mh at bl;grind [LH];cases h;cases h;cases h
def adj(C:dw)(o:Oper)(s:AS Unit)(next:AS Unit->Prop):Option Prop:=
 match C.mt with
 |true=>(match aeF C.tab s.hp s.ev o.op with
  |some (cs,r,hp')=>some (gL cs (next (AS.put { s with hp:=hp' } o.dst r)))
  |none=>none)
 |false=>none
def inN:List Nat->Nat->Bool
 | [],_=>false|x::l,k=>(match Nat.beq x k with|true=>true|false=>inN l k)
def bOp(mk:Bool)(tab:Nat->Option TD)(hp:List ax)(ρ:Operand->AV):Op->Option (List Prop×AV×List ax)
 | .buildSlice T n parts=>(match mk,qi tab T with|true,some (e,_,d')=>if((n=parts.toList.length/\qe 0 parts.toList=true/\n<=16777216/\n*d'.size<=16777216)/\Df d'.size (cZ (AV.bZ hp) (parts.toList.map λp=>ρ p.2)).2=true)/\0<n/\0<d'.size then some ((cZ (AV.bZ hp) (parts.toList.map λp=>ρ p.2)).1,.own hp.length n,hp++[.row e d'.size (cZ (AV.bZ hp) (parts.toList.map λp=>ρ p.2)).2])else none|_,_=>none)|_=>none
theorem aeG{Γ:Env Unit}{s:AS Unit}(aN:Γ.Ok){tab:Nat->Option TD}(aC:bn Γ.P tab){mk:Bool}{o:Oper}{cs:List Prop}{r:AV}{hp':List ax}(h:bOp mk tab s.hp s.ev o.op=some (cs,r,hp'))(hc:eK cs):gV Γ o s r hp':=by generalize ho:o.op=op at h;unfold bOp at h;split at h;split at h;rename_i T n parts _ _ e d d' hs;split at h;rename_i qz;simp only[aul,aup]at h;obtain⟨rfl,rfl,rfl⟩:=h;obtain⟨hd,hk,fj⟩:=ug hs;have hm:=cE (g:=AV.cd s.hp) (λx=>dy) (parts.toList.map λp=>s.ev p.2) hc;obtain⟨⟨⟨h1,h2,h3,h4⟩,h5⟩,h6,h7⟩:=qz;have hl:=ua h5;rw[<-hm,List.map_map]at hl ⊢;exact CE aN aC ho hd hk fj h1 h6 h7 h2 h3 h4 hl;cases h;cases h;cases h
def AV.TN(hp:List ax):AV->AV
 | .ay (.slice none 0 0)=>.clip []|x=>x.eN hp
def AV.HY(hp:List ax):AV->AV
 | .agg cs=>.agg (cs.map (AV.TN hp))|x=>x.fE hp
theorem QL{Γ:Env Unit}{w:World}{η:List Value}{hp:List ax}(h:ep w (bw Γ w η hp) η hp)(hm:vM Γ η hp){x:AV}{v:Value}(hx:bq w (bw Γ w η hp) η hp x v):bq w (bw Γ w η hp) [] [] (x.HY hp) v:=by unfold AV.HY;split;(cases hx with|agg cs vs hl h1 hr=>refine .agg _ vs (by simp_all) h1 λj y u hy hu=>?_;rw[auA]at hy;obtain⟨z,hz,rfl⟩:=ave.1 hy;have hzr:=hr j z u hz hu;unfold AV.TN;split;rw[hzr.aB];exact .jv none;grind [jD]);grind [lG]
def aeH(mk:Bool)(tab:Nat->Option TD)(hp:List ax)(ρ:Operand->AV):Op->Option AV
 | .buildSlice T n parts=>(match mk,qi tab T with|true,some (e,_,d')=>if(n=parts.toList.length/\qe 0 parts.toList=true/\n<=16777216/\n*d'.size<=16777216)/\Df d'.size (parts.toList.map λp=>(ρ p.2).HY hp)=true then some (.clip (parts.toList.map λp=>(ρ p.2).HY hp))else none|_,_=>none)|_=>none
theorem Zp{Γ:Env Unit}{s:AS Unit}(aN:Γ.Ok){tab:Nat->Option TD}(aC:bn Γ.P tab){mk:Bool}{o:Oper}{r:AV}(h:aeH mk tab s.hp s.ev o.op=some r):fN Γ o s r:=by generalize ho:o.op=op at h;unfold aeH at h;split at h;split at h;rename_i T n parts _ _ e d d' hs;split at h;rename_i qz;obtain rfl:=auo h;obtain⟨hd,hk,fj⟩:=ug hs;obtain⟨⟨h1,h2,h3,h4⟩,h5⟩:=qz;exact ot (AV.HY s.hp) (λhr _ _ h=>QL hr.heap hr.cu h) aN aC ho hd hk fj h1 h2 h3 h4 (ua h5);cases h;cases h;cases h
def TP(C:dw)(o:Oper)(s:AS Unit)(next:AS Unit->Prop):Option Prop:=
 match C.fz with
 |some l=>(match qOp (match o.dst with|some d=>inN l d|none=>false) C.tab s.hp s.ev o.op with
  |some (cs,r,hp')=>some (gL cs (next (AS.put { s with hp:=hp' } o.dst r)))
  |none=>(match bOp (match o.dst with|some d=>inN l d|none=>false) C.tab s.hp s.ev o.op with
   |some (cs,r,hp')=>some (gL cs (next (AS.put { s with hp:=hp' } o.dst r)))
   |none=>(match aeH (match o.dst with|some d=>inN l (1000000+d)|none=>false) C.tab s.hp s.ev o.op with
    |some r=>some (next (s.put o.dst r))
    |none=>none)))
 |none=>none
theorem HZ:∀{l:List Prop},eK l->∀p∈l,p
 |c::l,h,p,hp=>by rcases auJ.1 hp with rfl|hp;exact h.1;exact HZ h.2 p hp
def kj(C:dw)(o:Oper)(s:AS Unit)(next:AS Unit->Prop):Prop:=
 match yF C.nt o.dst with
 |false=>False
 |true=>(match Lv C.tab s.ev o.op with
  |some (els,b0)=>∀b:Bool,(els≠[]->b=!b0)->next (s.put o.dst (.ay (.bool b)))
  |none=>(match TP C o s next with
   |some p=>p
   |none=>(match aec C.tab s.ev o.op with
   |some r=>next (s.put o.dst r)
   |none=>(match QG C.tab C.So s.hp s.ev o.op (λr=>next (s.put o.dst r))with
    |some p=>p
    |none=>(match adj C o s next with
     |some p=>p
     |none=>(match Tz C.tab s.hp s.ev o.op with
      |some (cs,r,hp')=>gL cs (next (AS.put { s with hp:=hp' } o.dst r))
      |none=>(match HU C.tab s.hp s.ev o.op (λr hp'=>next (AS.put { s with hp:=hp' } o.dst r))with
      |some p=>p
      |none=>(match LQ C o s next with
       |some p=>p
       |none=>(match aem C.tab s.ev o.op with
        |some r=>next (s.put o.dst r)
        |none=>adi C o s next)))))))))
variable {Γ:Env Unit} {s s':AS Unit} {a:Act} {w w':World} {η:List Value} {hp:List ax}
theorem Av.sound{C:dw}(aN:Γ.Ok)(hP:C.P=Γ.P){o:Oper}(hd:eu Γ.nt o.dst){next K:AS Unit->Prop}(h:Av C o s next)(hn:∀s,next s->K s):bR Γ o s K:=by unfold Av at h;split at h;rename_i f args bl;unfold NW at bl;split at bl;rename_i c hc;split at bl;rename_i x hx;split at bl;rename_i f' fst ej;simp only[aul,aup]at bl;obtain⟨rfl,rfl⟩:=bl;split at h;unfold CF at h;obtain⟨hb,h⟩:=cX h;rw[bG]at h;obtain⟨gY,R,g1,g2⟩:=h;rename_i l _;generalize jF s.hp 100 [] (fst++List.map s.ev c.args.toList)=js at *;have bl:=cE (g:=AV.LO js s.hp) (λx=>At) _ gY;rw[hP]at g1;have uq:=CF.hfn (R:=λr h'=>R r h'/\xt js r h'=true) hb (g1.mono (by grind [cX,iT])) (λr h' hr=>hr.2);exact bR.agN aN hc hx ej uq (by grind [uo]) hd (by grind [cX,iT]);simp_all;grind;grind;grind;simp_all
theorem TM.sound{C:dw}(aN:Γ.Ok)(hP:C.P=Γ.P){sh:Sh}{l:List Nat}{o:Oper}(hd:eu Γ.nt o.dst){next K:AS Unit->Prop}(h:TM C sh l o s next)(hn:∀s,next s->K s):bR Γ o s K:=by unfold TM at h;rw[bG]at h;obtain⟨hc,h⟩:=h;have hw:=ud (Γ:=Γ) aN l s hc;intro a w η Kc Qc hk hr;obtain⟨Ck,oU⟩:=hw a w η hr;refine(?_:bR Γ o (nh l s).2 K) a w Ck Kc Qc hk oU;split at h;rename_i f args bl;rw[lL]at bl;unfold mh at bl;split at bl;rename_i c hc;split at bl;rename_i x hx;split at bl;rename_i f' caps ej;simp only[aul,aup]at bl;obtain⟨rfl,rfl⟩:=bl;rw[bG]at h;obtain⟨gY,h⟩:=h;obtain⟨x',NY,QM⟩:=sZ h;rw[<-cE (g:=AV.cd (nh l s).2.hp) (λx=>dy) _ gY,hP]at NY;grind [bR.pure];grind;grind;grind;simp_all
theorem kj.sound{C:dw}(aN:Γ.Ok)(hP:C.P=Γ.P)(aC:bn Γ.P C.tab)(iG:C.nt=Γ.nt){o:Oper}{next K:AS Unit->Prop}(h:kj C o s next)(hn:∀s,next s->K s):bR Γ o s K:=by unfold kj at h;split at h;grind;rename_i hd;have hd:=jT hd;rw[iG]at hd;split at h;grind [bR.nil];split at h;rename_i p hp;unfold TP at hp;split at hp;split at hp;rename_i cs r hp' hm;obtain rfl:=auo hp;rw[bG]at h;exact bR.cR (aer aN aC hm h.1) hd (hn _ h.2);split at hp;rename_i cs r hp' hm;obtain rfl:=auo hp;rw[bG]at h;exact bR.cR (aeG aN aC hm h.1) hd (hn _ h.2);split at hp;rename_i r hm;obtain rfl:=auo hp;exact bR.val aN (Zp aN aC hm) hd (hn _ h);cases hp;cases hp;split at h;rename_i r hx;exact bR.val aN (Lu aC hx) hd (hn _ h);split at h;rename_i p hp;obtain⟨c,r,h1,h2,h3⟩:=y8 hp h;exact bR.val aN (sU aN aC h1 h2) hd (hn _ h3);split at h;rename_i p hp;unfold adj at hp;split at hp;split at hp;rename_i cs r hp' hm;obtain rfl:=auo hp;rw[bG]at h;exact bR.cR (Zo aN aC hm h.1) hd (hn _ h.2);cases hp;cases hp;split at h;rename_i cs r hp' hs;rw[bG]at h;exact bR.cR (by grind [TE,HZ]) hd (hn _ h.2);split at h;rename_i p hp;obtain⟨c,r,hp',h1,h2,h3⟩:=uk hp h;exact bR.cR (mf aN aC h1 h2) hd (hn _ h3);split at h;grind [QK,bR.cR];split at h;rename_i r hx;exact bR.val aN (LJ aC hx) hd (hn _ h);unfold adi at h;split at h;rename_i f args bl;rw[lL]at bl;unfold mh at bl;split at bl;rename_i c hc;split at bl;rename_i x hx;split at bl;rename_i f' caps ej;simp only[aul,aup]at bl;obtain⟨rfl,rfl⟩:=bl;split at h;rw[bG]at h;obtain⟨gY,h⟩:=h;obtain⟨x',NY,QM⟩:=sZ h;rw[<-cE (g:=AV.cd s.hp) (λx=>dy) _ gY,hP]at NY;grind [bR.pure];rw[bG]at h;obtain⟨gY,NY,QM⟩:=h;rw[<-cE (g:=AV.cd s.hp) (λx=>dy) _ gY]at NY QM;grind [bR.pure];grind;grind [TM.sound];rw[bG]at h;obtain⟨gY,R,NY,QM⟩:=h;rw[<-cE (g:=AV.cd s.hp) (λx=>dy) _ gY,hP]at NY;grind [bR.pure,wa];rw[bG]at h;obtain⟨gY,R,NY,QM⟩:=h;have bl:=cE (g:=AV.sX 0 s.hp) (λx=>qV) _ gY;grind [bR.agO,ox,wa];rename_i n l ag6;obtain⟨hb,h⟩:=cX h;rw[bG]at h;obtain⟨gY,R,g1,g2⟩:=h;rw[auq]at hb;have bl:=cE (g:=AV.sX (s.hp.take n).length s.hp) (λx=>qV) _ gY;rw[hP]at g1;have uq:=aY.frame (more:=s.hp.drop n) (R:=λr h'=>R r h'/\h'.length=(s.hp.take n).length) (g1.mono (by grind [auN,cX,iT])) (λr h' hr=>hr.2) hb.1 hb.2;rw[avl]at uq;exact bR.Ti aN hc hx ej uq (by grind [HI]) hd (by grind [cX,iT]);rw[bG]at h;obtain⟨gY,els,NY,QM⟩:=h;rw[<-cE (g:=AV.cd s.hp) (λx=>dy) _ gY,hP]at NY;grind [bR.fresh];unfold CF at h;obtain⟨hb,h⟩:=cX h;rw[bG]at h;obtain⟨gY,R,g1,g2⟩:=h;rename_i l _;generalize jF s.hp 100 [] (List.map s.ev c.args.toList++caps)=js at *;have bl:=cE (g:=AV.LO js s.hp) (λx=>At) _ gY;rw[hP]at g1;have uq:=CF.hfn (R:=λr h'=>R r h'/\xt js r h'=true) hb (g1.mono (by grind [cX,iT])) (λr h' hr=>hr.2);exact bR.Ti aN hc hx ej uq (by grind [uo]) hd (by grind [cX,iT]);grind;grind;grind;grind [Av.sound]
def KG(l:List Oper)(o:Oper)(s:AS Unit)(run skip:AS Unit->Prop):Prop:=
 match o.guard with
 |none=>run s
 |some (j,want)=>(match (l[j]?).bind (·.dst)with
  |some d=>(match s.tmps d with
   | .ay (.bool b)=>aA b (match want with|true=>run (s.put (some d) (.ay (.bool true)))|false=>skip (s.put (some d) (.ay (.bool true))))
     (match want with|true=>skip (s.put (some d) (.ay (.bool false)))|false=>run (s.put (some d) (.ay (.bool false))))
   | .ay (.tuple _)=>skip s
   |_=>False)
  |none=>False)
theorem H3{d:Nat}{x:AV}(h:s.tmps d=x):s.put (some d) x=s:=by cases s with|mk f hp g=>simp only[AS.put];congr 1;grind [gS]
theorem KG.cases{l:List Oper}{o:Oper}{run skip:AS Unit->Prop}(h:KG l o s run skip): (o.guard=none/\run s)\/(∃j want b,o.guard=some (j,want)/\kO l.toArray s j=some (some b)/\((b=want/\run s)\/(¬b=want/\skip s)))\/(∃j want,o.guard=some (j,want)/\kO l.toArray s j=some none/\skip s):=by
 unfold KG at h;split at h;simp_all;rename_i j want hg;split at h
 ·rename_i d hd;split at h;rename_i b hb;refine .inr (.inl ⟨j,want,b,hg,?_,?_⟩);simp_all [kO];have:=h.elim;(cases b with|true=>grind [H3]|false=>grind [H3]);all_goals simp_all [kO]
 simp_all
def ur(C:dw)(l0:List Oper)(K:AS Unit->Prop):List Oper->AS Unit->Prop
 | [],s=>K s|o::rest,s=>KG l0 o s (λs=>kj C o s (ur C l0 K rest)) (λs=>match yF C.nt o.dst with|true=>ur C l0 K rest (s.put o.dst (.ay (.tuple #[])))|false=>False)
theorem ur.TQ{C:dw}(aN:Γ.Ok)(hP:C.P=Γ.P)(aC:bn Γ.P C.tab)(iG:C.nt=Γ.nt){l0 rest:List Oper}{K K':AS Unit->Prop}(hK:∀s,K' s->jz Γ l0.toArray K rest s):∀(l:List Oper)(s:AS Unit),ur C l0 K' l s->jz Γ l0.toArray K (l++rest) s:=by intro l;induction l with|nil=>assumption|cons o l ih=>(intro s h;have skip:(match yF C.nt o.dst with|true=>ur C l0 K' l (s.put o.dst (.ay (.tuple #[])))|false=>False)->eu Γ.nt o.dst/\jz Γ l0.toArray K (l++rest) (s.put o.dst (.ay (.tuple #[]))):=by grind [jT]);rw[avN];rcases KG.cases h with⟨hg,h⟩|⟨j,want,b,hg,hb,⟨tV,h⟩|⟨tV,h⟩⟩|⟨j,want,hg,hb,h⟩;all_goals grind [jz.step,Region.wanted,kj.sound,gZ,jz.skip]
theorem ur.sound{C:dw}(aN:Γ.Ok)(hP:C.P=Γ.P)(aC:bn Γ.P C.tab)(iG:C.nt=Γ.nt){l0:List Oper}{K:AS Unit->Prop}(l:List Oper)(s:AS Unit)(h:ur C l0 K l s):jz Γ l0.toArray K l s:=by have:=ur.TQ aN hP aC iG (rest:=[]) (λs h a w η Qc hQ hr=>hQ s a w η h hr) l s h;rwa [auF]at this
def Dn(x:Operand)(d:Nat):Bool:=
 match x with
 | .tmp t=>Nat.beq t d
 |_=>false
theorem Aw{x:Operand}{d:Nat}(h:Dn x d=true):x=.tmp d:=by unfold Dn at h;grind [auN]
def rm1(C:dw)(s:AS Unit)(o:Oper):Option (Nat×Nat×TD×Int×Nat):=
 match o.guard,o.op,o.dst with
 |none,.call c,some d1=>(match c.callee,c.args.toList,c.argTypes.toList with
  | .builtin .append,[b,z],[T,T']=>(match s.ev b,s.ev z,qi C.tab T,(C.tab T').map TD.kind with
   | .ay (.slice none 0 0),.ay (.int .i64 n),some (e,_,d'),some (.int _)=>some (T,e,d',n,d1)
   |_,_,_,_=>none)
  |_,_,_=>none)
 |_,_,_=>none
def rm2(s:AS Unit)(o:Oper)(d1:Nat):Option Nat:=
 match o.guard,o.op,o.dst with
 |none,.move x,some d2=>(match s.ev x,Dn x d1 with
  | .ay (.slice none 0 0),false=>some d2
  |_,_=>none)
 |_,_,_=>none
def rm3(o:Oper)(T d2:Nat):Option Nat:=
 match o.guard,o.op,o.dst with
 |none,.call c,some d3=>(match c.callee,c.args.toList,c.argTypes.toList with
  | .builtin .len,[x],[T3]=>(match Dn x d2&&Nat.beq T3 T with
   |true=>some d3
   |false=>none)
  |_,_,_=>none)
 |_,_,_=>none
def rm4(o:Oper)(T d1 d3:Nat):Option Nat:=
 match o.guard,o.op,o.dst with
 |none,.slice T4 x none (some y) none,some d4=>(match Nat.beq T4 T&&(Dn x d1&&Dn y d3)with
  |true=>some d4
  |false=>none)
 |_,_,_=>none
def rmB(nt d1 d2 d3 d4:Nat)(d:TD):Bool:=(Nat.blt d1 nt&&(Nat.blt d2 nt&&(Nat.blt d3 nt&&Nat.blt d4 nt)))&&((!Nat.beq d1 d2&&!Nat.beq d1 d3)&&Nat.blt 0 d.size)
def H4(C:dw)(l0:List Oper)(K:AS Unit->Prop)(s:AS Unit):List Oper->Prop
 |o1::o2::o3::o4::rest=>(match rm1 C s o1 with|some (T,e,d',n,d1)=>(match rm2 s o2 d1 with|some d2=>(match rm3 o3 T d2 with|some d3=>(match rm4 o4 T d1 d3 with|some d4=>okB (rmB C.nt d1 d2 d3 d4 d') ((0<n/\n.toNat<=maxLen/\n.toNat*d'.bytes<=140737488355328)/\ ur C l0 K rest (AS.put (AS.put (AS.put (AS.put { s with hp:=s.hp++[.row e d'.size []] } (some d1) .top) (some d2) (.ay (.slice none 0 0))) (some d3) (.ay (.int .i64 0))) (some d4) (.own s.hp.length 0)))|none=>False)|none=>False)|none=>False)|none=>False)|_=>False
theorem H4.sound{C:dw}(aN:Γ.Ok)(hP:C.P=Γ.P)(aC:bn Γ.P C.tab)(iG:C.nt=Γ.nt){l0:List Oper}{K:AS Unit->Prop}{l:List Oper}{s:AS Unit}(h:H4 C l0 K s l):jz Γ l0.toArray K l s:=by unfold H4 at h;split at h;rename_i o1 o2 o3 o4 rest;split at h;rename_i T e d' n d1 h1;split at h;rename_i d2 h2;split at h;rename_i d3 h3;split at h;(rename_i d4 h4;obtain⟨hb,⟨hn,hm,Sf⟩,hkr⟩:=cX h;unfold rmB at hb;simp only[auq,avd]at hb;obtain⟨⟨l1,l2,l3,l4⟩,⟨n12,n13⟩,cY⟩:=hb;have aF:∀{d:Nat},Nat.blt d C.nt=true->d<Γ.nt:=by simp_all);(have bW:∀{x y:Nat},Nat.beq x y=false->x≠y:=by grind [Nat.beq_refl]);obtain⟨m,rfl⟩:∃m:Nat,n=(m:Int):=⟨n.toNat,by omega⟩;rw[avp]at hm Sf;unfold rm1 at h1;split at h1;rename_i c1 d1' g1 p1 t1;split at h1;rename_i b z T1 T' HN bl dP;split at h1;rename_i dd ik xb hzv hs hT';simp only[aul,aup]at h1;obtain⟨rfl,rfl,rfl,rfl,rfl⟩:=h1;obtain⟨q1,q2,q3⟩:=ug hs;obtain⟨dz,q4,q5⟩:=ave.1 hT';unfold rm2 at h2;split at h2;rename_i x d2' g2 p2 t2;split at h2;rename_i hx hxd;obtain rfl:=auo h2;unfold rm3 at h3;split at h3;rename_i c3 d3' g3 p3 t3;split at h3;rename_i y T3 ag7 ams arN;split at h3;rename_i hb3;obtain rfl:=auo h3;rw[auq]at hb3;have ey:=Aw hb3.1;have eT:=auN hb3.2;subst ey;subst eT;unfold rm4 at h4;split at h4;rename_i T4 x4 y4 d4' g4 p4 t4;split at h4;rename_i hb4;obtain rfl:=auo h4;simp only[auq]at hb4;have e1:=Aw hb4.2.1;have e2:=Aw hb4.2.2;have e3:=auN hb4.1;subst e1;subst e2;subst e3;exact jz.room aN aC (n:=m) g1 g2 g3 g4 p1 HN (by grind) (by grind) q1 q2 q3 q4 q5 (auW cY) xb hzv (by omega) hm Sf p2 hx (by grind) p3 ag7 (by grind) (by grind) p4 t1 t2 t3 t4 (aF l1) (aF l2) (aF l3) (aF l4) (bW n12) (bW n13) (by grind [ur.sound]);cases h4;cases h4;cases h3;cases h3;cases h3;cases h2;cases h2;cases h1;cases h1;cases h1;simp_all;simp_all;simp_all;simp_all;simp_all
def ag8:List (Nat×Nat)->Nat->Option Nat
 | [],_=>none|p::l,k=>(match Nat.beq p.1 k with|true=>some p.2|false=>ag8 l k)
def H5(C:dw)(id:Nat)(l:List Oper)(K:AS Unit->Prop)(s:AS Unit):Prop:=
 match ag8 C.rm id with
 |none=>ur C l K l s
 |some k=>ur C l (λs=>H4 C l K s (l.drop k)) (l.take k) s
theorem H5.sound{C:dw}(aN:Γ.Ok)(hP:C.P=Γ.P)(aC:bn Γ.P C.tab)(iG:C.nt=Γ.nt){id:Nat}{K:AS Unit->Prop}{l:List Oper}{s:AS Unit}(h:H5 C id l K s):jz Γ l.toArray K l s:=by grind [H5,ur.sound,ur.TQ,H4.sound,avl]
def nJ(C:dw)(o:Oper)(s:AS Unit)(next:AS Unit->Prop):Prop:=
 match QG C.tab C.So s.hp s.ev o.op (λr=>next (s.put o.dst r))with
 |some p=>p
 |none=>(match qU s o.op with
  |some (f,args)=>(match HV C f o with
   | .one sh=>gL (cZ (AV.bZ s.hp) args).1 (opn [] sh λx=>az C.P f (cZ (AV.bZ s.hp) args).2 x/\next (s.put o.dst x))
   |_=>False)
  |none=>False)
theorem nJ.sound{C:dw}(hP:C.P=Γ.P){o:Oper}{next N R:AS Unit->Prop}(h:nJ C o s next)(h1:∀s,next s->N s)(h2:∀s,next s->R s):DStep Γ C.tab o s N R:=by
 unfold nJ at h;split at h;grind [y8,DStep];split at h
 ·rename_i f args bl;split at h;rotate_left;grind;rw[bG]at h;obtain⟨gY,h⟩:=h;obtain⟨x',NY,QM⟩:=sZ h;rw[<-cE (g:=AV.cd s.hp) (λx=>dy) _ gY,hP]at NY;rw[lL]at bl;unfold mh at bl;split at bl;rename_i c hc;split at bl;rename_i x hx;split at bl;(rename_i f' caps ej;simp only[aul,aup]at bl;obtain⟨rfl,rfl⟩:=bl;unfold DStep;rw[hc];have hpn:bL C.tab s.hp s.ev (.call c)=none:=by simp only[bL,hx]);grind [gv];grind;grind;grind
 simp_all
def Dp(C:dw)(l0:List Oper)(K:AS Unit->Prop):List Oper->AS Unit->Prop
 | [],s=>K s|o::rest,s=>(match yF C.nt o.dst with|false=>False|true=>(match fG o.op with|true=>(match o.guard with|none=>(match HU C.tab s.hp s.ev o.op (λr hp'=>Dp C l0 K rest (AS.put { s with hp:=hp' } o.dst r))with|some p=>p|none=>False)|some _=>False)|false=>KG l0 o s (λs=>nJ C o s (Dp C l0 K rest)) (λs=>Dp C l0 K rest (s.put o.dst (.ay (.tuple #[]))))))
theorem Dp.sound{C:dw}(aN:Γ.Ok)(hP:C.P=Γ.P)(aC:bn Γ.P C.tab)(iG:C.nt=Γ.nt){l0:List Oper}{K:AS Unit->Prop}:∀(l:List Oper)(s:AS Unit),Dp C l0 K l s->qL Γ C.tab C.nt l0.toArray K l s:=by intro l;induction l with|nil=>intro s h;exact h|cons o rest ih=>intro s h;simp only[Dp]at h;simp only[qL];split at h;grind;rename_i hd;have hd:=jT hd;split at h;rename_i he;rw[if_pos he];grind [uk];rename_i he;rw[if_neg (by grind)];grind [qL.sound,KG.cases,nJ.sound]
def hvR(ρ:Operand->AV):Op->Option Nat
 | .store _ p _=>(match ρ p with| .ptr r _=>some r| .fY r _ _ _=>some r|_=>none)| .mapUpdate _ m _ _=>(match ρ m with| .mp r=>some r|_=>none)| .call c=>(match c.args.toList with|b::_=>(match ρ b with| .own r _=>some r|_=>none)| []=>none)|_=>none
theorem aeI{tab:Nat->Option TD}{hp hp':List ax}{ρ:Operand->AV}{op:Op}{c:Prop}{r:AV}(h:eE tab hp ρ op=some (c,r,hp')): (∃o,hp'=hp++[o])\/∃q o,hvR ρ op=some q/\hp'=hp.set q o:=by
 cases op with
  |alloc T=>grind [eE]|box T x=>grind [eE]|store T p x=>grind [eE,hvR]|makeSlice T l c=>simp only[eE]at h;split at h;all_goals grind|makeMap T x=>cases x with|some x=>simp[eE]at h|none=>simp only[eE]at h;grind
  |mapUpdate T m k x=>
   simp only[eE]at h;split at h
   ·rename_i d r' a v hd hm hk hx;split at h;all_goals grind [hvR]
   all_goals grind [hvR]
  |call c=>
   simp only[eE]at h;split at h;rename_i b x T T' hb hl hT;split at h;split at h;split at h
   ·split at h;all_goals grind [hvR]
   cases h;cases h;cases h;cases h
  |_=>simp[eE]at h
theorem qu.same(l:List Nat):∀(hp:List ax)(q:Nat)(more:List ax),qu l q hp (hp++more)
 | [],_,_=>ai|_::hp,q,more=>⟨.inr rfl,qu.same l hp (q+1) more⟩
theorem qu.refl(l:List Nat)(hp:List ax)(q:Nat):qu l q hp hp:=by have:=qu.same l hp q [];rwa [auF]at this
theorem qu.set(l:List Nat):∀(hp:List ax)(q r:Nat)(o:ax),q+r∈l->qu l q hp (hp.set r o)
 | [],_,_,_,_=>ai|_::hp,q,0,o,h=>⟨.inl h,qu.refl l hp (q+1)⟩|_::hp,q,r+1,o,h=>⟨.inr rfl,qu.set l hp (q+1) r o (by rw[show q+1+r=q+(r+1)from by omega];exact h)⟩
def LR:List Nat->Nat->Bool
 | [],_=>false|x::l,k=>(match Nat.beq x k with|true=>true|false=>LR l k)
theorem EZ:∀{l:List Nat}{k:Nat},LR l k=true->k∈l
 | [],_,h=>by cases h|x::l,k,h=>by simp only[LR]at h;split at h;simp_all;exact auG _ (EZ h)
def s5:List (Option (List Nat))->Nat->Option (List Nat)
 | [],_=>none|x::_,0=>x|_::l,n+1=>s5 l n
theorem iU:∀(l:List (Option (List Nat)))(n:Nat),s5 l n=l.getD n none
 | [],n=>by rfl|x::l,0=>by rfl|x::l,n+1=>by simp only[s5,iU l n,List.getD_cons_succ]
def TR(m:Option (List Nat))(ρ:Operand->AV)(op:Op):Bool:=
 match m with
 |none=>true
 |some l=>(match hvR ρ op with
  |none=>true
  |some q=>LR l q)
theorem NZ{tab:Nat->Option TD}{hp hp':List ax}{ρ:Operand->AV}{op:Op}{c:Prop}{r:AV}{m:Option (List Nat)}(hb:TR m ρ op=true)(h:eE tab hp ρ op=some (c,r,hp')): ∀l,m=some l->qu l 0 hp hp':=by intro l hm;subst hm;rcases aeI h with⟨o,rfl⟩|⟨q,o,hq,rfl⟩;exact qu.same l hp 0 [o];simp only[TR,hq]at hb;exact qu.set l hp 0 q o (by rw[auZ];exact EZ hb)
def gM(C:dw)(m:Option (List Nat))(o:Oper)(s:AS Unit)(next:AS Unit->Prop):Prop:=
 match hO o.op with
 |true=>(match QG C.tab C.So s.hp s.ev o.op (λr=>next (s.put o.dst r))with
  |some p=>p
  |none=>False)
 |false=>(match m with
  |none=>nJ C o s next
  |some K=>okB ((rW o.op).all λx=>(s.ev x).closed (kill K s.hp).length) (okB ((kill K s.hp).all λob=>ax.closed (kill K s.hp).length ob)
   (match QG C.tab C.So (kill K s.hp) s.ev o.op (λr=>okB (r.held (kill K s.hp)) (next (s.put o.dst r)))with
   |some p=>p
   |none=>(match qU s o.op with
    |some (f,args)=>(match HV C f o with
     | .one sh=>gL (cZ (AV.bZ (kill K s.hp)) args).1 (opn [] sh λx=>az C.P f (cZ (AV.bZ (kill K s.hp)) args).2 x/\okB (x.held (kill K s.hp)) (next (s.put o.dst x)))
     |_=>False)
    |none=>False))))
theorem H6{s:AS Unit}{op:Op}{f:Nat}{args:List AV}(h:qU s op=some (f,args))(tab:Nat->Option TD)(hp:List ax): bL tab hp s.ev op=none/\gv { s with hp:=hp } op=some (f,args.map (AV.cd hp)):=by rw[lL]at h;unfold mh at h;split at h;rename_i c;split at h;rename_i x hx;split at h;rename_i f' caps ej;simp only[aul,aup]at h;obtain⟨rfl,rfl⟩:=h;simp_all [bL,AS.ev,gv];cases h;cases h;cases h
theorem gM.sound{C:dw}(hP:C.P=Γ.P){m:Option (List Nat)}{o:Oper}{next N R:AS Unit->Prop}(h:gM C m o s next)(h1:∀s,next s->N s)(h2:∀s,next s->R s):nE Γ C.tab m o s N R:=by
 unfold gM at h;unfold nE;split at h;rename_i hh;rw[if_pos hh];grind [y8];rename_i hh;rw[if_neg (by grind)];cases m with
  |none=>grind [nJ.sound]|some K=>
   dsimp only at h ⊢;obtain⟨Lh,h⟩:=cX h;obtain⟨hc2,h⟩:=cX h;refine⟨Lh,by simp_all,?_⟩;split at h;grind [y8,cX];split at h
   ·rename_i f args bl;split at h;rotate_left;grind;rw[bG]at h;obtain⟨gY,h⟩:=h;obtain⟨x',NY,QM⟩:=sZ h;obtain⟨g4,g5⟩:=cX QM;rw[<-cE (g:=AV.cd (kill K s.hp)) (λx=>dy) _ gY,hP]at NY;obtain⟨q1,q2⟩:=H6 bl C.tab (kill K s.hp);grind
   simp_all
def TT(C:dw)(l0:List Oper)(Cl M:List (Option (List Nat)))(K:AS Unit->Prop):Nat->List Oper->AS Unit->Prop
 |_,[],s=>K s|k,o::rest,s=>(match yF C.nt o.dst with|false=>False|true=>(match fG o.op with|true=>(match o.guard with|none=>okB (TR (s5 Cl k) s.ev o.op) (match HU C.tab s.hp s.ev o.op (λr hp'=>TT C l0 Cl M K (k+1) rest (AS.put { s with hp:=hp' } o.dst r))with|some p=>p|none=>False)|some _=>False)|false=>KG l0 o s (λs=>gM C (s5 M k) o s (TT C l0 Cl M K (k+1) rest)) (λs=>TT C l0 Cl M K (k+1) rest (s.put o.dst (.ay (.tuple #[]))))))
def bE(hs:List Nat)(o:Oper):Bool:=
 match o.op with
 | .call c=>(match c.callee with
  | .value (.func f)=>LR hs f
  | .value (.tmp t)=>LR hs (t+1000000)
  |_=>false)
 |_=>false
def xv(C:dw)(hs:List Nat)(l0:List Oper)(K:AS Unit->Prop):List Oper->AS Unit->Prop
 | [],s=>K s|o::rest,s=>(match yF C.nt o.dst with|false=>False|true=>(match fG o.op with|true=>(match o.guard with|none=>(match HU C.tab s.hp s.ev o.op (λr hp'=>xv C hs l0 K rest (AS.put { s with hp:=hp' } o.dst r))with|some p=>p|none=>False)|some _=>False)|false=>(match bE hs o with|true=>KG l0 o s (λs=>kj C o s (xv C hs l0 K rest)) (λs=>xv C hs l0 K rest (s.put o.dst (.ay (.tuple #[]))))|false=>KG l0 o s (λs=>nJ C o s (xv C hs l0 K rest)) (λs=>xv C hs l0 K rest (s.put o.dst (.ay (.tuple #[])))))))
theorem xv.sound{C:dw}(aN:Γ.Ok)(hP:C.P=Γ.P)(aC:bn Γ.P C.tab)(iG:C.nt=Γ.nt){hs:List Nat}{l0:List Oper}{K:AS Unit->Prop}:∀(l:List Oper)(s:AS Unit),xv C hs l0 K l s->sJ Γ l0.toArray (bE hs) K l s:=by intro l;induction l with|nil=>intro s h;exact h|cons o rest ih=>intro s h;simp only[xv]at h;simp only[sJ];split at h;grind;rename_i hd;have hd:=jT hd;rw[iG]at hd;split at h;rename_i he;rw[if_pos he];grind [uk,mf];rename_i he;rw[if_neg (by grind)];split at h;rename_i hh;rw[if_pos hh];rcases KG.cases h with⟨hg,h⟩|⟨j,want,b,hg,hb,⟨tV,h⟩|⟨tV,h⟩⟩|⟨j,want,hg,hb,h⟩;exact .inl (by grind [bf,kj.sound]);exact .inl (by grind [bf,kj.sound]);exact .inr ⟨by simp[bf,hg,hb,tV],hd,ih _ h⟩;exact .inr ⟨by simp[bf,hg,hb],hd,ih _ h⟩;rename_i hh;rw[if_neg (by grind)];rcases KG.cases h with⟨hg,h⟩|⟨j,want,b,hg,hb,⟨tV,h⟩|⟨tV,h⟩⟩|⟨j,want,hg,hb,h⟩;obtain⟨x,h3,h4⟩:=DStep.sound (ops:=l0.toArray) aN aC (nJ.sound (Γ:=Γ) (N:=sJ Γ l0.toArray (bE hs) K rest) (R:=sJ Γ l0.toArray (bE hs) K rest) hP h ih ih) (λ_ h=>h) (λ_ h=>h);exact⟨x,⟨hd,.inl ⟨by simp[bf,hg],h3⟩⟩,h4⟩;obtain⟨x,h3,h4⟩:=DStep.sound (ops:=l0.toArray) aN aC (nJ.sound (Γ:=Γ) (N:=sJ Γ l0.toArray (bE hs) K rest) (R:=sJ Γ l0.toArray (bE hs) K rest) hP h ih ih) (λ_ h=>h) (λ_ h=>h);exact⟨x,⟨hd,.inl ⟨by simp[bf,hg,hb,tV],h3⟩⟩,h4⟩;exact⟨_,⟨hd,by simp_all [bf]⟩,ih _ h⟩;exact⟨_,⟨hd,by simp_all [bf]⟩,ih _ h⟩
def sK(C:dw)(hs:List Nat)(l0:List Oper)(Cl M:List (Option (List Nat)))(K:AS Unit->Prop):Nat->List Oper->AS Unit->Prop
 |_,[],s=>K s|k,o::rest,s=>(match yF C.nt o.dst with|false=>False|true=>(match fG o.op with|true=>(match o.guard with|none=>okB (TR (s5 Cl k) s.ev o.op) (match HU C.tab s.hp s.ev o.op (λr hp'=>sK C hs l0 Cl M K (k+1) rest (AS.put { s with hp:=hp' } o.dst r))with|some p=>p|none=>False)|some _=>False)|false=>(match bE hs o with|true=>KG l0 o s (λs=>kj C o s (sK C hs l0 Cl M K (k+1) rest)) (λs=>sK C hs l0 Cl M K (k+1) rest (s.put o.dst (.ay (.tuple #[]))))|false=>KG l0 o s (λs=>gM C (s5 M k) o s (sK C hs l0 Cl M K (k+1) rest)) (λs=>sK C hs l0 Cl M K (k+1) rest (s.put o.dst (.ay (.tuple #[])))))))
theorem sK.sound{C:dw}(aN:Γ.Ok)(hP:C.P=Γ.P)(aC:bn Γ.P C.tab)(iG:C.nt=Γ.nt){hs:List Nat}{l0:List Oper}{Cl M:List (Option (List Nat))}{K:AS Unit->Prop}:∀(l:List Oper)(k:Nat)(s:AS Unit),sK C hs l0 Cl M K k l s->kQ Γ l0.toArray (bE hs) Cl M K k l s:=by intro l;induction l with|nil=>intro k s h;exact h|cons o rest ih=>intro k s h;simp only[sK]at h;simp only[kQ];split at h;grind;rename_i hd;have hd:=jT hd;rw[iG]at hd;split at h;rename_i he;rw[if_pos he];split at h;rename_i hg;obtain⟨N2,h⟩:=cX h;split at h;rename_i p hp;obtain⟨c,r,hp',g1,g2,g3⟩:=uk hp h;have:=NZ N2 g1;rw[iU]at this;refine⟨hd,hg,r,hp',λvK Tc e1 e2 e3=>mf Tc (tab:=C.tab) (by simp_all) (c:=c) ?_ g2,?_,ih _ _ g3⟩;rw[<-g1];exact Af λx hx=>nb hx;unfold sH;split;trivial;rename_i l' hl;have uq:=qu.fr (l:=l') s.hp hp' 0 (this l' hl);exact⟨uq.1,by simp_all⟩;simp_all;simp_all;rename_i he;rw[if_neg (by grind)];split at h;rename_i hh;rw[if_pos hh];rcases KG.cases h with⟨hg,h⟩|⟨j,want,b,hg,hb,⟨tV,h⟩|⟨tV,h⟩⟩|⟨j,want,hg,hb,h⟩;exact .inl (by grind [bf,kj.sound]);exact .inl (by grind [bf,kj.sound]);exact .inr ⟨by simp[bf,hg,hb,tV],hd,ih _ _ h⟩;exact .inr ⟨by simp[bf,hg,hb],hd,ih _ _ h⟩;rename_i hh;rw[if_neg (by grind)];rcases KG.cases h with⟨hg,h⟩|⟨j,want,b,hg,hb,⟨tV,h⟩|⟨tV,h⟩⟩|⟨j,want,hg,hb,h⟩;rw[iU]at h;obtain⟨x,h3,h4⟩:=nE.sound (ops:=l0.toArray) aC (gM.sound (Γ:=Γ) (N:=kQ Γ l0.toArray (bE hs) Cl M K (k+1) rest) (R:=kQ Γ l0.toArray (bE hs) Cl M K (k+1) rest) hP h (ih (k+1)) (ih (k+1))) (λ_ h=>h) (λ_ h=>h) (.inl hg);exact⟨x,⟨hd,.inl ⟨by simp[bf,hg],h3⟩⟩,h4⟩;rw[iU]at h;obtain⟨x,h3,h4⟩:=nE.sound (ops:=l0.toArray) aC (gM.sound (Γ:=Γ) (N:=kQ Γ l0.toArray (bE hs) Cl M K (k+1) rest) (R:=kQ Γ l0.toArray (bE hs) Cl M K (k+1) rest) hP h (ih (k+1)) (ih (k+1))) (λ_ h=>h) (λ_ h=>h) (.inr ⟨j,want,_,hg,hb⟩);exact⟨x,⟨hd,.inl ⟨by simp[bf,hg,hb,tV],h3⟩⟩,h4⟩;exact⟨_,⟨hd,by simp_all [bf]⟩,ih _ _ h⟩;exact⟨_,⟨hd,by simp_all [bf]⟩,ih _ _ h⟩
def ag9:List (Nat×List Nat)->Nat->Option (List Nat)
 | [],_=>none|p::l,k=>(match Nat.beq p.1 k with|true=>some p.2|false=>ag9 l k)
def aha:List (Nat×List (Option (List Nat))×List (Option (List Nat)))->Nat->Option (List (Option (List Nat))×List (Option (List Nat)))
 | [],_=>none|p::l,k=>(match Nat.beq p.1 k with|true=>some p.2|false=>aha l k)
end
def yE.T:yE->Type
 | .i _=>Int| .b=>Bool| .s=>aw| .l=>List AV| .c=>List AV| .m=>List (Int×Value)| .ms=>List (aw×Value)| .k _=>Unit| .o _=>Unit| .fn=>Value| .q _=>Unit
def mkC(lens:List Nat):(sh:yE)->sh.T->AV
 | .i k,n=>.ay (.int k n)| .b,b=>.ay (.bool b)| .s,s=>.ay (.string s)| .l,l=>.sl l| .c,l=>.clip l| .m,l=>.eo (.i l)| .ms,l=>.eo (.s l)| .k x,_=>x| .o r,_=>.own r (sv lens r)| .fn,v=>.fn v| .q x,_=>x
def TCs:List yE->Type
 | []=>Unit|sh::l=>sh.T×TCs l
def QN(lens:List Nat):(l:List yE)->TCs l->List AV
 | [],_=>[]|sh::l,t=>mkC lens sh t.1::QN lens l t.2
def ui.T:ui->Type
 | .c x=>x.T| .a l=>TCs l
def mkV(lens:List Nat):(sh:ui)->sh.T->AV
 | .c x,t=>mkC lens x t| .a l,t=>.agg (QN lens l t)
def TVs:List ui->Type
 | []=>Unit|sh::l=>sh.T×TVs l
def LS(lens:List Nat):(l:List ui)->TVs l->List AV
 | [],_=>[]|sh::l,t=>mkV lens sh t.1::LS lens l t.2
def Sh.T:Sh->Type
 | .v x=>x.T| .t l=>TVs l| .f _ l=>TVs l| .m _ l=>TVs l
def mkS(lens:List Nat):(sh:Sh)->sh.T->AV
 | .v x,t=>mkV lens x t| .t l,t=>.aG (LS lens l t)| .f fn l,t=>.bz fn (LS lens l t)| .m fn l,t=>.dt fn (LS lens l t)
def TS:List Sh->Type
 | []=>Unit|sh::l=>sh.T×TS l
def yG(lens:List Nat):(l:List Sh)->TS l->List AV
 | [],_=>[]|sh::l,t=>mkS lens sh t.1::yG lens l t.2
def aX(x y:AV):Prop:=∀(w:World)(F:Nat->Nat->Prop)(η:List Value)(hp:List ax)(v:Value),bq w F η hp x v->bq w F η hp y v
def ef:List AV->List AV->Prop
 | [],[]=>True|x::xs,y::ys=>aX x y/\ef xs ys|_,_=>False
theorem aX.refl(x:AV):aX x x:=λ_ _ _ _ _ h=>h
theorem ef.refl:∀(xs:List AV),ef xs xs
 | []=>ai|x::xs=>⟨aX.refl x,ef.refl xs⟩
theorem ef.length:∀{xs ys:List AV},ef xs ys->xs.length=ys.length
 | [],[],_=>rfl|_::_,_::_,h=>by simp[ef.length h.2]
theorem ef.get:∀{xs ys:List AV},ef xs ys->∀(j:Nat)(y:AV),ys[j]?=some y->∃x,xs[j]?=some x/\aX x y
 | [],[],_,j,y,h=>by simp at h|x::xs,y::ys,h,0,z,hz=>by simp only[avn,aul]at hz;subst hz;exact⟨x,rfl,h.1⟩|x::xs,y::ys,h,j+1,z,hz=>by obtain⟨u,h1,h2⟩:=ef.get h.2 j z (by simpa using hz);exact⟨u,by simpa using h1,h2⟩
theorem ef.parts{cs eJ:List AV}(h:ef cs eJ){w:World}{F:Nat->Nat->Prop}{η:List Value}{hp:List ax}{vs:Array Value}(hr:∀(j:Nat)(x:AV)(v:Value),cs[j]?=some x->vs[j]?=some v->bq w F η hp x v): ∀(j:Nat)(x:AV)(v:Value),eJ[j]?=some x->vs[j]?=some v->bq w F η hp x v:=by intro j y v hy hv;obtain⟨x,h1,h2⟩:=h.get j y hy;exact h2 _ _ _ _ _ (hr j x v h1 hv)
theorem aX.agg{cs eJ:List AV}(h:ef cs eJ):aX (.agg cs) (.agg eJ):=by intro w F η hp v hv;cases hv with|agg _ vs hl h1 hr=>exact .agg _ vs (by rw[hl,h.length]) h1 (h.parts hr)
theorem aX.aG{cs eJ:List AV}(h:ef cs eJ):aX (.aG cs) (.aG eJ):=by intro w F η hp v hv;cases hv with|aG _ vs hl hr=>exact .aG _ vs (by rw[hl,h.length]) (h.parts hr)
theorem aX.bz{f:Nat}{cs eJ:List AV}(h:ef cs eJ):aX (.bz f cs) (.bz f eJ):=by intro w F η hp v hv;cases hv with|bz _ _ vs hl hr=>exact .bz f _ vs (by rw[hl,h.length]) (h.parts hr)
theorem aX.dt{f:Nat}{cs eJ:List AV}(h:ef cs eJ):aX (.dt f cs) (.dt f eJ):=by intro w F η hp v hv;cases hv with|dt _ _ vs hl hr=>exact .dt f _ vs (by rw[hl,h.length]) (h.parts hr)
def QO:List AV->List AV->Bool
 | [],[]=>true| .ptr r o::l,.ptr r' o'::l'=>Nat.beq r r'&&(Nat.beq o o'&&QO l l')|_,_=>false
theorem N3:∀{l l':List AV},QO l l'=true->l=l'
 | [],[],_=>rfl|x::l,[],h=>by simp_all [QO]| [],y::l,h=>by simp[QO]at h|x::l,y::l',h=>by unfold QO at h;split at h;simp_all;rename_i r o l1 r' o' l2 e1 e2;cases e1;cases e2;rw[auq,auq]at h;rw[auN h.1,auN h.2.1,N3 h.2.2];cases h
def eqK:AV->AV->Bool
 | .top,_=>true| .ptr r o,.ptr r' o'=>Nat.beq r r'&&Nat.beq o o'| .mp r,.mp r'=>Nat.beq r r'| .bz f cs,.bz f' eJ=>Nat.beq f f'&&QO cs eJ| .ay (.slice none 0 0),.ay (.slice none 0 0)=>true| .ay (.pointer none),.ay (.pointer none)=>true|_,_=>false
theorem aeK{x y:AV}(h:eqK x y=true):aX y x:=by unfold eqK at h;split at h;exact λ_ _ _ _ v _=>.top v;rw[auq]at h;rw[auN h.1,auN h.2];exact .refl _;rw[auN h];exact .refl _;rw[auq]at h;rw[auN h.1,N3 h.2];exact .refl _;exact .refl _;exact .refl _;cases h
def TU(lens:List Nat):(sh:yE)->AV->Option (List Prop×sh.T)
 | .i k,.ay (.int k' n)=>if k=k' then some ([],n)else none| .b,.ay (.bool b)=>some ([],b)| .s,.ay (.string s)=>some ([],s)| .l,.sl l=>some ([],l)| .l,.clip l=>some ([],l)| .l,.ay (.slice none 0 0)=>some ([],([]:List AV))| .c,.clip l=>some ([],l)| .m,.eo (.i l)=>some ([],l)| .ms,.eo (.s l)=>some ([],l)| .fn,.fn v=>some ([],v)| .k x,y=>(match eqK x y with|true=>some ([],())|false=>none)| .o r,.own r' n=>if r=r' then some ([n=sv lens r],())else none| .q x,y=>some ([y=x],())|_,_=>none
theorem N4{lens:List Nat}{sh:yE}{x:AV}{cs:List Prop}{t:sh.T}(h:TU lens sh x=some (cs,t))(hc:eK cs):aX x (mkC lens sh t):=by unfold TU at h;split at h;split at h;rename_i hk;subst hk;cases h;exact .refl _;cases h;cases h;exact .refl _;cases h;exact .refl _;cases h;exact .refl _;cases h;exact λ_ _ _ _ _ h=>h.mW;cases h;intro w F η hp v hv;cases hv;exact .mV _;cases h;exact .refl _;cases h;exact .refl _;cases h;exact .refl _;cases h;exact .refl _;split at h;rename_i he;exact aeK he;cases h;split at h;rename_i hr;subst hr;cases h;have:=hc.1;subst this;exact .refl _;cases h;cases h;have:=hc.1;subst this;exact .refl _;cases h
def uu(lens:List Nat):(l:List yE)->List AV->Option (List Prop×TCs l)
 | [],[]=>some ([],())|sh::l,x::xs=>(match TU lens sh x with|some (p,t)=>(match uu lens l xs with|some (q,ts)=>some (p++q,(t,ts))|none=>none)|none=>none)|_,_=>none
theorem Ax{lens:List Nat}:∀{l:List yE}{xs:List AV}{cs:List Prop}{t:TCs l},uu lens l xs=some (cs,t)->eK cs->ef xs (QN lens l t)
 | [],[],_,_,_,_=>ai| [],_::_,_,_,h,_=>by simp[uu]at h|_::_,[],_,_,h,_=>by simp[uu]at h|sh::l,x::xs,cs,t,h,hc=>by simp only[uu]at h;split at h;rename_i p t1 h1;split at h;rename_i q ts h2;simp only[aul,aup]at h;obtain⟨rfl,rfl⟩:=h;rw[bV]at hc;exact⟨N4 h1 hc.1,Ax h2 hc.2⟩;cases h;cases h
def N5:AV->Option (List AV)
 | .agg cs=>some cs|_=>none
def N6:AV->Option (List AV)
 | .aG cs=>some cs|_=>none
def N7:AV->Option (Nat×List AV)
 | .bz f cs=>some (f,cs)|_=>none
def E0:AV->Option (Nat×List AV)
 | .dt f cs=>some (f,cs)|_=>none
theorem TV{x:AV}{cs:List AV}(h:N5 x=some cs):x=.agg cs:=by cases x<;>simp only[N5]at h<;>cases h;rfl
theorem TW{x:AV}{cs:List AV}(h:N6 x=some cs):x=.aG cs:=by cases x<;>simp only[N6]at h<;>cases h;rfl
theorem TX{x:AV}{f:Nat}{cs:List AV}(h:N7 x=some (f,cs)):x=.bz f cs:=by cases x<;>simp only[N7]at h<;>cases h;rfl
theorem QP{x:AV}{f:Nat}{cs:List AV}(h:E0 x=some (f,cs)):x=.dt f cs:=by cases x<;>simp only[E0]at h<;>cases h;rfl
def Zq(lens:List Nat)(sh:ui)(v:AV):Option (List Prop×sh.T):=
 match sh with
 | .c x=>TU lens x v
 | .a l=>(N5 v).bind λcs=>uu lens l cs
theorem N8{lens:List Nat}{sh:ui}{x:AV}{cs:List Prop}{t:sh.T}(h:Zq lens sh x=some (cs,t))(hc:eK cs):aX x (mkV lens sh t):=by cases sh with|c y=>have h1:TU lens y x=some (cs,t):=h;exact N4 h1 hc|a l=>have h1:(N5 x).bind (λcs=>uu lens l cs)=some (cs,t):=h;obtain⟨eJ,h2,h3⟩:=avb.1 h1;rw[TV h2];exact aX.agg (Ax h3 hc)
def qY(lens:List Nat):(l:List ui)->List AV->Option (List Prop×TVs l)
 | [],[]=>some ([],())|sh::l,x::xs=>(match Zq lens sh x with|some (p,t)=>(match qY lens l xs with|some (q,ts)=>some (p++q,(t,ts))|none=>none)|none=>none)|_,_=>none
theorem uv{lens:List Nat}:∀{l:List ui}{xs:List AV}{cs:List Prop}{t:TVs l},qY lens l xs=some (cs,t)->eK cs->ef xs (LS lens l t)
 | [],[],_,_,_,_=>ai| [],_::_,_,_,h,_=>by simp[qY]at h|_::_,[],_,_,h,_=>by simp[qY]at h|sh::l,x::xs,cs,t,h,hc=>by simp only[qY]at h;split at h;rename_i p t1 h1;split at h;rename_i q ts h2;simp only[aul,aup]at h;obtain⟨rfl,rfl⟩:=h;rw[bV]at hc;exact⟨N8 h1 hc.1,uv h2 hc.2⟩;cases h;cases h
def ahc(lens:List Nat)(sh:Sh)(v:AV):Option (List Prop×sh.T):=
 match sh with
 | .v x=>Zq lens x v
 | .t l=>(N6 v).bind λcs=>qY lens l cs
 | .f fn l=>(N7 v).bind λp=>if fn=p.1 then qY lens l p.2 else none
 | .m fn l=>(E0 v).bind λp=>(qY lens l p.2).bind λq=>some ((p.1=fn)::q.1,q.2)
theorem Zr{lens:List Nat}{sh:Sh}{x:AV}{cs:List Prop}{t:sh.T}(h:ahc lens sh x=some (cs,t))(hc:eK cs):aX x (mkS lens sh t):=by cases sh with|v y=>have h1:Zq lens y x=some (cs,t):=h;exact N8 h1 hc|t l=>have h1:(N6 x).bind (λcs=>qY lens l cs)=some (cs,t):=h;obtain⟨eJ,h2,h3⟩:=avb.1 h1;rw[TW h2];exact aX.aG (uv h3 hc)|f fn l=>have h1:(N7 x).bind (λp=>if fn=p.1 then qY lens l p.2 else none)=some (cs,t):=h;obtain⟨⟨f,eJ⟩,h2,h3⟩:=avb.1 h1;split at h3;rename_i hf;simp only at hf;subst hf;rw[TX h2];exact aX.bz (uv h3 hc);cases h3|m fn l=>have h1:(E0 x).bind (λp=>(qY lens l p.2).bind λq=>some ((p.1=fn)::q.1,q.2))=some (cs,t):=h;obtain⟨⟨f,eJ⟩,h2,h3⟩:=avb.1 h1;obtain⟨⟨qs,u⟩,h4,h5⟩:=avb.1 h3;simp only[aul,aup]at h5;obtain⟨rfl,rfl⟩:=h5;rw[QP h2,show f=fn from hc.1];exact aX.dt (uv h4 hc.2)
def Dq(lens:List Nat):(l:List Sh)->List AV->Option (List Prop×TS l)
 | [],[]=>some ([],())|sh::l,x::xs=>(match ahc lens sh x with|some (p,t)=>(match Dq lens l xs with|some (q,ts)=>some (p++q,(t,ts))|none=>none)|none=>none)|_,_=>none
theorem H7{lens:List Nat}:∀{l:List Sh}{xs:List AV}{cs:List Prop}{t:TS l},Dq lens l xs=some (cs,t)->eK cs->ef xs (yG lens l t)
 | [],[],_,_,_,_=>ai| [],_::_,_,_,h,_=>by simp[Dq]at h|_::_,[],_,_,h,_=>by simp[Dq]at h|sh::l,x::xs,cs,t,h,hc=>by simp only[Dq]at h;split at h;rename_i p t1 h1;split at h;rename_i q ts h2;simp only[aul,aup]at h;obtain⟨rfl,rfl⟩:=h;rw[bV]at hc;exact⟨Zr h1 hc.1,H7 h2 hc.2⟩;cases h;cases h
def mo.T:mo->Type
 | .dead=>Unit| .box l=>TCs l| .row _ _| .aV _ _=>List AV| .cJ=>List (Int×Value)| .eX=>List (aw×Value)| .jm _=>Unit| .fz _=>Nat×List Int
def mkO(lens:List Nat):(sh:mo)->sh.T->ax
 | .dead,_=>.dead| .box l,t=>.box (QN lens l t)| .row e size,t=>.row e size t| .aV e size,t=>.aV e size t| .cJ,t=>.cJ (.i t)| .eX,t=>.cJ (.s t)| .jm r,_=>.jm r (sv lens r)| .fz e,t=>.fz e t.1 t.2
def TO:List mo->Type
 | []=>Unit|sh::l=>sh.T×TO l
def pz(lens:List Nat):(l:List mo)->TO l->List ax
 | [],_=>[]|sh::l,t=>mkO lens sh t.1::pz lens l t.2
def ahd:(sh:mo)->sh.T->Nat
 | .row _ _,t=>List.length t| .aV _ _,t=>List.length t| .fz _,t=>t.1|_,_=>0
def iV:(l:List mo)->TO l->List Nat
 | [],_=>[]|sh::l,t=>ahd sh t.1::iV l t.2
def lenOf:ax->Nat
 | .row _ _ els| .aV _ _ els=>els.length| .fz _ m _=>m|_=>0
def s6:List ax->List Nat
 | []=>[]|o::l=>lenOf o::s6 l
def E1:ax->Bool
 | .dead=>true|_=>false
def N9:ax->Option (List AV)
 | .box cs=>some cs|_=>none
def rowOf:ax->Option (Nat×Nat×List AV)
 | .row e size els=>some (e,size,els)|_=>none
def mapOf:ax->Option (List (Int×Value))
 | .cJ (.i es)=>some es|_=>none
def E2:ax->Option (List (aw×Value))
 | .cJ (.s es)=>some es|_=>none
theorem QQ{o:ax}(h:E1 o=true):o=.dead:=by grind [E1]
theorem TY{o:ax}{cs:List AV}(h:N9 o=some cs):o=.box cs:=by cases o<;>simp only[N9]at h<;>cases h;rfl
theorem TZ{o:ax}{e size:Nat}{els:List AV}(h:rowOf o=some (e,size,els)):o=.row e size els:=by cases o<;>simp only[rowOf]at h<;>cases h;rfl
def Oa:ax->Option (Nat×Nat×List AV)
 | .aV e size els=>some (e,size,els)|_=>none
theorem T0{o:ax}{e size:Nat}{els:List AV}(h:Oa o=some (e,size,els)):o=.aV e size els:=by cases o<;>simp only[Oa]at h<;>cases h;rfl
def Zs:ax->Option (Nat×Nat×List Int)
 | .fz e m ns=>some (e,m,ns)|_=>none
theorem Zt{o:ax}{e m:Nat}{ns:List Int}(h:Zs o=some (e,m,ns)):o=.fz e m ns:=by cases o<;>simp only[Zs]at h<;>cases h;rfl
def Ob:ax->Option (Nat×Nat)
 | .jm r n=>some (r,n)|_=>none
theorem T5{o:ax}{r n:Nat}(h:Ob o=some (r,n)):o=.jm r n:=by unfold Ob at h;grind
theorem T6{o:ax}{es:List (Int×Value)}(h:mapOf o=some es):o=.cJ (.i es):=by unfold mapOf at h;grind
theorem QR{o:ax}{es:List (aw×Value)}(h:E2 o=some es):o=.cJ (.s es):=by unfold E2 at h;grind
def ahe(lens:List Nat)(sh:mo)(o:ax):Option (List Prop×sh.T):=
 match sh with
 | .dead=>(match E1 o with|true=>some ([],())|false=>none)
 | .box l=>(N9 o).bind λcs=>uu lens l cs
 | .row e size=>(rowOf o).bind λp=>if e=p.1/\size=p.2.1 then some ([],p.2.2)else none
 | .aV e size=>(Oa o).bind λp=>if e=p.1/\size=p.2.1 then some ([],p.2.2)else none
 | .cJ=>(mapOf o).bind λes=>some ([],es)
 | .eX=>(E2 o).bind λes=>some ([],es)
 | .jm r=>(Ob o).bind λp=>(match Nat.beq r p.1 with|true=>some ([p.2=sv lens r],())|false=>none)
 | .fz e=>(Zs o).bind λp=>if e=p.1 then some ([],p.2)else none
def QS:ax->ax->Prop
 | .box cs,.box eJ=>ef cs eJ|o,o'=>o=o'
def fp:List ax->List ax->Prop
 | [],[]=>True|o::l,o'::l'=>QS o o'/\fp l l'|_,_=>False
theorem Zu{lens:List Nat}{sh:mo}{o:ax}{cs:List Prop}{t:sh.T}(h:ahe lens sh o=some (cs,t))(hc:eK cs):QS o (mkO lens sh t)/\ahd sh t=lenOf o:=by cases sh with|dead=>have h1:(match E1 o with|true=>some (([]:List Prop),())|false=>none)=some (cs,t):=h;split at h1;rename_i hd;rw[QQ hd];exact⟨rfl,rfl⟩;cases h1|box l=>have h1:(N9 o).bind (λcs=>uu lens l cs)=some (cs,t):=h;obtain⟨eJ,h2,h3⟩:=avb.1 h1;rw[TY h2];exact⟨Ax h3 hc,rfl⟩|row e size=>have h1:(rowOf o).bind (λp=>if e=p.1/\size=p.2.1 then some (([]:List Prop),p.2.2)else none)=some (cs,t):=h;obtain⟨⟨e',wZ,els⟩,h2,h3⟩:=avb.1 h1;split at h3;rename_i he;simp only at he;obtain⟨rfl,rfl⟩:=he;rw[TZ h2];cases h3;exact⟨rfl,rfl⟩;cases h3|aV e size=>have h1:(Oa o).bind (λp=>if e=p.1/\size=p.2.1 then some (([]:List Prop),p.2.2)else none)=some (cs,t):=h;obtain⟨⟨e',wZ,els⟩,h2,h3⟩:=avb.1 h1;split at h3;rename_i he;simp only at he;obtain⟨rfl,rfl⟩:=he;rw[T0 h2];cases h3;exact⟨rfl,rfl⟩;cases h3|cJ=>have h1:(mapOf o).bind (λes=>some (([]:List Prop),es))=some (cs,t):=h;obtain⟨es,h2,h3⟩:=avb.1 h1;rw[T6 h2];cases h3;exact⟨rfl,rfl⟩|eX=>have h1:(E2 o).bind (λes=>some (([]:List Prop),es))=some (cs,t):=h;obtain⟨es,h2,h3⟩:=avb.1 h1;rw[QR h2];cases h3;exact⟨rfl,rfl⟩|jm r=>have h1:(Ob o).bind (λp=>(match Nat.beq r p.1 with|true=>some ([p.2=sv lens r],())|false=>none))=some (cs,t):=h;obtain⟨⟨r',n⟩,h2,h3⟩:=avb.1 h1;rw[T5 h2];split at h3;rename_i hb;have hb:=auN hb;simp only[aul,aup]at h3;obtain⟨rfl,_⟩:=h3;have:=hc.1;simp only at this hb;subst hb;subst this;exact⟨rfl,rfl⟩;cases h3|fz e=>have h1:(Zs o).bind (λp=>if e=p.1 then some (([]:List Prop),p.2)else none)=some (cs,t):=h;obtain⟨⟨e',m,ns⟩,h2,h3⟩:=avb.1 h1;split at h3;rename_i he;simp only at he;subst he;rw[Zt h2];cases h3;exact⟨rfl,rfl⟩;cases h3
def xw(lens:List Nat):(l:List mo)->List ax->Option (List Prop×TO l)
 | [],[]=>some ([],())|sh::l,x::xs=>(match ahe lens sh x with|some (p,t)=>(match xw lens l xs with|some (q,ts)=>some (p++q,(t,ts))|none=>none)|none=>none)|_,_=>none
theorem uw{lens lens':List Nat}:∀{l:List mo}{xs:List ax}{cs:List Prop}{t:TO l},xw lens l xs=some (cs,t)->eK cs->fp xs (pz lens l t)/\iV l t=s6 xs
 | [],[],_,_,_,_=>⟨ai,rfl⟩| [],_::_,_,_,h,_=>by simp[xw]at h|_::_,[],_,_,h,_=>by simp[xw]at h|sh::l,x::xs,cs,t,h,hc=>by simp only[xw]at h;split at h;rename_i p t1 h1;split at h;rename_i q ts h2;simp only[aul,aup]at h;obtain⟨rfl,rfl⟩:=h;rw[bV]at hc;have h3:=Zu h1 hc.1;have h4:=uw (lens':=lens') h2 hc.2;exact⟨⟨h3.1,h4.1⟩,by simp_all [iV,s6]⟩;cases h;cases h
theorem fp.refl:∀(l:List ax),fp l l
 | []=>ai|o::l=>⟨by cases o with|box cs=>exact ef.refl cs|_=>rfl,fp.refl l⟩
theorem fp.append:∀{a b c d:List ax},fp a b->fp c d->fp (a++c) (b++d)
 | [],[],_,_,_,h=>h|_::_,_::_,_,_,h1,h2=>⟨h1.1,fp.append h1.2 h2⟩
theorem fp.length:∀{a b:List ax},fp a b->a.length=b.length
 | [],[],_=>rfl|_::_,_::_,h=>by simp[fp.length h.2]
theorem fp.get:∀{a b:List ax},fp a b->∀(r:Nat),(a[r]?=none/\b[r]?=none)\/∃o o',a[r]?=some o/\b[r]?=some o'/\QS o o'
 | [],[],_,r=>.inl ⟨by simp,by simp⟩|_::_,_::_,h,0=>.inr ⟨_,_,rfl,rfl,h.1⟩|_::_,_::_,h,r+1=>by simpa using fp.get h.2 r
section
abbrev Cells:=Nat->Nat->Prop
abbrev Gh:=Option (List (List AV))
def gT(b:Bool)(rest:List (List AV)):Gh:=
 match b with
 |true=>some rest
 |false=>none
structure Adv(D:Cells)(Y:Nat->Prop)(w:World)(D':Cells)(Y':Nat->Prop)(w':World):Prop where
 same:cy Y w w'
 cell:∀b o v,D b o->w.cell? ⟨b,o,none⟩=some v->w'.cell? ⟨b,o,none⟩=some v
 kG:∀b es c,D b 0->w.heap[b]?=some (.map es c)->w'.heap[b]?=some (.map es c)
 bD:∀b o,D b o->D' b o
 back:∀b o,D' b o->(D b o\/Y b\/w.heap.size<=b)/\b<w'.heap.size
 adl:∀b,Y' b->(Y b\/w.heap.size<=b)/\b<w'.heap.size
structure Left(D:Cells)(Y:Nat->Prop)(w:World)(D':Cells)(w':World):Prop where
 size:w.heap.size<=w'.heap.size
 cell:∀b o v,D b o->w.cell? ⟨b,o,none⟩=some v->w'.cell? ⟨b,o,none⟩=some v
 kG:∀b es c,D b 0->w.heap[b]?=some (.map es c)->w'.heap[b]?=some (.map es c)
 blocks:∀b,Y b->w'.heap[b]?=w.heap[b]?
 bD:∀b o,D b o->D' b o
 back:∀b o,D' b o->(D b o\/w.heap.size<=b)/\b<w'.heap.size
 gl:∀b,lU b->w'.heap[b]?=w.heap[b]?
def T7(P:Program)(yv:Value)(vals:List Value)(w:World)(R:Ending->World->Prop):Prop:=∃l fn tmps Ay body,yv=.func (.yield l) #[] #[]/\(Instr.yield l vals.toArray).run P w=.ok (.round l fn tmps Ay body) w/\RoundIn Fence.wide 0 P l fn tmps Ay body w R
abbrev JT:=Cells->(Nat->Prop)->Gh->World->Prop
structure Cons(P:Program)(yv:Value)(J:JT):Prop where
 ap0:yv.oneCell'=true
 QT:∀D Y g w D' Y' w',J D Y g w->Adv D Y w D' Y' w'->J D' Y' g w'
 yield:∀(D:Cells)(Y:Nat->Prop) x rest w vals,J D Y (some (x::rest)) w->(∀b o,D b o->b<w.heap.size)->(∀b,Y b->b<w.heap.size)->oW w->cC w D [] [] x vals->
  T7 P yv vals w λe w'=>∃b,e=.returned (.bool b)/\J D Y (gT b rest) w'/\Left D Y w D w'
def YR(kind:Bool)(b:Bool)(v:Value):Prop:=
 match kind with
 |true=>v=.bool b
 |false=>True
def vL(P:Program)(f:FuncId)(args:AV->List AV)(L:List (List AV))(kind:Bool):Prop:=
 ou P f/\∀(J:JT)(yv:Value),Cons P yv J->∀(D:Cells)(Y:Nat->Prop)(rest:List (List AV))(w:World)(vals:List Value),
  J D Y (some (L++rest)) w->(∀b o,D b o->b<w.heap.size)->(∀b,Y b->b<w.heap.size)->oW w->cC w D [] [] (args (.fn yv)) vals->
  CallsIn Fence.wide 0 P f vals.toArray w λe w'=>∃v D' b,e=.returned v/\YR kind b v/\J D' Y (gT b rest) w'/\Left D Y w D' w'
section walk
variable {P:Program} {yv:Value} {J:JT} {D0:Cells} {Y0:Nat->Prop} {gI:World} {nt:Nat}
structure oz(P:Program)(J:JT)(D0:Cells)(Y0:Nat->Prop)(gI:World)(nt:Nat)(Γ:Env Unit)(g:Gh):Prop where
 ok:Γ.Ok
 hP:Γ.P=P
 iG:Γ.nt=nt
 EA:Γ.EA=none
 x:∀b,¬Γ.X b
 z:∀b o,¬Γ.Z b o
 h0:Γ.mP.length=0
 m0:∀r,¬Γ.m0 r
 j:J Γ.F0 (λb=>Y0 b\/Γ.Y b) g Γ.w0
 f0:∀b o,Γ.F0 b o->b<Γ.w0.heap.size
 cell:∀b o v,D0 b o->gI.cell? ⟨b,o,none⟩=some v->Γ.w0.cell? ⟨b,o,none⟩=some v
 kG:∀b es c,D0 b 0->gI.heap[b]?=some (.map es c)->Γ.w0.heap[b]?=some (.map es c)
 y0:∀b,Y0 b->Γ.w0.heap[b]?=gI.heap[b]?
 T8:∀b,Y0 b->b<gI.heap.size
 size:gI.heap.size<=Γ.w0.heap.size
 d0:∀b o,D0 b o->Γ.F0 b o
 f00:∀b o,Γ.F0 b o->D0 b o\/gI.heap.size<=b
 own:∀b,Γ.Y b->gI.heap.size<=b
 gl:∀b,lU b->Γ.w0.heap[b]?=gI.heap[b]?
variable {Γ:Env Unit} {s s':AS Unit} {a:Act} {w w' w2:World} {η:List Value} {g g2:Gh}
theorem oz.H8(hB:oz P J D0 Y0 gI nt Γ g)(hr:Rel Γ s a w η):a.defers=[]:=by cases hd:a.defers with|nil=>rfl|cons d l=>obtain⟨r,_,_,h⟩:=hr.marks.all d (by simp_all);exact(hB.m0 r h).elim
theorem oz.live(hr:Rel Γ s a w η):∀b,aS η s.hp b->b<w.heap.size/\(Γ.w0.heap.size<=b\/Γ.Y b):=λb ⟨q,o,v,g1,g2,g3,g4⟩=>
 ⟨hr.heap.block g1 g2 g3 g4,(hr.cu q o v b g1 g2 g3 g4).1⟩
theorem oz.now(hC:Cons P yv J)(hB:oz P J D0 Y0 gI nt Γ g)(hr:Rel Γ s a w η):J (bw Γ w η s.hp) (λb=>Y0 b\/aS η s.hp b) g w:=by
 have cY:=hr.keeps.size;refine hC.QT _ _ _ _ _ _ _ hB.j ⟨?_,hr.ext.cell,hr.ext.kG,hr.ext.bD,λb o hf=>⟨?_,hf.2.1⟩,λb hb=>?_⟩;exact⟨hr.keeps.os,hr.keeps.tape,hr.keeps.output,cY,λk hk hx=>hr.keeps.block k hk λh=>h.elim (hB.x k) λh=>hx (.inr h)⟩
 ·rcases hf.1 with h|h|h;all_goals simp_all
 rcases hb with h|h;exact⟨.inl (.inl h),by have:=hB.T8 b h;have:=hB.size;omega⟩;obtain⟨h1,h2⟩:=oz.live hr b h;grind
def s7(Γ:Env Unit)(w2:World)(D2:Cells)(Y:Nat->Prop):Env Unit:={ P:=Γ.P,w0:=w2,F0:=D2,X:=λ_=>False,Y:=Y,Inv:=λ_ _=>True,nt:=Γ.nt,EA:=none,m0:=λ_=>False,Z:=λ_ _=>False,Cs:=[],mP:=[] }
theorem oz.step(hC:Cons P yv J)(hB:oz P J D0 Y0 gI nt Γ g)(hr:Rel Γ s a w η){D2:Cells}(hj:J D2 (λb=>Y0 b\/aS η s.hp b) g2 w2)(hl:Left (bw Γ w η s.hp) (λb=>Y0 b\/aS η s.hp b) w D2 w2): oz P J D0 Y0 gI nt (s7 Γ w2 D2 (aS η s.hp)) g2/\Rel (s7 Γ w2 D2 (aS η s.hp)) s a w2 η:=by
 have cY:=hr.keeps.size;have fM:=oz.live hr;have S1:(s7 Γ w2 D2 (aS η s.hp)).Ok:=⟨rfl,λ_ h=>h.elim,λb hb=>auK (fM b hb).1 hl.size,λ_ _ _ _ _ _=>ai,λ_ _ h=>h.elim,λp hp=>by obtain⟨T,h1⟩:=(hr.iK hB.ok) p hp;exact⟨T,(hl.gl p.1 ⟨p,hp,rfl⟩).trans h1⟩,λb hb h=>h.elim (λh=>h) (hr.gx hB.ok hb)⟩;have oY:∀b o,D2 b o->ka η s.hp b o:=by intro b o hb;rcases (hl.back b o hb).1 with h|h;exact h.2.2.2;(refine(bp b o).2 λq u hu Sl=>?_;have hq:q<s.hp.length:=by rw[<-hr.heap.len];exact(aun.1 hu).1);(have hg:s.hp[q]?=some s.hp[q]:=by simp[hq]);refine⟨_,hg,?_⟩;cases hx:s.hp[q]with|dead=>exact ai|_=>exfalso;rw[hx]at hg;have:=hr.heap.block hg ai hu Sl;omega
 have he:Ext w (bw Γ w η s.hp) η s.hp w2 (bw (s7 Γ w2 D2 (aS η s.hp)) w2 η s.hp) η s.hp:= ⟨hl.cell,hl.kG,λb o hf=>⟨.inl (hl.bD b o hf),auK hf.2.1 hl.size,λh=>h.elim (λh=>h) λh=>h,hf.2.2.2⟩,λ_ _ h=>h,λ_ _ h=>h,λ_ _ _ h=>h⟩;refine⟨⟨S1,hB.hP,hB.iG,rfl,λ_ h=>h,λ_ _ h=>h,rfl,λ_ h=>h,hj,λb o hb=>(hl.back b o hb).2,λb o v hd hc=>?_,λb es c hd hc=>?_,λb hb=>?_,hB.T8,?_,λb o hd=>?_,λb o hf=>?_,λb hb=>?_,λb hb=>(hl.gl b hb).trans ((hr.keeps.block b (hB.ok.iK.lt hb) (hB.ok.gx b hb)).trans (hB.gl b hb))⟩, ⟨hr.nt,λt=>(hr.tmps t).ext he,⟨hr.heap.len,λq o v h1 h2=>?_,hr.heap.sep⟩,λq o v b h1 h2 h3 h4=>⟨.inr ⟨q,o,v,h1,h2,h3,h4⟩,λ_ h=>h.elim (λh=>h) λh=>h⟩,cy.refl _ _,ai,?_,?_⟩⟩;exact hl.cell b o v (hr.ext.bD _ _ (hB.d0 b o hd)) (hr.ext.cell b o v (hB.d0 b o hd) (hB.cell b o v hd hc));exact hl.kG b es c (hr.ext.bD _ _ (hB.d0 b 0 hd)) (hr.ext.kG b es c (hB.d0 b 0 hd) (hB.kG b es c hd hc));show w2.heap[b]?=_;rw[hl.blocks b (.inl hb),<-hB.y0 b hb];have h1:=hB.T8 b hb;have h2:=hB.size;exact hr.keeps.block b (by omega) λh=>h.elim (hB.x b) λh=>by have:=hB.own b h;omega
 show gI.heap.size<=w2.heap.size;have h1:=hB.size;have h2:=hl.size;omega;exact hl.bD b o (hr.ext.bD _ _ (hB.d0 b o hd));have h1:=hB.size;rcases (hl.back b o hf).1 with h|h;rcases h.1 with h|h|h;exact hB.f00 b o h;exact .inr (by omega);exact .inr (hB.own b h);exact .inr (by omega);have h1:=hB.size;rcases (fM b hb).2 with h|h;omega;exact hB.own b h
 ·by_cases hv:o.live;exact(hr.heap.obj q o v h1 h2).ext he hl.size λb hb _=>hl.blocks b (.inr ⟨q,o,v,h1,hv,h2,hb⟩)
  ·cases o<;>first|exact ai|exact(hv ai).elim
 rw[hB.H8 hr];exact⟨λd hd=>(by cases hd),List.Pairwise.nil⟩;refine⟨λ_ _ _ _ h=>h,λ_ _ _ _ h=>h,λb o hb=>⟨.inl hb,(hl.back b o hb).2,λh=>h.elim (λh=>h) λh=>h,oY b o hb⟩,λr a h=>?_,λr a h=>?_,λr n v h=>?_⟩;simp[s7]at h;simp[s7]at h;simp[s7,bk]at h
def Dr(P:Program)(J:JT)(D0:Cells)(Y0:Nat->Prop)(gI:World)(nt:Nat)(K:AS Unit->Gh->Prop)(a':Act)(w':World):Prop:=∃(vK:Env Unit)(s':AS Unit)(bj:List Value)(g':Gh),oz P J D0 Y0 gI nt vK g'/\K s' g'/\Rel vK s' a' w' bj
theorem Dr.mono{K K':AS Unit->Gh->Prop}(hk:∀s g,K s g->K' s g){a':Act}(h:Dr P J D0 Y0 gI nt K a' w'):Dr P J D0 Y0 gI nt K' a' w':=let ⟨vK,s',bj,g',h1,h2,h3⟩:=h;⟨vK,s',bj,g',h1,hk _ _ h2,h3⟩
def dY(P:Program)(J:JT)(D0:Cells)(Y0:Nat->Prop)(gI:World)(nt:Nat)(c:Code)(Q:Exit->AS Unit->Gh->Prop)(s:AS Unit)(g:Gh):Prop:=∀Γ a w η,oz P J D0 Y0 gI nt Γ g->Rel Γ s a w η->c.wpIn Fence.wide 0 P (λe=>Dr P J D0 Y0 gI nt (Q e)) a w
theorem oz.fO(hB:oz P J D0 Y0 gI nt Γ g):Γ.fO=Fence.wide:=by simp only[Env.fO,hB.EA];rfl
theorem dY.of{c:Code}{Q:Exit->AS Unit->Gh->Prop}(h:∀Γ:Env Unit,Γ.Ok->Γ.P=P->Γ.nt=nt->Γ.mP.length=0->gk Γ c (λe s'=>Q e s' g) s):dY P J D0 Y0 gI nt c Q s g:=by intro Γ a w η hB hr;have h1:=h Γ hB.ok hB.hP hB.iG hB.h0 a w η hr;rw[hB.fO,hB.hP]at h1;exact wpIn_mono h1 λe a' w' ⟨s',bj,h2,h3⟩=>⟨Γ,s',bj,g,hB,h2,h3⟩
def fP(P:Program)(J:JT)(D0:Cells)(Y0:Nat->Prop)(gI:World)(nt:Nat)(ops:Array Oper)(K:AS Unit->Gh->Prop)(l:List Oper)(s:AS Unit)(g:Gh):Prop:=∀Γ a w η (Qc:Exit->Act->World->Prop),oz P J D0 Y0 gI nt Γ g->(∀a' w',Dr P J D0 Y0 gI nt K a' w'->Qc .normal a' w')->Rel Γ s a w η->wpListIn Fence.wide 0 P ops Qc l a w
theorem fP.nil{ops:Array Oper}{K:AS Unit->Gh->Prop}(h:K s g):fP P J D0 Y0 gI nt ops K [] s g:=λΓ a w η _ hB hQ hr=>hQ a w ⟨Γ,s,η,g,hB,h,hr⟩
theorem fP.calm{ops:Array Oper}{K N:AS Unit->Gh->Prop}{o:Oper}{rest:List Oper}(hg:∀(Γ:Env Unit) a w η,Rel Γ s a w η->Region.wanted o (yielded ops a.tmps)=true)(h:∀Γ:Env Unit,Γ.Ok->Γ.P=P->Γ.nt=nt->Γ.mP.length=0->bR Γ o s (λs'=>N s' g))(hn:∀s',N s' g->fP P J D0 Y0 gI nt ops K rest s' g):fP P J D0 Y0 gI nt ops K (o::rest) s g:=by intro Γ a w η Qc hB hQ hr;simp only[wpListIn];rw[if_pos (hg Γ a w η hr)];have h1:=h Γ hB.ok hB.hP hB.iG hB.h0 a w η (wpListIn Fence.wide 0 P ops Qc rest) Qc (λs' a' w' bj hN gJ=>hn s' hN Γ a' w' bj Qc hB hQ gJ) hr;rw[hB.fO,hB.hP]at h1;exact h1
theorem fP.skip{ops:Array Oper}{K:AS Unit->Gh->Prop}{o:Oper}{rest:List Oper}(hg:∀(Γ:Env Unit) a w η,Rel Γ s a w η->Region.wanted o (yielded ops a.tmps)=false)(hd:eu nt o.dst)(h:fP P J D0 Y0 gI nt ops K rest (s.put o.dst (.ay (.tuple #[]))) g):fP P J D0 Y0 gI nt ops K (o::rest) s g:=by intro Γ a w η Qc hB hQ hr;simp only[wpListIn];rw[if_neg (by grind)];exact⟨λ_ _=>trivial,h Γ _ w η Qc hB hQ (hr.put (da (by rw[hB.iG];exact hd)) (.ay _))⟩
theorem Rel.Oc(hB:oz P J D0 Y0 gI nt Γ g)(hr:Rel Γ s a w η){d:Option Nat}(hd:eu nt d){x:AV}{v:Value}(hx:bq w (bw Γ w η s.hp) η s.hp x v):Rel Γ (s.put d x) (a.put d v) w η:=hr.put (da (by rw[hB.iG];exact hd)) hx
theorem Az{o:Oper}{c:Call}{x:Operand}(ho:o.op=.call c)(hc:c.callee=.value x){l:Nat}(hx:a.eval x=.func (.yield l) #[] #[]){n:Next}(h:(Instr.yield l (c.args.map a.eval)).run P w=.ok n w): (execOp a.eval o).run P w=.ok n w:=by simp_all [execOp,resolve,Deferred.ofValue,invoke]
theorem fP.yield(hC:Cons P yv J){ops:Array Oper}{K:AS Unit->Gh->Prop}{o:Oper}{rest:List Oper}(hg:o.guard=none){c:Call}{x:Operand}(ho:o.op=.call c)(hc:c.callee=.value x)(hx:s.ev x=.fn yv)(hd:eu nt o.dst){more:List (List AV)}(hgh:g=some (((c.args.toList.map s.ev).map (AV.sX 0 s.hp))::more))(h:∀b,fP P J D0 Y0 gI nt ops K rest (s.put o.dst (.ay (.bool b))) (gT b more)):fP P J D0 Y0 gI nt ops K (o::rest) s g:=by intro Γ a w η Qc hB hQ hr;simp only[wpListIn];rw[if_pos (by simp_all [Region.wanted])];have hj:=hB.now hC hr;rw[hgh]at hj;have eU:=hr.ev x;rw[hx]at eU;generalize hv:a.eval x=v at eU;cases eU with|fn v h1=>(obtain⟨l,fn,tmps,Ay,body,rfl,jt,wb⟩:=hC.yield _ _ _ _ _ _ hj (λ_ _=>fg) (λb hb=>hb.elim (λh=>by have:=hB.T8 b h;have:=hB.size;have:=hr.keeps.size;omega) λh=>(oz.live hr b h).1) (hr.iK hB.ok) (ox hr _ _ (ir hr c.args.toList));refine⟨λ_ _=>trivial,?_⟩;have bW:∀c',o.op ≠ .defer c':=by simp_all);(have bl:(c.args.toList.map a.eval).toArray=c.args.map a.eval:=by grind);rw[bl]at jt;rw[Oper.semAt_eq _ _ _ bW,Az ho hc hv jt];refine⟨λh=>(by cases h),?_⟩;refine RoundIn.mono wb λe w' ⟨b,he,vJ,hl⟩=>?_;subst he;obtain⟨hB2,oU⟩:=hB.step hC hr vJ hl;exact h b _ _ _ _ Qc hB2 hQ (oU.Oc hB2 hd (.ay _))
theorem fP.call(hC:Cons P yv J){ops:Array Oper}{K:AS Unit->Gh->Prop}{o:Oper}{rest:List Oper}(hg:o.guard=none){c:Call}{x:Operand}(ho:o.op=.call c)(hc:c.callee=.value x){f:FuncId}{caps:List AV}(hx:s.ev x=.bz f caps)(hd:eu nt o.dst){args:AV->List AV}{L more:List (List AV)}{kind:Bool}(hF:vL P f args L kind)(bl:((c.args.toList.map s.ev++caps).map (AV.sX 0 s.hp))=args (.fn yv))(hgh:g=some (L++more))(h:∀b,fP P J D0 Y0 gI nt ops K rest (s.put o.dst (match kind with|true=>.ay (.bool b)|false=>.top)) (gT b more)):fP P J D0 Y0 gI nt ops K (o::rest) s g:=by
 intro Γ a w η Qc hB hQ hr;simp only[wpListIn];rw[if_pos (by simp_all [Region.wanted])];have hj:=hB.now hC hr;rw[hgh]at hj;have eU:=hr.ev x;rw[hx]at eU;generalize hv:a.eval x=v at eU;cases eU with
  |bz _ _ vs hl eD=>(refine⟨λ_ _=>trivial,?_⟩;have bW:∀c',o.op ≠ .defer c':=by simp_all);(have ee:(execOp a.eval o).run P w=.ok (.enter f (c.args.map a.eval++vs)) w:=by have:=gK (Γ:=Γ) (a:=a) (w:=w) ho hc (f:=f) (by rw[hB.hP];exact hF.1) hv;rw[hB.hP]at this;exact this);(rw[Oper.semAt_eq _ _ _ bW,ee];have hav:(c.args.map a.eval++vs)=(c.args.toList.map a.eval++vs.toList).toArray:=by simp);(have ej:cC w (bw Γ w η s.hp) η s.hp caps vs.toList:=by grind [dK]);have iD:=ox hr _ _ (eO _ _ (ir hr c.args.toList) ej);rw[bl]at iD;refine⟨λh=>(by cases h),?_⟩;rw[hav];refine CallsIn.mono (hF.2 J yv hC _ _ more w _ hj (λ_ _=>fg) (λb hb=>hb.elim (λh=>by have:=hB.T8 b h;have:=hB.size;have:=hr.keeps.size;omega) λh=>(oz.live hr b h).1) (hr.iK hB.ok) iD) λe w' ⟨v,D',b,he,hv,vJ,hl⟩=>?_;subst he;obtain⟨hB2,oU⟩:=hB.step hC hr vJ hl;refine h b _ _ _ _ Qc hB2 hQ (oU.Oc hB2 hd ?_);cases kind with
  |true=>simp only[YR]at hv;subst hv;exact .ay _|false=>exact .top _
variable {Q:Exit->AS Unit->Gh->Prop}
theorem dY.region{id:Nat}{l:List Oper}(h:fP P J D0 Y0 gI nt l.toArray (Q .normal) l s g):dY P J D0 Y0 gI nt (.region id l.toArray false) Q s g:=λΓ a w η hB hr=>wpIn_region_lit (h Γ a w η _ hB (λ_ _ h=>h) hr)
def T9(N:AS Unit->Gh->Prop)(Q:Exit->AS Unit->Gh->Prop):Exit->AS Unit->Gh->Prop
 | .normal,s,g=>N s g|e,s,g=>Q e s g
def AA(id:Nat)(Q:Exit->AS Unit->Gh->Prop):Exit->AS Unit->Gh->Prop
 | .exit id',s,g=>if id'=id then Q .normal s g else Q (.exit id') s g|e,s,g=>Q e s g
theorem dY.mono{c:Code}{Q':Exit->AS Unit->Gh->Prop}(h:dY P J D0 Y0 gI nt c Q s g)(hq:∀e s g,Q e s g->Q' e s g):dY P J D0 Y0 gI nt c Q' s g:=λΓ a w η hB hr=>wpIn_mono (h Γ a w η hB hr) λe _ _ hp=>hp.mono (hq e)
theorem dY.seq{x y:Code}(h:dY P J D0 Y0 gI nt x (T9 (dY P J D0 Y0 gI nt y Q) Q) s g):dY P J D0 Y0 gI nt (.seq x y) Q s g:=by intro Γ a w η hB hr;refine wpIn_seq (wpIn_mono (h Γ a w η hB hr) λe a' w' hq=>?_);cases e with|normal=>obtain⟨vK,s',bj,g',h1,h2,h3⟩:=hq;exact h2 vK a' w' bj h1 h3|_=>exact hq
theorem dY.skip(h:Q .normal s g):dY P J D0 Y0 gI nt .skip Q s g:=λΓ _ _ η hB hr=>wpIn_skip ⟨Γ,s,η,g,hB,h,hr⟩
theorem dY.exit{id:Nat}(h:Q (.exit id) s g):dY P J D0 Y0 gI nt (.exit id) Q s g:=λΓ _ _ η hB hr=>wpIn_exit ⟨Γ,s,η,g,hB,h,hr⟩
theorem dY.ret(h:Q .ret s g):dY P J D0 Y0 gI nt .ret Q s g:=λΓ _ _ η hB hr=>wpIn_ret ⟨Γ,s,η,g,hB,h,hr⟩
theorem dY.label{l:Nat}(h:Q .normal s g):dY P J D0 Y0 gI nt (.label l) Q s g:=λΓ _ _ η hB hr=>wpIn_label ⟨Γ,s,η,g,hB,h,hr⟩
theorem dY.block{id:Nat}{c:Code}(h:dY P J D0 Y0 gI nt c (AA id Q) s g):dY P J D0 Y0 gI nt (.block id c) Q s g:=by intro Γ a w η hB hr;refine wpIn_block (wpIn_mono (h Γ a w η hB hr) λe a' w' hq=>?_);obtain⟨vK,s',bj,g',h1,h2,h3⟩:=hq;cases e with|exit id'=>simp only[AA]at h2;simp only[Exit.inBlock];split;rename_i hid;rw[if_pos hid]at h2;exact⟨vK,s',bj,g',h1,h2,h3⟩;rename_i hid;rw[if_neg hid]at h2;exact⟨vK,s',bj,g',h1,h2,h3⟩|_=>exact⟨vK,s',bj,g',h1,h2,h3⟩
theorem dY.cond{c:Operand}{x y:Code}{b:Bool}(hb:s.ev c=.ay (.bool b))(h1:b=true->dY P J D0 Y0 gI nt x Q s g)(h2:b=false->dY P J D0 Y0 gI nt y Q s g):dY P J D0 Y0 gI nt (.cond c x y) Q s g:=by intro Γ a w η hB hr;have hc:=hr.ev c;rw[hb]at hc;exact wpIn_cond_split hc.aB (λht=>h1 ht Γ a w η hB hr) λht=>h2 ht Γ a w η hB hr
def Od(s s':AS Unit):Prop:=∀Γ:Env Unit,Γ.Ok->Γ.mP.length=0->∀a w η,Rel Γ s a w η->∃bj,Rel Γ s' a w bj
theorem dY.sr{c:Code}(hw:Od s s')(h:dY P J D0 Y0 gI nt c Q s' g):dY P J D0 Y0 gI nt c Q s g:=λΓ a w η hB hr=>let ⟨bj,gJ⟩:=hw Γ hB.ok hB.h0 a w η hr;h Γ a w bj hB gJ
theorem dY.loop{c:Code}{β:Type}(I:β->Prop)(st:β->AS Unit)(gh:β->Gh)(μ:β->Nat)(b0:β)(hI:I b0)(h0:Od s (st b0))(hg:g=gh b0)(round:∀b,I b->dY P J D0 Y0 gI nt c (T9 (λs' g'=>∃b',I b'/\Od s' (st b')/\g'=gh b'/\μ b' < μ b) Q) (st b) (gh b)):dY P J D0 Y0 gI nt (.loop c) Q s g:=by
 intro Γ a w η hB hr;obtain⟨Cs,hr0⟩:=h0 Γ hB.ok hB.h0 a w η hr;subst hg;have key:∀(n:Nat)(b:β),I b->μ b=n->∀Γ a w η,oz P J D0 Y0 gI nt Γ (gh b)->Rel Γ (st b) a w η->∀(f:Frame)(k:List Item)(cs:List Frame),f.roundOf=Fence.wide.round->Fence.wide.fn f.fn->Fence.wide.room (cs.length+1+0)->
   ∃e a' w',Dr P J D0 Y0 gI nt (Q e) a' w'/\ArrivesIn (Machine.fenced P Fence.wide) P (lone (f.atR a (.code c :: .inLoop c::k)) cs w) f k cs e a' w':=by
  intro n
  induction n using Nat.strongRecOn with
  |_ n ih=>
   intro b hIb hb Γ a w η hB hr f k cs sE hf fi;obtain⟨e,wc,we,hq,mQ⟩:=round b hIb Γ a w η hB hr f (.inLoop c::k) cs sE hf fi
   cases e with
   |normal=>
    obtain⟨Sm,s1,oT,g1,hB1,⟨b',amy,hw',S8,aF⟩,Dc⟩:=hq;obtain⟨amz,amA⟩:=hw' Sm hB1.ok hB1.h0 _ _ _ Dc;subst S8;obtain⟨aeM,aeN,aeO,Ua,E3⟩:=ih (μ b') (hb▸aF) b' amy rfl Sm wc we amz hB1 amA f k cs sE hf fi;exact⟨aeM,aeN,aeO,Ua,.of_steps (StepsIn.trans mQ (.one (fenced_calm hf fi rfl) stepR_inLoop)) E3⟩
   |exit id=>exact⟨_,wc,we,hq,by assumption⟩
   |goto l=>exact⟨_,wc,we,hq,by assumption⟩
   |ret=>exact⟨_,wc,we,hq,by assumption⟩
   |panic ch=>exact⟨_,wc,we,hq,by assumption⟩
   |outgrown=>exact⟨_,wc,we,hq,by assumption⟩
 intro f k cs sE hf fi;obtain⟨e,a',w',hq,mQ⟩:=key _ b0 hI rfl Γ a w Cs hB hr0 f k cs sE hf fi;exact⟨e,a',w',hq,.of_steps (.one (fenced_calm hf fi rfl) stepR_loop) mQ⟩
end walk
def Oe(kind b:Bool)(x:AV):Prop:=
 match kind with
 |true=>x=.ay (.bool b)
 |false=>True
def Ub(tab:Nat->Option TD)(rs:List ResultVar)(kind:Bool)(more:List (List AV)):Exit->AS Unit->Gh->Prop
 | .normal,s,g| .ret,s,g=>(match fZ tab s rs with|some l=>∃b,g=gT b more/\Oe kind b (iQ l)|none=>False)|_,_,_=>False
theorem H9{P:Program}{tab:Nat->Option TD}(aC:bn P tab){f:FuncId}{fn:Func}{c:Code}{args:AV->List AV}{L:List (List AV)}{kind:Bool}(hf:P.funcs[f]?=some fn)(hb:fn.body=some c)(gO:(fn.name == "runtime.NumGoroutine")=false)(hn:∀v,(args v).length<=fn.ntmps)(h:∀(J:JT)(yv:Value),Cons P yv J->∀D0 Y0 gI more,dY P J D0 Y0 gI fn.ntmps c (Ub tab fn.results.toList kind more) ⟨dS 0 (args (.fn yv)),[],()⟩ (some (L++more))):vL P f args L kind:=by
 refine⟨⟨fn,hf,gO,by rw[hb];rfl⟩,λJ yv hC D Y more w vals hj hD hY hgl hv=>?_⟩;let Γ:Env Unit:={ P:=P,w0:=w,F0:=D,X:=λ_=>False,Y:=λ_=>False,Inv:=λ_ _=>True,nt:=fn.ntmps,EA:=none,m0:=λ_=>False,Z:=λ_ _=>False,Cs:=[],mP:=[] };have aN:Γ.Ok:=⟨rfl,λ_ h=>h.elim,λ_ h=>h.elim,λ_ _ _ _ _ h=>h,λ_ _ h=>h.elim,hgl,by grind⟩;have hvl:=hv.length;have iM:∀b o,D b o->bw Γ w [] [] b o:=λb o hb=>⟨.inl hb,hD b o hb,λh=>h.elim (λh=>h) λh=>h,λr v hr=>by simp at hr⟩;have hB:oz P J D Y w fn.ntmps Γ (some (L++more)):=by refine⟨aN,rfl,rfl,rfl,λ_ h=>h,λ_ _ h=>h,rfl,λ_ h=>h,?_,hD,λ_ _ _ _ h=>h,λ_ _ _ _ h=>h,λ_ _=>rfl,hY,aur _,λ_ _ h=>h,λ_ _ h=>.inl h,λ_ h=>h.elim,λ_ _=>rfl⟩;grind
 have hrel:Rel Γ ⟨dS 0 (args (.fn yv)),[],()⟩ ⟨vals.toArray++Array.replicate (fn.ntmps-vals.toArray.size) undef,[]⟩ w []:=by have hna:=hn (.fn yv);refine⟨by grind,λt=>?_,⟨rfl,λr o v h=>by simp at h,λr r' o o' v v' b _ h=>by simp at h⟩,λr o v b h=>by simp at h,cy.refl _ w,ai,⟨λd hd=>(by cases hd),List.Pairwise.nil⟩,⟨λ_ _ _ _ h=>h,λ_ _ _ _ h=>h,iM,λ_ _ h=>h,λ_ _ h=>h,λ_ _ _ h=>h⟩⟩;have:=Ab (hp:=[]) (η:=[]) (args (.fn yv)) vals 0 hv t;simp only[Nat.not_lt_zero,if_false,or_false,Nat.sub_zero]at this;show bq w _ _ _ _ ((vals.toArray++Array.replicate (fn.ntmps-vals.toArray.size) undef).getD t undef);rw[Ac];exact this.bD iM
 have kP:=h J yv hC D Y w more Γ _ w _ hB hrel;refine callsIn_of_wp_marks (F:=Fence.wide) hf hb trivial (wpIn_mono (F:=Fence.wide) kP λe a' w' ⟨vK,s',bj,g',G3,hq,gJ⟩=>?_);have fin:(∃l,fZ tab s' fn.results.toList=some l/\∃b,g'=gT b more/\Oe kind b (iQ l))->
   LeavesInM Fence.wide 0 P fn a'.tmps (λe w'=>∃v D' b,e=.returned v/\YR kind b v/\J D' Y (gT b more) w'/\Left D Y w D' w') a'.defers .returning w':=by
  intro ⟨l,hl,b,S8,hR⟩;have hd:=G3.H8 gJ;obtain⟨ts,ds⟩:=a';simp only at hd;subst hd;obtain⟨v,h1,h2⟩:=qK (fn:=fn) (by rw[G3.hP];exact aC) gJ hl;rw[G3.hP]at h1;have vJ:=G3.now hC gJ;have cY:=gJ.keeps.size;have hB0:=G3.size;refine⟨v,h1,v,bw vK w' bj s'.hp,b,rfl,?_,?_,⟨by omega,λk o u hk hc=>?_,λk es c hk hc=>?_,λk hk=>?_,λk o hk=>?_,λk o hk=>⟨?_,hk.2.1⟩,λk hk=>(gJ.keeps.block k (G3.ok.iK.lt hk) (G3.ok.gx k hk)).trans (G3.gl k hk)⟩⟩
  ·cases kind with
   |true=>simp only[Oe]at hR;rw[hR]at h2;exact h2.aB
   |false=>assumption
  ·rw[<-S8];refine hC.QT _ _ _ _ _ _ _ vJ ⟨cy.refl _ _,λ_ _ _ _ h=>h,λ_ _ _ _ h=>h,λ_ _ h=>h,λk o h=>⟨.inl h,h.2.1⟩,λk hk=>⟨.inl (.inl hk),?_⟩⟩;have:=hY k hk;omega
  ·exact gJ.ext.cell k o u (G3.d0 k o hk) (G3.cell k o u hk hc)
  ·exact gJ.ext.kG k es c (G3.d0 k 0 hk) (G3.kG k es c hk hc)
  ·rw[<-G3.y0 k hk];have:=hY k hk;exact gJ.keeps.block k (by omega) λh=>h.elim (G3.x k) λh=>by have:=G3.own k h;omega
  ·exact gJ.ext.bD _ _ (G3.d0 k o hk)
  ·rcases hk.1 with h|h|h
   ·exact G3.f00 k o h
   ·omega
   ·exact .inr (G3.own k h)
 cases e with|normal=>simp only[Ub]at hq;split at hq;rename_i l hl;exact fin ⟨l,hl,hq⟩;simp_all|ret=>simp only[Ub]at hq;split at hq;rename_i l hl;exact fin ⟨l,hl,hq⟩;simp_all|_=>exact hq.elim
end
section
variable {P:Program} {Γ:Env Unit} {s s':AS Unit} {a:Act} {w w' w2:World} {η bj:List Value} {hp hp':List ax} {F:Cells}
theorem Ds(h:ep w F η hp){b:Nat}(hl:aS η hp b):(∃vs T p,w.heap[b]?=some (.cells vs T p))\/∃en c,w.heap[b]?=some (.map en c):=by obtain⟨r,o,v,g1,g2,g3,g4⟩:=hl;have gn:=h.obj r o v g1 g3;cases o with|dead=>exact g2.elim|box cs=>obtain⟨b',vs,T,rfl,h1,_⟩:=gn;simp_all [dn]|row e size els=>obtain⟨_,xs,h1,_⟩:=gn;obtain⟨cur,h5⟩:=h1.lt g4;simp_all|cJ es=>obtain⟨b',en,c,rfl,h1,_⟩:=gn;simp_all [dn]|jm q k=>obtain⟨b',vs,rfl,h1,_⟩:=gn;simp_all [dn]|aV e size els=>obtain⟨_,xs,h1,_⟩:=gn;obtain⟨cur,h5⟩:=h1.lt g4;simp_all|fz e m ns=>obtain⟨cur,h5⟩:=gp.lt gn g4;simp_all
theorem Dt(h:ep w F η hp){l:Nat}{r:Loop}(hl:w.heap[l]?=some (.loop r)):¬aS η hp l:=by grind [Ds]
theorem Ia(h:ep w F η hp){l:Nat}{r:Option (List Deferred)}(hl:w.heap[l]?=some (.deferred r)):¬aS η hp l:=by grind [Ds]
theorem oA(hlen:η.length=hp.length){b o:Nat}(h:¬aS η hp b):ka η hp b o:=by (refine(bp b o).2 λq u hu Sl=>?_;have hq:q<hp.length:=by rw[<-hlen];exact(aun.1 hu).1);(have hg:hp[q]?=some hp[q]:=by simp[hq]);refine⟨_,hg,?_⟩;cases hx:hp[q]with|dead=>exact ai|_=>exfalso;rw[hx]at hg;exact h ⟨q,_,u,hg,ai,hu,Sl⟩
theorem Rel.adn(hr:Rel Γ s a w η){l:Nat}{r:Loop}(hx:Γ.X l)(hl:w.heap[l]?=some (.loop r))(ob:Obj){I:Unit->World->Prop}(hI:I () (w.putObj l ob)):Rel { Γ with Inv:=I } s a (w.putObj l ob) η:=by
 have hs:∀k,k≠l->(w.putObj l ob).heap[k]?=w.heap[k]?:=λk hk=>World.putObj_heap_other hk;have he:Ext w (bw Γ w η s.hp) η s.hp (w.putObj l ob) (bw { Γ with Inv:=I } (w.putObj l ob) η s.hp) η s.hp:=by refine⟨λb o v hf hc=>?_,λb es c hf hc=>?_,λb o hf=>⟨hf.1,by simpa using hf.2.1,hf.2.2⟩,λ_ _ h=>h,λ_ _ h=>h,λ_ _ _ h=>h⟩;rw[World.cell?_of_block (hs b λe=>hf.2.2.1 (.inl (e▸hx)))];exact hc;grind
 have KV:∀(q:Nat)(o:ax)(v:Value)(b:Nat),s.hp[q]?=some o->o.live->η[q]?=some v->dn v=some b->b≠l:=by intro q o v b h1 h2 h3 h4 hb;subst hb;exact(hr.cu q o v b h1 h2 h3 h4).2 0 (.inl hx)
 refine⟨hr.nt,λt=>(hr.tmps t).ext he,⟨hr.heap.len,λq o v h1 h2=>?_,hr.heap.sep⟩,hr.cu,?_,hI,?_,hr.ext.trans he⟩
 ·by_cases hv:o.live;exact(hr.heap.obj q o v h1 h2).ext he (by simp) (by grind)
  ·cases o<;>first|exact ai|exact(hv ai).elim
 refine⟨hr.keeps.os,hr.keeps.tape,hr.keeps.output,by simpa using hr.keeps.size,λk hk Du=>?_⟩;rw[hs k λe=>Du (.inl (e▸hx))];exact hr.keeps.block k hk Du;refine⟨λd hd=>?_,hr.marks.apart⟩;obtain⟨q,h1,h2,h3⟩:=hr.marks.all d hd;grind
def ux:List Nat->List AV->(Nat->AV)->Nat->AV
 |p::ps,x::xs,f=>ux ps xs (Cm f p x)|_,_,f=>f
theorem QU{x:List AV}:∀(ps:List Nat)(xs:List AV)(f:Nat->AV)(ts:Array Value)(vs:List Value),(∀p∈ps,p<ts.size)->(∀t,bq w F η hp (f t) (ts.getD t undef))->cC w F η hp xs vs-> ∀t,bq w F η hp (ux ps xs f t) (((ps.zip vs).foldl (λt (p,v)=>t.setIfInBounds p v) ts).getD t undef):=by
 intro ps;induction ps with
  |nil=>simp_all [ux]|cons p ps ih=>
   intro xs f ts vs hps hf hx t;cases xs with
    |nil=>cases vs with|nil=>simp_all [ux]|cons v vs=>exact hx.elim
    |cons x xs=>cases vs with|nil=>exact hx.elim|cons v vs=>simp only[ux,List.zip_cons_cons,List.foldl_cons];refine ih xs (Cm f p x) (ts.setIfInBounds p v) vs (by simp_all) (λt=>?_) hx.2 t;have hp:=hps p auC;rw[gS];by_cases htp:t=p;(subst htp;rw[if_pos rfl];have e:(ts.setIfInBounds t v).getD t undef=v:=by simp[hp]);rw[e];exact hx.1;simp_all [avW]
theorem Dv:∀(l:List (Nat×Value))(ts:Array Value),(l.foldl (λt (p,v)=>t.setIfInBounds p v) ts).size=ts.size
 | [],_=>rfl|(p,v)::l,ts=>by rw[List.foldl_cons,Dv l];simp
def LU:Code->Exit->Prop
 | .ret,e=>e=.ret| .exit id,e=>e=.exit id|_,_=>False
def Uc(oV:Env Unit)(H:List (List AV)->List ax->Prop)(rest:List (List AV))(Q:Exit->AS Unit->Prop)(f:Nat->AV):Exit->AS Unit->Prop
 | .normal,s'=>∃hp,cU oV s' ⟨λ_=>.top,hp,()⟩/\H rest hp| .ret,s'=>Q .ret ⟨f,s'.hp,()⟩| .exit id,s'=>Q (.exit id) ⟨f,s'.hp,()⟩|_,_=>False
def noQ:Exit->AS Unit->Prop:=λ_ _=>False
structure iW(Γ:Env Unit)(n:Nat)(oV:Env Unit):Prop where
 ok:oV.Ok
 hP:oV.P=Γ.P
 nt:oV.nt=Γ.nt
 h0:oV.mP.length=n
structure RJ(η:List Value)(hp:List ax)(F1:Cells)(w:World)(rec:LoopState->Option Code->Loop)(m:Nat)(H:List (List AV)->List ax->Prop)(S:Exit->List ax->Prop)
  (D:Cells) (Y:Nat->Prop) (gh:Gh) (W:World) (F:Cells) (bj:List Value) (hp':List ax):Prop where
 pre:qM W F bj hp'
 keeps:cy (aS η hp) w W
 ext:Ext w F1 η hp W F bj hp'
 cu:∀b,aS bj hp' b->w.heap.size<=b\/aS η hp b
 bD:∀b o,F b o->F1 b o\/w.heap.size<=b\/aS η hp b
 Zv:∀b o,F b o->b≠w.heap.size+1
 df:∀b o,D b o->F b o
 y:∀b,Y b->b<W.heap.size/\¬aS bj hp' b/\w.heap.size+2<=b
 fy:∀b o,F b o->Y b->D b o
 size:w.heap.size+2<=W.heap.size
 gw:∀b,lU b->b<w.heap.size
 db:W.heap[w.heap.size]?=some (.deferred (some []))
 st:match gh with
  |some rest=>W.heap[w.heap.size+1]?=some (.loop (rec .ready none))/\H rest hp'/\∀x∈rest,x.length=m
  |none=>∃c e,W.heap[w.heap.size+1]?=some (.loop (rec .done (some c)))/\LU c e/\S e hp'
variable {F1 D D':Cells} {Y Y':Nat->Prop} {gh:Gh} {W W':World} {rec:LoopState->Option Code->Loop} {m:Nat} {H:List (List AV)->List ax->Prop} {S:Exit->List ax->Prop}
theorem RJ.QT(h:RJ η hp F1 w rec m H S D Y gh W F bj hp')(k:Adv D Y W D' Y' W'):RJ η hp F1 w rec m H S D' Y' gh W' (λb o=>F b o\/D' b o) bj hp':=by
 have hE:Ext W F bj hp' W' (λb o=>F b o\/D' b o) bj hp':=by refine⟨λb o v hf hc=>?_,λb es c hf hc=>?_,λb o hf=>.inl hf,λ_ _ h=>h,λ_ _ h=>h,λ_ _ _ h=>h⟩;by_cases hy:Y b;exact k.cell b o v (h.fy b o hf hy) hc;rw[World.cell?_of_block (k.same.block b (h.pre.bD b o hf).1 hy)];exact hc;by_cases hy:Y b;exact k.kG b es c (h.fy b 0 hf hy) hc;rw[k.same.block b (h.pre.bD b 0 hf).1 hy];exact hc
 have cY:=k.same.size;have hnl:∀b,W.heap.size<=b->¬aS bj hp' b:=λb hb hl=>by have:=h.pre.live b hl;omega
 have hly:∀b,aS bj hp' b->¬Y b:=λb hl hy=>(h.y b hy).2.1 hl;have Ze:¬Y (w.heap.size+1):=λhy=>by have:=(h.y _ hy).2.2;omega
 have qI:¬Y w.heap.size:=λhy=>by have:=(h.y _ hy).2.2;omega
 have hs2:=h.size;refine⟨⟨λb o hf=>?_,⟨h.pre.heap.len,λq o v h1 h2=>?_,h.pre.heap.sep⟩,λb hb=>auK (h.pre.live b hb) cY,h.pre.iK.keeps k.same λb hb hy=>(by have:=(h.y b hy).2.2;have:=h.gw b hb;omega),h.pre.gx⟩,h.keeps.trans k.same λi hi hy=>?_,h.ext.trans hE,h.cu,λb o hf=>?_,λb o hf=>?_,λb o hd=>.inr hd,λb hb=>?_,λb o hf hy=>?_,by omega,h.gw,?_,?_⟩;rcases hf with hf|hd;exact⟨auK (h.pre.bD b o hf).1 cY,(h.pre.bD b o hf).2⟩;obtain⟨h1,h2⟩:=k.back b o hd;refine⟨h2,?_⟩;rcases h1 with h1|h1|h1;exact(h.pre.bD b o (h.df b o h1)).2;exact oA h.pre.heap.len (h.y b h1).2.1;exact oA h.pre.heap.len (hnl b h1)
 ·by_cases hv:o.live;exact(h.pre.heap.obj q o v h1 h2).ext hE cY λb hb aF=>k.same.block b aF (hly b ⟨q,o,v,h1,hv,h2,hb⟩)
  ·cases o<;>first|exact ai|exact(hv ai).elim
 have:=(h.y i hy).2.2;omega;rcases hf with hf|hd;exact h.bD b o hf;rcases (k.back b o hd).1 with h1|h1|h1;exact h.bD b o (h.df b o h1);exact .inr (.inl (by have:=(h.y b h1).2.2;omega));exact .inr (.inl (by omega));rcases hf with hf|hd;exact h.Zv b o hf;rcases (k.back b o hd).1 with h1|h1|h1;exact h.Zv b o (h.df b o h1);have:=(h.y b h1).2.2;omega;omega;obtain⟨h1,h2⟩:=k.adl b hb;refine⟨h2,?_,?_⟩;rcases h1 with h1|h1;exact(h.y b h1).2.1;exact hnl b h1;rcases h1 with h1|h1;exact(h.y b h1).2.2;omega;rcases hf with hf|hd;rcases (k.adl b hy).1 with h1|h1;exact k.bD b o (h.fy b o hf h1);have:=(h.pre.bD b o hf).1;omega;exact hd;rw[k.same.block _ (by omega) qI];exact h.db;have vR:=h.st;have e:W'.heap[w.heap.size+1]?=W.heap[w.heap.size+1]?:=k.same.block _ (by omega) Ze;simp_all
def iX(Γ:Env Unit)(W:World)(F:Cells)(bj:List Value)(hp':List ax)(l:Nat)(I:Unit->World->Prop):Env Unit:={ P:=Γ.P,w0:=W,F0:=F,X:=λb=>b=l,Y:=aS bj hp',Inv:=I,nt:=Γ.nt,EA:=some l,m0:=λr=>W.heap.size<=r,Z:=λ_ _=>False,Cs:=bj,mP:=hp' }
theorem RJ.after(h:RJ η hp F1 w rec m H S D Y gh W F bj hp')(hD:∀b o,D b o->b<W.heap.size){I:Unit->World->Prop}{f3:Nat->AV}{a3:Act}{w3:World}{Se:List Value}{hp3:List ax}(hr:Rel (iX Γ W F bj hp' (w.heap.size+1) I) ⟨f3,hp3,()⟩ a3 w3 Se)
  {r:Loop} (hl:w3.heap[w.heap.size+1]?=some (.loop r)) (ob:Loop) {gh2:Gh} (vR:∀W':World,W'.heap[w.heap.size+1]?=some (.loop ob)->match gh2 with
   |some rest=>W'.heap[w.heap.size+1]?=some (.loop (rec .ready none))/\H rest hp3/\∀x∈rest,x.length=m
   |none=>∃c e,W'.heap[w.heap.size+1]?=some (.loop (rec .done (some c)))/\LU c e/\S e hp3):
  RJ η hp F1 w rec m H S D Y gh2 (w3.putObj (w.heap.size+1) (.loop ob)) (bw (iX Γ W F bj hp' (w.heap.size+1) (λ_ _=>True)) (w3.putObj (w.heap.size+1) (.loop ob)) Se hp3) Se hp3/\
   Left D Y W D (w3.putObj (w.heap.size+1) (.loop ob)):=by
 have hs2:=h.size;have aF:w.heap.size+1<w3.heap.size:=ck hl;have hr5:Rel (iX Γ W F bj hp' (w.heap.size+1) (λ_ _=>True)) ⟨f3,hp3,()⟩ a3 (w3.putObj (w.heap.size+1) (.loop ob)) Se:=hr.adn (I:=λ_ _=>True) rfl hl (.loop ob) ai;have oB:cy (λb=>b=w.heap.size+1\/aS bj hp' b) W (w3.putObj (w.heap.size+1) (.loop ob)):=hr5.keeps;have cY:=oB.size;have eF:Ext W F bj hp' (w3.putObj (w.heap.size+1) (.loop ob)) (bw (iX Γ W F bj hp' (w.heap.size+1) (λ_ _=>True)) (w3.putObj (w.heap.size+1) (.loop ob)) Se hp3) Se hp3:=hr5.ext;have HF:∀b,aS Se hp3 b->(W.heap.size<=b\/aS bj hp' b)/\b≠w.heap.size+1:=λb ⟨q,o,v,g1,g2,g3,g4⟩=>
  ⟨(hr5.cu q o v b g1 g2 g3 g4).1,λe=>(hr5.cu q o v b g1 g2 g3 g4).2 0 (.inl e)⟩
 have amE:∀b,aS Se hp3 b->b<(w3.putObj (w.heap.size+1) (.loop ob)).heap.size:=λb ⟨q,o,v,g1,g2,g3,g4⟩=>hr5.heap.block g1 g2 g3 g4;have hgk:∀b,lU b->¬(b=w.heap.size+1\/aS bj hp' b):=λb hb hx=>hx.elim (λe=>by have:=h.gw b hb;omega) (h.pre.gx b hb);refine⟨⟨⟨λb o hf=>⟨hf.2.1,hf.2.2.2⟩,hr5.heap,amE,h.pre.iK.keeps oB hgk,λb hb hl=>(HF b hl).1.elim (λh1=>by have:=h.gw b hb;omega) (h.pre.gx b hb)⟩,h.keeps.trans oB λi hi hx=>?_,h.ext.trans eF,λb hb=>?_,λb o hf=>?_,λb o hf e=>hf.2.2.1 (.inl e),λb o hd=>eF.bD _ _ (h.df b o hd),λb hb=>⟨?_,λhl=>?_,(h.y b hb).2.2⟩,λb o hf hy=>?_,by omega,h.gw,?_,?_⟩,
  cY,λb o v hd hc=>eF.cell b o v (h.df b o hd) hc,λb es c hd hc=>eF.kG b es c (h.df b 0 hd) hc,λb hb=>?_,λ_ _ h=>h,λb o hd=>⟨.inl hd,?_⟩,λb hb=>oB.block b (by have:=h.gw b hb;omega) (hgk b hb)⟩
 ·rcases hx with rfl|hx
  ·omega
  ·rcases h.cu i hx with h1|h1
   ·omega
   ·exact h1
 ·rcases (HF b hb).1 with h1|h1
  ·exact .inl (by omega)
  ·exact h.cu b h1
 ·rcases hf.1 with h1|h1|h1
  ·exact h.bD b o h1
  ·have h1':W.heap.size<=b:=h1;exact .inr (.inl (by omega))
  ·exact(h.cu b h1).imp (λh=>.inl h) (λh=>h) |>.elim (λh=>.inr h) λh=>.inr (.inr h)
 ·have:=(h.y b hb).1;omega
 ·rcases (HF b hl).1 with h1|h1
  ·have:=(h.y b hb).1;omega
  ·exact(h.y b hb).2.1 h1
 ·rcases hf.1 with h1|h1|h1
  ·exact h.fy b o h1 hy
  ·have h1':W.heap.size<=b:=h1;have:=(h.y b hy).1;omega
  ·exact((h.y b hy).2.1 h1).elim
 ·rw[oB.block _ (by omega) λhx=>hx.elim (λe=>by omega) λhx=>Ia h.pre.heap h.db hx];exact h.db
 ·exact vR _ (World.putObj_heap_same aF)
 ·have:=h.y b hb;exact oB.block b this.1 (by grind)
 grind
theorem Zw(ps:Array Nat)(vals:List Value)(ts:Array Value):(ps.zip vals.toArray).foldl (λtmps (t,a)=>tmps.setIfInBounds t a) ts=(ps.toList.zip vals).foldl (λt (p,v)=>t.setIfInBounds p v) ts:=by rw[<-Array.foldl_toList];simp
theorem RJ.round{ps:Array Tmp}{Ay body:Code}{fn:Nat}{Q:Exit->AS Unit->Prop}{f:Nat->AV}(ha:a.tmps.size=Γ.nt)(hps:∀p∈ps.toList,p<Γ.nt)(hf:∀t,bq w F1 η hp (f t) (a.tmps.getD t undef))(E4:rec=λst pe=>{ state:=st,pending:=pe,fn:=fn,tmps:=a.tmps,params:=ps,assign:=Ay,body:=body,defers:=w.heap.size })(wb:∀x rest hp,H (x::rest) hp->∃N:AS Unit->Prop,(∀oV,iW Γ hp.length oV->gk oV Ay (sG N noQ) ⟨ux ps.toList x f,hp,()⟩)/\∀s1,N s1->∀oV,iW Γ hp.length oV->gk oV body (Uc oV H rest Q f) s1){x:List AV}{rest:List (List AV)}{vals:List Value}(h:RJ η hp F1 w rec ps.size H (λe hp=>Q e ⟨f,hp,()⟩) D Y (some (x::rest)) W F bj hp')(hD:∀b o,D b o->b<W.heap.size)(hv:cC W D [] [] x vals): T7 Γ.P (.func (.yield (w.heap.size+1)) #[] #[]) vals W λe w'=>∃b,e=.returned (.bool b)/\(∃F bj hp',RJ η hp F1 w rec ps.size H (λe hp=>Q e ⟨f,hp,()⟩) D Y (gT b rest) w' F bj hp')/\Left D Y W D w':=by
 generalize hR:(fun(e:Ending) (w':World)=>∃b,e=.returned (.bool b)/\(∃F bj hp',RJ η hp F1 w rec ps.size H (λe hp=>Q e ⟨f,hp,()⟩) D Y (gT b rest) w' F bj hp')/\Left D Y W D w')=R;obtain⟨hl,hH,hlen⟩:=h.st;have hs2:=h.size;have hvl:=hv.length;have hxl:=hlen x auC;have hy:=run_yield (P:=Γ.P) (args:=vals.toArray) hl (by rw[E4];simp;omega);refine⟨_,_,_,_,_,rfl,hy,roundIn_of_wpIn (F:=Fence.wide) (P:=Γ.P) trivial ?_⟩;obtain⟨N,amF,kP⟩:=wb x rest hp' hH;rw[E4];simp only[Zw];have ahh:∀I:Unit->World->Prop,(∀(w1 w2:World),w2.heap[w.heap.size+1]?=w1.heap[w.heap.size+1]?->I () w1->I () w2)->iW Γ hp'.length (iX Γ W F bj hp' (w.heap.size+1) I):=λI hI=> ⟨⟨h.pre.heap.len,λb hb=>by have:b=w.heap.size+1:=hb;show b<W.heap.size;omega,h.pre.live,λg w1 w2 hx _ hi=>hI w1 w2 (hx _ rfl) hi,λ_ _ h=>h.elim,h.pre.iK,λb hb hx=>hx.elim (λe=>by have:b=w.heap.size+1:=e;have:=h.gw b hb;omega) (h.pre.gx b hb)⟩,rfl,rfl,rfl⟩;have hnl:=Dt h.pre.heap hl;have Cx:∀(I:Unit->World->Prop) b o,F b o->bw (iX Γ W F bj hp' (w.heap.size+1) I) W bj hp' b o:=λI b o hf=>⟨.inl hf,(h.pre.bD b o hf).1,λhx=>hx.elim (λe=>h.Zv b o hf e) λh=>h,(h.pre.bD b o hf).2⟩;let I1:Unit->World->Prop:=λ_ w1=>w1.heap[w.heap.size+1]?=some (.loop (rec .ready none));let I2:Unit->World->Prop:=λ_ w1=>w1.heap[w.heap.size+1]?=some (.loop { rec .ready none with state:=.busy });have hE:Ext W F bj hp' W (bw (iX Γ W F bj hp' (w.heap.size+1) I1) W bj hp') bj hp':=⟨λ_ _ _ _ h=>h,λ_ _ _ _ h=>h,Cx I1,λ_ _ h=>h,λ_ _ h=>h,λ_ _ _ h=>h⟩;have hrel:Rel (iX Γ W F bj hp' (w.heap.size+1) I1) ⟨ux ps.toList x f,hp',()⟩ ⟨(ps.toList.zip vals).foldl (λt (p,v)=>t.setIfInBounds p v) a.tmps,[]⟩ W bj:=by refine⟨by rw[Dv];exact ha,QU (x:=x) ps.toList x f a.tmps vals (by simp_all) (λt=>((hf t).ext h.ext).ext hE) ?_,⟨h.pre.heap.len,λq o v h1 h2=>(h.pre.heap.obj q o v h1 h2).ext hE (aur _) λ_ _ _=>rfl,h.pre.heap.sep⟩, λq o v b h1 h2 h3 h4=>⟨.inr ⟨q,o,v,h1,h2,h3,h4⟩,λ_ hx=>hx.elim (λe=>hnl (e▸⟨q,o,v,h1,h2,h3,h4⟩)) λh=>h⟩,cy.refl _ _,hl,⟨λd hd=>(by cases hd),List.Pairwise.nil⟩,hE⟩;exact dK hv.length λj y u hy hu=>((hv.get j y u hy hu).bD λb o hd=>Cx I1 b o (h.df b o hd)).lift
 have h1:=amF _ (by grind) _ _ _ hrel;refine wpIn_mono (F:=Fence.wide.inRound (w.heap.size+1)) h1 λe a1 w1 ⟨s1,oT,hN,Dc⟩=>?_;cases e with
  |normal=>have zG:w1.heap[w.heap.size+1]?=some (.loop (rec .ready none)):=Dc.inv;have Ts:w.heap.size+1<w1.heap.size:=ck zG;refine⟨_,run_beginRound zG (by rw[E4]),?_⟩;have oU:Rel (iX Γ W F bj hp' (w.heap.size+1) I2) s1 a1 (w1.putObj (w.heap.size+1) (.loop { rec .ready none with state:=.busy })) oT:=Dc.adn (I:=I2) rfl zG _ (World.putObj_heap_same Ts);have h2:=kP s1 hN _ (by grind) _ _ _ oU;refine wpIn_mono (F:=Fence.wide.inRound (w.heap.size+1)) h2 λe a3 w3 ⟨s3,Se,hq,Lt⟩=>?_;have Y8:w3.heap[w.heap.size+1]?=some (.loop { rec .ready none with state:=.busy }):=Lt.inv;cases e with|normal=>(obtain⟨hp3,hw,hH3⟩:=hq;obtain⟨η4,hr4⟩:=hw _ _ _ Lt;have hra:=RJ.after (gh2:=some rest) h hD hr4 Y8 (rec .ready none) λW' YF=>⟨YF,hH3,λy hy=>hlen y (auG _ hy)⟩;have he:=run_endRound (P:=Γ.P) none Y8;have e2:({ { rec .ready none with state:=.busy } with state:=if(none:Option Code).isNone then .ready else .done,pending:=none }:Loop)=rec .ready none:=by simp_all);rw[e2]at he;exact⟨_,_,he,by rw[<-hR];exact⟨true,rfl,⟨_,_,_,hra.1⟩,hra.2⟩⟩|ret=>(have hra:=RJ.after (gh2:=none) h hD (f3:=s3.tmps) (hp3:=s3.hp) Lt Y8 (rec .done (some .ret)) λW' YF=>⟨.ret,.ret,YF,rfl,hq⟩;have he:=run_endRound (P:=Γ.P) (some .ret) Y8;have e2:({ { rec .ready none with state:=.busy } with state:=if(some Code.ret).isNone then .ready else .done,pending:=some .ret }:Loop)=rec .done (some .ret):=by simp_all);rw[e2]at he;exact⟨_,_,he,by rw[<-hR];exact⟨false,rfl,⟨_,_,_,hra.1⟩,hra.2⟩⟩|exit id=>(have hra:=RJ.after (gh2:=none) h hD (f3:=s3.tmps) (hp3:=s3.hp) Lt Y8 (rec .done (some (.exit id))) λW' YF=>⟨.exit id,.exit id,YF,rfl,hq⟩;have he:=run_endRound (P:=Γ.P) (some (.exit id)) Y8;have e2:({ { rec .ready none with state:=.busy } with state:=if(some (Code.exit id)).isNone then .ready else .done,pending:=some (.exit id) }:Loop)=rec .done (some (.exit id)):=by simp_all);rw[e2]at he;exact⟨_,_,he,by rw[<-hR];exact⟨false,rfl,⟨_,_,_,hra.1⟩,hra.2⟩⟩|_=>exact hq.elim
  |_=>exact hN.elim
theorem RJ.back(aN:Γ.Ok)(ib:Γ.Ha)(hr:Rel Γ s a w η)(h:RJ η s.hp (bw Γ w η s.hp) w rec m H S D Y gh W F bj hp'){r:Loop}(hl:W.heap[w.heap.size+1]?=some (.loop r))(ob:Loop): Rel Γ ⟨s.tmps,hp',()⟩ { a with defers:={ target:=.collected w.heap.size,args:=#[] }::a.defers } (W.putObj (w.heap.size+1) (.loop ob)) bj:=by
 have hs:∀k,k≠w.heap.size+1->(W.putObj (w.heap.size+1) (.loop ob)).heap[k]?=W.heap[k]?:=λk hk=>World.putObj_heap_other hk;have cY:=hr.keeps.size;have hs2:=h.size;have fM:∀b,aS η s.hp b->(Γ.w0.heap.size<=b\/Γ.Y b)/\∀o,¬Γ.No b o:=λb ⟨q,o,v,g1,g2,g3,g4⟩=>hr.cu q o v b g1 g2 g3 g4;have Cx:∀b o,F b o->bw Γ (W.putObj (w.heap.size+1) (.loop ob)) bj hp' b o:=by
  intro b o hf;have h1:=h.pre.bD b o hf;refine⟨?_,by simp_all,?_,h1.2⟩
  ·rcases h.bD b o hf with g|g|g;exact g.1;all_goals grind
  rcases h.bD b o hf with g|g|g;exact g.2.2.1;intro hx;have:=aN.no hx;omega;simp_all
 have hE:Ext W F bj hp' (W.putObj (w.heap.size+1) (.loop ob)) (bw Γ (W.putObj (w.heap.size+1) (.loop ob)) bj hp') bj hp':=by refine⟨λb o v hf hc=>?_,λb es c hf hc=>?_,Cx,λ_ _ h=>h,λ_ _ h=>h,λ_ _ _ h=>h⟩;rw[World.cell?_of_block (hs b (h.Zv b o hf))];exact hc;grind
 have hET:=h.ext.trans hE;have KV:∀b,aS bj hp' b->b≠w.heap.size+1:=λb hb e=>Dt h.pre.heap hl (e▸hb);refine⟨hr.nt,λt=>(hr.tmps t).ext hET,⟨h.pre.heap.len,λq o v h1 h2=>?_,h.pre.heap.sep⟩,λq o v b h1 h2 h3 h4=>?_,?_,?_,?_,hr.ext.trans hET⟩
 ·by_cases hv:o.live;exact(h.pre.heap.obj q o v h1 h2).ext hE (by simp) λb hb _=>hs b (KV b ⟨q,o,v,h1,hv,h2,hb⟩)
  ·cases o<;>first|exact ai|exact(hv ai).elim
 rcases h.cu b ⟨q,o,v,h1,h2,h3,h4⟩ with g|g;exact⟨.inl (by omega),λo hx=>by have:=aN.no hx;omega⟩;simp_all;refine⟨h.keeps.os.trans hr.keeps.os,h.keeps.tape.trans hr.keeps.tape,h.keeps.output.trans hr.keeps.output,by simp;omega,λk hk hx=>?_⟩;rw[hs k (by omega),h.keeps.block k (by omega) λhl=>?_];exact hr.keeps.block k hk hx;grind;refine aN.qA _ _ _ (λb hb=>?_) (by simp;omega) hr.inv;have hb0:=aN.x b hb;rw[hs b (by omega),h.keeps.block b (by omega) λhl=>(fM b hl).2 0 (.inl hb)];refine⟨λd hd=>?_,List.pairwise_cons.2 ⟨λd hd=>?_,hr.marks.apart⟩⟩;rcases auJ.1 hd with rfl|hd;exact⟨_,rfl,by rw[hs _ (by omega)];exact h.db,ib.2 _ cY⟩;obtain⟨q,g1,g2,g3⟩:=hr.marks.all d hd;have hq:=ck g2;refine⟨q,g1,?_,g3⟩;rw[hs q (by omega),h.keeps.block q hq λhl=>Ia hr.heap g2 hl];exact g2;obtain⟨q,g1,g2,g3⟩:=hr.marks.all d hd;grind
theorem gk.range(aN:Γ.Ok)(ib:Γ.Ha){g:Operand}{ps:Array Tmp}{Ay body:Code}{Q:Exit->AS Unit->Prop}{gf:Nat}{caps:List AV}{L:List (List AV)}(hg:s.ev g=.bz gf caps)(ahi:vL Γ.P gf (λv=>v::caps.map (AV.sX 0 s.hp)) L false)(hlen:∀x∈L,x.length=ps.size)(hps:∀p∈ps.toList,p<Γ.nt)(H:List (List AV)->List ax->Prop)(h0:H L s.hp)(wb:∀x rest hp,H (x::rest) hp->∃N:AS Unit->Prop,(∀oV,iW Γ hp.length oV->gk oV Ay (sG N noQ) ⟨ux ps.toList x s.tmps,hp,()⟩)/\∀s1,N s1->∀oV,iW Γ hp.length oV->gk oV body (Uc oV H rest Q s.tmps) s1)(Of:∀hp,H [] hp->Q .normal ⟨s.tmps,hp,()⟩):gk Γ (.rangeFunc g ps Ay body) Q s:=by (intro a w η hr;refine wpIn_rangeFunc λfn hfn=>?_;have sE:Γ.fO.round=none:=ib.1;rw[sE];obtain⟨rec,E4⟩:∃rec:LoopState->Option Code->Loop,rec=λst pe=>{ state:=st,pending:=pe,fn:=fn,tmps:=a.tmps,params:=ps,assign:=Ay,body:=body,defers:=w.heap.size }:=⟨_,rfl⟩;obtain⟨W1,hW1⟩:∃W1,(w.alloc (.deferred (some []))).alloc (.loop (rec .ready none))=W1:=⟨_,rfl⟩;have jy:cj w W1:=by rw[<-hW1];exact(cj.alloc w _).trans (cj.alloc _ _));(have amG:W1.heap.size=w.heap.size+2:=by rw[<-hW1];simp);(have Zx:W1.heap[w.heap.size+1]?=some (.loop (rec .ready none)):=by rw[<-hW1];have:=World.alloc_heap_new (w.alloc (.deferred (some []))) (.loop (rec .ready none));rwa [World.size_alloc]at this);(have hK1:W1.heap[w.heap.size]?=some (.deferred (some [])):=by rw[<-hW1];exact(heap_alloc_old _ _ (by simp)).trans (World.alloc_heap_new w _));have Zy:=hr.ev g;rw[hg]at Zy;generalize hgv:a.eval g=v at Zy;cases Zy with|bz _ _ vs hvl hvr=>refine⟨w.heap.size+1,[{ target:=.collected w.heap.size,args:=#[] }],W1,{ target:=.fn (.func gf) vs,args:=#[.func (.yield (w.heap.size+1)) #[] #[]] },W1,gf, #[.func (.yield (w.heap.size+1)) #[] #[]]++vs,W1,?_,?_,λ_ _=>trivial,?_,λh=>(by cases h),?_⟩;simp_all [run_enterLoop_outer];simp only[resolve,hgv];simp[go_sem];simp[invoke,pf ahi.1];let J:JT:=λD Y gh W=>∃F bj hp',RJ η s.hp (bw Γ w η s.hp) w rec ps.size H (λe hp=>Q e ⟨s.tmps,hp,()⟩) D Y gh W F bj hp';have hC:Cons Γ.P (.func (.yield (w.heap.size+1)) #[] #[]) J:= ⟨rfl,λD Y gh W D' Y' W' ⟨F,bj,hp',h⟩ k=>⟨_,_,_,h.QT k⟩,λD Y x rest W vals ⟨F,bj,hp',h⟩ hD hY _ hv=>h.round hr.nt hps hr.tmps E4 wb hD hv⟩;have he1:Ext w (bw Γ w η s.hp) η s.hp W1 (bw Γ w η s.hp) η s.hp:= ⟨λb o v hf hc=>by rw[World.cell?_of_block (jy.block b hf.2.1)];exact hc,λb es c hf hc=>by rw[jy.block b hf.2.1];exact hc,λ_ _ h=>h,λ_ _ h=>h,λ_ _ h=>h,λ_ _ _ h=>h⟩;(have fM:∀b,aS η s.hp b->b<w.heap.size:=λb ⟨q,o,v,g1,g2,g3,g4⟩=>hr.heap.block g1 g2 g3 g4;have hJ:J (bw Γ w η s.hp) (λ_=>False) (some (L++[])) W1:=by rw[auF];refine⟨_,_,_,⟨⟨λb o hf=>⟨auK hf.2.1 jy.size,hf.2.2.2⟩,⟨hr.heap.len,λq o v h1 h2=>(hr.heap.obj q o v h1 h2).ext he1 jy.size λb _ aF=>jy.block b aF,hr.heap.sep⟩,by grind,(hr.iK aN).same jy,λb hb hl=>hr.gx aN hb hl⟩,jy.keeps _,he1,λb hb=>.inr hb,λb o hf=>.inl hf, λb o hf=>by have:=hf.2.1;omega,λ_ _ h=>h,λ_ h=>h.elim,λ_ _ _ h=>h.elim,by omega,λb hb=>(hr.iK aN).lt hb,hK1,⟨Zx,h0,hlen⟩⟩⟩);(have ahk:cC W1 (bw Γ w η s.hp) [] [] (.fn (.func (.yield (w.heap.size+1)) #[] #[])::caps.map (AV.sX 0 s.hp)) (.func (.yield (w.heap.size+1)) #[] #[]::vs.toList):=by (refine⟨.fn _ rfl,?_⟩;have ej:cC w (bw Γ w η s.hp) η s.hp caps vs.toList:=by grind [dK]);exact cC.ext ⟨he1.cell,he1.kG,he1.bD,λ_ _ h=>h,λ_ _ h=>h,λ_ _ _ h=>h⟩ (ox hr _ _ ej));(have hav:(#[.func (.yield (w.heap.size+1)) #[] #[]]++vs:Array Value)=(.func (.yield (w.heap.size+1)) #[] #[]::vs.toList:List Value).toArray:=by simp);have ee:=ahi.2 J _ hC (bw Γ w η s.hp) (λ_=>False) [] W1 _ hJ (λb o hf=>auK hf.2.1 jy.size) (λ_ h=>h.elim) ((hr.iK aN).same jy) ahk;rw[hav];refine CallsIn.mono (F:=Γ.fO) (R:=λe w'=>∃v D' b,e=.returned v/\YR false b v/\J D' (λ_=>False) (gT b []) w'/\Left (bw Γ w η s.hp) (λ_=>False) W1 D' w') ee λe w3 ⟨v,D',b,he,_,⟨F,bj,hp',hj⟩,_⟩=>?_;subst he;cases b with|true=>obtain⟨hl,hH,_⟩:=hj.st;have:=run_endLoop (P:=Γ.P) hl (by rw[E4];simp);rw[E4]at this;exact⟨none,_,this,⟨s.tmps,hp',()⟩,bj,Of _ hH,hj.back aN ib hr hl _⟩|false=>obtain⟨c,e,hl,Og,hS⟩:=hj.st;have:=run_endLoop (P:=Γ.P) hl (by rw[E4];simp);rw[E4]at this;refine⟨some c,_,this,?_⟩;(cases c<;>simp only[LU]at Og<;>first|exact Og.elim|skip);subst Og;exact wpIn_exit ⟨_,bj,hS,hj.back aN ib hr hl _⟩;subst Og;exact wpIn_ret ⟨_,bj,hS,hj.back aN ib hr hl _⟩
end
section
def oy.depth:oy->Nat
 | .done=>0| .val _ p=>p.depth+1| .cR _ p=>p.depth+1| .two _ p _ q=>Nat.max p.depth q.depth+1| .three _ p _ q _ r=>Nat.max p.depth (Nat.max q.depth r.depth)+1
def QV(d:Bool):List Bool->Nat->Bool
 | [],_=>d|b::_,0=>b|_::l,n+1=>QV d l n
theorem y9(d:Bool):∀(l:List Bool)(n:Nat),QV d l n=l.toArray.getD n d
 | [],n=>by rfl|b::l,0=>by rfl|b::l,n+1=>by have:=y9 d l n;simp_all [QV]
def qZ:List Oper->Nat->Option Oper
 | [],_=>none|o::_,0=>some o|_::l,n+1=>qZ l n
theorem oC:∀(l:List Oper)(n:Nat),qZ l n=l.toArray[n]?
 | [],n=>by rfl|b::l,0=>by rfl|b::l,n+1=>by have:=oC l n;simp_all [qZ]
def uy:List Bool->Nat->List Bool
 | [],_=>[]|_::l,0=>true::l|b::l,n+1=>b::uy l n
theorem za:∀(l:List Bool)(n:Nat),(uy l n).toArray=l.toArray.setIfInBounds n true:=by (intro l n;have:∀(l:List Bool)(n:Nat),uy l n=l.set n true:=by intro l;induction l with|nil=>simp[uy]|cons b l ih=>intro n;cases n<;>simp[uy,ih]);simp_all
def AB(gX:List Bool):List Edge->Bool
 | []=>true|e::l=>(!Region.binds .any e||QV false gX e.on)&&AB gX l
theorem Dw{gX:List Bool}:∀{l:List Edge},AB gX l=true↔∀e∈l,Region.binds .any e=true->gX.toArray.getD e.on false=true
 | []=>by simp[AB]|e::l=>by simp only[AB,auq,avo,avd,Dw (l:=l),auJ,forall_eq_or_imp,y9];grind
def q7(l0:List Oper)(gX:List Bool)(k:Nat):Bool:=
 match qZ l0 k with
 |none=>false
 |some o=>!(QV true gX k)&&AB gX o.after.toList
theorem mu{l0:List Oper}{gX:List Bool}{k:Nat}:q7 l0 gX k=true↔k∈Region.ready .any l0.toArray gX.toArray:=by rw[mem_ready];unfold q7;rw[oC];cases hk:l0.toArray[k]? with|none=>simp|some o=>simp[y9,Dw]
def xx(l0:List Oper)(gX:List Bool)(l:List Nat):List Oper->Nat->Bool
 | [],_=>true|_::r,k=>(!q7 l0 gX k||LR l k)&&xx l0 gX l r (k+1)
theorem Ib{l0:List Oper}{gX:List Bool}{l:List Nat}:∀{r:List Oper}{k:Nat},xx l0 gX l r k=true->∀q,k<=q->q<k+r.length->q7 l0 gX q=true->q∈l
 | [],k,_,q,h1,h2,_=>by grind|o::r,k,h,q,h1,h2,h3=>by simp only[xx,auq,avo,avd]at h;by_cases hq:q=k;simp_all [EZ];exact Ib h.2 q (by omega) (by grind) h3
theorem pA{l0:List Oper}{gX:List Bool}{l:List Nat}(h:xx l0 gX l l0 0=true){q:Nat}(hq:q∈Region.ready .any l0.toArray gX.toArray):q∈l:=by obtain⟨_,o,ho,_⟩:=mem_ready.1 hq;have:=(au3.1 ho).1;exact Ib h q (auv _) (by simpa using this) (mu.2 hq)
def Dx(C M:List (Option (List Nat)))(k j:Nat)(op:Op):Bool:=
 hO op||(match s5 C j,s5 M k with
  |some l,some K=>S9 l K
  |_,_=>false)
def E5(C M:List (Option (List Nat)))(k j:Nat)(op:Op):Bool:=
 match s5 C j with
 |none=>false
 |some l=>hO op||(match s5 M k with
  |some K=>S9 l K
  |none=>false)
theorem Ic{C M:List (Option (List Nat))}{k j:Nat}{op:Op}(h:E5 C M k j op=true):∃l,C.getD j none=some l/\∀hp hp',ov l hp hp'->tY M k op hp hp':=by unfold E5 at h;rw[iU]at h;split at h;cases h;rename_i l hl;refine⟨l,hl,λhp hp' hf=>nD (C:=C) (j:=j) ?_ (by simp_all [sH])⟩;unfold mj;rw[iU]at h;grind
def Oh(H:Oper->Bool)(l0:List Oper)(LV:List Nat)(C M:List (Option (List Nat)))(gX:List Bool)(i:Nat)(oi:Oper):List Oper->Nat->Bool
 | [],_=>true|oj::r,j=>(Nat.beq j i||(QV true gX j||(((LV.getD j 0).testBit i)||(oi.apart l0.toArray oj&&(match H oj with|false=>!fG oj.op||Dx C M i j oi.op|true=>!fG oj.op&&E5 C M i j oi.op)))))&&Oh H l0 LV C M gX i oi r (j+1)
theorem Ie{H:Oper->Bool}{l0:List Oper}{LV:List Nat}{C M:List (Option (List Nat))}{gX:List Bool}{i:Nat}{oi:Oper}:∀{r:List Oper}{k:Nat},Oh H l0 LV C M gX i oi r k=true->∀(j:Nat) oj,r[j]?=some oj->k+j≠i->gX.toArray.getD (k+j) true=false-> (LV.getD (k+j) 0).testBit i=true\/(oi.apart l0.toArray oj=true/\((H oj=false/\(fG oj.op=false\/mj C M i (k+j) oi.op=true))\/(H oj=true/\fG oj.op=false/\E5 C M i (k+j) oi.op=true)))
 | [],k,_,j,oj,hj,_,_=>by simp at hj|o::r,k,h,j,oj,hj,h1,h2=>by
  simp only[Oh,auq,avo,avd]at h;cases j with
   |zero=>simp only[avn,aul]at hj;subst hj;rcases h.1 with h3|h3|h3|h3;simp_all;simp_all [y9];grind;refine .inr ⟨h3.1,?_⟩;have h4:=h3.2;cases hH:H o with|false=>rw[hH]at h4;simp only[avo,avd]at h4;grind [Dx,mj,iU]|true=>rw[hH]at h4;simp only[auq,avd]at h4;exact .inr ⟨rfl,h4⟩
   |succ j=>simp only[ava]at hj;have:=Ie h.2 j oj hj (by omega) (by rw[show k+1+j=k+(j+1)from by omega];exact h2);grind
def wg(C:dw)(l:List Nat)(o:Oper)(s:AS Unit)(next:AS Unit->Prop):Prop:=
 match qU s o.op with
 |some (f,args)=>(match HV C f o with
  | .fk sh=>okB (S9 (jF s.hp 100 [] args) l) (CF C (jF s.hp 100 [] args) sh f args o s next)
  |_=>False)
 |none=>False
theorem Ud{js:List Nat}{H h:List ax}(hb:qW H.length js=true)(hl:js.length<=h.length):ov js H (kh (nG js H.length) js.length h H):=by (refine⟨by simp[kh,uf],λq o hq ho=>?_⟩;have hql:q<H.length:=by grind);rw[kh,Ap (by omega)];unfold putAt;split;rename_i i hi;obtain⟨h1,h2⟩:=px hi;unfold nG at h2;split at h2;(rename_i aF;have aF:i<js.length:=by simp_all);exact(hq (by rw[<-h2];exact auu (qX aF))).elim;omega;simp_all
theorem wg.sound{Γ:Env Unit}{s:AS Unit}(aN:Γ.Ok){C:dw}(hP:C.P=Γ.P)(iG:C.nt=Γ.nt){ops:Array Oper}{l:List Nat}{o:Oper}{next K:AS Unit->Prop}(hd:eu Γ.nt o.dst)(h:wg C l o s next)(hn:∀s,next s->K s):Tj Γ ops o l s K:=by
 unfold wg at h;split at h;rename_i f args bl;rw[lL]at bl;unfold mh at bl;split at bl;rename_i c hc;split at bl;rename_i x hx;split at bl;rename_i f' caps ej;simp only[aul,aup]at bl;obtain⟨rfl,rfl⟩:=bl;split at h;rename_i sh ag6;generalize jF s.hp 100 [] (List.map s.ev c.args.toList++caps)=js at *;obtain⟨Tt,h⟩:=cX h;unfold CF at h;obtain⟨hb,h⟩:=cX h;rw[bG]at h;obtain⟨gY,R,g1,g2⟩:=h;have bl:=cE (g:=AV.LO js s.hp) (λx=>At) _ gY;rw[hP]at g1;have uq:=CF.hfn (R:=λr h'=>R r h'/\xt js r h'=true) hb (g1.mono λr h' hr=>⟨hr,(cX (iT (g2 r h' hr))).1⟩) (λr h' hr=>hr.2);refine⟨λr2 H2=>∃r h,(R r h/\xt js r h=true)/\r2=sY (nG js s.hp.length) r/\H2=kh (nG js s.hp.length) js.length h s.hp,λs' ht Lx K' hK'=>?_,λr hp' hN=>?_⟩
 ·(have C5:∀y,y∈o.op.operands->s'.ev y=s.ev y:=λy hy=>by cases y with|tmp t=>refine ht t ?_;unfold Oper.looksAt;exact avw _ (List.mem_filterMap.2 ⟨.tmp t,by simpa using hy,rfl⟩)|_=>rfl);(have lF:s'.ev x=.bz f' caps:=by rw[<-ej];exact C5 x (by rw[hc];simp[Op.operands,Call.operands,hx]));have hm:c.args.toList.map s'.ev=c.args.toList.map s.ev:=awa λy hy=>C5 y (by rw[hc];simp only[Op.operands,Call.operands,Array.mem_append];exact .inr (by simpa using hy));exact bR.Ti aN hc hx lF (by rw[Lx];exact uq) (λa w η us hr h=>by have:=uo hr js _ us h;rw[hm,Lx,bl]at this;rw[Lx];exact this) hd hK'
 obtain⟨r',h',hr,rfl,rfl⟩:=hN;have xq:qW s.hp.length js=true:=by simp only[auq]at hb;exact hb.1
 have hle:js.length<=h'.length:=by have:=hr.2;simp only[xt,auq]at this;exact auW this.1
 refine⟨(Ud xq hle).mono λq hq=>?_,hn _ (cX (iT (g2 r' h' hr.1))).2⟩;have:=auI.1 Tt q hq;simpa using this;exact h.elim;cases bl;cases bl;cases bl;exact h.elim
def yH(C:dw)(hs:List Nat)(l0:List Oper)(Cl:List (Option (List Nat)))(i:Nat)(o:Oper)(s:AS Unit)(next:AS Unit->Prop):Prop:=
 match yF C.nt o.dst with
 |false=>False
 |true=>(match fG o.op with
  |true=>(match o.guard with
   |none=>okB (TR (s5 Cl i) s.ev o.op) (match HU C.tab s.hp s.ev o.op (λr hp'=>next (AS.put { s with hp:=hp' } o.dst r))with
    |some p=>p
    |none=>False)
   |some _=>False)
  |false=>(match bE hs o with
   |true=>KG l0 o s (λs=>match s5 Cl i with
     |none=>kj C o s next
     |some l=>wg C l o s next) (λs=>next (s.put o.dst (.ay (.tuple #[]))))
   |false=>KG l0 o s (λs=>gM C none o s next) (λs=>next (s.put o.dst (.ay (.tuple #[]))))))
def iY(C:dw)(hs:List Nat)(l0:List Oper)(LV:List Nat)(Cl M:List (Option (List Nat)))(K:AS Unit->Prop):oy->List Bool->AS Unit->Prop
 | .done,gX,s=>okB (xx l0 gX [] l0 0) (K s)| .val i p,gX,s=>(match qZ l0 i with|none=>False|some o=>okB (q7 l0 gX i&&(Oh (bE hs) l0 LV Cl M gX i o l0 0&&(!fG o.op&&(!bE hs o&&yF C.nt o.dst)))) (KG l0 o s (λs=>gM C (s5 M i) o s (iY C hs l0 LV Cl M K p (uy gX i))) (λs=>iY C hs l0 LV Cl M K p (uy gX i) (s.put o.dst (.ay (.tuple #[]))))))| .cR i p,gX,s=>(match qZ l0 i with|none=>False|some o=>okB (q7 l0 gX i&&xx l0 gX [i] l0 0) (yH C hs l0 Cl i o s (iY C hs l0 LV Cl M K p (uy gX i))))| .two i p j q,gX,s=>(match qZ l0 i,qZ l0 j with|some o,some o'=>okB (q7 l0 gX i&&xx l0 gX [i,j] l0 0) (yH C hs l0 Cl i o s (iY C hs l0 LV Cl M K p (uy gX i))/\yH C hs l0 Cl j o' s (iY C hs l0 LV Cl M K q (uy gX j)))|_,_=>False)| .three i p j q k r,gX,s=>(match qZ l0 i,qZ l0 j,qZ l0 k with|some o,some o',some o2=>okB (q7 l0 gX i&&xx l0 gX [i,j,k] l0 0) (yH C hs l0 Cl i o s (iY C hs l0 LV Cl M K p (uy gX i))/\(yH C hs l0 Cl j o' s (iY C hs l0 LV Cl M K q (uy gX j))/\yH C hs l0 Cl k o2 s (iY C hs l0 LV Cl M K r (uy gX k))))|_,_,_=>False)
variable {Γ:Env Unit} {s:AS Unit}
theorem yH.sound(aN:Γ.Ok){C:dw}(hP:C.P=Γ.P)(aC:bn Γ.P C.tab)(iG:C.nt=Γ.nt){hs:List Nat}{l0:List Oper}{Cl:List (Option (List Nat))}{i:Nat}{o:Oper}(ho:l0.toArray[i]?=some o){next K:AS Unit->Prop}(h:yH C hs l0 Cl i o s next)(hn:∀s,next s->K s): kJ Γ l0.toArray (bE hs) Cl Cl i K s:=by
 unfold yH at h;unfold kJ;rw[ho];simp only;split at h;grind;rename_i hd;have hd:=jT hd;rw[iG]at hd;split at h;rename_i he;rw[if_pos he];split at h;rename_i hg;obtain⟨N2,h⟩:=cX h;split at h;rename_i p hp;obtain⟨c,r,hp',g1,g2,g3⟩:=uk hp h;have hcg:=NZ N2 g1;rw[iU]at hcg;refine⟨hd,hg,r,hp',λvK Tc e1 e2 e3=>mf Tc (tab:=C.tab) (by simp_all) (c:=c) ?_ g2,?_,hn _ g3⟩;rw[<-g1];exact Af λx hx=>nb hx;unfold sH;cases hc:Cl.getD i none with|none=>simp|some l=>have:=qu.fr _ _ _ (hcg l hc);exact⟨this.1,by simp_all⟩
 simp_all;simp_all
 ·rename_i he;rw[if_neg (by grind)];split at h
  ·rename_i hh;rw[if_pos hh];have act:∀h:(match s5 Cl i with
     |none=>kj C o s next
     |some l=>wg C l o s next),LG Γ l0.toArray Cl i o s K:=by
    grind [LG,iU,kj.sound,wg.sound]
   rcases KG.cases h with⟨hg,h⟩|⟨j,want,b,hg,hb,⟨tV,h⟩|⟨tV,h⟩⟩|⟨j,want,hg,hb,h⟩;exact .inl (by simp_all [bf]);exact .inl (by simp_all [bf]);exact .inr ⟨by simp[bf,hg,hb,tV],hd,hn _ h⟩;exact .inr ⟨by simp[bf,hg,hb],hd,hn _ h⟩
  rename_i hh;rw[if_neg (by grind)];have sr:∀{x:AV},pt Γ l0.toArray o s x (tY [] i o.op)->pt Γ l0.toArray o s x (λhp hp'=>hp'=hp):=λh=> ⟨h.1,h.2.imp (by simp_all [tY.refl]) id⟩;(have step:gM C none o s next->(o.guard=none\/∃j want b,o.guard=some (j,want)/\kO l0.toArray s j=some b)->∃x,(∀s':AS Unit,(∀t,t∈o.looksAt l0.toArray->s'.tmps t=s.tmps t)->tY [] i o.op s.hp s'.hp->nC Γ o (s'.only (o.looksAt l0.toArray)) x)/\K (s.put o.dst x):= λh hg=>nE.sound (ops:=l0.toArray) (M:=[]) (k:=i) aC (by grind [gM.sound]) (λ_ h=>h) (λ_ h=>h) hg);rcases KG.cases h with⟨hg,h⟩|⟨j,want,b,hg,hb,⟨tV,h⟩|⟨tV,h⟩⟩|⟨j,want,hg,hb,h⟩;obtain⟨x,h3,h4⟩:=step h (.inl hg);exact⟨x,sr ⟨hd,by simp_all [bf]⟩,h4⟩;obtain⟨x,h3,h4⟩:=step h (.inr ⟨j,want,_,hg,hb⟩);exact⟨x,sr ⟨hd,by simp_all [bf]⟩,h4⟩;exact⟨_,⟨hd,by simp_all [bf]⟩,hn _ h⟩;exact⟨_,⟨hd,by simp_all [bf]⟩,hn _ h⟩
theorem iY.sound(aN:Γ.Ok){C:dw}(hP:C.P=Γ.P)(aC:bn Γ.P C.tab)(iG:C.nt=Γ.nt){hs:List Nat}{l0:List Oper}{Cl M:List (Option (List Nat))}{K:AS Unit->Prop}:∀(p:oy)(fuel:Nat)(gX:List Bool)(s:AS Unit),p.depth<=fuel->Shut l0.toArray gX.toArray-> iY C hs l0 (Cw l0 []) Cl M K p gX s->gP Γ l0.toArray (bE hs) Cl Cl K fuel gX.toArray s:=by
 have Tn:∀(i j:Nat),(ae (Cw l0 []) j 0).testBit i=true->Reach l0.toArray i j:=by grind [Da]
 intro p;induction p with
  |done=>(intro fuel gX s hf Cq h;simp only[iY]at h;obtain⟨hb,h⟩:=cX h;have aeP:Region.ready .any l0.toArray gX.toArray=[]:=by apply List.eq_nil_iff_forall_not_mem.2;intro q hq;have:=pA hb hq;grind);cases fuel with|zero=>exact⟨aeP,h⟩|succ fuel=>exact⟨λ_=>h,by simp_all⟩
  |val i p ih=>intro fuel gX s hf Cq h;simp only[oy.depth]at hf;obtain⟨f,rfl⟩:∃f,fuel=f+1:=⟨fuel-1,by omega⟩;simp only[iY]at h;split at h;grind;(rename_i o ho;rw[oC]at ho;obtain⟨hb,h⟩:=cX h;simp only[auq,avd]at hb;obtain⟨YD,uq,he,hhe,hd⟩:=hb;have aeQ:=mu.1 YD;have hd:=jT hd;have dv:∀s,iY C hs l0 (Cw l0 []) Cl M K p (uy gX i) s->gP Γ l0.toArray (bE hs) Cl Cl K f (gX.toArray.setIfInBounds i true) s:=by grind [za,gu]);(have ib:∀(j:Nat) oj,l0.toArray[j]?=some oj->j≠i->gX.toArray.getD j true=false->Reach l0.toArray i j\/(o.apart l0.toArray oj=true/\((bE hs oj=false/\(fG oj.op=false\/∀hp hp',sH Cl j hp hp'->tY M i o.op hp hp'))\/(bE hs oj=true/\fG oj.op=false/\∃l,Cl.getD j none=some l/\∀hp hp',ov l hp hp'->tY M i o.op hp hp'))):=by intro j oj hj CA Dh;have:=Ie uq j oj (by simp_all) (by omega) (by simp_all);rw[auZ]at this;grind [nD,Ic]);(have QT:∃x,pt Γ l0.toArray o s x (tY M i o.op)/\gP Γ l0.toArray (bE hs) Cl Cl K f (gX.toArray.setIfInBounds i true) (s.put o.dst x):=by rw[iG]at hd;rcases KG.cases h with⟨hg,h⟩|⟨j,want,b,hg,hb,⟨tV,h⟩|⟨tV,h⟩⟩|⟨j,want,hg,hb,h⟩;rw[iU]at h;obtain⟨x,h3,h4⟩:=nE.sound (ops:=l0.toArray) aC (gM.sound (N:=gP Γ l0.toArray (bE hs) Cl Cl K f (gX.toArray.setIfInBounds i true)) (R:=gP Γ l0.toArray (bE hs) Cl Cl K f (gX.toArray.setIfInBounds i true)) hP h dv dv) (λ_ h=>h) (λ_ h=>h) (.inl hg);exact⟨x,⟨hd,.inl ⟨by simp[bf,hg],h3⟩⟩,h4⟩;rw[iU]at h;obtain⟨x,h3,h4⟩:=nE.sound (ops:=l0.toArray) aC (gM.sound (N:=gP Γ l0.toArray (bE hs) Cl Cl K f (gX.toArray.setIfInBounds i true)) (R:=gP Γ l0.toArray (bE hs) Cl Cl K f (gX.toArray.setIfInBounds i true)) hP h dv dv) (λ_ h=>h) (λ_ h=>h) (.inr ⟨j,want,_,hg,hb⟩);exact⟨x,⟨hd,.inl ⟨by simp[bf,hg,hb,tV],h3⟩⟩,h4⟩;exact⟨_,⟨hd,by simp_all [bf]⟩,dv _ h⟩;exact⟨_,⟨hd,by simp_all [bf]⟩,dv _ h⟩);obtain⟨x,h3,h4⟩:=QT;cases f with|zero=>refine⟨by grind,λj hj=>?_⟩;by_cases CA:j=i;subst CA;unfold kJ;rw[ho];simp only[he,hhe,auO,if_false];exact⟨x,⟨h3.1,h3.2.imp (by simp_all [tY.refl]) id⟩,h4⟩;have h5:=ready_mono hj CA;rw[h4.1]at h5;cases h5|succ f=>grind [gP.first,tY.trans,tY.refl,Ai]
  |cR i p ih=>intro fuel gX s hf Cq h;simp only[oy.depth]at hf;obtain⟨f,rfl⟩:∃f,fuel=f+1:=⟨fuel-1,by omega⟩;simp only[iY]at h;split at h;grind;rename_i o ho;rw[oC]at ho;obtain⟨hb,h⟩:=cX h;rw[auq]at hb;have aeQ:=mu.1 hb.1;refine⟨by grind,λk hk=>?_⟩;have:=pA hb.2 hk;grind [yH.sound,za,gu]|two i p j q ihp ihq=>intro fuel gX s hf Cq h;simp only[oy.depth]at hf;obtain⟨f,rfl⟩:∃f,fuel=f+1:=⟨fuel-1,by omega⟩;simp only[iY]at h;split at h;rename_i o o' ho Hb;rw[oC]at ho Hb;obtain⟨hb,h⟩:=cX h;rw[auq]at hb;have aeQ:=mu.1 hb.1;have kX:p.depth<=Nat.max p.depth q.depth:=Nat.le_max_left _ _;have hq1:q.depth<=Nat.max p.depth q.depth:=Nat.le_max_right _ _;refine⟨by grind,λk hk=>?_⟩;have:=pA hb.2 hk;simp only[auJ,avB,or_false]at this;grind [yH.sound,za,gu];simp_all|three i p j q k2 r ihp ihq ihr=>intro fuel gX s hf Cq h;simp only[oy.depth]at hf;obtain⟨f,rfl⟩:∃f,fuel=f+1:=⟨fuel-1,by omega⟩;simp only[iY]at h;split at h;(rename_i o o' o2 ho Hb ho2;rw[oC]at ho Hb ho2;obtain⟨hb,h⟩:=cX h;rw[auq]at hb;have aeQ:=mu.1 hb.1;have kX:p.depth<=Nat.max p.depth (Nat.max q.depth r.depth):=Nat.le_max_left _ _;have hq1:q.depth<=Nat.max p.depth (Nat.max q.depth r.depth):=by grind);(have Dc:r.depth<=Nat.max p.depth (Nat.max q.depth r.depth):=by grind);refine⟨by grind,λk hk=>?_⟩;have:=pA hb.2 hk;simp only[auJ,avB,or_false]at this;grind [yH.sound,za,gu];simp_all
def s8:List Oper->List Bool
 | []=>[]|_::l=>false::s8 l
theorem Dy:∀(l:List Oper),(s8 l).toArray=Array.replicate l.length false:=by (have:∀(l:List Oper),s8 l=List.replicate l.length false:=by intro l;induction l with|nil=>rfl|cons o l ih=>simp_all [s8,List.replicate_succ]);simp_all
theorem gk.ahl(aN:Γ.Ok){C:dw}(hP:C.P=Γ.P)(aC:bn Γ.P C.tab)(iG:C.nt=Γ.nt)(hm:Γ.P.follows .mixedOrders=true){hs:List Nat}{id:Nat}{l:List Oper}{Q:Exit->AS Unit->Prop}{Cl M:List (Option (List Nat))}{p:oy}(hd:Nat.ble p.depth l.length=true)(h:iY C hs l (Cw l []) Cl M (Q .normal) p (s8 l) s):gk Γ (.region id l.toArray true) Q s:=by intro a w η hr;refine wpIn_region_any hm ?_;have h1:=iY.sound aN hP aC iG p l.length (s8 l) s (auW hd) (λk o hk=>by rw[Dy]at hk;simp only[au8,Array.getElem?_replicate]at hk;split at hk<;>simp at hk) h;rw[Dy]at h1;have h2:=Dg.sound (Qc:=λe a' w'=>∃s' bj,Q e s'/\Rel Γ s' a' w' bj) aN (λs' a' w' bj h1 h2=>⟨s',bj,h1,h2⟩) _ _ _ a w.drew η (h1.any aN) (hr.same aN (cj.drew w));simp_all
end
section
variable {Γ:Env Unit} {w:World} {a:Act} {F:Nat->Nat->Prop} {η:List Value} {hp:List ax}
def xz(r q i:Nat):Nat:=(match Nat.beq i r with
 |true=>q
 |false=>(match Nat.beq i q with
  |true=>r
  |false=>i))
theorem LW(r q i:Nat):xz r q i=if i=r then q else if i=q then r else i:=by unfold xz;cases h:Nat.beq i r;(have h1:¬i=r:=λe=>by rw[e,Nat.beq_refl]at h;cases h);rw[if_neg h1];cases h2:Nat.beq i q;(have h3:¬i=q:=λe=>by rw[e,Nat.beq_refl]at h2;cases h2);rw[if_neg h3];rw[if_pos (auN h2)];rw[if_pos (auN h)]
theorem E6(r q i:Nat):xz r q (xz r q i)=i:=by simp only[LW];by_cases h1:i=r;subst h1;by_cases h2:q=i;simp[h2];simp[h2];by_cases h2:i=q;subst h2;simp[h1];simp[h1,h2]
theorem Zz{r q i j:Nat}(h:xz r q i=xz r q j):i=j:=by rw[<-E6 r q i,h,E6]
def E7{α:Type}(d:α)(r q:Nat)(l:List α):List α:=(l.set r (l.getD q d)).set q (l.getD r d)
theorem Oi{α:Type}{d:α}{r q:Nat}{l:List α}:(E7 d r q l).length=l.length:=by simp[E7]
theorem Oj{α:Type}{d:α}{r q:Nat}{l:List α}(hr:r<l.length)(hq:q<l.length)(i:Nat):(E7 d r q l)[i]?=l[xz r q i]?:=by rw[E7,LW,avq,avq];by_cases h2:i=q;subst h2;by_cases h1:i=r;subst h1;simp[hr];simp[h1,hr,hq];by_cases h1:i=r;subst h1;have:¬q=i:=λe=>h2 e.symm;simp[this,hr,hq];have e1:¬q=i:=λe=>h2 e.symm;have e2:¬r=i:=λe=>h1 e.symm;simp[h1,h2,e1,e2]
def swS(r q:Nat)(s:AS Unit):AS Unit:=
 match Nat.blt r s.hp.length&&(Nat.blt q s.hp.length&&s.hp.all (ax.closed s.hp.length))with
 |true=>⟨λt=>(match (s.tmps t).closed s.hp.length with|true=>sY (xz r q) (s.tmps t)|false=>.top),E7 .dead r q (s.hp.map (kg (xz r q))),s.g⟩
 |false=>s
theorem aeR(aN:Γ.Ok){r q:Nat}(hr0:Γ.mP.length<=r)(hq0:Γ.mP.length<=q)(s:AS Unit):cU Γ s (swS r q s):=by unfold swS;split;(rename_i hc;rw[auq,auq]at hc;have hr:r<s.hp.length:=auW hc.1;have hq:q<s.hp.length:=auW hc.2.1;have ej:∀o∈s.hp,ax.closed s.hp.length o=true:=auI.1 hc.2.2;obtain⟨f,hp,g⟩:=s;intro a w η h;have hlen:η.length=hp.length:=h.heap.len;have gH:∀i,(E7 ax.dead r q (hp.map (kg (xz r q))))[i]?=(hp.map (kg (xz r q)))[xz r q i]?:=Oj (by simpa using hr) (by simpa using hq);have Cz:∀i,(E7 undef r q η)[i]?=η[xz r q i]?:=Oj (by rw[hlen];exact hr) (by rw[hlen];exact hq);have e:yD (xz r q) η hp (E7 undef r q η) (E7 ax.dead r q (hp.map (kg (xz r q)))):=⟨λi o ho=>by rw[gH,E6,auA,ho];rfl,λi hi=>by rw[Cz,E6]⟩;have back:∀{i:Nat}{o':ax},(E7 ax.dead r q (hp.map (kg (xz r q))))[i]?=some o'->∃o,hp[xz r q i]?=some o/\o'=kg (xz r q) o:=λ{i o'} ho=>by rw[gH]at ho;obtain⟨o,h1,h2⟩:=dA ho;exact⟨o,h1,h2⟩);(have iM:∀b o,bw Γ w η hp b o->bw Γ w (E7 undef r q η) (E7 ax.dead r q (hp.map (kg (xz r q)))) b o:=λb k hf=>by refine⟨hf.1,hf.2.1,hf.2.2.1,(bp b k).2 λi v h1 h2=>?_⟩;rw[Cz]at h1;obtain⟨o,h3,h4⟩:=(bp b k).1 hf.2.2.2 _ v h1 h2;exact⟨kg (xz r q) o,by rw[gH,auA,h3];rfl,v7.2 h4⟩);have eF:Ext w (bw Γ w η hp) (E7 undef r q η) (E7 ax.dead r q (hp.map (kg (xz r q)))) w (bw Γ w (E7 undef r q η) (E7 ax.dead r q (hp.map (kg (xz r q))))) (E7 undef r q η) (E7 ax.dead r q (hp.map (kg (xz r q)))):= ⟨λ_ _ _ _ h=>h,λ_ _ _ _ h=>h,iM,λ_ _ h=>h,λ_ _ h=>h,λ_ _ _ h=>h⟩;(have low:∀{i:Nat},i<Γ.mP.length->xz r q i=i:=λ{i} hi=>by rw[LW,if_neg (by omega),if_neg (by omega)]);refine⟨E7 undef r q η,h.nt,λt=>?_,⟨by rw[Oi,Oi,aum,hlen],λi o' v h1 h2=>?_,λi j o1 o2 v1 v2 b bW h1 h2 l1 l2 e1 e2 hb=>?_⟩,λi o' v b h1 hl h2 hb=>?_,h.keeps,h.inv,h.marks,⟨h.ext.cell,h.ext.kG,λb o hb=>iM b o (h.ext.bD b o hb),λi x hx=>?_,λi x hx=>?_,λi n v hx=>?_⟩⟩;show bq w _ _ _ (match (f t).closed hp.length with|true=>sY (xz r q) (f t)|false=>.top) _;split;rename_i hx;exact(e.re hx (h.tmps t)).ext eF;exact .top _;obtain⟨o,h3,rfl⟩:=back h1;rw[Cz]at h2;exact(e.reO (ej o (auu h3)) (h.heap.obj _ o v h3 h2)).ext eF (aur _) λ_ _ _=>rfl;obtain⟨p1,g1,rfl⟩:=back h1;obtain⟨p2,g2,rfl⟩:=back h2;rw[Cz]at e1 e2;exact h.heap.sep _ _ p1 p2 v1 v2 b (λe=>bW (Zz e)) g1 g2 (eM.1 l1) (eM.1 l2) e1 e2 hb;obtain⟨o,h3,rfl⟩:=back h1;rw[Cz]at h2;exact h.cu _ o v b h3 (eM.1 hl) h2 hb;(have hi:i<Γ.mP.length:=by rw[<-aN.l0];exact(aun.1 hx).1);rw[Cz,low hi];exact h.ext.ptr i x hx;(have hi:i<Γ.mP.length:=by rw[<-aN.l0];exact(aun.1 hx).1);rw[Cz,low hi];exact h.ext.mp i x hx;(have hi:i<Γ.mP.length:=by refine avY λhn=>?_;unfold bk at hx;rw[auQ (by omega)]at hx;exact hx);(have gJ:r<hp.length:=hr;have hih:i<hp.length:=by omega);exact(ue (g:=xz r q) (j:=i) (aus hih) (by rw[gH,low hi,auA,aus hih];rfl) (by rw[Cz,low hi])).1 (h.ext.own i n v hx);exact .refl _
def mvS:List (Nat×Nat)->AS Unit->AS Unit
 | [],s=>s|p::l,s=>mvS l (swS p.1 p.2 s)
def ZA(n0:Nat):List (Nat×Nat)->Bool
 | []=>true|p::l=>Nat.ble n0 p.1&&(Nat.ble n0 p.2&&ZA n0 l)
theorem Ue(aN:Γ.Ok):∀(l:List (Nat×Nat))(s:AS Unit),ZA Γ.mP.length l=true->cU Γ s (mvS l s)
 | [],s,_=>.refl _|p::l,s,h=>by simp only[ZA,auq]at h;exact(aeR aN (auW h.1) (auW h.2.1) s).trans (Ue aN l _ h.2.2)
end
end Go.Proofs.YthnnplohnceogaaGreatDoor
