/- Lemmas. -/
import Derived.Lib.ConvBytes
import Derived.Laws.LoneSync
import Derived.Laws.Pointers
import Derived.Laws.Entries
import Derived.Laws.BytesArg
import Derived.RangeFuncIn
import Derived.RangeFuncRecord
import Derived.Test.YthnnplohnceogaaGreatDoorQ02
namespace Go.Proofs.YthnnplohnceogaaGreatDoor
open Go
open _root_.List renaming getD->ae
open _root_.True renaming intro->ai
open Go.Result renaming andThen_ok->al
open Go.Sem renaming run_bind->ao,run_pure->aq
set_option linter.unusedSimpArgs false
set_option linter.unusedVariables false
section
variable {G:Type} {Γ:Env G} {s s':AS G} {a:Act} {w w':World} {η:List Value} {hp hp':List ax} {P:Program} {ops:Array Oper} {H:Oper->Bool}
def Tj(Γ:Env G)(ops:Array Oper)(o:Oper)(l:List Nat)(s:AS G)(K:AS G->Prop):Prop:=
 ∃N:AV->List ax->Prop,(∀s':AS G,(∀t,t∈o.looksAt ops->s'.tmps t=s.tmps t)->s'.hp=s.hp->∀K':AS G->Prop,(∀r hp',N r hp'->K' (AS.put { s' with hp:=hp' } o.dst r))->bT Γ o s' K')/\
  ∀r hp',N r hp'->ou l s.hp hp'/\K (AS.put { s with hp:=hp' } o.dst r)
def LH(Γ:Env G)(ops:Array Oper)(X:List (Option (List Nat)))(i:Nat)(o:Oper)(s:AS G)(K:AS G->Prop):Prop:=
 match X.getD i none with
 |none=>bT Γ o s K
 |some l=>Tj Γ ops o l s K
theorem LH.call{X:List (Option (List Nat))}{i:Nat}{o:Oper}{K:AS G->Prop}(h:LH Γ ops X i o s K):bT Γ o s K:=by unfold LH at h;split at h;exact h;obtain⟨N,h1,h2⟩:=h;exact h1 s (λ_ _=>rfl) rfl K λr hp' hn=>(h2 r hp' hn).2
def kL(Γ:Env G)(ops:Array Oper)(H:Oper->Bool)(C X:List (Option (List Nat)))(i:Nat)(K:AS G->Prop)(s:AS G):Prop:=
 match ops[i]? with
 |none=>K s
 |some o=>if gR o.op=true then fq Γ.nt o.dst/\o.guard=none/\∃r hp',xg Γ ops o s r hp'/\sJ C i s.hp hp'/\K (AS.put { s with hp:=hp' } o.dst r)
  else if H o=true then Ak Γ ops o s (LH Γ ops X i o s K) K
  else ∃x,pj Γ ops o s x (λhp hp'=>hp'=hp)/\K (s.put o.dst x)
def gS(Γ:Env G)(ops:Array Oper)(H:Oper->Bool)(C X:List (Option (List Nat)))(Q:AS G->Prop):Nat->Array Bool->AS G->Prop
 |0,listed,s=>Region.ready .any ops listed=[]/\Q s|fuel+1,listed,s=>(Region.ready .any ops listed=[]->Q s)/\∀i∈Region.ready .any ops listed,kL Γ ops H C X i (gS Γ ops H C X Q fuel (listed.setIfInBounds i true)) s
theorem gS.any(aK:Γ.Ok){C X:List (Option (List Nat))}{Q:AS G->Prop}:∀(fuel:Nat)(listed:Array Bool)(s:AS G),gS Γ ops H C X Q fuel listed s->Di Γ ops H Q fuel listed s:=by intro fuel;induction fuel with|zero=>intro listed s h;exact h|succ fuel ih=>intro listed s h;refine⟨h.1,λi hi=>?_⟩;have h1:=h.2 i hi;unfold kL at h1;unfold Al;split at h1;rename_i ho;rw[ho];exact ih _ _ h1;rename_i o ho;rw[ho];simp only;split at h1;rename_i he;rw[if_pos he];obtain⟨g1,g2,r,hp',g3,_,g4⟩:=h1;exact⟨g1,g2,r,hp',g3.run aK,ih _ _ g4⟩;rename_i he;rw[if_neg he];split at h1;rename_i hH;rw[if_pos hH];exact h1.mono (λh2 a w η Kc Qc hk hr=>h2.call a w η Kc Qc (λs' a' w' bh hs gM=>hk s' a' w' bh (ih _ _ hs) gM) hr) (ih _);rename_i hH;rw[if_neg hH];obtain⟨x,g1,g2⟩:=h1;exact⟨x,pj.aej (R:=λhp hp'=>hp'=hp) aK rfl g1,ih _ _ g2⟩
theorem gS.first{C X:List (Option (List Nat))}{Q:AS G->Prop}{i:Nat}{oi:Oper}{x:AV}{R:List ax->List ax->Prop}(htr:∀jW yp hp3,R jW yp->R yp hp3->R jW hp3)(hrf:∀hp,R hp hp)(hi:ops[i]?=some oi)(bV:Ai H oi=false): ∀(fuel:Nat)(listed:Array Bool)(s:AS G),Shut ops listed-> (∀(j:Nat) oj,ops[j]?=some oj->j≠i->listed.getD j true=false->Reach ops i j\/(oi.apart ops oj=true/\((H oj=false/\(gR oj.op=false\/∀hp hp',sJ C j hp hp'->R hp hp'))\/(H oj=true/\gR oj.op=false/\∃l,X.getD j none=some l/\∀hp hp',ou l hp hp'->R hp hp'))))-> i∈Region.ready .any ops listed->pj Γ ops oi s x R->gS Γ ops H C X Q fuel (listed.setIfInBounds i true) (s.put oi.dst x)->gS Γ ops H C X Q (fuel+1) listed s:=by
 have own:∀{K:AS G->Prop}{s:AS G},pj Γ ops oi s x R->K (s.put oi.dst x)->kL Γ ops H C X i K s:=by intro K s hy hK;unfold kL;rw[hi];simp only[(Aj bV).1,(Aj bV).2,auE,if_false];exact⟨x,⟨hy.1,hy.2.imp (λg=>⟨g.1,λs' h1 h2=>g.2 s' h1 (by rw[h2];exact hrf _)⟩) id⟩,hK⟩
 intro fuel;induction fuel with
  |zero=>intro listed s _ _ hr hy H1;refine⟨λh=>(by rw[h]at hr;cases hr),λj hj=>?_⟩;by_cases Cu:j=i;subst Cu;exact own hy H1;have:=ready_mono hj Cu;rw[H1.1]at this;cases this|succ fuel ih=>
   intro listed s qN ic hr hy H1;refine⟨λh=>(by rw[h]at hr;cases hr),λj hj=>?_⟩;by_cases Cu:j=i;subst Cu;exact own hy H1;have h1:=H1.2 j (ready_mono hj Cu);obtain⟨Zj,oj,KX,Zb⟩:=mem_ready.1 hj;rcases ic j oj KX Cu Zj with h2|⟨hap,SK⟩;exact(Dc qN hr hj h2).elim;(obtain⟨p1,p2,p3⟩:=Oper.apart_spec hap;have p1':∀t,t∈oj.looksAt ops->(s.put oi.dst x).tmps t=s.tmps t:=by intro t ht;cases hd:oi.dst with|none=>rfl|some d=>show Cp _ _ _ _=_;rw[gW,if_neg];intro e;subst e;exact p1 _ hd ht);(have dv:∀k ok,ops[k]?=some ok->k≠i->(listed.setIfInBounds j true).getD k true=false->Reach ops i k\/(oi.apart ops ok=true/\((H ok=false/\(gR ok.op=false\/∀hp hp',sJ C k hp hp'->R hp hp'))\/(H ok=true/\gR ok.op=false/\∃l,X.getD k none=some l/\∀hp hp',ou l hp hp'->R hp hp'))):=by intro k ok hk hki CG;refine ic k ok hk hki ?_;by_cases QF:j=k;subst QF;exact Zj;rw[getD_set_ne true QF]at CG;exact CG);(have adb:∀(hp':List ax)(r:AV),(AS.put { s with hp:=hp' } oj.dst r).put oi.dst x=AS.put { s.put oi.dst x with hp:=hp' } oj.dst r:=by intro hp' r;rw[<-put_comm p2];congr 1;cases oi.dst<;>rfl);(have HE:(s.put oi.dst x).hp=s.hp:=by cases oi.dst<;>rfl);rcases SK with⟨hnH,qD⟩|⟨hyH,hnE,l,hl,hR⟩;unfold kL at h1 ⊢;rw[KX]at h1 ⊢;simp only at h1 ⊢;split at h1;rename_i hej;rw[if_pos hej];obtain⟨g1,g2,r,hp',g3,g4,g5⟩:=h1;rw[HE]at g4;have hR:=(qD.resolve_left (by rw[hej];simp)) _ _ g4;refine⟨g1,g2,r,hp',g3.Ly p1,g4,ih (listed.setIfInBounds j true) _ (eA qN hj) dv (ready_mono hr (avU Cu)) ((hy.heap htr hR).put p3) ?_⟩;rw[avX _ _ Cu];rw[adb];exact g5;rename_i hej;rw[if_neg hej,if_neg (by rw[hnH];simp)];rw[if_neg (by rw[hnH];simp)]at h1;obtain⟨y,hyj,hK⟩:=h1;refine⟨y,hyj.Ly p1,ih (listed.setIfInBounds j true) (s.put oj.dst y) (eA qN hj) dv (ready_mono hr (avU Cu)) (hy.put p3) ?_⟩;rw[avX _ _ Cu,<-put_comm p2];exact hK
   ·unfold kL at h1 ⊢;rw[KX]at h1 ⊢;simp only[hnE,hyH,auE,if_true,if_false]at h1 ⊢;unfold Ak at h1 ⊢;rw[pf p1]at h1;refine h1.imp (λh1=>⟨h1.1,?_⟩) λh1=>⟨h1.1,h1.2.1,?_⟩;rotate_left;refine ih (listed.setIfInBounds j true) _ (eA qN hj) dv (ready_mono hr (avU Cu)) (hy.put p3) ?_;rw[avX _ _ Cu,<-put_comm p2];exact h1.2.2;have h2:=h1.2;unfold LH at h2 ⊢;rw[hl]at h2 ⊢;obtain⟨N,h3,h4⟩:=h2;refine⟨N,λs' h5 h6=>h3 s' (λt ht=>(h5 t ht).trans (p1' t ht).symm) (h6.trans HE.symm),λr hp' hn=>?_⟩;obtain⟨g4,g5⟩:=h4 r hp' hn;rw[HE]at g4;refine⟨g4,ih (listed.setIfInBounds j true) _ (eA qN hj) dv (ready_mono hr (avU Cu)) ((hy.heap htr (hR _ _ g4)).put p3) ?_⟩;rw[avX _ _ Cu];rw[adb];exact g5
theorem gS.HN{C X:List (Option (List Nat))}{Q:AS G->Prop}{i:Nat}{fuel:Nat}{listed:Array Bool}(qN:Shut ops listed)(ic:∀(j:Nat) oj,ops[j]?=some oj->j≠i->listed.getD j true=false->Reach ops i j)(hr:i∈Region.ready .any ops listed)(H0:kL Γ ops H C X i (gS Γ ops H C X Q fuel (listed.setIfInBounds i true)) s):gS Γ ops H C X Q (fuel+1) listed s:=by refine⟨λh=>(by rw[h]at hr;cases hr),λj hj=>?_⟩;by_cases Cu:j=i;subst Cu;exact H0;obtain⟨Zj,oj,KX,_⟩:=mem_ready.1 hj;exact(Dc qN hr hj (ic j oj KX Cu Zj)).elim
def yY(H:Oper->Bool)(C M:List (Option (List Nat)))(l:List Oper):Bool:=
 let m:=zX l []
 (List.range l.length).all λk=>match l[k]? with
  |none=>false
  |some ok=>ok.after.toList.all (λe=>!Region.binds .any e||decide (e.on<k)) &&
    (List.range l.length).all λj=>decide (j<=k)||(m.getD j 0).testBit k||match l[j]? with
     |none=>true
     |some oj=>!Ai H ok&&(!H oj&&ok.apart l.toArray oj&&(!gR oj.op||mf C M k j ok.op))
def kT(Γ:Env G)(ops:Array Oper)(H:Oper->Bool)(C M:List (Option (List Nat)))(K:AS G->Prop):Nat->List Oper->AS G->Prop
 |_,[],s=>K s|k,o::rest,s=>if gR o.op=true then fq Γ.nt o.dst/\o.guard=none/\∃r hp',xg Γ ops o s r hp'/\sJ C k s.hp hp'/\kT Γ ops H C M K (k+1) rest (AS.put { s with hp:=hp' } o.dst r)
  else if H o=true then Ak Γ ops o s (bT Γ o s (kT Γ ops H C M K (k+1) rest)) (kT Γ ops H C M K (k+1) rest)
  else ∃x,pj Γ ops o s x (tO M k o.op)/\kT Γ ops H C M K (k+1) rest (s.put o.dst x)
theorem kT.any{C M:List (Option (List Nat))}{Q:AS G->Prop}{l0:List Oper}(hd:yY H C M l0=true):∀(l:List Oper)(k:Nat)(listed:Array Bool)(s:AS G),(∀(j:Nat),l[j]?=l0[k+j]?)->listed.size=l0.length->(∀(j:Nat),j<l0.length->listed.getD j true=decide (j<k))->k+l.length=l0.length-> kT Γ l0.toArray H C M Q k l s->gS Γ l0.toArray H C [] Q l.length listed s:=by intro l;induction l with|nil=>(intro k listed s _ cP Dj hk h;refine⟨?_,h⟩;apply List.eq_nil_iff_forall_not_mem.2;intro j hj;obtain⟨h1,o,ho,_⟩:=mem_ready.1 hj;have aE:j<l0.length:=by have:=(auW.1 ho).1;simpa using this);rw[Dj j aE]at h1;simp at h1;simp at hk;omega|cons o l ih=>(intro k listed s hl cP Dj hk h;have aK:l0[k]?=some o:=by have:=hl 0;simpa using this.symm);(have hka:l0.toArray[k]?=some o:=by simpa using aK);(have hkl:k<l0.length:=(auh.1 aK).1;have eJ:=hd;simp only[yY,auB,List.mem_range]at eJ;have sq:=eJ k hkl;rw[aK]at sq;simp only[aul,auB,List.mem_range]at sq;obtain⟨hd1,hd2⟩:=sq;have amg:listed.getD k true=false:=by rw[Dj k hkl];simp);(have Tl:∀j,j<l0.length->listed.getD j false=decide (j<k):=by intro j hj;have:=Dj j hj;simp only[au2,ava (show j<listed.size by omega),avd]at this ⊢;exact this);(have YE:k∈Region.ready .any l0.toArray listed:=by refine mem_ready.2 ⟨amg,o,hka,λe he hb=>?_⟩;have:=hd1 e (by simpa using he);rw[hb]at this;simp at this;rw[Tl e.on (by omega)];simp;exact this);(have qN:Shut l0.toArray listed:=by (intro q oq hq hoq e he hb;have hql:q<l0.length:=by have:=(auW.1 hoq).1;simpa using this);(rw[Tl q hql]at hq;have So:q<k:=by simpa using hq);(have h2:=eJ q hql;have amh:l0[q]?=some oq:=by simpa using hoq);rw[amh]at h2;simp only[aul,auB]at h2;have h3:=h2.1 e (by simpa using he);rw[hb]at h3;simp at h3;rw[Tl e.on (by omega)];simp;omega);(have LI:∀(j:Nat),(ae (zX l0 []) j 0).testBit k=true->Reach l0.toArray k j:=by intro j hj;cases hm:(zX l0 [])[j]? with|none=>simp[ae,hm]at hj|some m=>simp only[ae,hm,avd]at hj;exact Dd (ops:=l0.toArray) l0 [] (λj=>by simp) (λj m i hj=>by simp at hj) j m k hm hj);(have Tn:∀(j:Nat) oj,l0.toArray[j]?=some oj->j≠k->listed.getD j true=false->Reach l0.toArray k j\/(Ai H o=false/\H oj=false/\o.apart l0.toArray oj=true/\(gR oj.op=false\/mf C M k j o.op=true)):=by (intro j oj KX QF CG;have Li:j<l0.length:=by have:=(auW.1 KX).1;simpa using this);(rw[Dj j Li]at CG;have ami:l0[j]?=some oj:=by simpa using KX);have h2:=hd2 j Li;rw[ami]at h2;simp only[avh,decide_eq_true_eq,aul,au7]at h2;rcases h2 with(h2|h2)|h2;simp at CG;omega;exact .inl (LI j h2);exact .inr ⟨h2.1,h2.2.1.1,h2.2.1.2,h2.2.2⟩);(have dv:∀s',kT Γ l0.toArray H C M Q (k+1) l s'->gS Γ l0.toArray H C [] Q l.length (listed.setIfInBounds k true) s':=by intro s' h';refine ih (k+1) _ s' (λj=>by have:=hl (j+1);simp only[au3]at this;rw[this];congr 1;omega) (by simpa using cP) (λj hj=>?_) (by simp at hk;omega) h';by_cases QF:j=k;(subst QF;have:j<listed.size:=by omega);simp[this];rw[getD_set_ne true (avU QF),Dj j hj];simp;omega);simp only[kT]at h;split at h;(rename_i he;obtain⟨h1,h2,r,hp',h3,h4,h5⟩:=h;have SS:Ai H o=true:=by simp[Ai,he]);refine gS.HN qN (λj oj KX QF CG=>?_) YE ?_;rcases Tn j oj KX QF CG with h5|h5;exact h5;rw[SS]at h5;cases h5.1;unfold kL;rw[hka];simp only[he,if_true];exact⟨h1,h2,r,hp',h3,h4,dv _ h5⟩;rename_i he;split at h;(rename_i hH;have SS:Ai H o=true:=by simp[Ai,hH]);refine gS.HN qN (λj oj KX QF CG=>?_) YE ?_;rcases Tn j oj KX QF CG with h5|h5;exact h5;rw[SS]at h5;cases h5.1;unfold kL;rw[hka];simp only[he,hH,auE,if_true,if_false];refine h.mono (λh2=>?_) dv;show bT Γ o s _;exact λa w η Kc Qc hk hr=>h2 a w η Kc Qc (λs' a' w' bh hs gM=>hk s' a' w' bh (dv _ hs) gM) hr;rename_i hH;obtain⟨x,h1,h2⟩:=h;exact gS.first (R:=tO M k o.op) (λ_ _ _=>tO.trans) (λ_=>tO.refl) hka (by simp[Ai,he,hH]) l.length listed s qN (λj oj KX QF CG=>(Tn j oj KX QF CG).imp id λh=>⟨h.2.2.1,.inl ⟨h.2.1,h.2.2.2.imp id λhm hp hp' hc=>nz hm hc⟩⟩) YE h1 (dv _ h2)
theorem gu.agU(aK:Γ.Ok)(hm:Γ.P.follows .mixedOrders=true){id:Nat}{l:List Oper}{Q:Exit->AS G->Prop}(C M:List (Option (List Nat)))(hd:yY H C M l=true)(h:kT Γ l.toArray H C M (Q .normal) 0 l s):gu Γ (.region id l.toArray true) Q s:=by intro a w η hr;refine wpIn_region_any hm ?_;have:=(kT.any (Γ:=Γ) (C:=C) (M:=M) hd l 0 (Array.replicate l.length false) s (λj=>by simp) (by simp) (λj hj=>by simp[hj]) (by simp) h).any aK;have h2:=Di.sound (Qc:=λe a' w'=>∃s' bh,Q e s'/\Rel Γ s' a' w' bh) aK (λs' a' w' bh h1 h2=>⟨s',bh,h1,h2⟩) _ _ _ a w.drew η this (hr.same aK (ck.drew w));simpa using h2
end
section
variable {Γ:Env Unit} {s s':AS Unit} {a:Act} {w w':World} {η:List Value} {hp:List ax}
def Tp(r:Nat)(e:AV):AV->AV
 | .ptr r' o=>(match Nat.beq r r' with|true=>.aV e o|false=>.ptr r' o)|x=>x
def NQ(r:Nat)(e:AV):List AV->List AV
 | []=>[]|x::l=>Tp r e x::NQ r e l
def Tq(r:Nat)(e:AV):AV->AV
 | .ptr r' o=>(match Nat.beq r r' with|true=>.aV e o|false=>.ptr r' o)| .bw f caps=>.bw f (NQ r e caps)|x=>x
theorem HO(r:Nat)(e:AV):∀(l:List AV),NQ r e l=l.map (Tp r e)
 | []=>rfl|x::l=>by simp[NQ,HO r e l]
theorem cW.amj(aK:Γ.Ok){f:Nat->AV}{g:Unit}{r:Nat}{cs:List AV}(hr:hp[r]?=some (.box cs)):cW Γ ⟨f,hp,g⟩ ⟨λt=>Tq r (Hu (cs.map (AV.eF hp))) (f t),hp.set r .dead,g⟩:=by
 intro a w η h;have aE:r<η.length:=by have:=h.heap.len;simp only at this;rw[this];exact(auh.1 hr).1
 have hv:η[r]?=some η[r]:=by simp[aE]
 obtain⟨b,vs,T,hb,kR,cP,gK⟩:=h.heap.obj r _ _ hr hv;have fL:η.set r η[r]=η:=by apply avb;intro i;by_cases hi:r=i;subst hi;rw[aD hv,hv];rw[getElem?_set_ne hi]
 have hd:=Rel.change (w':=w) (o':=.dead) (v':=η[r]) aK h hr ai hv (cy.refl _ w) (λb hb=>.inl hb) (λk hk=>hk.elim) (λ_ _ _ _ hk _=>hk.elim) (λ_ _ _ _ hk _=>hk.elim) (λn u ho=>by simp[bk,hr]at ho) (λ_ _=>rfl) (λ_ _=>rfl) (λb' d fX hd=>by rw[hb]at fX;simp only[da,aug]at fX;subst fX;rw[kR]at hd;cases hd) (λ_=>ai);rw[fL]at hd;have hm:=h.cu r _ _ b hr ai hv (by rw[hb];rfl);have sv:∀k,bu Γ w η (hp.set r .dead) b k:=by intro k;refine⟨.inr hm.1,cf kR,hm.2 _,?_⟩;intro r1 u h1 xo;by_cases bV:r=r1;subst bV;rw[aD hr];trivial;(rw[getElem?_set_ne bV];have Tr:r1<hp.length:=by have:=h.heap.len;simp only at this;rw[<-this];exact(auh.1 h1).1);(have ho:hp[r1]?=some hp[r1]:=by simp[Tr]);rw[ho];cases hk:hp[r1]with|dead=>trivial|box eL=>exact(h.heap.sep r r1 _ (.box eL) _ u b bV hr (by rw[<-hk];exact ho) ai ai hv h1 (by rw[hb];rfl) xo).elim|row e z els=>exact(h.heap.sep r r1 _ (.row e z els) _ u b bV hr (by rw[<-hk];exact ho) ai ai hv h1 (by rw[hb];rfl) xo).elim|cJ es'=>exact(h.heap.sep r r1 _ (.cJ es') _ u b bV hr (by rw[<-hk];exact ho) ai ai hv h1 (by rw[hb];rfl) xo).elim|jq q k=>exact(h.heap.sep r r1 _ (.jq q k) _ u b bV hr (by rw[<-hk];exact ho) ai ai hv h1 (by rw[hb];rfl) xo).elim|aW e z els=>exact(h.heap.sep r r1 _ (.aW e z els) _ u b bV hr (by rw[<-hk];exact ho) ai ai hv h1 (by rw[hb];rfl) xo).elim|fC e m ns=>exact(h.heap.sep r r1 _ (.fC e m ns) _ u b bV hr (by rw[<-hk];exact ho) ai ai hv h1 (by rw[hb];rfl) xo).elim
 have Ts:∀b k,bu Γ w η hp b k->bu Γ w η (hp.set r .dead) b k:=by intro b k hf;refine⟨hf.1,hf.2.1,hf.2.2.1,(bn b k).2 λr1 u h1 xo=>?_⟩;obtain⟨o,g1,g2⟩:=(bn b k).1 hf.2.2.2 r1 u h1 xo;by_cases bV:r=r1;subst bV;exact⟨.dead,aD hr,ai⟩;exact⟨o,by rw[getElem?_set_ne bV];exact g1,g2⟩
 have key:∀(o:Nat)(v:Value){oS:List Value}{jW:List ax},bo w (bu Γ w η (hp.set r .dead)) η (hp.set r .dead) (.ptr r o) v->bo w (bu Γ w η (hp.set r .dead)) oS jW (.aV (Hu (cs.map (AV.eF hp))) o) v:=by
  intro o v oS jW hp';cases hp' with
   |ptr _ _ b' fX=>
    rw[hv,hb]at fX;simp only[aug,Value.pointer.injEq,Addr.mk.injEq,and_true]at fX;subst fX;have dT:∀(j:Nat)(x:AV),(cs.map (AV.eF hp))[j]?=some x->∃y u,cs[j]?=some y/\x=y.eF hp/\vs[j]?=some u:=by intro j x hx;rw[auu]at hx;cases hj:cs[j]? with|none=>rw[hj]at hx;cases hx|some y=>(rw[hj]at hx;obtain rfl:=auj hx;have:j<vs.size:=by rw[cP];exact(auh.1 hj).1);exact⟨y,vs[j],rfl,rfl,by simp[this]⟩
    have hE:=bo.aV (w:=w) (F:=bu Γ w η (hp.set r .dead)) (η:=oS) (hp:=jW) (Hu (cs.map (AV.eF hp))) o b 0 (λj=>(vs[j]?).getD undef) (λj x hx=>by
      rw[pd]at hx;obtain⟨y,u,h1,h2,h3⟩:=dT j x hx;refine⟨?_,sv _,?_⟩;simp[World.cell?,kR,h3]
      ·simp only[h3,avd];exact(gK j y u h1 h3).2) (λj x hx=>by
      rw[pd]at hx;obtain⟨y,u,h1,h2,h3⟩:=dT j x hx;subst h2;simp only[h3,avd];exact(jF h.heap h.cu (gK j y u h1 h3).1).ext ⟨λ_ _ _ _ h=>h,λ_ _ _ _ h=>h,Ts,λ_ _ h=>h,λ_ _ h=>h,λ_ _ _ h=>h⟩)
    rw[auO]at hE;exact hE
 refine⟨η,hd.nt,λt=>?_,hd.heap,hd.cu,hd.keeps,hd.inv,hd.marks,hd.ext⟩;have ht:=hd.tmps t;simp only at ht ⊢;cases hx:f t with
  |ptr r' o=>rw[hx]at ht;simp only[Tq];split;rename_i NI;obtain rfl:=auG NI;exact key o _ ht;exact ht|bw fn caps=>rw[hx]at ht;simp only[Tq,HO];generalize hvt:a.tmps.getD t undef=v at ht;cases ht with|bw _ _ us hl YC=>refine .bw fn _ us (by simpa using hl) λj y u hy hu=>?_;rw[auu]at hy;cases hj:caps[j]? with|none=>rw[hj]at hy;cases hy|some z=>rw[hj]at hy;obtain rfl:=auj hy;have hz:=YC j z u hj hu;cases z with|ptr r' o=>simp only[Tp];split;rename_i NI;obtain rfl:=auG NI;exact key o _ hz;exact hz|_=>exact hz
  |_=>rw[hx]at ht;exact ht
def aen(r:Nat)(es:ME):AV->AV
 | .mp r'=>if r=r' then .eo es else .mp r'|x=>x
def NR(r:Nat)(es:ME):List AV->List AV
 | []=>[]|x::l=>aen r es x::NR r es l
def Tt(r:Nat)(es:ME):AV->AV
 | .mp r'=>if r=r' then .eo es else .mp r'| .agg cs=>.agg (NR r es cs)|x=>x
theorem HP(r:Nat)(es:ME):∀(l:List AV),NR r es l=l.map (aen r es)
 | []=>rfl|x::l=>by simp[NR,HP r es l]
theorem cW.frz(aK:Γ.Ok){f:Nat->AV}{g:Unit}{r:Nat}{es:ME}(hr:hp[r]?=some (.cJ es)):cW Γ ⟨f,hp,g⟩ ⟨λt=>Tt r es (f t),hp.set r .dead,g⟩:=by
 intro a w η h;have aE:r<η.length:=by have:=h.heap.len;simp only at this;rw[this];exact(auh.1 hr).1
 have hv:η[r]?=some η[r]:=by simp[aE]
 obtain⟨b,en,c,hb,kR,zR⟩:=h.heap.obj r _ _ hr hv;have fL:η.set r η[r]=η:=by apply avb;intro i;by_cases hi:r=i;subst hi;rw[aD hv,hv];rw[getElem?_set_ne hi]
 have hd:=Rel.change (w':=w) (o':=.dead) (v':=η[r]) aK h hr ai hv (cy.refl _ w) (λb hb=>.inl hb) (λk hk=>hk.elim) (λ_ _ _ _ hk _=>hk.elim) (λ_ _ _ _ hk _=>hk.elim) (λn u ho=>by simp[bk,hr]at ho) (λ_ _=>rfl) (λ_ _=>rfl) (λb' d fX hd=>by rw[hb]at fX;simp only[da,aug]at fX;subst fX;rw[kR]at hd;cases hd) (λ_=>ai);rw[fL]at hd;have key:∀{v:Value},bo w (bu Γ w η (hp.set r .dead)) η (hp.set r .dead) (.mp r) v->bo w (bu Γ w η (hp.set r .dead)) η (hp.set r .dead) (.eo es) v:=by intro v ht;cases ht with|mp _ b' fX=>rw[hv,hb]at fX;simp only[aug,Value.map.injEq]at fX;subst fX;have hm:=h.cu r _ _ b hr ai hv (by rw[hb];rfl);refine .eo b en c kR ⟨.inr hm.1,?_,hm.2 _,?_⟩ es zR;exact(auW.1 kR).1;intro r1 u h1 xo;by_cases bV:r=r1;subst bV;rw[aD hr];trivial;(rw[getElem?_set_ne bV];have Tr:r1<hp.length:=by have:=h.heap.len;simp only at this;rw[<-this];exact(auh.1 h1).1);(have ho:hp[r1]?=some hp[r1]:=by simp[Tr]);rw[ho];cases hk:hp[r1]with|dead=>trivial|box cs=>exact(h.heap.sep r r1 _ (.box cs) _ u b bV hr (by rw[<-hk];exact ho) ai ai hv h1 (by rw[hb];rfl) xo).elim|row e z els=>exact(h.heap.sep r r1 _ (.row e z els) _ u b bV hr (by rw[<-hk];exact ho) ai ai hv h1 (by rw[hb];rfl) xo).elim|cJ es'=>exact(h.heap.sep r r1 _ (.cJ es') _ u b bV hr (by rw[<-hk];exact ho) ai ai hv h1 (by rw[hb];rfl) xo).elim|jq q k=>exact(h.heap.sep r r1 _ (.jq q k) _ u b bV hr (by rw[<-hk];exact ho) ai ai hv h1 (by rw[hb];rfl) xo).elim|aW e z els=>exact(h.heap.sep r r1 _ (.aW e z els) _ u b bV hr (by rw[<-hk];exact ho) ai ai hv h1 (by rw[hb];rfl) xo).elim|fC e m ns=>exact(h.heap.sep r r1 _ (.fC e m ns) _ u b bV hr (by rw[<-hk];exact ho) ai ai hv h1 (by rw[hb];rfl) xo).elim
 refine⟨η,hd.nt,λt=>?_,hd.heap,hd.cu,hd.keeps,hd.inv,hd.marks,hd.ext⟩;have ht:=hd.tmps t;simp only at ht ⊢;cases hx:f t with
  |mp r'=>rw[hx]at ht;simp only[Tt];split;rename_i NI;subst NI;exact key ht;exact ht|agg cs=>rw[hx]at ht;simp only[Tt,HP];generalize hvt:a.tmps.getD t undef=v at ht;cases ht with|agg _ us hl h1 YC=>refine .agg _ us (by simpa using hl) h1 λj y u hy hu=>?_;rw[auu]at hy;cases hj:cs[j]? with|none=>rw[hj]at hy;cases hy|some z=>rw[hj]at hy;obtain rfl:=auj hy;have hz:=YC j z u hj hu;cases z with|mp r'=>simp only[aen];split;rename_i NI;subst NI;exact key hz;exact hz|_=>exact hz
  |_=>rw[hx]at ht;exact ht
def Tu:List AV->List Nat
 | []=>[]| .ptr r _::l=>r::Tu l|_::l=>Tu l
def Tv:List AV->List Nat
 | []=>[]| .mp r::l=>r::Tv l|_::l=>Tv l
def EU:List AV->List Nat
 | []=>[]| .bw _ caps::l=>Tu caps++EU l| .agg cs::l=>Tv cs++EU l|_::l=>EU l
def nb:List Nat->AS Unit->List Prop×AS Unit
 | [],s=>([],s)|r::l,s=>(match s.hp[r]? with|some (.box cs)=>((cZ (AV.jG s.hp) cs).1++(nb l ⟨λt=>Tq r (Hu (cZ (AV.jG s.hp) cs).2) (s.tmps t),s.hp.set r .dead,s.g⟩).1, (nb l ⟨λt=>Tq r (Hu (cZ (AV.jG s.hp) cs).2) (s.tmps t),s.hp.set r .dead,s.g⟩).2)|some (.cJ es)=>nb l ⟨λt=>Tt r es (s.tmps t),s.hp.set r .dead,s.g⟩|_=>nb l s)
theorem uh(aK:Γ.Ok):∀(l:List Nat)(s:AS Unit),eM (nb l s).1->cW Γ s (nb l s).2
 | [],s,_=>.refl s|r::l,s,hc=>by simp only[nb]at hc ⊢;split at hc;rename_i cs hr;rw[bU]at hc;have hm:=cE (g:=AV.eF s.hp) (λx=>lJ) cs hc.1;refine(?_:cW Γ s _).trans (uh aK l _ hc.2);have:=cW.amj (Γ:=Γ) (f:=s.tmps) (g:=s.g) aK hr;rw[hm]at this;exact this;rename_i es hr;exact cW.trans (cW.frz (Γ:=Γ) (f:=s.tmps) (g:=s.g) aK hr) (uh aK l _ hc);exact uh aK l s hc
end
section
def adf(F:Nat->Nat->Prop)(w w':World)(v:Value)(b o:Nat):Prop:=F b o\/(w.heap.size<=b/\b<w'.heap.size/\da v≠some b)
def adg(w:World)(F:Nat->Nat->Prop)(w':World)(e size:Nat)(els:List AV)(v:Value):Prop:=
 ck w w'/\v.oneCell'=true/\(∀b,da v=some b->w.heap.size<=b)/\0<size/\∃xs:List Value,mT w' e size v els.length xs 0/\
  ∀(i:Nat)(el:AV),els[i]?=some el->el.cells.length=size/\
   ∀(j:Nat)(x:AV),el.cells[j]?=some x->∃u,xs[i*size+j]?=some u/\bo w' (adf F w w' v) [] [] x u/\u.oneCell'=true
def MFn(P:Program)(f:FuncId)(args:List AV)(e size:Nat)(els:List AV):Prop:=
 oo P f/\∀(w:World)(F:Nat->Nat->Prop)(vals:List Value),(∀b o,F b o->b<w.heap.size)->oU w->cC w F [] [] args vals->
  CallsIn Fence.wide 0 P f vals.toArray w (λen w'=>∃v,en=.returned v/\adg w F w' e size els v)
variable {G:Type} {Γ:Env G} {s s':AS G} {a:Act} {w w':World} {η:List Value} {hp:List ax} {P:Program}
theorem QG(aK:Γ.Ok)(h:Rel Γ s a w η)(hs:ck w w'){v:Value}(hv:∀b,da v=some b->w.heap.size<=b){o:ax}{b k:Nat}(hb:adf (bu Γ w η s.hp) w w' v b k):bu Γ w' (η++[v]) (s.hp++[o]) b k:=by rcases hb with h1|⟨h1,h2,h3⟩;exact(tR (Γ:=Γ) (o:=o) h.heap.len hs hv).bC b k h1;refine⟨.inr (.inl (auM h.keeps.size h1)),h2,λhx=>by have:=aK.no hx;have:=h.keeps.size;omega,(bn b k).2 λr u hu Sm=>?_⟩;rcases ef hu with g1|⟨g1,g2⟩;(have gM:r<s.hp.length:=by rw[<-h.heap.len];exact(auh.1 g1).1);(have ho:s.hp[r]?=some s.hp[r]:=by simp[gM]);refine⟨s.hp[r],cV ho,?_⟩;(cases hk:s.hp[r]with|dead=>exact ai|_=>rw[hk]at ho;have:=h.heap.block ho ai g1 Sm;omega);subst g2;exact(h3 Sm).elim
theorem bT.fresh(aK:Γ.Ok){o:Oper}{c:Call}{x:Operand}(ho:o.op=.call c)(hc:c.callee=.value x){f:FuncId}{caps:List AV}(hx:s.ev x=.bw f caps){e size:Nat}{els:List AV}(hP:MFn Γ.P f ((c.args.toList.map s.ev++caps).map (AV.cd s.hp)) e size els)(hd:fq Γ.nt o.dst){K:AS G->Prop}(hK:K (AS.put { s with hp:=s.hp++[.aW e size els] } o.dst (.own s.hp.length els.length))):bT Γ o s K:=by intro a w η Kc Qc hk hr;have eV:=hr.ev x;rw[hx]at eV;generalize hv:a.eval x=v at eV;cases eV with|bw _ _ vs hl dW=>(refine⟨λ_ _=>trivial,?_⟩;have bV:∀c',o.op ≠ .defer c':=by intro c' h;rw[ho]at h;cases h);(rw[Oper.semAt_eq _ _ _ bV,gN ho hc hP.1 hv];have aQ:(c.args.map a.eval++vs)=(c.args.toList.map a.eval++vs.toList).toArray:=by apply avy;simp);have dL:cC w (bu Γ w η s.hp) η s.hp caps vs.toList:=dM (by simpa using hl) λj y u hy hu=>dW j y u hy (by simpa using hu);have iH:=mX hr _ _ (eP _ _ (iu hr c.args.toList) dL);refine⟨λh=>(by cases h),?_⟩;rw[aQ];have eg:=hP.2 w (bu Γ w η s.hp) _ (λ_ _=>fk) (hr.iN aK) iH;refine CallsIn.mono (F:=Γ.fR) ?_ (R:=λen w'=>∃v,en=.returned v/\adg w (bu Γ w η s.hp) w' e size els v) λen w' ⟨u,he,hs,h1,sv,hz,xs,eH,fD⟩=>?_;exact eg;subst he;have Ct:Rel Γ (s.add (.aW e size els)) a w' (η++[u]):=hr.add aK (o:=.aW e size els) (v:=u) hs sv ⟨hz,xs,eH,λi el hi=>⟨(fD i el hi).1,λj y hj=>let ⟨v1,q1,q2,q3⟩:=(fD i el hi).2 j y hj;⟨v1,q1,q2.bC λb k h=>QG aK hr hs sv h,q3⟩⟩⟩;(refine hk _ _ _ _ hK (Rel.put (s:={ s with hp:=s.hp++[.aW e size els] }) Ct (dc hd) (.own _ _ _ h1 ?_));unfold bk;have:(s.hp++[ax.aW e size els])[s.hp.length]?=some (.aW e size els):=by simp);rw[this];exact⟨aum _,λ_=>by rw[<-hr.heap.len];simp⟩
end
section
inductive YF where
 |load (k:IntKind)
 |store
 |add (k:IntKind)
 |cas (k:IntKind)
 |same
def YF.run:YF->Array Value->Sem Value
 | .load k=>Extern.Atomic.loadT (.int k)| .store=>Extern.Atomic.storeT| .add k=>Extern.Atomic.update (Op.intArith .add) k true| .cas k=>Extern.Atomic.casT (.int k)| .same=>Extern.AbiNoEscape.same
def XOk(P:Program)(f:Nat)(x:YF):Prop:=∃fn,P.funcs[f]?=some fn/\(fn.name == "runtime.NumGoroutine")=false/\fn.body.isNone=true/\Extern.findNext fn=none/\Extern.find fn=some x.run
def adh(hp:List ax)(r off:Nat):YF->Option (AV×List ax)
 | .load k=>(match hp[r]? with|some (.box cs)=>(match cs[off]? with|some (.ay (.int k' n))=>if k'=k then some (.ay (.int k n),hp)else none|_=>none)|_=>none)| .same=>some (.ptr r off,hp)|_=>none
def adi(hp:List ax)(r off:Nat)(k1:IntKind)(y:Int):YF->Option (AV×List ax)
 | .store=>(match hp[r]? with|some (.box cs)=>if off<cs.length then some (.ay (.tuple #[]),hp.set r (.box (cs.set off (.ay (.int k1 y)))))else none|_=>none)| .add k=>(match hp[r]? with|some (.box cs)=>(match cs[off]? with|some (.ay (.int k' n))=>if k'=k/\k1=k then some (.ay (.int k (k.wrap (n+y))),hp.set r (.box (cs.set off (.ay (.int k (k.wrap (n+y)))))))else none|_=>none)|_=>none)|_=>none
def adj(hp:List ax)(r off:Nat)(k1:IntKind)(y:Int)(k2:IntKind)(z:Int):YF->Option (AV×List ax)
 | .cas k=>(match hp[r]? with|some (.box cs)=>(match cs[off]? with|some (.ay (.int k' n))=>if k'=k/\k1=k/\k2=k then some (.ay (.bool (decide (n=y))),hp.set r (.box (cs.set off (.ay (.int k (if n=y then z else n))))))else none|_=>none)|_=>none)|_=>none
def aeo(x:YF)(hp:List ax):List AV->Option (AV×List ax)
 | [.ptr r off]=>adh hp r off x| [.ptr r off,.ay (.int k1 y)]=>adi hp r off k1 y x| [.ptr r off,.ay (.int k1 y),.ay (.int k2 z)]=>adj hp r off k1 y k2 z x|_=>none
variable {G:Type} {Γ:Env G} {s s':AS G} {a:Act} {w w':World} {η:List Value} {hp:List ax} {P:Program}
theorem Am(hr:Rel Γ s a w η){r off b:Nat}{cs:List AV}{v:Value}(hb:s.hp[r]?=some (.box cs))(fL:η[r]?=some (.pointer (some ⟨b,0,none⟩)))(hc:cs[off]?=some (.ay v)): w.cell? ⟨b,off,none⟩=some v/\w.frozen? ⟨b,off,none⟩=false:=by (obtain⟨b',ws,T,he,hg,cP,gK⟩:=hr.heap.obj r _ _ hb fL;simp only[Value.pointer.injEq,aug,Addr.mk.injEq,and_true]at he;subst he;have aE:off<ws.size:=by rw[cP];exact(auh.1 hc).1);(have hu:ws[off]?=some ws[off]:=by simp[aE]);have:=(gK off _ _ hc hu).1.aC;refine⟨?_,frozen_of_row w b off ws T hg⟩;rw[cell_of_row w b off ws T (0,0) hg,hu,this]
theorem LJ(aK:Γ.Ok){f:Nat}{x:YF}(hX:XOk Γ.P f x){o:Oper}{c:Call}{y:Operand}(ho:o.op=.call c)(hc:c.callee=.value y){caps:List AV}(dL:s.ev y=.bw f caps){r:AV}{hp':List ax}(h:aeo x s.hp (c.args.toList.map s.ev++caps)=some (r,hp')):iB Γ o s r hp':=by intro a w η hr;obtain⟨fn,hf,jB,kS,dv,qC⟩:=hX;have hyr:=hr.ev y;rw[dL]at hyr;generalize hv:a.eval y=v at hyr;cases hyr with|bw _ _ vs hl dW=>(have aQ:(c.args.map a.eval++vs)=(c.args.toList.map a.eval++vs.toList).toArray:=by apply avy;simp);(have K3:cC w (bu Γ w η s.hp) η s.hp caps vs.toList:=dM (by simpa using hl) λj y u hy hu=>dW j y u hy (by simpa using hu);have iH:=eP _ _ (iu hr c.args.toList) K3;have qd:(execOp a.eval o).run Γ.P w=(callFunc f (c.args.toList.map a.eval++vs.toList).toArray).run Γ.P w:=by rw[<-aQ];simp[execOp,ho,resolve,hc,hv,Deferred.ofValue,invoke]);(generalize c.args.toList.map a.eval++vs.toList=vals at iH qd;have one:∀{r1 off:Nat}{l:List AV}{vals:List Value},cC w (bu Γ w η s.hp) η s.hp (.ptr r1 off::l) vals->∃b us,vals=.pointer (some ⟨b,off,none⟩)::us/\η[r1]?=some (.pointer (some ⟨b,0,none⟩))/\cC w (bu Γ w η s.hp) η s.hp l us:=by intro r1 off l vals h;match vals,h with|u::us,h=>cases h.1 with|ptr _ _ b fL=>exact⟨b,us,rfl,fL,h.2⟩);(have ay:∀{u:Value}{l:List AV}{vals:List Value},cC w (bu Γ w η s.hp) η s.hp (.ay u::l) vals->∃us,vals=u::us/\cC w (bu Γ w η s.hp) η s.hp l us:=by intro u l vals h;match vals,h with|u'::us,h=>exact⟨us,by rw[h.1.aC],h.2⟩);(have nil:∀{vals:List Value},cC w (bu Γ w η s.hp) η s.hp [] vals->vals=[]:=by intro vals h;match vals,h with| [],_=>rfl);unfold aeo at h;split at h;rename_i r1 off hL;rw[hL]at iH;obtain⟨b,us,rfl,fL,Ag⟩:=one iH;obtain rfl:=nil Ag;unfold adh at h;split at h;rename_i k;split at h;rename_i cs hb;split at h;rename_i k' n aR;split at h;rename_i hk;subst hk;simp only[aug,auk]at h;obtain⟨rfl,rfl⟩:=h;have xf:=(Am hr hb fL aR).1;exact⟨_,w,η,.inl (qd.trans (run_call_load hf jB kS dv _ qC xf)),hr,.ay _⟩;cases h;cases h;cases h;simp only[aug,auk]at h;obtain⟨rfl,rfl⟩:=h;refine⟨.pointer (some ⟨b,off,none⟩),w,η,.inl (qd.trans ?_),hr,.ptr _ _ b fL⟩;rw[run_callFunc_extern hf jB kS dv qC];rfl;cases h;rename_i r1 off k1 y1 hL;rw[hL]at iH;obtain⟨b,us,rfl,fL,Ag⟩:=one iH;obtain⟨us',rfl,LK⟩:=ay Ag;obtain rfl:=nil LK;unfold adi at h;split at h;split at h;rename_i cs hb;split at h;rename_i aE;simp only[aug,auk]at h;obtain⟨rfl,rfl⟩:=h;obtain⟨h1,h2,u',h3⟩:=hr.write aK (off:=off) (v:=.int k1 y1) (x:=.ay (.int k1 y1)) hb fL aE rfl (.ay _);exact⟨_,_,η,.inl (qd.trans (run_call_store hf jB kS dv qC h3 h2)),h1,.ay _⟩;cases h;cases h;rename_i k;split at h;rename_i cs hb;split at h;rename_i k' n aR;split at h;rename_i hk;obtain⟨rfl,rfl⟩:=hk;simp only[aug,auk]at h;obtain⟨rfl,rfl⟩:=h;have xf:=(Am hr hb fL aR).1;obtain⟨h1,h2,_⟩:=hr.write aK (off:=off) (v:=.int k1 (k1.wrap (n+y1))) (x:=.ay (.int k1 (k1.wrap (n+y1)))) hb fL (auh.1 aR).1 rfl (.ay _);exact⟨_,_,η,.inl (qd.trans (run_call_add hf jB kS dv _ qC xf h2 rfl)),h1,.ay _⟩;cases h;cases h;cases h;cases h;rename_i r1 off k1 y1 k2 z1 hL;rw[hL]at iH;obtain⟨b,us,rfl,fL,Ag⟩:=one iH;obtain⟨us',rfl,LK⟩:=ay Ag;obtain⟨arH,rfl,aep⟩:=ay LK;obtain rfl:=nil aep;unfold adj at h;split at h;rename_i k;split at h;rename_i cs hb;split at h;rename_i k' n aR;split at h;rename_i hk;obtain⟨rfl,rfl,rfl⟩:=hk;simp only[aug,auk]at h;obtain⟨rfl,rfl⟩:=h;obtain⟨xf,hfz⟩:=Am hr hb fL aR;by_cases hn:n=y1;subst hn;obtain⟨h1,h2,_⟩:=hr.write aK (off:=off) (v:=.int k2 z1) (x:=.ay (.int k2 z1)) hb fL (auh.1 aR).1 rfl (.ay _);rw[if_pos rfl,decide_eq_true rfl];exact⟨_,_,η,.inl (qd.trans (run_call_cas_hit hf jB kS dv _ qC xf hfz)),h1,.ay _⟩;(rw[if_neg hn,decide_eq_false hn];have yo:s.hp.set r1 (.box (cs.set off (.ay (.int k2 n))))=s.hp:=by (have:cs.set off (.ay (.int k2 n))=cs:=by apply avb;intro i;by_cases hi:off=i;subst hi;rw[aD aR,aR];rw[getElem?_set_ne hi]);rw[this];apply avb;intro i;by_cases hi:r1=i;subst hi;rw[aD hb,hb];rw[getElem?_set_ne hi]);rw[yo];exact⟨_,w,η,.inl (qd.trans (run_call_cas_miss hf jB kS dv _ qC xf hfz hn)),hr,.ay _⟩;cases h;cases h;cases h;cases h;cases h
def Tw:AV->Bool
 | .ay (.pointer none)=>true|_=>false
def aeq(tab:Nat->Option TD)(ρ:Operand->AV):Op->Option AV
 | .binOp op T x y _=>(match tab T,EF (ρ x),Tw (ρ y)with|some d,some b,true=>(match d.kind with| .ptr _=>(match op with| .eql=>some (.ay (.bool b))| .neq=>some (.ay (.bool (!b)))|_=>none)|_=>none)|_,_,_=>none)| .convert S D x=>(match tab S,tab D,ρ x with|some _,some d,.ay (.int _ n)=>(match d.kind with| .int k=>some (.ay (.int k (k.wrap n)))|_=>none)|_,_,_=>none)|_=>none
theorem LL{tab:Nat->Option TD}(aB:bp Γ.P tab){o:Oper}{r:AV}(h:aeq tab s.ev o.op=some r):fQ Γ o s r:=by generalize ho:o.op=op at h;unfold aeq at h;split at h;rename_i bop T x y T';split at h;(rename_i d b hd hb hy;have EI:s.ev y=.ay (.pointer none):=by unfold Tw at hy;split at hy;assumption;cases hy);split at h;(rename_i e hk;have hu:Γ.P.underlying T=some (.pointer (Γ.P.pointee T)):=by (obtain⟨u,q2,q3⟩:=(aB T d hd).mL;rw[hk]at q3;have:Γ.P.underlying T=some (.pointer e):=by rw[q2];exact congrArg some q3);rw[this,Program.pointee,this]);split at h;obtain rfl:=auj h;refine bj λa w η hr=>?_;obtain⟨p,hp,Y5⟩:=rP hb (hr.ev x);have h2:=hr.ev y;rw[EI]at h2;have h2:=h2.aC;refine⟨.bool b,?_,.ay _⟩;simp only[execOp,ho,hp,h2,eqGuard,avm,auE,if_false,ao,aq,al,run_eql_pointer_nil w T p hu,Y5];obtain rfl:=auj h;refine bj λa w η hr=>?_;obtain⟨p,hp,Y5⟩:=rP hb (hr.ev x);have h2:=hr.ev y;rw[EI]at h2;have h2:=h2.aC;refine⟨.bool (!b),?_,.ay _⟩;simp only[execOp,ho,hp,h2,eqGuard,avm,auE,if_false,ao,aq,al,run_neq_pointer_nil w T p hu,Y5];cases h;cases h;cases h;rename_i S D x;split at h;rename_i d1 d k n hS hD hx;split at h;(rename_i k2 hk;obtain rfl:=auj h;refine bj λa w η hr=>?_;have h1:=hr.ev x;rw[hx]at h1;have h1:=h1.aC;obtain⟨u1,q1,_⟩:=(aB S d1 hS).mL;have hu:Γ.P.underlying D=some (.int k2):=by obtain⟨u,q2,q3⟩:=(aB D d hD).mL;rw[hk]at q3;rw[q2];exact congrArg some q3);refine⟨.int k2 (k2.wrap n),?_,.ay _⟩;simp only[execOp,ho,h1,convert,ao,run_underlying q1,run_underlying hu,al];rfl;cases h;cases h;cases h
def v7:List AV->Option (List Int)
 | []=>some []| .ay (.int .u8 n)::l=>(match v7 l with|some zs=>some (n::zs)|none=>none)|_=>none
theorem An:∀{l:List AV}{zs:List Int},v7 l=some zs->zs.length=l.length/\∀i,i<l.length->l[i]?=some (.ay (.int .u8 (zs.getD i 0)))
 | [],zs,h=>by cases h;exact⟨rfl,λi hi=>by simp at hi⟩|x::l,zs,h=>by unfold v7 at h;split at h;rename_i e;cases e;rename_i n l' e;obtain⟨rfl,rfl⟩:=List.cons.inj e;split at h;rename_i ys hy;obtain rfl:=auj h;obtain⟨h1,h2⟩:=An hy;refine⟨by simp[h1],λi hi=>?_⟩;(cases i with|zero=>rfl|succ i=>simpa using h2 i (by simpa using hi));cases h;cases h
def Ao:AV->Option (List Int)
 | .clip (x::l)=>v7 (x::l)| .sl (x::l)=>v7 (x::l)|_=>none
def Tx(tab:Nat->Option TD)(hp:List ax)(ρ:Operand->AV):Op->Option (List Prop×AV×List ax)
 | .convert S D x=>(match tab S,tab D with|some d,some du=>(match d.kind,du.kind with| .kY e,.str=>(match tab e with|some de=>(match de.kind with| .int .u8=>(match Ao (ρ x)with|some zs=>some ([],.ay (.string (strOfNums zs)),hp)|none=>none)|_=>none)|none=>none)| .str,.kY e=>(match tab e,ρ x with|some de,.ay (.string u)=>(match de.kind with| .int .u8=>some ([u.size<=140737488355328],.sl (jA u),hp)|_=>none)|_,_=>none)|_,_=>none)|_,_=>none)| .call c=>(match c.callee,c.args.toList,c.argTypes.toList with| .builtin .append,[b,x],[T,T']=>(match tab T,tab T',ρ b,ρ x with|some d,some du,.own r n,.ay (.string s)=>(match d.kind,du.kind,hp[r]? with| .kY e,.str,some (.row e' size els)=>(match tab e with|some d'=>(match d'.zero with| .int .u8 0=>if e'=e/\size=d'.size/\d'.size=1/\d'.bytes=1 then some ([n=els.length,els.length+s.size<=140737488355328],.own r (els++jA s).length,hp.set r (.row e size (els++jA s)))else none|_=>none)|none=>none)|_,_,_=>none)|_,_,_,_=>none)|_,_,_=>none)| .load T p=>(match tab T,ρ p with|some d,.ptr r 1=>(match d.kind,hp[r]? with| .kY _,some (.jq q n)=>if d.size=1 then some ([],.own q n,hp)else none|_,_=>none)|_,_=>none)| .store T p x=>(match tab T,ρ p,ρ x with|some d,.ptr r 1,.own q m=>(match d.kind,hp[r]? with| .kY _,some (.jq q' _)=>if d.size=1/\q'=q then some ([m≠0],.top,hp.set r (.jq q m))else none|_,_=>none)|_,_,_=>none)| .box T x=>if T=Cw then(match ρ x with| .agg [.ay (.pointer none),.ay (.slice none 0 0)]=>(match tab 5 with|some d=>(match d.zero with| .int .u8 0=>if d.size=1 then some ([],.ptr hp.length 0,hp++[.jq (hp.length+1) ([]:List AV).length,.row 5 1 []])else none|_=>none)|none=>none)|_=>none)else none|_=>none
theorem HQ(aK:Γ.Ok){tab:Nat->Option TD}(aB:bp Γ.P tab){o:Oper}{c:Call}(ho:o.op=.call c)(hb:c.callee=.builtin .append){b x:Operand}(hl:c.args.toList=[b,x]){T T' e r:Nat}(hT:c.argTypes.toList=[T,T']){d du d':TD}(hd:tab T=some d)(YG:tab T'=some du)(hk:d.kind=.kY e)(Tz:du.kind=.str)(eJ:tab e=some d')(hz:d'.zero=.int .u8 0)(h1:d'.size=1)(h2:d'.bytes=1){els:List AV}{u:aw}(qE:s.ev b=.own r els.length)(hx:s.ev x=.ay (.string u))(eH:s.hp[r]?=some (.row e d'.size els))(hm:els.length+u.size<=140737488355328): iB Γ o s (.own r (els++jA u).length) (s.hp.set r (.row e d'.size (els++jA u))):=by (intro a w η hr;have hu:Γ.P.underlying T=some (.slice e):=by obtain⟨u,q2,q3⟩:=(aB T d hd).mL;rw[hk]at q3;rw[q2];exact congrArg some q3);(have CC:Γ.P.underlying T'=some .string:=by obtain⟨u,q2,q3⟩:=(aB T' du YG).mL;rw[Tz]at q3;rw[q2];exact congrArg some q3);(have eV:=hr.ev x;rw[hx]at eV;have vL:=eV.aC;have Ll:=hr.ev b;rw[qE]at Ll;have sf:bk η s.hp r els.length (a.eval b):=by cases Ll;assumption);(have qF:c.argTypes=#[T,T']:=by rw[<-au1 (xs:=c.argTypes),hT]);(have aQ:c.args=#[b,x]:=by rw[<-au1 (xs:=c.args),hl]);have hn:=K4 (w:=w) (F:=bu Γ w η s.hp) (ty:=o.type) hu CC (aB e d' eJ) h1 hz u;have rN:=vS u;obtain⟨v',w',bh,g1,g2,g3,g4⟩:=zG (M:=false) aK hr (aB e d' eJ) eH sf hn (λy hy=>by rw[h1];simp only[jA,avg]at hy;obtain⟨q,_,rfl⟩:=hy;rfl) (by rw[rN];unfold maxLen;omega) (by rw[rN,h2];omega);refine⟨v',w',bh,.inl ?_,g2,.own _ _ _ g3 ?_⟩;rw[<-vL]at g1;simp only[execOp,ho,resolve,hb,ao,aq,al,invoke,builtin,qF,aQ,avE,auL,auY,g1];unfold bk;rw[aD eH];exact⟨aum _,λ_=>g4⟩
theorem QH(aK:Γ.Ok){tab:Nat->Option TD}(aB:bp Γ.P tab){o:Oper}{S D e:TypeId}{x:Operand}(ho:o.op=.convert S D x){d du de:TD}(hd:tab S=some d)(YG:tab D=some du)(hk:d.kind=.kY e)(Tz:du.kind=.str)(Ho:tab e=some de)(Zk:de.kind=.int .u8){zs:List Int}(hx:Ao (s.ev x)=some zs): iB Γ o s (.ay (.string (strOfNums zs))) s.hp:=by (intro a w η hr;have hs:Γ.P.underlying S=some (.slice e):=by obtain⟨u,q2,q3⟩:=(aB S d hd).mL;rw[hk]at q3;rw[q2];exact congrArg some q3);(have hD:Γ.P.underlying D=some .string:=by obtain⟨u,q2,q3⟩:=(aB D du YG).mL;rw[Tz]at q3;rw[q2];exact congrArg some q3);(have hE:Γ.P.underlying e=some (.int .u8):=by obtain⟨u,q2,q3⟩:=(aB e de Ho).mL;rw[Zk]at q3;rw[q2];exact congrArg some q3);(have hrx:=hr.ev x;obtain⟨y,l,sU,hz⟩:∃y l,bo w (bu Γ w η s.hp) η s.hp (.sl (y::l)) (a.eval x)/\v7 (y::l)=some zs:=by unfold Ao at hx;split at hx;rename_i y l e;rw[e]at hrx;exact⟨y,l,hrx.mS,hx⟩;rename_i y l e;rw[e]at hrx;exact⟨y,l,hrx,hx⟩;cases hx);obtain⟨Zl,Hz⟩:=An hz;generalize hv:a.eval x=v at sU;cases sU with|sl size els b o c f hc hm hl aR YC=>(have h0:size=1:=by have:=hl 0 _ (Hz 0 (by simp));exact this.symm);(subst h0;have cell:∀i,i<(y::l).length->w.cell? ⟨b,o+i,none⟩=some (.int .u8 (zs.getD i 0)):=λi hi=>by have h1:=(aR i _ 0 _ (Hz i hi) rfl).1;have h2:=(YC i _ 0 _ (Hz i hi) rfl).aC;rw[h2]at h1;simpa using h1);have gY:=run_convert_bytes_arg (P:=Γ.P) w S e hs hE b o (y::l).length c zs Zl cell D hD;refine⟨.string (strOfNums zs),w,η,.inl ?_,hr,.ay _⟩;simp only[execOp,ho,hv,ao,gY,al];rfl
theorem LM(aK:Γ.Ok){tab:Nat->Option TD}(aB:bp Γ.P tab){o:Oper}{S D e:TypeId}{x:Operand}(ho:o.op=.convert S D x){d du de:TD}(hd:tab S=some d)(YG:tab D=some du)(hk:d.kind=.str)(Tz:du.kind=.kY e)(Ho:tab e=some de)(Zk:de.kind=.int .u8){u:aw}(hx:s.ev x=.ay (.string u))(hm:u.size<=140737488355328):iB Γ o s (.sl (jA u)) s.hp:=by
 intro a w η hr;have hs:Γ.P.underlying S=some .string:=by obtain⟨u,q2,q3⟩:=(aB S d hd).mL;rw[hk]at q3;rw[q2];exact congrArg some q3
 have hD:Γ.P.underlying D=some (.slice e):=by obtain⟨u,q2,q3⟩:=(aB D du YG).mL;rw[Tz]at q3;rw[q2];exact congrArg some q3
 have hE:Γ.P.underlying e=some (.int .u8):=by obtain⟨u,q2,q3⟩:=(aB e de Ho).mL;rw[Zk]at q3;rw[q2];exact congrArg some q3
 have hrx:=hr.ev x;rw[hx]at hrx;have vL:=hrx.aC;have gY:=Lib.run_convert_string_bytes (P:=Γ.P) w S D e u hs hD hE;have xa:ck w (Lib.bytesWorld w e u):=⟨by unfold Lib.bytesWorld World.freeze;split<;>rfl,by unfold Lib.bytesWorld World.freeze;split<;>rfl,by unfold Lib.bytesWorld World.freeze;split<;>rfl,by rw[Lib.bytesWorld_size];omega,λk hk=>Lib.bytesWorld_at_old w e u k hk⟩;refine⟨_,_,η,.inl (by simp only[execOp,ho,vL,ao,gY,al];rfl),hr.same aK xa,?_⟩;have hl:=vS u;have iP:∀k,bu Γ (Lib.bytesWorld w e u) η s.hp w.heap.size k:=λk=> ⟨.inr (.inl hr.keeps.size),by rw[Lib.bytesWorld_size];omega,(NG (T:=e) (cs:=#[]) hr k (λ_ _=>aK.no)).2.2⟩;have qw:∀(i:Nat)(y:AV),(jA u)[i]?=some y->∃c:UInt8,i<u.size/\u.data.toList.getD i 0=c/\y=.ay (.int .u8 c.toNat):=λi y hi=>by simp only[jA,auu]at hi;obtain⟨c,hc,rfl⟩:=au8.1 hi;have aE:=(auh.1 hc).1;exact⟨c,by simpa using aE,by rw[avc,hc];rfl,rfl⟩
 have:=bo.sl (w:=Lib.bytesWorld w e u) (F:=bu Γ (Lib.bytesWorld w e u) η s.hp) (η:=η) (hp:=s.hp) 1 (jA u) w.heap.size 0 (grownCap w u.size 0 e) (λi j=>.int .u8 (u.data.toList.getD i 0).toNat) (by rw[hl];exact grownCap_ge _ _ _ _) (grownCap_le_maxLen _ _ _ _ (by unfold maxLen;omega))
  (λi y hi=>by obtain⟨c,_,_,rfl⟩:=qw i y hi;rfl) (λi y j z hi hj=>by
   obtain⟨c,h1,h2,rfl⟩:=qw i y hi;have hj0:j=0:=by(have:=(auh.1 hj).1;simp[AV.cells]at this;omega)
   subst hj0;refine⟨?_,iP _,rfl⟩;rw[auO,avq,avo];exact Lib.bytesWorld_cell w e u i h1) (λi y j z hi hj=>by
   obtain⟨c,h1,h2,rfl⟩:=qw i y hi;have hj0:j=0:=by(have:=(auh.1 hj).1;simp[AV.cells]at this;omega)
   subst hj0;rw[h2];obtain rfl:AV.ay (.int .u8 c.toNat)=z:=by simpa [AV.cells]using hj
   exact .ay _)
 rw[hl]at this;exact this
theorem TB(aK:Γ.Ok){o:Oper}{x:Operand}(ho:o.op=.box Cw x)(hx:s.ev x=.agg [.ay (.pointer none),.ay (.slice none 0 0)]):iB Γ o s (.ptr s.hp.length 0) (s.hp++[.jq (s.hp.length+1) 0,.row 5 1 []]):=by intro a w η hr;have eV:=hr.ev x;rw[hx]at eV;generalize hv:a.eval x=v at eV;cases eV with|agg _ vs hl h1 YC=>(have e0:vs[0]?=some (.pointer none):=by (have:0<vs.size:=by rw[hl];simp);have h2:=YC 0 _ _ rfl (ava this);rw[ava this,h2.aC]);(have e1:vs[1]?=some (.slice none 0 0):=by (have:1<vs.size:=by rw[hl];simp);have h2:=YC 1 _ _ rfl (ava this);rw[ava this,h2.aC]);(have xa:=ck.alloc w (.cells vs Cw);have YW:=hr.heap.len;have hn:∀{r:Nat}{u:Value}{b:Nat},(η++[.pointer (some ⟨w.heap.size,0,none⟩),.slice none 0 0])[r]?=some u->da u=some b->(η[r]?=some u/\r<s.hp.length)\/(r=s.hp.length/\b=w.heap.size):=by intro r u b hu hb;by_cases aE:r<η.length;rw[aup aE]at hu;exact .inl ⟨hu,by omega⟩;rw[auN (by omega)]at hu;cases hk:r-η.length with|zero=>rw[hk]at hu;simp only[au4,aug]at hu;subst hu;simp only[da,aug]at hb;exact .inr ⟨by omega,hb.symm⟩|succ k=>rw[hk]at hu;cases k with|zero=>simp at hu;subst hu;simp[da]at hb|succ k=>simp at hu);(have ho0:∀{r:Nat}{ob:ax},(s.hp++[ax.jq (s.hp.length+1) 0,.row 5 1 []])[r]?=some ob->(s.hp[r]?=some ob/\r<s.hp.length)\/(r=s.hp.length/\ob=.jq (s.hp.length+1) 0)\/(r=s.hp.length+1/\ob=.row 5 1 []):=by intro r ob fe;by_cases aE:r<s.hp.length;rw[aup aE]at fe;exact .inl ⟨fe,aE⟩;rw[auN (by omega)]at fe;cases hk:r-s.hp.length with|zero=>rw[hk]at fe;simp at fe;exact .inr (.inl ⟨by omega,fe.symm⟩)|succ k=>rw[hk]at fe;cases k with|zero=>simp at fe;exact .inr (.inr ⟨by omega,fe.symm⟩)|succ k=>simp at fe);(have CF:(η++[Value.pointer (some ⟨w.heap.size,0,none⟩),.slice none 0 0])[s.hp.length]?=some (.pointer (some ⟨w.heap.size,0,none⟩)):=by rw[<-YW,auN (aum _)];simp);(have agV:(η++[Value.pointer (some ⟨w.heap.size,0,none⟩),.slice none 0 0])[s.hp.length+1]?=some (.slice none 0 0):=by rw[<-YW,auN (by omega)];simp);(have gh1:(s.hp++[ax.jq (s.hp.length+1) 0,.row 5 1 []])[s.hp.length+1]?=some (.row 5 1 []):=by rw[auN (by omega)];simp);(have hold:∀{r:Nat}{u:Value},η[r]?=some u->(η++[Value.pointer (some ⟨w.heap.size,0,none⟩),.slice none 0 0])[r]?=some u:=λhu=>by rw[aup (auh.1 hu).1];exact hu);(have he:Ext w (bu Γ w η s.hp) η s.hp (w.alloc (.cells vs Cw)) (bu Γ (w.alloc (.cells vs Cw)) (η++[.pointer (some ⟨w.heap.size,0,none⟩),.slice none 0 0]) (s.hp++[.jq (s.hp.length+1) 0,.row 5 1 []])) (η++[.pointer (some ⟨w.heap.size,0,none⟩),.slice none 0 0]) (s.hp++[.jq (s.hp.length+1) 0,.row 5 1 []]):=by refine⟨λb k u hf hc=>by rw[World.cell?_of_block (xa.block b (fk hf))];exact hc,λb es c hf hc=>by rw[xa.block b (fk hf)];exact hc,λb k hf=>⟨hf.1,auK hf.2.1 xa.size,hf.2.2.1,(bn b k).2 λr u hu hb=>?_⟩,λ_ _ h=>hold h,λ_ _ h=>hold h,λr n u ho=>?_⟩;rcases hn hu hb with⟨g1,g2⟩|⟨_,g2⟩;obtain⟨ob,q1,q2⟩:=(bn b k).1 hf.2.2.2 r u g1 hb;exact⟨ob,by rw[aup g2];exact q1,q2⟩;have:=fk hf;omega;unfold bk at ho ⊢;cases Ct:s.hp[r]? with|none=>simp[Ct]at ho|some ob=>rw[aup (auh.1 Ct).1,Ct];rw[Ct]at ho;cases ob with|row e z els=>exact⟨ho.1,λYY=>hold (ho.2 YY)⟩|aW e z els=>exact⟨ho.1,λYY=>hold (ho.2 YY)⟩|fC e m ns=>exact⟨ho.1,λYY=>hold (ho.2 YY)⟩|_=>exact ho);refine⟨.pointer (some ⟨w.heap.size,0,none⟩),_,η++[.pointer (some ⟨w.heap.size,0,none⟩),.slice none 0 0],.inl (by simp[execOp,ho,hv,Instr.box,newVar,newRow,Value.cells];rfl),?_,.ptr _ 0 w.heap.size CF⟩;have jv:∀(r:Nat)(ob:ax)(u:Value)(b:Nat),s.hp[r]?=some ob->ob.live->η[r]?=some u->da u=some b->b<w.heap.size:=λr ob u b g1 g2 g3 g4=>hr.heap.block g1 g2 g3 g4;refine⟨hr.nt,λt=>(hr.tmps t).ext he,⟨by simp[YW],λr ob u g1 g2=>?_,λr r' o1 o2 u u' b bV g1 g2 l1 l2 g3 g4 hb fX=>?_⟩,λr ob u b g1 g2 g3 g4=>?_,hr.keeps.EA xa,aK.qx _ _ _ (λb hb=>xa.block b (auK (aK.x b hb) hr.keeps.size)) xa.size hr.inv,(xa.keeps λ_=>False).marks hr.marks λ_ hf=>hf.elim,hr.ext.trans he⟩;rcases ho0 g1 with⟨g3,g4⟩|⟨rfl,rfl⟩|⟨rfl,rfl⟩;rw[aup (by omega)]at g2;exact(hr.heap.obj r ob u g3 g2).ext he xa.size λb _ aE=>xa.block b aE;rw[CF]at g2;obtain rfl:=auj g2;exact⟨w.heap.size,vs,rfl,heap_alloc_new w _,⟨hl,λ_=>e1⟩,.inl e0,_,e1,.own _ 0 _ rfl (by unfold bk;rw[gh1];exact⟨aum _,λ_=>agV⟩)⟩;rw[agV]at g2;obtain rfl:=auj g2;exact⟨Nat.one_pos,[],⟨by simp,.inl ⟨rfl,.inl rfl⟩⟩,λi el hi=>by simp at hi⟩;rcases hn g3 hb with⟨p1,p2⟩|⟨p1,p2⟩;rcases hn g4 fX with⟨q1,q2⟩|⟨q1,q2⟩;rw[aup p2]at g1;rw[aup q2]at g2;exact hr.heap.sep r r' o1 o2 u u' b bV g1 g2 l1 l2 p1 q1 hb fX;rw[aup p2]at g1;have:=jv r o1 u b g1 l1 p1 hb;omega;rcases hn g4 fX with⟨q1,q2⟩|⟨q1,q2⟩;rw[aup q2]at g2;have:=jv r' o2 u' b g2 l2 q1 fX;omega;omega;rcases hn g3 g4 with⟨p1,p2⟩|⟨p1,p2⟩;rw[aup p2]at g1;exact hr.cu r ob u b g1 g2 p1 g4;subst p2;exact⟨.inl hr.keeps.size,λk hx=>by have:=aK.no hx;have:=hr.keeps.size;omega⟩
theorem EV(aK:Γ.Ok){tab:Nat->Option TD}(aB:bp Γ.P tab){o:Oper}{T r q n:Nat}{p:Operand}(ho:o.op=.load T p){d:TD}(hd:tab T=some d)(ha:d.kind.agg=false)(hp:s.ev p=.ptr r 1)(hb:s.hp[r]?=some (.jq q n)):iB Γ o s (.own q n) s.hp:=by intro a w η hr;have hx:=hr.ev p;rw[hp]at hx;generalize hv:a.eval p=v at hx;cases hx with|ptr _ _ b fL=>(obtain⟨b',vs,he,hg,⟨cP,_⟩,_,u,hu,dW⟩:=hr.heap.obj r _ _ hb fL;simp only[Value.pointer.injEq,aug,Addr.mk.injEq,and_true]at he;subst he;have h1:u.oneCell'=true:=by cases dW;assumption);(have hd1:=aB.sz hd ha;have adk:=lY (P:=Γ.P) (aB T d hd) (o:=1) (vX hg) (by rw[hd1,auX,cP];decide);have e:((vs.toList.drop 1).take d.size).headD undef=u:=by (rw[hd1];have h2:vs.toList[1]?=some u:=by simpa using hu);cases hl:vs.toList with|nil=>rw[hl]at h2;simp at h2|cons x l=>rw[hl]at h2;cases l with|nil=>simp at h2|cons y l=>simp at h2;subst h2;rfl);rw[ha,e]at adk;refine⟨u,w,η,.inl ?_,hr,dW⟩;simp only[execOp,ho,hv,Instr.loadAt,Instr.sureAddr,ao,aq,al];rw[adk];rfl
theorem Rel.TC(aK:Γ.Ok)(h:Rel Γ s a w η){r q n m b:Nat}{v:Value}(hm:m≠0)(hr:s.hp[r]?=some (.jq q n))(hv:η[r]?=some (.pointer (some ⟨b,0,none⟩)))(hx:bo w (bu Γ w η s.hp) η s.hp (.own q m) v): Rel Γ { s with hp:=s.hp.set r (.jq q m) } a (w.setCell ⟨b,1,none⟩ v) η/\w.frozen? ⟨b,1,none⟩=false/\∃u,w.cell? ⟨b,1,none⟩=some u:=by
 obtain⟨b',vs,he,hg,⟨cP,_⟩,h0,u,hu,dW⟩:=h.heap.obj r _ _ hr hv;simp only[Value.pointer.injEq,aug,Addr.mk.injEq,and_true]at he;subst he;have yo:(w.setCell ⟨b,1,none⟩ v).heap[b]?=some (.cells (vs.setIfInBounds 1 v) Cw (0,0)):=Go.heap_setCell_same w b 1 vs Cw v hg;have fL:η.set r (.pointer (some ⟨b,0,none⟩))=η:=by apply avb;intro i;by_cases hi:r=i;subst hi;rw[aD hv,hv];rw[getElem?_set_ne hi]
 refine⟨?_,frozen_of_row w b 1 vs Cw hg,?_⟩;have:=Rel.change (w':=w.setCell ⟨b,1,none⟩ v) (o':=.jq q m) (v':=.pointer (some ⟨b,0,none⟩)) aK h hr ai hv
  ⟨rfl,rfl,rfl,by simp[World.setCell],λk hk hb=>avR w _ k v (by intro e;exact hb (by rw[e];rfl))⟩
  (λc hc=>.inl hc) (λk hk=>hk.elim) (λ_ _ _ _ hk=>hk.elim) (λ_ _ _ _ hk=>hk.elim)
  (λn u ho=>by simp[bk,hr]at ho)
  (λ_ _=>rfl) (λ_ hx=>by cases hx)
  (λc d hb hd=>by simp only[da,aug]at hb;subst hb;rw[hg]at hd;cases hd)
  (λhe=>⟨b,vs.setIfInBounds 1 v,rfl,yo,⟨by simp[cP],λe=>(hm e).elim⟩,by rw[avt];simpa using h0,v,by rw[avt];simp[cP],hx.ext he⟩)
 rw[fL]at this;exact this;rw[cell_of_row w b 1 vs Cw (0,0) hg];exact⟨u,hu⟩
theorem CH(aK:Γ.Ok){tab:Nat->Option TD}(aB:bp Γ.P tab){o:Oper}{T r q n m:Nat}{p x:Operand}(ho:o.op=.store T p x){d:TD}(hd:tab T=some d)(h1:d.size=1)(hm:m≠0)(hp:s.ev p=.ptr r 1)(hx:s.ev x=.own q m)(hb:s.hp[r]?=some (.jq q n)):iB Γ o s .top (s.hp.set r (.jq q m)):=by intro a w η hr;have sr:=hr.ev p;rw[hp]at sr;have eV:=hr.ev x;rw[hx]at eV;generalize hv:a.eval p=v at sr;cases sr with|ptr _ _ b fL=>(obtain⟨g1,g2,u,g3⟩:=hr.TC aK hm hb fL eV;have tW:(a.eval x).oneCell'=true:=by cases eV;assumption);(have aes:(a.eval x).cells=#[a.eval x]:=by cases hq:a.eval x<;>simp_all [Value.cells,Value.oneCell']);refine⟨undef,_,η,.inr ⟨?_,rfl⟩,g1,.top _⟩;simp only[execOp,ho,hv,Instr.storeAt,Instr.sureAddr,ao,aq,al,storeVar,(aB T d hd).run_sizeOf,h1,aes,avO,aur,auV,auO,ne_eq,not_true_eq_false,if_false,storeCells,Addr.add_lit];rw[run_store _ _ _ _ _ tW,avo,g3];simp only[g2,auE,if_false,al]
theorem TE(aK:Γ.Ok){tab:Nat->Option TD}(aB:bp Γ.P tab){o:Oper}{l:List Prop}{r:AV}{hp':List ax}(h:Tx tab s.hp s.ev o.op=some (l,r,hp'))(hc:∀p∈l,p):iB Γ o s r hp':=by generalize ho:o.op=op at h;unfold Tx at h;split at h;rename_i S D x;split at h;rename_i d du hd YG;split at h;rename_i e hk Tz;split at h;rename_i de Ho;split at h;rename_i Zk;split at h;rename_i zs hz;simp only[aug,auk]at h;obtain⟨_,rfl,rfl⟩:=h;exact QH aK aB ho hd YG hk Tz Ho Zk hz;cases h;cases h;cases h;rename_i e hk Tz;split at h;rename_i de u Ho hx;split at h;rename_i Zk;simp only[aug,auk]at h;obtain⟨rfl,rfl,rfl⟩:=h;exact LM aK aB ho hd YG hk Tz Ho Zk hx (hc _ auw);cases h;cases h;cases h;cases h;rename_i c;split at h;rename_i b x T T' EW aQ dK;split at h;rename_i d du r' n u hd YG qE hx;split at h;rename_i e e' size els hk Tz eH;split at h;rename_i d' eJ;split at h;rename_i hz;split at h;rename_i oT;obtain⟨rfl,rfl,h1,h2⟩:=oT;simp only[aug,auk]at h;obtain⟨rfl,rfl,rfl⟩:=h;have e1:=hc _ (auw);have e2:=hc _ (auz _ auw);rw[e1]at qE;exact HQ aK aB ho EW aQ dK hd YG hk Tz eJ hz h1 h2 qE hx eH e2;cases h;cases h;cases h;cases h;cases h;cases h;rename_i T p;split at h;rename_i d r' hd hp;split at h;rename_i e q n hk hb;split at h;simp only[aug,auk]at h;obtain⟨_,rfl,rfl⟩:=h;exact EV aK aB ho hd (by rw[hk];rfl) hp hb;cases h;cases h;cases h;rename_i T p x;split at h;rename_i d r' q m hd hp hx;split at h;rename_i e q' n hk hb;split at h;rename_i oT;obtain⟨h1,rfl⟩:=oT;simp only[aug,auk]at h;obtain⟨rfl,rfl,rfl⟩:=h;exact CH aK aB ho hd h1 (hc _ auw) hp hx hb;cases h;cases h;cases h;rename_i T x;split at h;rename_i hT;subst hT;split at h;rename_i hx;split at h;split at h;split at h;simp only[aug,auk]at h;obtain⟨_,rfl,rfl⟩:=h;exact TB aK ho hx;cases h;cases h;cases h;cases h;cases h;cases h
end
section
variable {P:Program} {w w':World} {F F':Nat->Nat->Prop} {η bh nC:List Value} {hp hp' H:List ax} {g:Nat->Nat}
def TG(g:Nat->Nat):AV->AV
 | .ptr r o=>.ptr (g r) o|x=>x
def yA(g:Nat->Nat):AV->AV
 | .own r n=>.own (g r) n| .ptr r o=>.ptr (g r) o| .mp r=>.mp (g r)| .bw f cs=>.bw f (cs.map (TG g))|x=>x
def HR(g:Nat->Nat):AV->AV
 | .agg cs=>.agg (cs.map (yA g))|x=>yA g x
def sY(g:Nat->Nat):AV->AV
 | .aG vs=>.aG (vs.map (HR g))| .bw f cs=>.bw f (cs.map (HR g))| .dt f cs=>.dt f (cs.map (HR g))|x=>HR g x
def kj(g:Nat->Nat):ax->ax
 | .box cs=>.box (cs.map (yA g))| .jq r n=>.jq (g r) n|o=>o
theorem eO{o:ax}:(kj g o).live↔o.live:=by cases o<;>exact av9
theorem v8{o:ax}{k:Nat}:(kj g o).bC k↔o.bC k:=by cases o<;>exact av9
theorem ui{r j n:Nat}{v:Value}{o:ax}(h1:hp[r]?=some o)(h2:H[j]?=some (kj g o))(h3:η[r]?=nC[j]?):bk η hp r n v↔bk nC H j n v:=by unfold bk;rw[h1,h2,h3];cases o<;>exact av9
structure yB(g:Nat->Nat)(η:List Value)(hp:List ax)(nC:List Value)(H:List ax):Prop where
 obj:∀(i:Nat)(o:ax),hp[i]?=some o->H[g i]?=some (kj g o)
 val:∀(i:Nat),i<hp.length->η[i]?=nC[g i]?
theorem yB.unP(e:yB g η hp nC H){x:AV}{v:Value}(hc:x.fi hp.length=true)(h:bo w F nC H (TG g x) v):bo w F η hp x v:=by
 cases x with
  |ptr r o=>(have hr:r<hp.length:=by simpa [AV.fi]using hc);cases h with|ptr _ _ b h1=>exact .ptr r o b (by rw[e.val r hr];exact h1)
  |ay u=>cases h;exact .ay _|aV y off=>cases h with|aV _ _ b o f aR hr=>exact .aV y off b o f aR hr
  |_=>simp[AV.fi]at hc
theorem yB.reP(e:yB g η hp nC H){x:AV}{v:Value}(hc:x.fi hp.length=true)(h:bo w F η hp x v):bo w F nC H (TG g x) v:=by
 cases x with
  |ptr r o=>(have hr:r<hp.length:=by simpa [AV.fi]using hc);cases h with|ptr _ _ b h1=>exact .ptr (g r) o b (by rw[<-e.val r hr];exact h1)
  |ay u=>cases h;exact .ay _|aV y off=>cases h with|aV _ _ b o f aR hr=>exact .aV y off b o f aR hr
  |_=>simp[AV.fi]at hc
theorem dA{α β:Type}{f:α->β}{l:List α}{j:Nat}{y:β}(h:(l.map f)[j]?=some y):∃x,l[j]?=some x/\y=f x:=by rw[auu]at h;cases hj:l[j]? with|none=>rw[hj]at h;cases h|some x=>rw[hj]at h;exact⟨x,rfl,(auj h).symm⟩
theorem yB.yZ(e:yB g η hp nC H){x:AV}{v:Value}(hc:x.bc hp.length=true)(h:bo w F nC H (yA g x) v):bo w F η hp x v:=by
 cases x with
  |own r m=>(have hr:r<hp.length:=by simpa [AV.bc]using hc);cases h with|own _ _ _ h1 h2=>exact .own r m v h1 ((ui (aun hr) (e.obj r _ (aun hr)) (e.val r hr)).2 h2)
  |ptr r o=>(have hr:r<hp.length:=by simpa [AV.bc]using hc);cases h with|ptr _ _ b h1=>exact .ptr r o b (by rw[e.val r hr];exact h1)
  |mp r=>(have hr:r<hp.length:=by simpa [AV.bc]using hc);cases h with|mp _ b h1=>exact .mp r b (by rw[e.val r hr];exact h1)
  |agg cs=>simp[AV.bc]at hc|aG cs=>simp[AV.bc]at hc|bw f cs=>cases h with|bw _ _ vs hl hr=>exact .bw f cs vs (by simpa using hl) λj y u hy hu=>e.unP (by simp only[AV.bc,auB]at hc;exact hc y (auq hy)) (hr j _ u (by rw[auu,hy];rfl) hu)
  |dt f cs=>simp[AV.bc]at hc|gb r n i z=>simp[AV.bc]at hc|top=>exact .top v|ay u=>cases h;exact .ay _|fn u=>cases h with|fn _ h1=>exact .fn _ h1
  |sl els=>cases h with|mR a=>exact .mR a|sl size els b o c f hc hm hl aR hr=>exact .sl size els b o c f hc hm hl aR hr
  |clip els=>cases h with|jy a=>exact .jy a|clip size els b o f hm hl aR hr=>exact .clip size els b o f hm hl aR hr
  |aV y off=>cases h with|aV _ _ b o f aR hr=>exact .aV y off b o f aR hr
  |eo es=>cases h with|eo b en c h1 h2 _ hl=>exact .eo b en c h1 h2 _ hl
theorem yB.reC(e:yB g η hp nC H){x:AV}{v:Value}(hc:x.bc hp.length=true)(h:bo w F η hp x v):bo w F nC H (yA g x) v:=by
 cases x with
  |own r m=>(have hr:r<hp.length:=by simpa [AV.bc]using hc);cases h with|own _ _ _ h1 h2=>exact .own (g r) m v h1 ((ui (aun hr) (e.obj r _ (aun hr)) (e.val r hr)).1 h2)
  |ptr r o=>(have hr:r<hp.length:=by simpa [AV.bc]using hc);cases h with|ptr _ _ b h1=>exact .ptr (g r) o b (by rw[<-e.val r hr];exact h1)
  |mp r=>(have hr:r<hp.length:=by simpa [AV.bc]using hc);cases h with|mp _ b h1=>exact .mp (g r) b (by rw[<-e.val r hr];exact h1)
  |agg cs=>simp[AV.bc]at hc|aG cs=>simp[AV.bc]at hc|bw f cs=>cases h with|bw _ _ vs hl hr=>exact .bw f _ vs (by simpa using hl) λj y u hy hu=>by obtain⟨y0,hy0,rfl⟩:=dA hy;exact e.reP (by simp only[AV.bc,auB]at hc;exact hc y0 (auq hy0)) (hr j y0 u hy0 hu)
  |dt f cs=>simp[AV.bc]at hc|gb r n i z=>simp[AV.bc]at hc|top=>exact .top v|ay u=>cases h;exact .ay _|fn u=>cases h with|fn _ h1=>exact .fn _ h1
  |sl els=>cases h with|mR a=>exact .mR a|sl size els b o c f hc hm hl aR hr=>exact .sl size els b o c f hc hm hl aR hr
  |clip els=>cases h with|jy a=>exact .jy a|clip size els b o f hm hl aR hr=>exact .clip size els b o f hm hl aR hr
  |aV y off=>cases h with|aV _ _ b o f aR hr=>exact .aV y off b o f aR hr
  |eo es=>cases h with|eo b en c h1 h2 _ hl=>exact .eo b en c h1 h2 _ hl
theorem yB.NS(e:yB g η hp nC H){x:AV}{v:Value}(hc:x.dZ hp.length=true)(h:bo w F nC H (HR g x) v):bo w F η hp x v:=by
 cases x with
  |agg cs=>cases h with|agg _ vs hl h1 hr=>refine .agg cs vs (by simpa using hl) h1 λj y u hy hu=>e.yZ (by simp only[AV.dZ,auB]at hc;exact hc y (auq hy)) (hr j _ u (by rw[auu,hy];rfl) hu)
  |_=>exact e.yZ hc h
theorem yB.reV(e:yB g η hp nC H){x:AV}{v:Value}(hc:x.dZ hp.length=true)(h:bo w F η hp x v):bo w F nC H (HR g x) v:=by
 cases x with
  |agg cs=>cases h with|agg _ vs hl h1 hr=>refine .agg _ vs (by simpa using hl) h1 λj y u hy hu=>?_;obtain⟨z,hz,rfl⟩:=dA hy;exact e.reC (by simp only[AV.dZ,auB]at hc;exact hc z (auq hz)) (hr j z u hz hu)
  |_=>first|exact e.reC (x:=.top) hc h|(refine Eq.mpr ?_ (e.reC ?_ h)<;>first|rfl|exact hc)
theorem yB.un(e:yB g η hp nC H){x:AV}{v:Value}(hc:x.closed hp.length=true)(h:bo w F nC H (sY g x) v):bo w F η hp x v:=by
 cases x with
  |aG cs=>cases h with|aG _ vs hl hr=>exact .aG cs vs (by simpa using hl) λj y u hy hu=>e.NS (by simp only[AV.closed,auB]at hc;exact hc y (auq hy)) (hr j _ u (by rw[auu,hy];rfl) hu)
  |bw f cs=>cases h with|bw _ _ vs hl hr=>exact .bw f cs vs (by simpa using hl) λj y u hy hu=>e.NS (by simp only[AV.closed,auB]at hc;exact hc y (auq hy)) (hr j _ u (by rw[auu,hy];rfl) hu)
  |dt f cs=>cases h with|dt _ _ vs hl hr=>exact .dt f cs vs (by simpa using hl) λj y u hy hu=>e.NS (by simp only[AV.closed,auB]at hc;exact hc y (auq hy)) (hr j _ u (by rw[auu,hy];rfl) hu)
  |_=>exact e.NS hc h
theorem yB.re(e:yB g η hp nC H){x:AV}{v:Value}(hc:x.closed hp.length=true)(h:bo w F η hp x v):bo w F nC H (sY g x) v:=by
 cases x with
  |aG cs=>cases h with|aG _ vs hl hr=>refine .aG _ vs (by simpa using hl) λj y u hy hu=>?_;obtain⟨z,hz,rfl⟩:=dA hy;exact e.reV (by simp only[AV.closed,auB]at hc;exact hc z (auq hz)) (hr j z u hz hu)
  |bw f cs=>cases h with|bw _ _ vs hl hr=>refine .bw f _ vs (by simpa using hl) λj y u hy hu=>?_;obtain⟨z,hz,rfl⟩:=dA hy;exact e.reV (by simp only[AV.closed,auB]at hc;exact hc z (auq hz)) (hr j z u hz hu)
  |dt f cs=>cases h with|dt _ _ vs hl hr=>refine .dt f _ vs (by simpa using hl) λj y u hy hu=>?_;obtain⟨z,hz,rfl⟩:=dA hy;exact e.reV (by simp only[AV.closed,auB]at hc;exact hc z (auq hz)) (hr j z u hz hu)
  |_=>first|exact e.reV (x:=.top) hc h|(refine Eq.mpr ?_ (e.reV ?_ h)<;>first|rfl|exact hc)
theorem yB.unL(e:yB g η hp nC H):∀{xs:List AV}{vs:List Value},xs.all (AV.closed hp.length)=true->cC w F nC H (xs.map (sY g)) vs->cC w F η hp xs vs
 | [],[],_,_=>ai|x::xs,v::vs,hc,h=>by rw[avI,aul]at hc;exact⟨e.un hc.1 h.1,e.unL hc.2 h.2⟩| [],_::_,_,h=>h.elim|_::_,[],_,h=>h.elim
theorem yB.unO(e:yB g η hp nC H){o:ax}{v:Value}(hc:o.closed hp.length=true)(h:iO w F nC H (kj g o) v):iO w F η hp o v:=by cases o with|dead=>exact ai|box cs=>obtain⟨b,vs,T,e1,e2,e3,e4⟩:=h;refine⟨b,vs,T,e1,e2,by simpa using e3,λj x u hx hu=>?_⟩;have h5:=e4 j (yA g x) u (by rw[auu,hx];rfl) hu;exact⟨e.yZ (auB.1 hc x (auq hx)) h5.1,h5.2⟩|row z size els=>exact h|cJ es=>exact h|jq q k=>obtain⟨b,vs,e1,e2,e3,e4,u,e5,e6⟩:=h;exact⟨b,vs,e1,e2,e3,e4,u,e5,e.yZ (x:=.own q k) (by simpa [AV.bc,ax.closed]using hc) e6⟩|aW z size els=>exact h|fC z m ns=>exact h
theorem yB.reO(e:yB g η hp nC H){o:ax}{v:Value}(hc:o.closed hp.length=true)(h:iO w F η hp o v):iO w F nC H (kj g o) v:=by cases o with|dead=>exact ai|box cs=>obtain⟨b,vs,T,e1,e2,e3,e4⟩:=h;refine⟨b,vs,T,e1,e2,by simpa using e3,λj x u hx hu=>?_⟩;obtain⟨z,hz,rfl⟩:=dA hx;have h5:=e4 j z u hz hu;exact⟨e.reC (auB.1 hc z (auq hz)) h5.1,h5.2⟩|row z size els=>exact h|cJ es=>exact h|jq q k=>obtain⟨b,vs,e1,e2,e3,e4,u,e5,e6⟩:=h;exact⟨b,vs,e1,e2,e3,e4,u,e5,e.reC (x:=.own q k) (by simpa [AV.bc,ax.closed]using hc) e6⟩|aW z size els=>exact h|fC z m ns=>exact h
def xp(g:Nat->Nat)(j:Nat):Nat->Option Nat
 |0=>none|k+1=>(match Nat.beq (g k) j with|true=>some k|false=>xp g j k)
theorem pr{j:Nat}:∀{k i:Nat},xp g j k=some i->i<k/\g i=j
 |0,i,h=>by cases h|k+1,i,h=>by simp only[xp]at h;split at h;rename_i hb;obtain rfl:=auj h;exact⟨by omega,auG hb⟩;obtain⟨h1,h2⟩:=pr h;exact⟨by omega,h2⟩
theorem Ap{j:Nat}:∀{k:Nat},xp g j k=none->∀i,i<k->g i≠j
 |0,_,i,hi=>by omega|k+1,h,i,hi=>by simp only[xp]at h;split at h;cases h;rename_i hb;by_cases hk:i=k;subst hk;intro hj;rw[hj,Nat.beq_refl]at hb;cases hb;exact Ap h i (by omega)
def putAt{α:Type}(g:Nat->Nat)(l L:List α)(d:α)(j:Nat):α:=match xp g j l.length with
 |some i=>l.getD i d
 |none=>L.getD j d
def pt:Nat->Nat->List Nat
 |_,0=>[]|k,m+1=>k::pt (k+1) m
def HS{α:Type}(g:Nat->Nat)(l L:List α)(d:α)(m:Nat):List α:=(pt 0 m).map (putAt g l L d)
theorem qO:∀(m k:Nat),(pt k m).length=m
 |0,_=>rfl|m+1,k=>by rw[pt,aur,qO m]
theorem qP:∀(m k j:Nat),j<m->(pt k m)[j]?=some (k+j)
 |0,_,_,h=>by omega|m+1,k,0,_=>rfl|m+1,k,j+1,h=>by rw[pt,au3,qP m (k+1) j (by omega)];congr 1;omega
theorem uj{α:Type}{l L:List α}{d:α}{m:Nat}:(HS g l L d m).length=m:=by rw[HS,aui,qO]
theorem Aq{α:Type}{l L:List α}{d:α}{m j:Nat}(h:j<m):(HS g l L d m)[j]?=some (putAt g l L d j):=by rw[HS,auu,qP m 0 j h,auT,auO]
def kl(g:Nat->Nat)(n:Nat)(hp' H:List ax):List ax:=HS g (hp'.map (kj g)) H .dead (H.length+(hp'.length-n))
theorem aZ.agY{f:FuncId}{args:List AV}{R:AV->List ax->Prop}(h:aZ P f args hp R)(oW:∀(i:Nat)(o:ax),hp[i]?=some o->H[g i]?=some (kj g o))(agZ:∀i i',i<hp.length->i' < hp.length->g i=g i'->i=i')(sv:∀i,hp.length<=i->g i=H.length+(i-hp.length))(aQ:args.all (AV.closed hp.length)=true)(dL:hp.all (ax.closed hp.length)=true)(hR:∀r hp',R r hp'->hp.length<=hp'.length/\r.closed hp'.length=true/\hp'.all (ax.closed hp'.length)=true): aZ P f (args.map (sY g)) H (λr2 H2=>∃r hp',R r hp'/\r2=sY g r/\H2=kl g hp.length hp' H):=by
 refine⟨h.1,λw F nC vals bz hv=>?_⟩;have hlen:nC.length=H.length:=bz.heap.len;have hgH:∀i,i<hp.length->g i<H.length:=λi hi=>(auh.1 (oW i _ (aun hi))).1;let η:List Value:=(pt 0 hp.length).map λi=>nC.getD (g i) undef;have ag0:η.length=hp.length:=by simp[η,qO]
 have fL:∀i,i<hp.length->η[i]?=nC[g i]?:=by (intro i hi;have aE:g i<nC.length:=by rw[hlen];exact hgH i hi);simp only[η,auu,qP _ _ _ hi,auT,auO];rw[aun aE];simp[ae,aE]
 have ft:yB g η hp nC H:=⟨oW,fL⟩;have mg:∀b,aU η hp b->aU nC H b:=by intro b ⟨r,o,v,h1,h2,h3,h4⟩;have aE:r<hp.length:=(auh.1 h1).1;exact⟨g r,kj g o,v,oW r o h1,eO.2 h2,by rw[<-fL r aE];exact h3,h4⟩
 have Tg:∀b o,ke nC H b o->ke η hp b o:=by (intro b o hf;refine(bn b o).2 λr v hr hb=>?_;have aE:r<hp.length:=by rw[<-ag0];exact(auh.1 hr).1);obtain⟨o1,q1,q2⟩:=(bn b o).1 hf (g r) v (by rw[<-fL r aE];exact hr) hb;rw[oW r _ (aun aE)]at q1;obtain rfl:=auj q1;exact⟨_,aun aE,v8.1 q2⟩
 have Th:qI w F η hp:=by refine⟨λb o hb=>⟨(bz.bC b o hb).1,Tg b o (bz.bC b o hb).2⟩,⟨ag0,λr o v h1 h2=>?_,λr r' o o' v v' b bV h1 h2 l1 l2 e1 e2 hb=>?_⟩,λb hb=>bz.live b (mg b hb),bz.iN,λb hb hl=>bz.gx b hb (mg b hl)⟩;have aE:r<hp.length:=(auh.1 h1).1;exact ft.unO (auB.1 dL o (auq h1)) (bz.heap.obj (g r) _ v (oW r o h1) (by rw[<-fL r aE];exact h2));have q1:r<hp.length:=(auh.1 h1).1;have q2:r' < hp.length:=(auh.1 h2).1;exact bz.heap.sep (g r) (g r') _ _ v v' b (λhe=>bV (agZ r r' q1 q2 he)) (oW r o h1) (oW r' o' h2) (eO.2 l1) (eO.2 l2) (by rw[<-fL r q1];exact e1) (by rw[<-fL r' q2];exact e2) hb
 refine(h.2 w F η vals Th (ft.unL aQ hv)).mono λe w' ⟨v,r,hp',bh,he,hRr,bD⟩=>?_;obtain⟨hle,Hi,hoc⟩:=hR r hp' hRr;have adm:bh.length=hp'.length:=bD.heap.len;let m:=H.length+(hp'.length-hp.length);let yT:List Value:=HS g bh nC undef m;have amo:∀i i',i<hp'.length->i' < hp'.length->g i=g i'->i=i':=by intro i i' h1 h2 he;by_cases q1:i<hp.length;by_cases q2:i' < hp.length;exact agZ i i' q1 q2 he;have:=hgH i q1;have:=sv i' (by omega);omega;by_cases q2:i' < hp.length;have:=hgH i' q2;have:=sv i (by omega);omega;have:=sv i (by omega);have:=sv i' (by omega);omega
 have hgm:∀i,i<hp'.length->g i<m:=by intro i hi;by_cases q:i<hp.length;have:=hgH i q;simp only[m];omega;have:=sv i (by omega);simp only[m];omega
 have at1:∀{α:Type}{l L:List α}{d:α}{i:Nat},l.length=hp'.length->i<hp'.length->(HS g l L d m)[g i]?=l[i]?:=by intro α l L d i hl hi;rw[Aq (hgm i hi),putAt];cases hf:xp g (g i) l.length with|none=>exact(Ap hf i (by omega) rfl).elim|some i'=>obtain⟨q1,q2⟩:=pr hf;have:=amo i' i (by omega) hi q2;subst this;rw[aun (by omega)];simp[ae,show i' < l.length by omega]
 have at2:∀{α:Type}{l L:List α}{d:α}{j:Nat},l.length=hp'.length->L.length=H.length->(∀i,i<hp'.length->g i≠j)->(HS g l L d m)[j]?=L[j]?:=by intro α l L d j hl hL hj;by_cases hm:j<m;(have hjH:j<H.length:=by refine Nat.lt_of_not_le λfh=>hj (hp.length+(j-H.length)) (by simp only[m]at hm;omega) ?_;rw[sv _ (by omega)];omega);rw[Aq hm,putAt];(cases hf:xp g j l.length with|none=>simp only;rw[aun (by omega)];simp[ae,show j<L.length by omega]|some i'=>obtain⟨q1,q2⟩:=pr hf;exact(hj i' (by omega) q2).elim);rw[auP (by rw[uj];omega),auP (by simp only[m]at hm;omega)]
 have o1:∀i o,hp'[i]?=some o->(kl g hp.length hp' H)[g i]?=some (kj g o):=by intro i o ho;rw[kl];have:=at1 (l:=hp'.map (kj g)) (L:=H) (d:=.dead) (i:=i) (by simp) (auh.1 ho).1;rw[this,auu,ho];rfl
 have v1:∀i,i<hp'.length->bh[i]?=yT[g i]?:=λi hi=>(at1 (l:=bh) (L:=nC) (d:=undef) adm hi).symm;have o2:∀j,(∀i,i<hp'.length->g i≠j)->(kl g hp.length hp' H)[j]?=H[j]?:=λj hj=>at2 (l:=hp'.map (kj g)) (by simp) rfl hj;have v2:∀j,(∀i,i<hp'.length->g i≠j)->yT[j]?=nC[j]?:=λj hj=>at2 (l:=bh) adm hlen hj;have ag1:yB g bh hp' yT (kl g hp.length hp' H):=⟨o1,v1⟩;have image:∀j,(∃i,i<hp'.length/\g i=j)\/∀i,i<hp'.length->g i≠j:=by intro j;by_cases hj:∃i,i<hp'.length/\g i=j;exact .inl hj;exact .inr λi hi he=>hj ⟨i,hi,he⟩
 have apart:∀{j:Nat}{o:ax}{u:Value}{b:Nat},(∀i,i<hp'.length->g i≠j)->H[j]?=some o->o.live->nC[j]?=some u->da u=some b->b<w.heap.size/\¬aU η hp b:=by intro j o u b hj h1 h2 h3 h4;refine⟨bz.live b ⟨j,o,u,h1,h2,h3,h4⟩,fun⟨r1,p1,z1,g1,g2,g3,g4⟩=>?_⟩;have aE:r1<hp.length:=(auh.1 g1).1;exact bz.heap.sep (g r1) j _ o z1 u b (hj r1 (by omega)) (oW r1 p1 g1) h1 (eO.2 g2) h2 (by rw[<-fL r1 aE];exact g3) h3 g4 h4
 have HK:∀b o,dh F w η hp w' bh hp' b o->dh F w nC H w' yT (kl g hp.length hp' H) b o:=by intro b o ⟨h1,h2,h3⟩;refine⟨h1.imp id (Or.imp id (mg b)),h2,(bn b o).2 λj u hr hb=>?_⟩;rcases image j with⟨i,hi,rfl⟩|hj;rw[<-v1 i hi]at hr;obtain⟨p1,q1,q2⟩:=(bn b o).1 h3 i u hr hb;exact⟨_,o1 i p1 q1,v8.2 q2⟩;(rw[v2 j hj]at hr;rw[o2 j hj];have Li:j<H.length:=by rw[<-hlen];exact(auh.1 hr).1);(have ho:H[j]?=some H[j]:=aun Li;refine⟨H[j],ho,?_⟩;have key:H[j].live->F b o:=by intro hl;have ha:=apart hj ho hl hr hb;rcases h1 with h1|h1|h1;exact h1;omega;exact(ha.2 h1).elim);cases hk:H[j]with|dead=>exact ai|_=>rw[hk]at key ho;obtain⟨p1,q1,q2⟩:=(bn b o).1 (bz.bC b o (key ai)).2 j u hr hb;rw[ho]at q1;obtain rfl:=auj q1;exact q2
 have iR:∀{oS:List Value}{jW:List ax},Ext w' (dh F w η hp w' bh hp') oS jW w' (dh F w nC H w' yT (kl g hp.length hp' H)) oS jW:=⟨λ_ _ _ _ h=>h,λ_ _ _ _ h=>h,HK,λ_ _ h=>h,λ_ _ h=>h,λ_ _ _ h=>h⟩;have nX:∀{i j:Nat},i<hp'.length->g i=j->j<H.length->i<hp.length:=by intro i j hi he hj;refine Nat.lt_of_not_le λfh=>?_;have:=sv i fh;omega
 have eD:Ext w F nC H w' (dh F w nC H w' yT (kl g hp.length hp' H)) yT (kl g hp.length hp' H):=by refine⟨λb o u hf hc=>bD.ext.cell b o u hf hc,λb es c hf hc=>bD.ext.kH b es c hf hc,λb o hf=>HK b o (bD.ext.bC b o hf),λj a hr=>?_,λj a hr=>?_,λj k u ho=>?_⟩;(have Li:j<H.length:=by rw[<-hlen];exact(auh.1 hr).1);rcases image j with⟨i,hi,rfl⟩|hj;have eG:=nX hi rfl Li;rw[<-v1 i hi];exact bD.ext.ptr i a (by rw[fL i eG];exact hr);rw[v2 j hj];exact hr;(have Li:j<H.length:=by rw[<-hlen];exact(auh.1 hr).1);rcases image j with⟨i,hi,rfl⟩|hj;have eG:=nX hi rfl Li;rw[<-v1 i hi];exact bD.ext.mp i a (by rw[fL i eG];exact hr);rw[v2 j hj];exact hr;(have Li:j<H.length:=by unfold bk at ho;refine Nat.lt_of_not_le λfh=>?_;rw[auP fh]at ho;exact ho);rcases image j with⟨i,hi,rfl⟩|hj;have eG:=nX hi rfl Li;have h1:bk η hp i k u:=(ui (aun eG) (oW i _ (aun eG)) (fL i eG)).2 ho;have h2:=bD.ext.own i k u h1;exact(ui (aun hi) (o1 i _ (aun hi)) (v1 i hi)).1 h2;unfold bk at ho ⊢;rw[v2 j hj,o2 j hj];exact ho
 refine⟨v,sY g r,kl g hp.length hp' H,yT,he,⟨r,hp',hRr,rfl,rfl⟩,?_⟩;refine⟨⟨bD.keeps.os,bD.keeps.tape,bD.keeps.output,bD.keeps.size,λk hk hx=>bD.keeps.block k hk λhl=>hx (mg k hl)⟩,eD,⟨by rw[kl,uj,uj],λj o u h1 h2=>?_,λj j' p1 p2 z1 z2 b bV h1 h2 l1 l2 e1 e2 hb fX=>?_⟩,λb ⟨j,o,u,h1,h2,h3,h4⟩=>?_,(ag1.re Hi bD.rep).ext iR⟩;rcases image j with⟨i,hi,rfl⟩|hj;rw[o1 i _ (aun hi)]at h1;obtain rfl:=auj h1;rw[<-v1 i hi]at h2;exact(ag1.reO (auB.1 hoc _ (auv hi)) (bD.heap.obj i _ u (aun hi) h2)).ext iR (aum _) λ_ _ _=>rfl
 ·rw[o2 j hj]at h1;rw[v2 j hj]at h2;by_cases hl:o.live;exact(bz.heap.obj j o u h1 h2).ext eD bD.keeps.size λb hb vZ=>bD.keeps.block b vZ (apart hj h1 hl h2 hb).2
  ·cases o<;>first|exact ai|exact(hl ai).elim
 have HL:∀{i j:Nat}{p1 p2:ax}{z1 z2:Value},i<hp'.length->(∀i,i<hp'.length->g i≠j)->hp'[i]?=some p1->H[j]?=some p2->p1.live->p2.live->bh[i]?=some z1->nC[j]?=some z2->da z1=some b->da z2=some b->False:=by intro i j p1 p2 z1 z2 hi hj h1 h2 l1 l2 e1 e2 hb fX;have ha:=apart hj h2 l2 e2 fX;rcases bD.cu b ⟨i,p1,z1,h1,l1,e1,hb⟩ with h5|h5;omega;exact ha.2 h5
 rcases image j with⟨i,hi,rfl⟩|hj;rw[o1 i _ (aun hi)]at h1;obtain rfl:=auj h1;rw[<-v1 i hi]at e1;rcases image j' with⟨i',tS,rfl⟩|vK;rw[o1 i' _ (aun tS)]at h2;obtain rfl:=auj h2;rw[<-v1 i' tS]at e2;exact bD.heap.sep i i' _ _ z1 z2 b (λhe=>bV (by rw[he])) (aun hi) (aun tS) (eO.1 l1) (eO.1 l2) e1 e2 hb fX;rw[o2 j' vK]at h2;rw[v2 j' vK]at e2;exact HL hi vK (aun hi) h2 (eO.1 l1) l2 e1 e2 hb fX;rw[o2 j hj]at h1;rw[v2 j hj]at e1;rcases image j' with⟨i',tS,rfl⟩|vK;rw[o1 i' _ (aun tS)]at h2;obtain rfl:=auj h2;rw[<-v1 i' tS]at e2;exact HL tS hj (aun tS) h1 (eO.1 l2) l1 e2 e1 fX hb;rw[o2 j' vK]at h2;rw[v2 j' vK]at e2;exact bz.heap.sep j j' p1 p2 z1 z2 b bV h1 h2 l1 l2 e1 e2 hb fX;rcases image j with⟨i,hi,rfl⟩|hj;rw[o1 i _ (aun hi)]at h1;obtain rfl:=auj h1;rw[<-v1 i hi]at h3;exact(bD.cu b ⟨i,_,u,aun hi,eO.1 h2,h3,h4⟩).imp id (mg b);rw[o2 j hj]at h1;rw[v2 j hj]at h3;exact .inr ⟨j,o,u,h1,h2,h3,h4⟩
end
section
def intOf:AV->Option Int
 | .ay (.int .i64 n)=>some n|_=>none
theorem HT{x:AV}{n:Int}(h:intOf x=some n):x=.ay (.int .i64 n):=by unfold intOf at h;split at h;rw[auj h];cases h
def wa:List AV->Option (List Int)
 | []=>some []|x::l=>(match intOf x,wa l with|some n,some ns=>some (n::ns)|_,_=>none)
theorem Dk:∀{l:List AV}{ns:List Int},wa l=some ns->l=ns.map λn=>.ay (.int .i64 n)
 | [],ns,h=>by simp only[wa,aug]at h;subst h;rfl|x::l,ns,h=>by simp only[wa]at h;split at h;rename_i n ms h1 h2;obtain rfl:=auj h;rw[HT h1,Dk h2];rfl;cases h
structure Que where
 r:Nat
 n:Nat
 e:Nat
 m:Nat
 ns:List Int
def Ar(hp:List ax):AV->Option Que
 | .own r n=>(match hp[r]? with|some (.fC e m ns)=>some ⟨r,n,e,m,ns⟩|_=>none)|_=>none
theorem TH{hp:List ax}{x:AV}{q:Que}(h:Ar hp x=some q):x=.own q.r q.n/\hp[q.r]?=some (.fC q.e q.m q.ns):=by unfold Ar at h;split at h;split at h;rename_i h1;obtain rfl:=auj h;exact⟨rfl,h1⟩;cases h;cases h
def qf(tab:Nat->Option TD)(T:Nat):Option (Nat×TD×TD):=
 match tab T with
 |some d=>(match d.kind with
  | .kY e=>(tab e).map λd'=>(e,d,d')
  |_=>none)
 |none=>none
theorem uk{tab:Nat->Option TD}{T e:Nat}{d d':TD}(h:qf tab T=some (e,d,d')):tab T=some d/\d.kind=.kY e/\tab e=some d':=by unfold qf at h;split at h;rename_i d1 h1;split at h;rename_i e1 h2;obtain⟨d2,h3,h4⟩:=au8.1 h;cases h4;exact⟨h1,h2,h3⟩;cases h;cases h
def qOp(mk:Bool)(tab:Nat->Option TD)(hp:List ax)(ρ:Operand->AV):Op->Option (List Prop×AV×List ax)
 | .buildSlice T n parts=>(match mk,parts.toList,qf tab T with|true,[(0,x)],some (e,_,d')=>(match intOf (ρ x),Nat.beq d'.size 1&&Nat.beq n 1 with|some k,true=>some ([],.own hp.length 0,hp++[.fC e 0 [k]])|_,_=>none)|_,_,_=>none)| .indexAddr T x i=>(match qf tab T,Ar hp (ρ x),ρ i with|some (e,_,d'),some q,.ay (.int _ k)=>(match Nat.beq d'.size 1&&Nat.beq e q.e with|true=>some ([q.n=q.m,0<=k/\k<q.ns.length],.gb q.r q.n k.toNat 1,hp)|false=>none)|_,_,_=>none)| .load T x=>(match ρ x,tab T with| .gb r n i 1,some d=>(match hp[r]?,Nat.beq d.size 1&&!d.kind.agg with|some (.fC _ m ns),true=>some ([n=m,i<ns.length],.ay (.int .i64 (ns.getD i 0)),hp)|_,_=>none)|_,_=>none)| .slice T x (some lo) none none=>(match qf tab T,Ar hp (ρ x),ρ lo with|some (e,_,d'),some q,.ay (.int _ l)=>(match Nat.beq d'.size 1&&Nat.beq e q.e with|true=>some ([q.n=q.m,0<=l/\l<=q.ns.length],.own q.r (q.m+1),hp.set q.r (.fC e (q.m+1) (q.ns.drop l.toNat)))|false=>none)|_,_,_=>none)| .call c=>(match c.callee,c.args.toList,c.argTypes.toList with| .builtin .len,[x],[T]=>(match qf tab T,Ar hp (ρ x)with|some _,some q=>some ([q.n=q.m],.ay (.int .i64 q.ns.length),hp)|_,_=>none)| .builtin .append,[b,x],[T,T']=>(match qf tab T,Ar hp (ρ b),(ρ x).mZ hp with|some (e,_,d'),some q,some (cs,els)=>(match wa els,Nat.beq d'.size 1&&(Nat.beq e q.e&&Nat.beq T T')with|some ks,true=>some (cs++[q.n=q.m,(q.ns.length+ks.length<=maxLen/\(q.ns.length+ks.length)*d'.bytes<=140737488355328)],.own q.r (q.m+1),hp.set q.r (.fC e (q.m+1) (q.ns++ks)))|_,_=>none)|_,_,_=>none)|_,_,_=>none)|_=>none
variable {G:Type} {Γ:Env G} {s:AS G} {a:Act} {w w':World} {η:List Value} {hp:List ax}
theorem gv.aeu{e:Nat}{v:Value}{ns:List Int}{xs:List Value}(h:mT w e 1 v ns.length xs 0)(hx:xs=ns.map λn=>.int .i64 n):gv w e v ns:=by rcases h.2 with⟨h0,h1⟩|⟨g,cap,cur,rfl,h0,⟨hi,hk,hg⟩,h2,h3,h4,h5⟩;refine .inl ⟨auU h0,?_⟩;rcases h1 with rfl|⟨ad,rfl⟩;exact⟨_,rfl⟩;exact⟨_,rfl⟩;(obtain rfl:hi=0:=Nat.le_zero.1 hk;refine .inr ⟨g,0,cap,cur,rfl,h0,hg,h2,h3,by omega,λi n hn=>?_⟩;have:xs[i]?=some (.int .i64 n):=by rw[hx,auu,hn];rfl);rw[<-h5,auC]at this;split at this;simpa using this;cases this
theorem gv.slice{e:Nat}{v:Value}{ns:List Int}(h:gv w e v ns):∃ad c,v=.slice ad ns.length c:=by rcases h with⟨rfl,ad,rfl⟩|⟨g,o,cap,cur,rfl,_⟩;exact⟨_,_,rfl⟩;exact⟨_,_,rfl⟩
theorem Rel.fC(aK:Γ.Ok)(h:Rel Γ s a w η){r e m:Nat}{ns ns':List Int}{v v':Value}(hr:s.hp[r]?=some (.fC e m ns))(hv:η[r]?=some v)(hk:cy (λk=>da v=some k) w w')(Sf:∀b,da v'=some b->da v=some b\/w.heap.size<=b)(Cy:gv w' e v' ns'):Rel Γ { s with hp:=s.hp.set r (.fC e (m+1) ns') } a w' (η.set r v'):=by
 have hq:gv w e v ns:=h.heap.obj r _ _ hr hv;obtain⟨ad,c,rfl⟩:=hq.slice;exact h.change aK (o':=.fC e (m+1) ns') hr ai hv hk Sf (λk hf=>hf.elim) (λ_ _ _ _ hf _=>hf.elim) (λ_ _ _ _ hf _=>hf.elim)
  (λn u ho=>by
   unfold bk at ho ⊢;rw[hr]at ho;rw[aD hr]
   exact⟨avv ho.1,λhn=>by have:=ho.1;omega⟩)
  (λ_ hx=>by cases hx) (λ_ hx=>by cases hx) (λb d hb hd=>by obtain⟨cur,h5⟩:=hq.lt hb;rw[h5]at hd;cases hd) (λ_=>Cy)
theorem lK{r e m:Nat}{ns:List Int}{v:Value}(h:hp[r]?=some (.fC e m ns)):bk η hp r m v↔η[r]?=some v:=by unfold bk;rw[h];exact⟨λh=>h.2 rfl,λh=>⟨aum _,λ_=>h⟩⟩
theorem LN(aK:Γ.Ok)(h:Rel Γ s a w η){t ty e:TypeId}{d:TD}(ht:Γ.P.underlying t=some (.slice e))(dK:gy Γ.P e d)(h1:d.size=1){r m:Nat}{ns ks:List Int}{aM:List AV}{v0 v2:Value}(hr:s.hp[r]?=some (.fC e m ns))(vU:η[r]?=some v0)(hx:bo w (bu Γ w η s.hp) η s.hp (.sl aM) v2)(hks:wa aM=some ks)(hm:ns.length+ks.length<=maxLen)(K2:(ns.length+ks.length)*d.bytes<=140737488355328): ∃v' w',(Builtin.append_ #[t,t] ty #[v0,v2]).run Γ.P w=.ok v' w'/\Rel Γ { s with hp:=s.hp.set r (.fC e (m+1) (ns++ks)) } a w' (η.set r v')/\v'.oneCell'=true:=by
 have hq:gv w e v0 ns:=h.heap.obj r _ v0 hr vU;have fD:=Dk hks;have hlen:aM.length=ks.length:=by rw[fD,aui]
 have rN:∀x:AV,x∈aM->x.cells.length=d.size:=by intro x lG;rw[fD]at lG;obtain⟨n,_,rfl⟩:=avg.1 lG;rw[h1];rfl
 obtain⟨i,jz,qv,G4,NA⟩:=dK.info;obtain⟨nc,hn⟩:=tT (ty:=ty) ht dK (by omega) hx rN;have qz:nc=ks.map λn=>.int .i64 n:=by apply avb;intro j;by_cases hj:j<ks.length;(have e1:aM[j]?=some (.ay (.int .i64 ks[j])):=by rw[fD,auu,aun hj];rfl);obtain⟨u,q1,q2,_⟩:=hn.rep j _ 0 _ e1 rfl;rw[h1,avq,avo]at q1;rw[q1,auu,aun hj,q2.aC];rfl;rw[auP (by rw[hn.len,h1,hlen];omega),auP (by rw[aui];omega)]
 by_cases hz:aM=[];have w7:ks=[]:=auU (by rw[<-hlen,hz];rfl);subst w7;obtain⟨ad,c,rfl⟩:=hq.slice;have KV:ns.length<=c:=by rcases hq with⟨rfl,_⟩|⟨g,o,cap,cur,he,_,_,h5,_⟩;exact aus _;simp only[Value.slice.injEq]at he;omega
 exact⟨_,w,hn.nothing hz _ _ _ KV,h.fC aK hr vU (cy.refl _ w) (λb hb=>.inl hb) (by rw[auD];exact hq),rfl⟩;have si:0<aM.length:=List.length_pos_iff.2 hz;have EC:ns.length+ks.length<=9223372036854775807:=by simp only[maxLen]at hm;omega
 have grown:∀(nX:Nat),(∀b,da v0=some b->b<w.heap.size)->
   Rel Γ { s with hp:=s.hp.set r (.fC e (m+1) (ns++ks)) } a
   (w.drew.alloc (.cells ((ns.map λn=>Value.int .i64 n).toArray++nc.toArray++Builtin.zeroCells d.zero.cells (grownCap w (ns.length+aM.length) nX e-(ns.length+aM.length))) e))
   (η.set r (.slice (some ⟨w.heap.size,0,none⟩) (ns.length+aM.length) (grownCap w (ns.length+aM.length) nX e))):=by
  intro nX aE;have hs:ck w (w.drew.alloc (.cells ((ns.map λn=>Value.int .i64 n).toArray++nc.toArray++Builtin.zeroCells d.zero.cells (grownCap w (ns.length+aM.length) nX e-(ns.length+aM.length))) e)):=
   (ck.drew w).trans (ck.alloc _ _)
  refine h.fC aK hr vU (hs.keeps _) (λb hb=>?_) (.aeu (xs:=(ns.map λn=>Value.int .i64 n)++nc) ?_ (by rw[qz,auZ]))
  ·rw[cK (by have:=grownCap_ge w (ns.length+aM.length) nX e;omega)]at hb;obtain rfl:=auj hb;exact .inr (aum _)
  ·have:=vR (w:=w) (e:=e) (size:=d.size) (n:=ns.length) (m:=aM.length) (z:=d.zero.cells) (ns.map λn=>Value.int .i64 n) nc (by rw[h1,aui,avq]) hn.len dK.Nz nX si (by rw[hlen];exact hm);rw[h1]at this;rw[auo,<-hlen];exact this
 rcases hq with⟨rfl,ad,rfl⟩|⟨g,o,cap,cur,rfl,h0,hg,KV,KW,gK,qw⟩;have gr:=grown 0 (λb hb=>by cases ad<;>simp[da]at hb);simp only[auY,auV,auO,Array.empty_append]at gr;simp only[auV,auO,<-hlen]at EC K2;cases ad with|none=>have:=hn.nil si (by omega) (by omega);exact⟨_,_,this,gr,rfl⟩|some ad=>have:=hn.grow si ad 0 0 [] (by simp) (λj u hj=>by simp at hj) (by omega) (by simp only[auO];omega) (growslice_fits (by omega) (by simpa only[auO]using K2));simp only[auO,avr]at this;refine⟨_,_,this,?_,rfl⟩;simpa only[Array.empty_append]using gr
 have wZ:∀c,0<c->∀n,da (.slice (some ⟨g,o,none⟩) n c)=some g:=λc hc n=>cK hc;by_cases fp:ns.length+aM.length<=cap;have hnl:nc.length=aM.length:=by rw[hn.len,h1,avq]
 have tU:o+ns.length+nc.length<=cur.size:=by omega
 obtain⟨b2,o2,c2,rfl,hc⟩:∃b2 o2 c2,v2=.slice (some ⟨b2,o2,none⟩) aM.length c2/\∀(j:Nat)(u:Value),nc[j]?=some u->w.cell? ((⟨b2,o2,none⟩:Addr).add j)=some u:=by (obtain⟨ag3,Zm⟩:=hx.yV (size:=d.size) (by omega) rN;have hnn:ag3=nc:=by rw[qz];apply avb;intro j;by_cases hj:j<ks.length;(have e1:aM[j]?=some (.ay (.int .i64 ks[j])):=by rw[fD,auu,aun hj];rfl);obtain⟨u,q1,q2,_⟩:=Zm.rep j _ 0 _ e1 rfl;rw[h1,avq,avo]at q1;rw[q1,auu,aun hj,q2.aC];rfl;rw[auP (by rw[Zm.len,h1,hlen];omega),auP (by rw[aui];omega)]);rcases Zm.shape with⟨_,_,q⟩|⟨b2,o2,c2,rfl,_,_,Sg⟩;exact(hz q).elim;exact⟨b2,o2,c2,rfl,λj u hj=>by rw[Addr.add_lit];exact Sg j u (by rw[hnn];exact hj)⟩
 have hrm:=lW (us:=nc) hg (aus (o+ns.length)) tU;have gY:=run_append_room_cells (P:=Γ.P) w t ty e i ht jz g o ns.length cap ⟨b2,o2,none⟩ aM.length c2 nc (by rw[qv];exact hn.len) hc hn.one fp (by rw[qv,h1,avq];exact hrm.1) (by rw[qv,h1,avq];exact hrm.2);rw[qv,h1,avq,oX nc _ cur w hg tU]at gY;refine⟨_,_,gY,?_,rfl⟩;have NB:=setRow_heap w g cur (cur.toList.take (o+ns.length)++nc++cur.toList.drop (o+ns.length+nc.length)).toArray e (0,0) hg;refine h.fC aK hr vU ⟨rfl,rfl,rfl,by simp,λk hk hb=>setRow_other w g k _ (λe=>hb (by rw[wZ _ h0,e]))⟩ (λb hb=>.inl (by rw[wZ _ h0];rw[wZ _ h0]at hb;exact hb)) (.inr ⟨g,o,cap,_,by rw[auo,<-hlen],h0,NB,by rw[auo,<-hlen];exact fp,KW,?_,λj n hj=>?_⟩);simp only[avO,auo,au0,auR,auX];omega;simp only[avS];by_cases aE:j<ns.length;rw[aup aE]at hj;rw[auH,aup (by simp;omega),auC,if_pos (by omega)];simpa using qw j n hj;rw[auN (by omega)]at hj;have QF:j-ns.length<ks.length:=(auh.1 hj).1;have dL:cur.toList.length=cur.size:=auX;have HU:(List.take (o+ns.length) cur.toList).length=o+ns.length:=by rw[au0,dL];exact avV (by omega)
 have hq:o+j-(List.take (o+ns.length) cur.toList).length=j-ns.length:=by rw[HU];omega
 rw[auH,auN (by rw[HU];omega),hq,aup (by omega),qz,auu,hj];rfl;have aR:∀(j:Nat)(u:Value),(ns.map λn=>Value.int .i64 n)[j]?=some u->w.cell? ((⟨g,o,none⟩:Addr).add j)=some u:=by intro j u hj;rw[auu]at hj;obtain⟨n,YY,rfl⟩:=au8.1 hj;rw[Addr.add_lit,cell_of_row w g _ cur e _ hg];exact qw j n YY
 have:=hn.grow si ⟨g,o,none⟩ ns.length cap (ns.map λn=>Value.int .i64 n) (by rw[h1,aui,avq]) aR (by omega) (by omega) (growslice_fits (by omega) (by rw[hlen];exact K2));exact⟨_,_,this,grown cap (λb hb=>by rw[wZ _ h0]at hb;obtain rfl:=auj hb;exact cf hg),rfl⟩
theorem um{tab:Nat->Option TD}(aB:bp Γ.P tab){T e:Nat}{d d':TD}(h:qf tab T=some (e,d,d')):Γ.P.underlying T=some (.slice e)/\gy Γ.P e d':=by obtain⟨h1,h2,h3⟩:=uk h;obtain⟨u,q2,q3⟩:=(aB T d h1).mL;rw[h2]at q3;exact⟨by rw[q2];exact congrArg some q3,aB e d' h3⟩
theorem Zn{a b c d:Nat}(h:(Nat.beq a b&&Nat.beq c d)=true):a=b/\c=d:=by rw[aul]at h;exact⟨auG h.1,auG h.2⟩
theorem Rel.aev(h:Rel Γ s a w η){x:Operand}{u:Value}(hx:s.ev x=.ay u):a.eval x=u:=by have:=h.ev x;rw[hx]at this;exact this.aC
theorem Rel.Zo(h:Rel Γ s a w η){x:Operand}{q:Que}(hq:Ar s.hp (s.ev x)=some q)(hn:q.n=q.m):s.hp[q.r]?=some (.fC q.e q.m q.ns)/\η[q.r]?=some (a.eval x)/\gv w q.e (a.eval x) q.ns:=by obtain⟨h1,h2⟩:=TH hq;have hx:=h.ev x;rw[h1,hn]at hx;generalize a.eval x=v at hx;cases hx with|own _ _ _ _ G5=>have h3:=(lK h2).1 G5;exact⟨h2,h3,h.heap.obj _ _ _ h2 h3⟩
theorem LO(aK:Γ.Ok){tab:Nat->Option TD}(aB:bp Γ.P tab){o:Oper}{T e:Nat}{x:Operand}{parts:Array (Nat×Operand)}(ho:o.op=.buildSlice T 1 parts){d d':TD}(hs:qf tab T=some (e,d,d'))(Sk:parts.toList=[(0,x)])(h1:d'.size=1){k:Int}(hk:s.ev x=.ay (.int .i64 k)):iB Γ o s (.own s.hp.length 0) (s.hp++[.fC e 0 [k]]):=by intro a w η hr;obtain⟨hu,dK⟩:=um aB hs;have vL:=hr.aev hk;obtain⟨r,e1,e2,e3,e4⟩:=zP (size:=d'.size) [Value.int .i64 k] 0 (parts.toList.map λp=>(p.1,a.eval p.2)) ((Array.range (1*d'.size)).map (d'.zero.cells[· % d'.zero.cells.size]!)) (by rw[Sk];simp[vL]) (λj p hj=>by rw[Sk]at hj;cases j with|zero=>simp at hj;rw[<-hj]|succ j=>simp at hj) (λv hv=>by simp at hv;rw[hv,h1];rfl) (by simp);(have e5:=e4 0 _ 0 (.int .i64 k) rfl rfl;have hb:¬1*d'.size>2 ^ 24:=by omega);(have hz:¬1*d'.size=0:=by omega);(have hrs:r.size=1:=by rw[e2];simp[h1]);refine⟨.slice (some ⟨w.heap.size,0,none⟩) 1 1,w.alloc (.cells r e),η++[.slice (some ⟨w.heap.size,0,none⟩) 1 1],.inl ?_,?_,?_⟩;simp only[execOp,ho,Instr.buildSlice,ao,run_underlying hu,al,dK.run_sizeOf,Sem.run_ite,if_neg hb,aq,if_neg hz,dK.kf,av1,e1,newRow,run_newObj];rfl;refine hr.add aK (ck.alloc w _) (λb hb=>?_) (.inr ⟨w.heap.size,0,1,r,rfl,by omega,heap_alloc_new w _,by simp,by simp[maxLen],by omega,λi n hn=>?_⟩);rw[cK (by omega)]at hb;obtain rfl:=auj hb;exact aum _;(cases i with|zero=>simp at hn;subst hn;simpa using e5|succ i=>simp at hn);exact .own _ _ _ rfl ((lK (e:=e) (ns:=[k]) (by simp)).2 (by rw[<-hr.heap.len];simp))
theorem CI(aK:Γ.Ok){tab:Nat->Option TD}(aB:bp Γ.P tab){o:Oper}{T n e:Nat}{parts:Array (Nat×Operand)}(ho:o.op=.buildSlice T n parts){d d':TD}(hd:tab T=some d)(hk:d.kind=.kY e)(eJ:tab e=some d')(hn:n=parts.toList.length)(nY:0<n)(hz:0<d'.size)(jw:qc 0 parts.toList=true)(Hk:n<=16777216)(Hl:n*d'.size<=16777216)(hl:oY d'.size (parts.toList.map λp=>(s.ev p.2).cd s.hp)): iB Γ o s (.own s.hp.length n) (s.hp++[.row e d'.size (parts.toList.map λp=>(s.ev p.2).cd s.hp)]):=by
 intro a w η hr;obtain⟨r,e1,e2,oh,dT⟩:=yx aK aB ho hd hk eJ hn jw Hk Hl hl hr;have hls:=qB _ hl;have he:=qy (Γ:=Γ) (η:=η) (hp:=s.hp) (ck.alloc w (.cells r e)) (λ_ _=>fk);refine⟨_,_,η++[.slice (some ⟨w.heap.size,0,none⟩) n n],.inl e1,?_,?_⟩
 ·have KY:=tR (Γ:=Γ) (o:=.row e d'.size (parts.toList.map λp=>(s.ev p.2).cd s.hp)) (v:=.slice (some ⟨w.heap.size,0,none⟩) n n) hr.heap.len (ck.alloc w (.cells r e)) (λb hb=>by rw[cK nY]at hb;obtain rfl:=auj hb;exact aum _);refine hr.add aK (ck.alloc w _) (λb hb=>?_) ⟨hz,r.toList,⟨by rw[auX,e2,oh],.inr ⟨w.heap.size,n,r,by rw[oh],nY,⟨0,aus _,heap_alloc_new w _⟩,by rw[oh];exact aum _,by simp only[maxLen];omega,e2,by rw[oh,<-e2,<-auX,List.take_length]⟩⟩,λi el hi=>⟨(hls el (auq hi)).1,λj x hj=>?_⟩⟩;rw[cK nY]at hb;obtain rfl:=auj hb;exact aum _;obtain⟨u,h1,h2,h3⟩:=dT i el j x hi hj;exact⟨u,by simpa using h1,h2.ext KY.nv.ext,h3⟩
 refine .own _ _ _ rfl ?_;unfold bk;rw[<-hr.heap.len];simp[hr.heap.len,oh]
theorem gv.at{e:Nat}{v:Value}{ns:List Int}(h:gv w e v ns){i:Nat}(hi:i<ns.length):∃g o cap,v=.slice (some ⟨g,o,none⟩) ns.length cap/\w.cell? ⟨g,o+i,none⟩=some (.int .i64 (ns.getD i 0)):=by rcases h with⟨rfl,_⟩|⟨g,o,cap,cur,rfl,_,hg,_,_,_,h1⟩;simp at hi;refine⟨g,o,cap,rfl,?_⟩;rw[cell_of_row w g _ cur e _ hg];exact h1 i _ (by simp[avc,hi])
theorem aew(aK:Γ.Ok){tab:Nat->Option TD}(aB:bp Γ.P tab){mk:Bool}{o:Oper}{cs:List Prop}{r:AV}{hp':List ax}(h:qOp mk tab s.hp s.ev o.op=some (cs,r,hp'))(hc:eM cs):iB Γ o s r hp':=by
 generalize ho:o.op=op at h;unfold qOp at h;split at h;split at h;rename_i T n parts _ _ _ x e d d' Sk hs;split at h;rename_i k hk hb;simp only[aug,auk]at h;obtain⟨rfl,rfl,rfl⟩:=h;obtain⟨b1,rfl⟩:=Zn hb;exact LO aK aB ho hs Sk b1 (HT hk);cases h;cases h;split at h;rename_i T x i _ _ _ e d d' q kk k hs hq hi;split at h;rename_i hb;simp only[aug,auk]at h;obtain⟨rfl,rfl,rfl⟩:=h;obtain⟨h1,h2,_⟩:=hc;obtain⟨b1,_⟩:=Zn hb;intro a w η hr;obtain⟨hu,dK⟩:=um aB hs;obtain⟨g1,g2,g3⟩:=hr.Zo hq h1;have Y4:=hr.aev hi;obtain⟨g,off,cap,hv,_⟩:=g3.at (i:=k.toNat) (by omega);obtain⟨i0,Cq,jz,_⟩:=dK.info;refine⟨.pointer (some ⟨g,off+k.toNat*1,none⟩),w,η,.inl ?_,hr,.gb _ _ _ _ g off cap q.ns.length ?_⟩;simp[execOp,ho,hv,Y4,Instr.indexAt,asIntOf,run_underlying hu,h2,sizeOf,typeInfo,Cq,jz,Addr.add_lit,b1];rw[h1];exact(lK g1).2 (by rw[g2,hv]);cases h;cases h;split at h;rename_i T x _ _ r0 n i d hx hd;split at h
 ·rename_i e m ns sk hb;simp only[aug,auk]at h;obtain⟨rfl,rfl,rfl⟩:=h;obtain⟨h1,h2,_⟩:=hc;simp only[aul,au7]at hb;have cP:=auG hb.1;have dK:=aB T d hd;intro a w η hr;have eV:=hr.ev x;rw[hx]at eV;cases zJ:a.eval x<;>rw[zJ]at eV<;>cases eV;rename_i b o' c k G5;rw[h1]at G5;have fL:=(lK sk).1 G5;obtain⟨g,off,cap,hv,aR⟩:=gv.at (hr.heap.obj _ _ _ sk fL) h2;simp only[Value.slice.injEq,aug,Addr.mk.injEq,and_true]at hv;obtain⟨⟨rfl,rfl⟩,_,_⟩:=hv;refine⟨.int .i64 (ns.getD i 0),w,η,.inl ?_,hr,.ay _⟩;simp only[execOp,ho,zJ,Instr.loadAt,Instr.sureAddr,ao,aq,al];rw[dK.run_load (vs:=[.int .i64 (ns.getD i 0)]) (by rw[cP];rfl) (λj u hj=>by cases j with|zero=>simp only[au4,aug]at hj;rw[<-hj,avq,avo];exact aR|succ j=>simp at hj)];simp[hb.2]
 cases h;cases h;split at h;rename_i T x lo _ _ _ e d d' q kk l hs hq hl;split at h;rename_i hb;simp only[aug,auk]at h;obtain⟨rfl,rfl,rfl⟩:=h;obtain⟨h1,⟨h2,h3⟩,_⟩:=hc;obtain⟨b1,b2⟩:=Zn hb;intro a w η hr;obtain⟨hu,dK⟩:=um aB hs;obtain⟨g1,g2,g3⟩:=hr.Zo hq h1;have Hn:=hr.aev hl;obtain⟨ad,c,hv,KV⟩:∃ad c,a.eval x=.slice ad q.ns.length c/\q.ns.length<=c:=by rcases g3 with⟨e0,ad,e1⟩|⟨g,off,cap,cur,e1,_,_,e2,_⟩;exact⟨ad,0,by rw[e1,e0];rfl,by rw[e0];exact aum _⟩;exact⟨_,cap,e1,e2⟩
 have Sj:=run_sliceBound (P:=Γ.P) w Hn (y:=q.ns.length) h2 h3 .sliceB;have gY:(Instr.sliceBounds true q.ns.length c (some (a.eval lo)) none none).run Γ.P w=.ok (l.toNat,q.ns.length,c) w:=by simp[Instr.sliceBounds,Sj]
 have sG:=dK.run_sizeOf w;have hex:(execOp a.eval o).run Γ.P w=.ok (.value (.slice (if c=l.toNat then ad else ad.map (·.add (l.toNat*d'.size))) (q.ns.length-l.toNat) (c-l.toNat))) w:=by simp only[execOp,ho,Instr.sliceAt,ao,run_underlying hu,al,Instr.slice,hv,auT,Option.map_none,gY,sG,aq]
 subst b2;have wZ:∀b,da (.slice (if c=l.toNat then ad else ad.map (·.add (l.toNat*d'.size))) (q.ns.length-l.toNat) (c-l.toNat))=some b->da (a.eval x)=some b:=by intro b hb;rw[hv];by_cases dL:c=l.toNat;rw[if_pos dL]at hb;cases ad<;>simp[da]at hb;omega;rw[if_neg dL]at hb;cases ad with|none=>simp[da]at hb|some ad=>(simp only[auT]at hb;rw[cK (by omega)]at hb ⊢;have he:(ad.add (l.toNat*d'.size)).block=ad.block:=by unfold Addr.add;split<;>rfl);rw[he]at hb;exact hb
 refine⟨_,w,η.set q.r _,.inl hex,hr.fC aK g1 g2 (cy.refl _ w) (λb hb=>.inl (wZ b hb)) ?_,.own _ _ _ rfl ((lK (aD g1)).2 (aD g2))⟩;rw[hv]at g3;rcases g3 with⟨e0,ad',e1⟩|⟨g,off,cap,cur,e1,e2,e3,e4,e5,e6,e7⟩;simp only[Value.slice.injEq]at e1;obtain⟨rfl,e1,rfl⟩:=e1;refine .inl ⟨by rw[e0];simp,ad,?_⟩;have:l.toNat=0:=by omega
 rw[this,e1];simp;simp only[Value.slice.injEq]at e1;obtain⟨rfl,_,rfl⟩:=e1;by_cases dL:c=l.toNat;refine .inl ⟨auF (by omega),some ⟨g,off,none⟩,?_⟩;rw[if_pos dL,show q.ns.length-l.toNat=0 by omega,show c-l.toNat=0 by omega];rw[if_neg dL];refine .inr ⟨g,off+l.toNat,c-l.toNat,cur,by rw[auR,b1,avq,auT,Addr.add_lit],by omega,e3,by rw[auR];omega,by omega,by omega,λi n hn=>?_⟩;rw[avp]at hn;have:=e7 _ _ hn;rw[av0];exact this;cases h;cases h;rename_i c;split at h;rename_i x T EW aQ aex;split at h;rename_i sd q hs hq;simp only[aug,auk]at h;obtain⟨rfl,rfl,rfl⟩:=h;obtain⟨e,d,d'⟩:=sd;intro a w η hr;obtain⟨hu,dK⟩:=um aB hs;obtain⟨g1,g2,g3⟩:=hr.Zo hq hc.1;obtain⟨ad,cc,hv⟩:=g3.slice;have qF:c.argTypes=#[T]:=by rw[<-au1 (xs:=c.argTypes),aex]
 have pq:c.args=#[x]:=by rw[<-au1 (xs:=c.args),aQ]
 refine⟨.int .i64 q.ns.length,w,η,.inl ?_,hr,.ay _⟩;simp[execOp,ho,resolve,EW,invoke,builtin,Builtin.len_,qF,pq,hv,run_underlying hu,goInt];cases h;rename_i b x T T' EW aQ aex;split at h;rename_i e d d' q eL els hs hq hx;split at h;rename_i ks hks hb;simp only[aug,auk]at h;obtain⟨rfl,rfl,rfl⟩:=h;rw[bU]at hc;obtain⟨Hd,h1,⟨h2,h3⟩,_⟩:=hc;rw[aul]at hb;have b1:=auG hb.1;obtain⟨b2,rfl⟩:=Zn hb.2;intro a w η hr;obtain⟨hu,dK⟩:=um aB hs;obtain⟨g1,g2,g3⟩:=hr.Zo hq h1;have eV:=lV hr.heap hr.cu (hr.ev x) (ib hx Hd);have qF:c.argTypes=#[T,T]:=by rw[<-au1 (xs:=c.argTypes),aex]
 have pq:c.args=#[b,x]:=by rw[<-au1 (xs:=c.args),aQ]
 subst b2;obtain⟨v',w',q1,q2,q3⟩:=LN aK hr (ty:=o.type) hu dK b1 g1 g2 eV hks h2 h3;refine⟨v',w',_,.inl ?_,q2,.own _ _ _ q3 ((lK (aD g1)).2 (aD g2))⟩;simp only[execOp,ho,resolve,EW,ao,aq,al,invoke,builtin,qF,pq,avE,auL,auY,q1];cases h;cases h;cases h;cases h
end
section
inductive yC where
 |i (k:IntKind)
 |b
 |s
 |l
 |c
 |m
 |ms
 |k (x:AV)
 |o (r:Nat)
 |fn
 |q (x:AV)
inductive uo where
 |c (x:yC)
 |a (l:List yC)
inductive Sh where
 |v (x:uo)
 |t (l:List uo)
 |f (fn:Nat) (l:List uo)
 |m (fn:Nat) (l:List uo)
inductive mh where
 |dead
 |box (l:List yC)
 |row (e size:Nat)
 |cJ
 |eZ
 |jq (r:Nat)
 |aW (e size:Nat)
 |fC (e:Nat)
def sw:List Nat->Nat->Nat
 | [],_=>0|x::_,0=>x|_::l,n+1=>sw l n
def aey(lens:List Nat):yC->(AV->Prop)->Prop
 | .i k,P=>∃n:Int,P (.ay (.int k n))| .b,P=>∃b:Bool,P (.ay (.bool b))| .s,P=>∃s:aw,P (.ay (.string s))| .l,P=>∃l:List AV,P (.sl l)| .c,P=>∃l:List AV,P (.clip l)| .m,P=>∃l:List (Int×Value),P (.eo (.i l))| .ms,P=>∃l:List (aw×Value),P (.eo (.s l))| .k x,P=>P x| .o r,P=>P (.own r (sw lens r))| .fn,P=>∃v:Value,P (.fn v)| .q x,P=>P x
def NT(lens:List Nat):List yC->(List AV->Prop)->Prop
 | [],P=>P []|sh::l,P=>aey lens sh λx=>NT lens l λxs=>P (x::xs)
def TI(lens:List Nat):uo->(AV->Prop)->Prop
 | .c x,P=>aey lens x P| .a l,P=>NT lens l λcs=>P (.agg cs)
def HV(lens:List Nat):List uo->(List AV->Prop)->Prop
 | [],P=>P []|sh::l,P=>TI lens sh λx=>HV lens l λxs=>P (x::xs)
def opn(lens:List Nat):Sh->(AV->Prop)->Prop
 | .v x,P=>TI lens x P| .t l,P=>HV lens l λcs=>P (.aG cs)| .f fn l,P=>HV lens l λcs=>P (.bw fn cs)| .m fn l,P=>HV lens l λcs=>P (.dt fn cs)
theorem NU{lens:List Nat}{sh:yC}{P:AV->Prop}(h:aey lens sh P):∃x,P x:=by cases sh with|i k=>obtain⟨n,h⟩:=h;exact⟨_,h⟩|b=>obtain⟨n,h⟩:=h;exact⟨_,h⟩|s=>obtain⟨n,h⟩:=h;exact⟨_,h⟩|q x=>exact⟨_,h⟩|l=>obtain⟨n,h⟩:=h;exact⟨_,h⟩|c=>obtain⟨n,h⟩:=h;exact⟨_,h⟩|m=>obtain⟨n,h⟩:=h;exact⟨_,h⟩|ms=>obtain⟨n,h⟩:=h;exact⟨_,h⟩|fn=>obtain⟨n,h⟩:=h;exact⟨_,h⟩|k x=>exact⟨_,h⟩|o r=>exact⟨_,h⟩
theorem As{lens:List Nat}:∀{l:List yC}{P:List AV->Prop},NT lens l P->∃xs,P xs
 | [],_,h=>⟨_,h⟩|_::_,_,h=>by obtain⟨x,h⟩:=NU h;obtain⟨xs,h⟩:=As h;exact⟨_,h⟩
theorem y5{lens:List Nat}{sh:uo}{P:AV->Prop}(h:TI lens sh P):∃x,P x:=by cases sh with|c x=>exact NU h|a l=>obtain⟨cs,h⟩:=As h;exact⟨_,h⟩
theorem uq{lens:List Nat}:∀{l:List uo}{P:List AV->Prop},HV lens l P->∃xs,P xs
 | [],_,h=>⟨_,h⟩|_::_,_,h=>by obtain⟨x,h⟩:=y5 h;obtain⟨xs,h⟩:=uq h;exact⟨_,h⟩
theorem sZ{lens:List Nat}{sh:Sh}{P:AV->Prop}(h:opn lens sh P):∃x,P x:=by cases sh with|v x=>exact y5 h|t l=>obtain⟨cs,h⟩:=uq h;exact⟨_,h⟩|f fn l=>obtain⟨cs,h⟩:=uq h;exact⟨_,h⟩|m fn l=>obtain⟨cs,h⟩:=uq h;exact⟨_,h⟩
def Zp:List mh->(List (List AV)->Prop)->Prop
 | [],P=>P []| .row _ _::l,P| .aW _ _::l,P=>∃els:List AV,Zp l λls=>P (els::ls)|_::l,P=>Zp l λls=>P ([]::ls)
def TJ:List (List AV)->List Nat
 | []=>[]|l::ls=>l.length::TJ ls
def ag4(lens:List Nat):mh->List AV->(ax->Prop)->Prop
 | .dead,_,P=>P .dead| .box l,_,P=>NT lens l λcs=>P (.box cs)| .row e size,els,P=>P (.row e size els)| .aW e size,els,P=>P (.aW e size els)| .cJ,_,P=>∃es:List (Int×Value),P (.cJ (.i es))| .jq r,_,P=>P (.jq r (sw lens r))| .eZ,_,P=>∃es:List (aw×Value),P (.cJ (.s es))| .fC _,_,_=>False
def TL(lens:List Nat):List mh->List (List AV)->(List ax->Prop)->Prop
 | [],_,P=>P []|o::l,els::ls,P=>ag4 lens o els λx=>TL lens l ls λxs=>P (x::xs)|_::_,[],_=>False
theorem Zq{l:List mh}:∀{P:List (List AV)->Prop},Zp l P->∃ls,P ls:=by induction l with|nil=>intro P h;exact⟨_,h⟩|cons o l ih=>intro P h;cases o with|row e size=>obtain⟨els,h⟩:=h;obtain⟨ls,h⟩:=ih h;exact⟨_,h⟩|aW e size=>obtain⟨els,h⟩:=h;obtain⟨ls,h⟩:=ih h;exact⟨_,h⟩|dead=>obtain⟨ls,h⟩:=ih (P:=λls=>P ([]::ls)) h;exact⟨_,h⟩|box l=>obtain⟨ls,h⟩:=ih (P:=λls=>P ([]::ls)) h;exact⟨_,h⟩|cJ=>obtain⟨ls,h⟩:=ih (P:=λls=>P ([]::ls)) h;exact⟨_,h⟩|eZ=>obtain⟨ls,h⟩:=ih (P:=λls=>P ([]::ls)) h;exact⟨_,h⟩|jq r=>obtain⟨ls,h⟩:=ih (P:=λls=>P ([]::ls)) h;exact⟨_,h⟩|fC e=>obtain⟨ls,h⟩:=ih (P:=λls=>P ([]::ls)) h;exact⟨_,h⟩
theorem Zr{lens:List Nat}{o:mh}{els:List AV}{P:ax->Prop}(h:ag4 lens o els P):∃x,P x:=by cases o with|dead=>exact⟨_,h⟩|box l=>obtain⟨cs,h⟩:=As h;exact⟨_,h⟩|row e size=>exact⟨_,h⟩|aW e size=>exact⟨_,h⟩|cJ=>obtain⟨es,h⟩:=h;exact⟨_,h⟩|eZ=>obtain⟨es,h⟩:=h;exact⟨_,h⟩|jq r=>exact⟨_,h⟩|fC e=>exact h.elim
theorem HW{lens:List Nat}:∀{l:List mh}{ls:List (List AV)}{P:List ax->Prop},TL lens l ls P->∃xs,xs.length=l.length/\P xs
 | [],_,_,h=>⟨[],rfl,h⟩|_::_,[],_,h=>h.elim|o::l,els::ls,P,h=>by obtain⟨x,h⟩:=Zr h;obtain⟨xs,hl,h⟩:=HW h;exact⟨x::xs,by simp[hl],h⟩
def aeA(a:Sh×List mh)(r:AV)(hp':List ax)(k:AV->List ax->Prop):Prop:=Zp a.2 λls=>TL (TJ ls) a.2 ls λh=>opn (TJ ls) a.1 λx=>(r=x/\hp'=h)/\k x h
def NV:List (Sh×List mh)->AV->List ax->(AV->List ax->Prop)->Prop
 | [],_,_,_=>False| [a],r,hp',k=>aeA a r hp' k|a::l,r,hp',k=>aeA a r hp' k\/NV l r hp' k
def adn(a:Sh)(r:AV)(k:AV->Prop):Prop:=opn [] a λx=>r=x/\k x
def EX:List Sh->AV->(AV->Prop)->Prop
 | [],_,_=>False| [a],r,k=>adn a r k|a::l,r,k=>adn a r k\/EX l r k
theorem NW{a:Sh×List mh}{r:AV}{hp':List ax}{k:AV->List ax->Prop}(h:aeA a r hp' k):k r hp':=by obtain⟨ls,h⟩:=Zq h;obtain⟨hs,_,h⟩:=HW h;obtain⟨x,⟨rfl,rfl⟩,h⟩:=sZ h;exact h
theorem iY:∀{l:List (Sh×List mh)}{r:AV}{hp':List ax}{k:AV->List ax->Prop},NV l r hp' k->k r hp'
 | [],_,_,_,h=>h.elim| [_],_,_,_,h=>NW h|_::_::_,_,_,_,h=>h.elim NW iY
theorem wb:∀{l:List Sh}{r:AV}{k:AV->Prop},EX l r k->k r
 | [],_,_,h=>h.elim| [_],_,_,h=>by obtain⟨x,rfl,h⟩:=sZ h;exact h|_::_::_,_,_,h=>h.elim (λh=>by obtain⟨x,rfl,h⟩:=sZ h;exact h) wb
def ado(tab:Nat->Option TD)(hp:List ax)(ρ:Operand->AV):Op->Option (List Prop×List AV×Int×Nat×Nat)
 | .indexAddr T x i=>(match tab T with|some d=>(match d.kind with| .kY e=>(match tab e,(ρ x).mZ hp,ρ i with|some d',some (cs,els),.ay (.int _ n)=>some (cs,els,n,e,d'.size)|_,_,_=>none)|_=>none)|none=>none)|_=>none
def aeB(tab:Nat->Option TD)(hp:List ax)(ρ:Operand->AV):Op->Option (Prop×AV)
 | .indexAddr T x i=>(match vW hp (ρ x)with|some (r,m,e',size,k)=>(match tab T with|some d=>(match d.kind with| .kY e=>(match tab e,ρ i with|some d',.ay (.int _ n)=>if e'=e/\size=d'.size then some (0<=n/\n<m/\m=k,.gb r m n.toNat size)else none|_,_=>none)|_=>none)|none=>none)|none=>none)|_=>none
theorem Zs{tab:Nat->Option TD}{hp:List ax}{ρ:Operand->AV}{op:Op}{c:Prop}{r:AV}(h:aeB tab hp ρ op=some (c,r)):bK tab hp ρ op=some (c,r):=by unfold aeB at h;split at h;rename_i T x i;split at h;rename_i q m e' size k' hm;split at h;rename_i d hd;split at h;rename_i e hk;split at h;(rename_i d' k n eJ hi;obtain⟨hx,els,sk,_⟩:=rO hm;have sU:(ρ x).iQ hp=none:=by rw[hx];simp only[AV.iQ,sk]);simp only[bK,hd,hk,eJ,sU,hi,hm];exact h;cases h;cases h;cases h;cases h;cases h
def aeC(tab:Nat->Option TD)(ρ:Operand->AV):Op->Option AV
 | .indexAddr T x (.const c)=>(match tab T with|some d=>(match d.kind with| .arr m=>(match ρ x,ρ (.const c)with| .ptr r 0,.ay (.int _ (.ofNat j))=>(match Nat.blt j m with|true=>some (.ptr r j)|false=>none)| .aV e 0,.ay (.int _ (.ofNat j))=>(match Nat.blt j m with|true=>some (.aV e j)|false=>none)|_,_=>none)|_=>none)|none=>none)|_=>none
theorem Zt{tab:Nat->Option TD}{hp:List ax}{ρ:Operand->AV}{op:Op}{r:AV}(h:aeC tab ρ op=some r):∃c,bK tab hp ρ op=some (c,r)/\c:=by unfold aeC at h;split at h;rename_i T x c;split at h;rename_i d hd;split at h;rename_i m hk;split at h;rename_i r' k j hx hc;split at h;rename_i hb;obtain rfl:=auj h;have aE:j<m:=auI hb;refine⟨0<=(Int.ofNat j)/\(Int.ofNat j)<m,?_,Int.natCast_nonneg _,Int.ofNat_lt.2 aE⟩;simp only[bK,hd,hk,hx,hc];rfl;cases h;rename_i e k j hx hc;split at h;rename_i hb;obtain rfl:=auj h;have aE:j<m:=auI hb;refine⟨0<=(Int.ofNat j)/\(Int.ofNat j)<m,?_,Int.natCast_nonneg _,Int.ofNat_lt.2 aE⟩;simp only[bK,hd,hk,hx,hc];rfl;cases h;cases h;cases h;cases h;cases h
def aeD(tab:Nat->Option TD)(ρ:Operand->AV):Op->Option (Nat×Int×Nat)
 | .indexAddr T x i=>(match tab T with|some d=>(match d.kind with| .arr m=>(match ρ x,ρ i with| .ptr r 0,.ay (.int _ n)=>some (r,n,m)|_,_=>none)|_=>none)|none=>none)|_=>none
theorem Zu{tab:Nat->Option TD}{hp:List ax}{ρ:Operand->AV}{op:Op}{r:Nat}{n:Int}{m:Nat}(h:aeD tab ρ op=some (r,n,m)):bK tab hp ρ op=some (0<=n/\n<m,.ptr r n.toNat):=by unfold aeD at h;split at h;rename_i T x i;split at h;rename_i d hd;split at h;rename_i m' hk;split at h;rename_i r' k n' hx hi;simp only[aug,auk]at h;obtain⟨rfl,rfl,rfl⟩:=h;simp only[bK,hd,hk,hx,hi];cases h;cases h;cases h;cases h
def LP(n:Int)(k:Nat->Prop):Nat->Nat->Prop
 |0,_=>False|1,j=>k j|f+2,j=>aA (n==(j:Int)) (k j) (LP n k (f+1) (j+1))
theorem Dl{n:Int}{k:Nat->Prop}:∀(f j:Nat),(j:Int)<=n->n<(j:Int)+f->LP n k f j->k n.toNat
 |0,j,h1,h2,_=>by omega|1,j,h1,h2,h=>by (have:n.toNat=j:=by omega);rw[this];exact h|f+2,j,h1,h2,h=>by by_cases e:n=(j:Int);(have h':=h.elim.1 (by simpa using e);have:n.toNat=j:=by omega);rw[this];exact h';exact Dl (f+1) (j+1) (by omega) (by omega) (h.elim.2 (by simpa using e))
def ldM(tab:Nat->Option TD)(hp:List ax)(ρ:Operand->AV):Op->Option (Prop×List AV×Nat×Nat×Bool)
 | .load T x=>(match ρ x with| .gb r m i z=>(match hp[r]?,tab T with|some (.aW _ z' els),some d=>(match Nat.beq z' z&&Nat.beq d.size z with|true=>some (m=els.length,els,i,T,d.kind.agg)|false=>none)|_,_=>none)|_=>none)|_=>none
theorem aeE{tab:Nat->Option TD}{hp:List ax}{ρ:Operand->AV}{op:Op}{els:List AV}{i T:Nat}{b:Bool}{c:Prop}(h:ldM tab hp ρ op=some (c,els,i,T,b)):bK tab hp ρ op=some (c/\i<els.length/\(els.getD i .top).isAgg=b,els.getD i .top):=by unfold ldM at h;split at h;rename_i T' x;split at h;rename_i r m i' z hx;split at h;rename_i e z' gX d hr hd;split at h;rename_i hb;rw[aul]at hb;simp only[aug,auk]at h;obtain⟨rfl,rfl,rfl,rfl,rfl⟩:=h;simp only[bK,hd,hx,hr];rw[if_pos ⟨auG hb.1,auG hb.2⟩];cases h;cases h;cases h;cases h
def sized(size:Nat)(x:AV)(p:Prop):Prop:=if x.cells.length=size then p else False
def aeF(b:Bool)(x:AV)(p:Prop):Prop:=match x.isAgg==b with|true=>p|false=>False
def QI(tab:Nat->Option TD)(Sp:Nat->uo)(hp:List ax)(ρ:Operand->AV)(op:Op)(k:AV->Prop):Option Prop:=
 match ado tab hp ρ op with
 |some (cs,els,n,e,size)=>some (gO cs (0<=n/\n<els.length/\TI [] (Sp e) λx=>els.getD n.toNat .top=x/\sized size x (k (.aV x 0))))
 |none=>(match aeB tab hp ρ op with
  |some (c,r)=>some (c/\k r)
  |none=>(match pv tab hp ρ op with
   |some (cs,r)=>some (gO cs (k r))
   |none=>(match aeC tab ρ op with
    |some r=>some (k r)
    |none=>(match aeD tab ρ op with
     |some (r,n,m)=>some ((0<=n/\n<m)/\LP n (λj=>k (.ptr r j)) m 0)
     |none=>(match ldM tab hp ρ op with
      |some (c,els,i,T,b)=>some (c/\i<els.length/\TI [] (Sp T) λx=>els.getD i .top=x/\aeF b x (k x))
      |none=>none)))))
theorem Zv{b:Bool}{x:AV}{p:Prop}(h:aeF b x p):x.isAgg=b/\p:=by unfold aeF at h;split at h;rename_i hb;exact⟨by cases b<;>cases hx:x.isAgg<;>simp_all,h⟩;exact h.elim
theorem y6{tab:Nat->Option TD}{Sp:Nat->uo}{hp:List ax}{ρ:Operand->AV}{op:Op}{k:AV->Prop}{p:Prop}(h:QI tab Sp hp ρ op k=some p)(sr:p):∃c r,bK tab hp ρ op=some (c,r)/\c/\k r:=by unfold QI at h;split at h;rename_i cs els n e size jw;obtain rfl:=auj h;rw[bF]at sr;obtain⟨hc,h0,h1,h2⟩:=sr;obtain⟨x,hx,hk⟩:=y5 h2;unfold sized at hk;split at hk;rename_i hs;unfold ado at jw;split at jw;rename_i T y i;split at jw;rename_i d hd;split at jw;rename_i e' Zk;split at jw;rename_i d' eL gX ik n' eJ hy hi;simp only[aug,auk]at jw;obtain⟨rfl,rfl,rfl,rfl,rfl⟩:=jw;have sU:=ib hy hc;refine⟨0<=n'/\n' < gX.length/\(gX.getD n'.toNat .top).cells.length=d'.size,.aV (gX.getD n'.toNat .top) 0,by simp only[bK,hd,Zk,eJ,sU,hi],⟨h0,h1,by rw[hx];exact hs⟩,by rw[hx];exact hk⟩;cases jw;cases jw;cases jw;cases jw;exact hk.elim;split at h;rename_i c r hm;obtain rfl:=auj h;exact⟨c,r,Zs hm,sr.1,sr.2⟩;split at h;rename_i cs r hpv;obtain rfl:=auj h;rw[bF]at sr;obtain⟨c,h1,h2⟩:=agL hpv sr.1;exact⟨c,r,h1,h2,sr.2⟩;split at h;rename_i r hi;obtain rfl:=auj h;obtain⟨c,h1,h2⟩:=Zt hi;exact⟨c,r,h1,h2,sr⟩;split at h;rename_i r n m hi;obtain rfl:=auj h;exact⟨_,_,Zu hi,sr.1,Dl m 0 (by simpa using sr.1.1) (by simpa using sr.1.2) sr.2⟩;split at h;rename_i c els i T b hl;obtain rfl:=auj h;obtain⟨h0,h1,h2⟩:=sr;obtain⟨x,hx,hk⟩:=y5 h2;obtain⟨h3,h4⟩:=Zv hk;exact⟨_,_,aeE hl,⟨h0,h1,by rw[hx];exact h3⟩,by rw[hx];exact h4⟩;cases h
def LQ(tab:Nat->Option TD)(hp:List ax)(ρ:Operand->AV)(op:Op)(k:AV->List ax->Prop):Option Prop:=
 match hv tab hp ρ op with
 |some (cs,r,hp')=>some (gO cs (k r hp'))
 |none=>none
theorem EY{tab:Nat->Option TD}{hp:List ax}{ρ:Operand->AV}{op:Op}{k:AV->List ax->Prop}{p:Prop}(h:LQ tab hp ρ op k=some p)(sr:p):∃c r hp',eK tab hp ρ op=some (c,r,hp')/\c/\k r hp':=by unfold LQ at h;split at h;rename_i cs r hp' hh;obtain rfl:=auj h;rw[bF]at sr;obtain⟨c,h1,h2⟩:=agM hh sr.1;exact⟨c,r,hp',h1,h2,sr.2⟩;cases h
def qQ(s:AS Unit):Op->Option (Nat×List AV)
 | .call c=>(match c.callee with| .value x=>(match s.ev x with| .bw f caps=>some (f,c.args.toList.map s.ev++caps)|_=>none)|_=>none)|_=>none
theorem lL(s:AS Unit)(op:Op):qQ s op=mc s op:=rfl
inductive jr where
 |one (sh:Sh)
 |alts (l:List Sh)
 |heap (n:Nat) (l:List (Sh×List mh))
 |raw (l:List Sh)
 |bw (f:Nat)
 |y (kind:Bool)
 |frz (sh:Sh)
 |fresh (e size:Nat)
 |ft (l:List (Sh×List mh))
def boxed:List AV->List AV
 | []=>[]|x::l=>.aV x 0::boxed l
inductive ox where
 |done
 |val (i:Nat) (p:ox)
 |cS (i:Nat) (p:ox)
 |two (i:Nat) (p:ox) (j:Nat) (q:ox)
 |three (i:Nat) (p:ox) (j:Nat) (q:ox) (k:Nat) (r:ox)
structure dQ where
 P:Program
 tab:Nat->Option TD
 Sp:Nat->uo
 sig:Nat->Nat->jr
 nt:Nat
 dr:List (Nat×List (Option (List Nat))×List (Option (List Nat))):=[]
 hc:List (Nat×List Nat):=[]
 br:List (Nat×ox):=[]
 mt:Bool:=false
 fC:Option (List Nat):=none
 rm:List (Nat×Nat):=[]
 sgd:Nat->Option jr:=λ_=>none
 ext:{ e:Nat->Option YF // ∀f x,e f=some x->XOk P f x }:=⟨λ_=>none,λ_ _ h=>by cases h⟩
def HX(C:dQ)(f:Nat)(o:Oper):jr:=
 match o.dst with
 |some d=>(match C.sgd d with
  |some g=>g
  |none=>C.sig f o.type)
 |none=>C.sig f o.type
def okB(b:Bool)(p:Prop):Prop:=
 match b with
 |true=>p
 |false=>False
theorem cU{b:Bool}{p:Prop}(h:okB b p):b=true/\p:=by cases b with|true=>exact⟨rfl,h⟩|false=>exact h.elim
def AV.mj(n:Nat)(hp:List ax)(x:AV):List Prop×AV:=
 match x.closed n with
 |true=>([],x)
 |false=>x.bZ hp
theorem qR{n:Nat}{hp:List ax}{x:AV}(hc:eM (x.mj n hp).1):x.sX n hp=(x.mj n hp).2:=by unfold AV.sX AV.mj at *;cases h:x.closed n with|true=>simp|false=>rw[h]at hc;simp only[auE,if_false];exact dy hc
def sx(n:Nat):List Nat->Nat->Nat
 | [],_=>n|j::js,r=>(match Nat.beq j r with|true=>n|false=>sx (n+1) js r)
def unP(js:List Nat):AV->AV
 | .ptr r o=>.ptr (sx 0 js r) o|x=>x
def yZ(js:List Nat):AV->AV
 | .own r n=>.own (sx 0 js r) n| .ptr r o=>.ptr (sx 0 js r) o| .mp r=>.mp (sx 0 js r)| .bw f cs=>.bw f (cs.map (unP js))|x=>x
def NS(js:List Nat):AV->AV
 | .agg cs=>.agg (cs.map (yZ js))|x=>yZ js x
def Sq(js:List Nat):AV->AV
 | .aG vs=>.aG (vs.map (NS js))| .bw f cs=>.bw f (cs.map (NS js))| .dt f cs=>.dt f (cs.map (NS js))|x=>NS js x
def unO(js:List Nat):ax->ax
 | .box cs=>.box (cs.map (yZ js))| .jq r n=>.jq (sx 0 js r) n|o=>o
def nD(js:List Nat)(n:Nat)(i:Nat):Nat:=(match Nat.blt i js.length with|true=>sw js i|false=>n+(i-js.length))
theorem NY:∀{js:List Nat}{n r:Nat},sx n js r<n+js.length->n<=sx n js r/\sw js (sx n js r-n)=r
 | [],n,r,h=>by simp[sx]at h|j::js,n,r,h=>by simp only[sx]at h ⊢;split;rename_i hb;rw[avH];exact⟨aum _,auG hb⟩;rename_i hb;rw[hb]at h;simp only[aur]at h;obtain⟨h1,h2⟩:=NY (js:=js) (n:=n+1) (r:=r) (by omega);refine⟨by omega,?_⟩;rw[show sx (n+1) js r-n=(sx (n+1) js r-(n+1))+1 from by omega];exact h2
theorem ur{js:List Nat}{n r:Nat}(h:sx 0 js r<js.length):nD js n (sx 0 js r)=r:=by unfold nD;rw[show Nat.blt (sx 0 js r) js.length=true from Nat.ble_eq_true_of_le h];have:=(NY (js:=js) (n:=0) (r:=r) (by omega)).2;rwa [Nat.sub_zero]at this
theorem iJ{js:List Nat}{n:Nat}{u:List Nat->AV->AV}{r:(Nat->Nat)->AV->AV}{c:Nat->AV->Bool}(hu:∀x,c js.length (u js x)=true->r (nD js n) (u js x)=x): ∀(l:List AV),(l.map (u js)).all (c js.length)=true->(l.map (u js)).map (r (nD js n))=l
 | [],_=>rfl|x::l,h=>by simp only[auL,avI,aul]at h ⊢;rw[hu x h.1,iJ hu l h.2]
theorem aeG{js:List Nat}{n:Nat}{x:AV}(h:(unP js x).fi js.length=true):TG (nD js n) (unP js x)=x:=by cases x with|ptr r m=>simp only[unP,AV.fi,decide_eq_true_eq]at h;simp only[unP,TG,ur h]|_=>rfl
theorem nE{js:List Nat}{n:Nat}{x:AV}(h:(yZ js x).bc js.length=true):yA (nD js n) (yZ js x)=x:=by cases x with|own r m=>simp only[yZ,AV.bc,decide_eq_true_eq]at h;simp only[yZ,yA,ur h]|ptr r m=>simp only[yZ,AV.bc,decide_eq_true_eq]at h;simp only[yZ,yA,ur h]|mp r=>simp only[yZ,AV.bc,decide_eq_true_eq]at h;simp only[yZ,yA,ur h]|bw f cs=>simp only[yZ,AV.bc]at h;simp only[yZ,yA];rw[iJ (c:=AV.fi) (λx hx=>aeG hx) cs h]|_=>rfl
theorem EZ{js:List Nat}{n:Nat}{x:AV}(h:(NS js x).dZ js.length=true):HR (nD js n) (NS js x)=x:=by cases x with|agg cs=>simp only[NS,HR]at h ⊢;rw[iJ (λx hx=>nE hx) cs h]|own r m=>exact nE (x:=.own r m) h|ptr r m=>exact nE (x:=.ptr r m) h|mp r=>exact nE (x:=.mp r) h|bw f cs=>exact nE (x:=.bw f cs) h|_=>first|rfl|(simp[NS,yZ,AV.dZ,AV.bc]at h;done)
theorem aeH{js:List Nat}{n:Nat}{x:AV}(h:(Sq js x).closed js.length=true):sY (nD js n) (Sq js x)=x:=by cases x with|aG cs=>simp only[Sq,sY]at h ⊢;rw[iJ (λx hx=>EZ hx) cs h]|bw f cs=>simp only[Sq,sY]at h ⊢;rw[iJ (λx hx=>EZ hx) cs h]|dt f cs=>simp only[Sq,sY]at h ⊢;rw[iJ (λx hx=>EZ hx) cs h]|agg cs=>exact EZ (x:=.agg cs) h|own r m=>exact nE (x:=.own r m) h|ptr r m=>exact nE (x:=.ptr r m) h|mp r=>exact nE (x:=.mp r) h|_=>first|rfl|(simp[Sq,NS,yZ,AV.closed,AV.dZ,AV.bc]at h;done)
theorem aeI{js:List Nat}{n:Nat}{o:ax}(h:(unO js o).closed js.length=true):kj (nD js n) (unO js o)=o:=by cases o with|box cs=>simp only[unO,kj]at h ⊢;rw[iJ (λx hx=>nE hx) cs h]|jq q k=>have:=nE (js:=js) (n:=n) (x:=.own q k) h;simp only[yZ,yA,AV.own.injEq,and_true]at this;simp only[unO,kj,this]|_=>rfl
def AV.obj:AV->Bool
 | .own _ _| .ptr _ _| .mp _=>true|_=>false
def AV.NZ(js:List Nat)(hp:List ax)(x:AV):AV:=if(x.obj&&(yZ js x).bc js.length)=true then x else x.eF hp
def AV.At(js:List Nat)(hp:List ax)(x:AV):List Prop×AV:=
 match x.obj&&(yZ js x).bc js.length with
 |true=>([],x)
 |false=>x.jG hp
theorem QJ{js:List Nat}{hp:List ax}{x:AV}(hc:eM (x.At js hp).1):x.NZ js hp=(x.At js hp).2:=by unfold AV.NZ AV.At at *;cases h:x.obj&&(yZ js x).bc js.length with|true=>simp|false=>rw[h]at hc;simp only[auE,if_false];exact lJ hc
def AV.N2(js:List Nat)(hp:List ax):AV->AV
 | .agg cs=>.agg (cs.map (AV.NZ js hp))|x=>x.cd hp
def AV.E0(js:List Nat)(hp:List ax):AV->List Prop×AV
 | .agg cs=>((cZ (AV.At js hp) cs).1,.agg (cZ (AV.At js hp) cs).2)|x=>x.bZ hp
theorem QK{js:List Nat}{hp:List ax}{x:AV}(hc:eM (x.E0 js hp).1):x.N2 js hp=(x.E0 js hp).2:=by cases x with|agg cs=>simp only[AV.E0,AV.N2]at hc ⊢;rw[cE (λx=>QJ) _ hc]|_=>exact dy hc
def AV.LR(js:List Nat)(hp:List ax)(x:AV):AV:=if(Sq js x).closed js.length=true then x else x.N2 js hp
def AV.HY(js:List Nat)(hp:List ax)(x:AV):List Prop×AV:=
 match (Sq js x).closed js.length with
 |true=>([],x)
 |false=>x.E0 js hp
theorem Au{js:List Nat}{hp:List ax}{x:AV}(hc:eM (x.HY js hp).1):x.LR js hp=(x.HY js hp).2:=by unfold AV.LR AV.HY at *;cases h:(Sq js x).closed js.length with|true=>simp|false=>rw[h]at hc;simp only[auE,if_false];exact QK hc
theorem QL{Γ:Env Unit}{s:AS Unit}{a:Act}{w:World}{η:List Value}(hr:Rel Γ s a w η)(js:List Nat){x:AV}{v:Value}(h:bo w (bu Γ w η s.hp) η s.hp x v):bo w (bu Γ w η s.hp) η s.hp (x.N2 js s.hp) v:=by
 cases x with
  |agg cs=>cases h with|agg _ vs hl h1 ot=>refine .agg _ vs (by simpa using hl) h1 λj y u hy hu=>?_;rw[auu]at hy;cases hj:cs[j]? with|none=>rw[hj]at hy;cases hy|some z=>rw[hj]at hy;obtain rfl:=auj hy;unfold AV.NZ;split;exact ot j z u hj hu;exact(jF hr.heap hr.cu (ot j z u hj hu)).lift
  |_=>exact(fN hr.heap hr.cu h).lift
theorem uu{Γ:Env Unit}{s:AS Unit}{a:Act}{w:World}{η:List Value}(hr:Rel Γ s a w η)(js:List Nat):∀(xs:List AV)(vs:List Value),cC w (bu Γ w η s.hp) η s.hp xs vs->cC w (bu Γ w η s.hp) η s.hp (xs.map (AV.LR js s.hp)) vs
 | [],[],_=>ai|x::xs,v::vs,h=>⟨by unfold AV.LR;split;exact h.1;·exact QL hr js h.1,uu hr js xs vs h.2⟩| [],_::_,h=>h.elim|_::_,[],h=>h.elim
def qg(js:List Nat):List Nat->List ax->List ax
 | [],_=>[]|j::l,H=>(match H[j]? with|some o=>unO js o|none=>.dead)::qg js l H
theorem Dm{js:List Nat}{H:List ax}:∀{l:List Nat}{i:Nat}{o:ax},(qg js l H)[i]?=some o->∃j,l[i]?=some j/\(H[j]?=none\/∃o',H[j]?=some o'/\o=unO js o')
 | [],i,o,h=>by simp[qg]at h|j::l,0,o,h=>by simp only[qg,au4,aug]at h;refine⟨j,rfl,?_⟩;split at h;rename_i o' ho;exact .inr ⟨o',ho,h.symm⟩;rename_i ho;exact .inl ho|j::l,i+1,o,h=>by simp only[qg,au3]at h ⊢;exact Dm h
theorem Dn{js:List Nat}{H:List ax}:∀{l:List Nat},(qg js l H).length=l.length
 | []=>rfl|j::l=>by simp[qg,Dn (l:=l)]
def qS(n:Nat):List Nat->Bool
 | []=>true|j::js=>Nat.blt j n&&(!LS j js&&qS n js)
where LS (k:Nat):List Nat->Bool
 | []=>false
 |x::l=>Nat.beq x k||LS k l
theorem Av{k:Nat}:∀{l:List Nat}{i:Nat},l[i]?=some k->qS.LS k l=true
 | [],i,h=>by simp at h|x::l,0,h=>by simp at h;subst h;simp[qS.LS]|x::l,i+1,h=>by simp only[au3]at h;simp[qS.LS,Av h]
theorem qT:∀{l:List Nat}{i:Nat},i<l.length->l[i]?=some (sw l i)
 | [],i,h=>by simp at h|x::l,0,h=>rfl|x::l,i+1,h=>by simp only[au3,sw];exact qT (by simpa using h)
theorem N3{n:Nat}:∀{js:List Nat},qS n js=true->∀i,i<js.length->sw js i<n
 | [],_,i,h=>by simp at h|j::js,h,0,_=>by simp only[qS,aul]at h;exact auI (show Nat.ble (j+1) n=true from h.1)|j::js,h,i+1,hi=>by simp only[qS,aul]at h;exact N3 h.2.2 i (by simpa using hi)
theorem HZ{n:Nat}:∀{js:List Nat},qS n js=true->∀i i',i<js.length->i' < js.length->sw js i=sw js i'->i=i'
 | [],_,i,i',h,_,_=>by simp at h|j::js,h,0,0,_,_,_=>rfl|j::js,h,0,i'+1,_,h2,he=>by simp only[qS,aul,au7]at h;have:=Av (k:=j) (l:=js) (i:=i') (by rw[qT (by simpa using h2)];exact congrArg some he.symm);rw[h.2.1]at this;cases this|j::js,h,i+1,0,h1,_,he=>by simp only[qS,aul,au7]at h;have:=Av (k:=j) (l:=js) (i:=i) (by rw[qT (by simpa using h1)];exact congrArg some he);rw[h.2.1]at this;cases this|j::js,h,i+1,i'+1,h1,h2,he=>by simp only[qS,aul]at h;rw[HZ h.2.2 i i' (by simpa using h1) (by simpa using h2) he]
def mm(r:Nat)(out:List Nat):List Nat:=(match qS.LS r out with|true=>out|false=>out++[r])
def E1(hp:List ax):List Nat->List AV->List Nat
 |out,[]=>out|out,.own q _::l=>(match hp[q]? with|some (.row _ _ _)=>E1 hp (mm q out) l|_=>E1 hp out l)|out,_::l=>E1 hp out l
mutual
def aeJ(hp:List ax):Nat->List Nat->AV->List Nat
 |0,out,_=>out|n+1,out,.ptr r _=>(match qS.LS r out with|true=>out|false=>(match hp[r]? with|some (.box cs)=>mm r (jI hp n (E1 hp out cs) cs)|some (.jq q _)=>mm q (mm r out)|_=>mm r out))|_+1,out,.mp r=>mm r out|_+1,out,.own r _=>(match hp[r]? with|some (.aW _ _ _)=>mm r out|_=>out)|n+1,out,.agg cs=>jI hp n out cs|n+1,out,.aG cs=>jI hp n out cs|n+1,out,.bw _ cs=>jI hp n out cs|n+1,out,.dt _ cs=>jI hp n out cs|_+1,out,_=>out
def jI(hp:List ax):Nat->List Nat->List AV->List Nat
 |0,out,_=>out|_+1,out,[]=>out|n+1,out,x::l=>jI hp n (aeJ hp n out x) l
end
def N4(js:List Nat)(hp:List ax)(args:List AV):List AV:=((cZ (AV.HY js hp) args).2).map (Sq js)
def xq(js:List Nat)(x:AV)(h:List ax):Bool:=Nat.ble js.length h.length&&(x.closed h.length&&h.all (ax.closed h.length))
def CJ(C:dQ)(js:List Nat)(l:List (Sh×List mh))(f:Nat)(args:List AV)(o:Oper)(s:AS Unit)(next:AS Unit->Prop):Prop:=
 okB (qS s.hp.length js&&((N4 js s.hp args).all (AV.closed js.length)&&(qg js js s.hp).all (ax.closed js.length)))
  (gO (cZ (AV.HY js s.hp) args).1 (∃R:AV->List ax->Prop,aZ C.P f (N4 js s.hp args) (qg js js s.hp) R/\∀(r:AV)(hp':List ax),R r hp'->NV l r hp' λx h=>okB (xq js x h) (next (AS.put { s with hp:=kl (nD js s.hp.length) js.length h s.hp } o.dst (sY (nD js s.hp.length) x)))))
theorem CJ.hfn{P:Program}{js:List Nat}{H:List ax}{f:Nat}{args:List AV}{R:AV->List ax->Prop}(hb:(qS H.length js&&((args.map (Sq js)).all (AV.closed js.length)&&(qg js js H).all (ax.closed js.length)))=true)(hF:aZ P f (args.map (Sq js)) (qg js js H) R)(hR:∀r h,R r h->xq js r h=true):aZ P f args H (λr2 H2=>∃r h,R r h/\r2=sY (nD js H.length) r/\H2=kl (nD js H.length) js.length h H):=by (simp only[aul]at hb;obtain⟨h1,h2,h3⟩:=hb;have hl:(qg js js H).length=js.length:=Dn;have aE:∀i,i<js.length->nD js H.length i=sw js i:=λi hi=>by unfold nD;rw[show Nat.blt i js.length=true from Nat.ble_eq_true_of_le hi]);have:=aZ.agY (g:=nD js H.length) (H:=H) hF (λi o ho=>?_) (λi i' hi tS he=>?_) (λi hi=>?_) (by rw[hl];exact h2) (by rw[hl];exact h3) (λr h hr=>?_);rw[hl,iJ (λx hx=>aeH hx) args h2]at this;exact this;(have hi:i<js.length:=by rw[<-hl];exact(auh.1 ho).1);obtain⟨j,hj,hc⟩:=Dm ho;rw[qT hi]at hj;obtain rfl:=auj hj;rw[aE i hi];have Sg:o.closed js.length=true:=auB.1 h3 o (auq ho);rcases hc with hc|⟨o',Cy,rfl⟩;have:=N3 h1 i hi;rw[aun this]at hc;cases hc;rw[Cy,aeI Sg];rw[hl]at hi tS;rw[aE i hi,aE i' tS]at he;exact HZ h1 i i' hi tS he;rw[hl]at hi ⊢;unfold nD;(cases hb:Nat.blt i js.length with|true=>have:i+1<=js.length:=auI hb;omega|false=>rfl);have:=hR r h hr;simp only[xq,aul]at this;rw[hl];exact⟨auI this.1,this.2.1,this.2.2⟩
def TM(C:dQ)(sh:Sh)(l:List Nat)(o:Oper)(s:AS Unit)(next:AS Unit->Prop):Prop:=
 gO (nb l s).1 (match qQ (nb l s).2 o.op with
  |some (f,args)=>gO (cZ (AV.bZ (nb l s).2.hp) args).1 (opn [] sh λx=>az C.P f (cZ (AV.bZ (nb l s).2.hp) args).2 x/\next ((nb l s).2.put o.dst x))
  |none=>False)
def N5(s:AS Unit):Op->Option (Nat×List AV)
 | .call c=>(match c.callee with| .value x=>(match s.ev x with| .dt f fst=>some (f,fst++c.args.toList.map s.ev)|_=>none)|_=>none)|_=>none
def Aw(C:dQ)(o:Oper)(s:AS Unit)(next:AS Unit->Prop):Prop:=
 match N5 s o.op with
 |some (f,args)=>(match HX C f o with
  | .ft l=>CJ C (jI s.hp 100 [] args) l f args o s next
  |_=>False)
 |none=>False
def adp(C:dQ)(o:Oper)(s:AS Unit)(next:AS Unit->Prop):Prop:=
 match qQ s o.op with
 |some (f,args)=>(match HX C f o with
  | .one sh=>gO (cZ (AV.bZ s.hp) args).1 (opn [] sh λx=>az C.P f (cZ (AV.bZ s.hp) args).2 x/\next (s.put o.dst x))
  | .bw f'=>gO (cZ (AV.bZ s.hp) args).1 (az C.P f (cZ (AV.bZ s.hp) args).2 (.bw f' (boxed (cZ (AV.bZ s.hp) args).2))/\next (s.put o.dst (.bw f' (boxed (cZ (AV.bZ s.hp) args).2))))
  | .y _=>False
  | .frz sh=>TM C sh (EU args) o s next
  | .alts l=>gO (cZ (AV.bZ s.hp) args).1 (∃R:AV->Prop,Pure C.P f (cZ (AV.bZ s.hp) args).2 R/\∀r:AV,R r->EX l r λx=>next (s.put o.dst x))
  | .raw l=>gO (cZ (AV.mj 0 s.hp) args).1 (∃R:AV->Prop,Pure C.P f (cZ (AV.mj 0 s.hp) args).2 R/\∀r:AV,R r->EX l r λx=>next (s.put o.dst x))
  | .heap n l=>okB ((cZ (AV.mj (s.hp.take n).length s.hp) args).2.all (AV.closed (s.hp.take n).length)&&(s.hp.take n).all (ax.closed (s.hp.take n).length))
    (gO (cZ (AV.mj (s.hp.take n).length s.hp) args).1 (∃R:AV->List ax->Prop,aZ C.P f (cZ (AV.mj (s.hp.take n).length s.hp) args).2 (s.hp.take n) R/\∀(r:AV)(hp':List ax),R r hp'->NV l r hp' λx h=>okB (Nat.beq h.length (s.hp.take n).length) (next (AS.put { s with hp:=h++s.hp.drop n } o.dst x))))
  | .fresh e size=>gO (cZ (AV.bZ s.hp) args).1 (∃els:List AV,MFn C.P f (cZ (AV.bZ s.hp) args).2 e size els/\next (AS.put { s with hp:=s.hp++[.aW e size els] } o.dst (.own s.hp.length els.length)))
  | .ft l=>CJ C (jI s.hp 100 [] args) l f args o s next)
 |none=>Aw C o s next
def Ax(nt:Nat):Option Nat->Bool
 |none=>true|some d=>Nat.blt d nt
theorem nf{nt:Nat}{d:Option Nat}(h:Ax nt d=true):fq nt d:=by cases d with|none=>trivial|some d=>exact auI (show Nat.ble (d+1) nt=true from h)
def aeK(tab:Nat->Option TD)(hp:List ax)(ρ:Operand->AV):Op->Option (List Prop×AV×List ax)
 | .call c=>(match c.callee,c.args.toList,c.argTypes.toList with| .builtin .append,[b,x],[T,T']=>if T=T' then(match tab T with|some d=>(match d.kind with| .kY e=>(match tab e,(ρ x).mZ hp with|some d',some (cs,aM)=>if 0<d'.size then(match ρ b with| .clip []=>some (cs++[bB d' (([]:List AV).length+aM.length) [] aM],.own hp.length ([]++aM).length,hp++[.aW e d'.size ([]++aM)])|_=>none)else none|_,_=>none)|_=>none)|none=>none)else none|_,_,_=>none)|_=>none
theorem Zw{Γ:Env Unit}{s:AS Unit}(aK:Γ.Ok){tab:Nat->Option TD}(aB:bp Γ.P tab){o:Oper}{cs:List Prop}{r:AV}{hp':List ax}(h:aeK tab s.hp s.ev o.op=some (cs,r,hp'))(hc:eM cs):iB Γ o s r hp':=by generalize ho:o.op=op at h;unfold aeK at h;split at h;split at h;rename_i c b x T T' EW aQ dK;split at h;rename_i heq;subst heq;split at h;rename_i d hd;split at h;rename_i e hk;split at h;rename_i d' eL aM eJ hx;split at h;rename_i cP;split at h;rename_i hb;simp only[aug,auk]at h;obtain⟨rfl,rfl,rfl⟩:=h;rw[bU]at hc;exact EN aK aB ho EW aQ dK hd hk eJ (ib hx hc.1) (els:=[]) (.inr hb) cP (λ_=>rfl) hc.2.1;cases h;cases h;cases h;cases h;cases h;cases h;cases h;cases h
def LU(C:dQ)(o:Oper)(s:AS Unit)(next:AS Unit->Prop):Option Prop:=
 match qQ s o.op with
 |some (f,args)=>(match C.ext.1 f with
  |some x=>(match aeo x s.hp args with
   |some (r,hp')=>some (next (AS.put { s with hp:=hp' } o.dst r))
   |none=>none)
  |none=>none)
 |none=>none
theorem QM{C:dQ}{Γ:Env Unit}(aK:Γ.Ok)(hP:C.P=Γ.P){o:Oper}{s:AS Unit}{next:AS Unit->Prop}{p:Prop}(h:LU C o s next=some p)(hp:p):∃r hp',iB Γ o s r hp'/\next (AS.put { s with hp:=hp' } o.dst r):=by unfold LU at h;split at h;rename_i f args aQ;split at h;rename_i x hx;split at h;rename_i r hp' hr;obtain rfl:=auj h;have hX:=C.ext.2 f x hx;rw[hP]at hX;rw[lL]at aQ;unfold mc at aQ;split at aQ;rename_i c hc;split at aQ;rename_i y hy;split at aQ;rename_i f' caps dL;simp only[aug,auk]at aQ;obtain⟨rfl,rfl⟩:=aQ;exact⟨r,hp',LJ aK hX hc hy dL hr,hp⟩;cases aQ;cases aQ;cases aQ;cases h;cases h;cases h
def adq(C:dQ)(o:Oper)(s:AS Unit)(next:AS Unit->Prop):Option Prop:=
 match C.mt with
 |true=>(match aeK C.tab s.hp s.ev o.op with
  |some (cs,r,hp')=>some (gO cs (next (AS.put { s with hp:=hp' } o.dst r)))
  |none=>none)
 |false=>none
def inN:List Nat->Nat->Bool
 | [],_=>false|x::l,k=>(match Nat.beq x k with|true=>true|false=>inN l k)
def bOp(mk:Bool)(tab:Nat->Option TD)(hp:List ax)(ρ:Operand->AV):Op->Option (List Prop×AV×List ax)
 | .buildSlice T n parts=>(match mk,qf tab T with|true,some (e,_,d')=>if((n=parts.toList.length/\qc 0 parts.toList=true/\n<=16777216/\n*d'.size<=16777216)/\Dh d'.size (cZ (AV.bZ hp) (parts.toList.map λp=>ρ p.2)).2=true)/\0<n/\0<d'.size then some ((cZ (AV.bZ hp) (parts.toList.map λp=>ρ p.2)).1,.own hp.length n,hp++[.row e d'.size (cZ (AV.bZ hp) (parts.toList.map λp=>ρ p.2)).2])else none|_,_=>none)|_=>none
theorem aeL{Γ:Env Unit}{s:AS Unit}(aK:Γ.Ok){tab:Nat->Option TD}(aB:bp Γ.P tab){mk:Bool}{o:Oper}{cs:List Prop}{r:AV}{hp':List ax}(h:bOp mk tab s.hp s.ev o.op=some (cs,r,hp'))(hc:eM cs):iB Γ o s r hp':=by generalize ho:o.op=op at h;unfold bOp at h;split at h;split at h;rename_i T n parts _ _ e d d' hs;split at h;rename_i oT;simp only[aug,auk]at h;obtain⟨rfl,rfl,rfl⟩:=h;obtain⟨hd,hk,eJ⟩:=uk hs;have hm:=cE (g:=AV.cd s.hp) (λx=>dy) (parts.toList.map λp=>s.ev p.2) hc;obtain⟨⟨⟨h1,h2,h3,h4⟩,h5⟩,h6,h7⟩:=oT;have hl:=uf h5;rw[<-hm,List.map_map]at hl ⊢;exact CI aK aB ho hd hk eJ h1 h6 h7 h2 h3 h4 hl;cases h;cases h;cases h
def AV.TN(hp:List ax):AV->AV
 | .ay (.slice none 0 0)=>.clip []|x=>x.eF hp
def AV.H3(hp:List ax):AV->AV
 | .agg cs=>.agg (cs.map (AV.TN hp))|x=>x.fI hp
theorem QN{Γ:Env Unit}{w:World}{η:List Value}{hp:List ax}(h:ep w (bu Γ w η hp) η hp)(hm:vP Γ η hp){x:AV}{v:Value}(hx:bo w (bu Γ w η hp) η hp x v):bo w (bu Γ w η hp) [] [] (x.H3 hp) v:=by unfold AV.H3;split;(cases hx with|agg cs vs hl h1 hr=>refine .agg _ vs (by simpa using hl) h1 λj y u hy hu=>?_;rw[auu]at hy;obtain⟨z,hz,rfl⟩:=au8.1 hy;have hzr:=hr j z u hz hu;unfold AV.TN;split;rw[hzr.aC];exact .jy none;exact jF h hm hzr);exact lH h hm hx
def aeM(mk:Bool)(tab:Nat->Option TD)(hp:List ax)(ρ:Operand->AV):Op->Option AV
 | .buildSlice T n parts=>(match mk,qf tab T with|true,some (e,_,d')=>if(n=parts.toList.length/\qc 0 parts.toList=true/\n<=16777216/\n*d'.size<=16777216)/\Dh d'.size (parts.toList.map λp=>(ρ p.2).H3 hp)=true then some (.clip (parts.toList.map λp=>(ρ p.2).H3 hp))else none|_,_=>none)|_=>none
theorem Zx{Γ:Env Unit}{s:AS Unit}(aK:Γ.Ok){tab:Nat->Option TD}(aB:bp Γ.P tab){mk:Bool}{o:Oper}{r:AV}(h:aeM mk tab s.hp s.ev o.op=some r):fQ Γ o s r:=by generalize ho:o.op=op at h;unfold aeM at h;split at h;split at h;rename_i T n parts _ _ e d d' hs;split at h;rename_i oT;obtain rfl:=auj h;obtain⟨hd,hk,eJ⟩:=uk hs;obtain⟨⟨h1,h2,h3,h4⟩,h5⟩:=oT;exact om (AV.H3 s.hp) (λhr _ _ h=>QN hr.heap hr.cu h) aK aB ho hd hk eJ h1 h2 h3 h4 (uf h5);cases h;cases h;cases h
def TP(C:dQ)(o:Oper)(s:AS Unit)(next:AS Unit->Prop):Option Prop:=
 match C.fC with
 |some l=>(match qOp (match o.dst with|some d=>inN l d|none=>false) C.tab s.hp s.ev o.op with
  |some (cs,r,hp')=>some (gO cs (next (AS.put { s with hp:=hp' } o.dst r)))
  |none=>(match bOp (match o.dst with|some d=>inN l d|none=>false) C.tab s.hp s.ev o.op with
   |some (cs,r,hp')=>some (gO cs (next (AS.put { s with hp:=hp' } o.dst r)))
   |none=>(match aeM (match o.dst with|some d=>inN l (1000000+d)|none=>false) C.tab s.hp s.ev o.op with
    |some r=>some (next (s.put o.dst r))
    |none=>none)))
 |none=>none
theorem H4:∀{l:List Prop},eM l->∀p∈l,p
 |c::l,h,p,hp=>by rcases auJ.1 hp with rfl|hp;exact h.1;exact H4 h.2 p hp
def mo(C:dQ)(o:Oper)(s:AS Unit)(next:AS Unit->Prop):Prop:=
 match Ax C.nt o.dst with
 |false=>False
 |true=>(match Lw C.tab s.ev o.op with
  |some (els,b0)=>∀b:Bool,(els≠[]->b=!b0)->next (s.put o.dst (.ay (.bool b)))
  |none=>(match TP C o s next with
   |some p=>p
   |none=>(match aeg C.tab s.ev o.op with
   |some r=>next (s.put o.dst r)
   |none=>(match QI C.tab C.Sp s.hp s.ev o.op (λr=>next (s.put o.dst r))with
    |some p=>p
    |none=>(match adq C o s next with
     |some p=>p
     |none=>(match Tx C.tab s.hp s.ev o.op with
      |some (cs,r,hp')=>gO cs (next (AS.put { s with hp:=hp' } o.dst r))
      |none=>(match LQ C.tab s.hp s.ev o.op (λr hp'=>next (AS.put { s with hp:=hp' } o.dst r))with
      |some p=>p
      |none=>(match LU C o s next with
       |some p=>p
       |none=>(match aeq C.tab s.ev o.op with
        |some r=>next (s.put o.dst r)
        |none=>adp C o s next)))))))))
variable {Γ:Env Unit} {s s':AS Unit} {a:Act} {w w':World} {η:List Value} {hp:List ax}
theorem Aw.sound{C:dQ}(aK:Γ.Ok)(hP:C.P=Γ.P){o:Oper}(hd:fq Γ.nt o.dst){next K:AS Unit->Prop}(h:Aw C o s next)(hn:∀s,next s->K s):bT Γ o s K:=by unfold Aw at h;split at h;rename_i f args aQ;unfold N5 at aQ;split at aQ;rename_i c hc;split at aQ;rename_i x hx;split at aQ;rename_i f' fst dL;simp only[aug,auk]at aQ;obtain⟨rfl,rfl⟩:=aQ;split at h;(unfold CJ at h;obtain⟨hb,h⟩:=cU h;rw[bF]at h;obtain⟨gK,R,g1,g2⟩:=h;rename_i l _;generalize jI s.hp 100 [] (fst++List.map s.ev c.args.toList)=js at *;have aQ:=cE (g:=AV.LR js s.hp) (λx=>Au) _ gK;rw[hP]at g1;have sy:=CJ.hfn (R:=λr h'=>R r h'/\xq js r h'=true) hb (g1.mono λr h' hr=>⟨hr,(cU (iY (g2 r h' hr))).1⟩) (λr h' hr=>hr.2);exact bT.agQ aK hc hx dL sy (λa w η us hr h=>by rw[<-aQ];exact uu hr _ _ us h) hd λr hp' hr=>by obtain⟨r',h',hr,rfl,rfl⟩:=hr;exact hn _ (cU (iY (g2 r' h' hr.1))).2);exact h.elim;cases aQ;cases aQ;cases aQ;exact h.elim
theorem TM.sound{C:dQ}(aK:Γ.Ok)(hP:C.P=Γ.P){sh:Sh}{l:List Nat}{o:Oper}(hd:fq Γ.nt o.dst){next K:AS Unit->Prop}(h:TM C sh l o s next)(hn:∀s,next s->K s):bT Γ o s K:=by unfold TM at h;rw[bF]at h;obtain⟨hc,h⟩:=h;have hw:=uh (Γ:=Γ) aK l s hc;intro a w η Kc Qc hk hr;obtain⟨yT,ot⟩:=hw a w η hr;refine(?_:bT Γ o (nb l s).2 K) a w yT Kc Qc hk ot;split at h;rename_i f args aQ;rw[lL]at aQ;unfold mc at aQ;split at aQ;rename_i c hc;split at aQ;rename_i x hx;split at aQ;(rename_i f' caps dL;simp only[aug,auk]at aQ;obtain⟨rfl,rfl⟩:=aQ;rw[bF]at h;obtain⟨gK,h⟩:=h;obtain⟨x',y7,Dp⟩:=sZ h;rw[<-cE (g:=AV.cd (nb l s).2.hp) (λx=>dy) _ gK,hP]at y7;exact bT.pure aK hc hx dL y7 hd λr hr=>by rw[hr];exact hn _ Dp);cases aQ;cases aQ;cases aQ;exact h.elim
theorem mo.sound{C:dQ}(aK:Γ.Ok)(hP:C.P=Γ.P)(aB:bp Γ.P C.tab)(fE:C.nt=Γ.nt){o:Oper}{next K:AS Unit->Prop}(h:mo C o s next)(hn:∀s,next s->K s):bT Γ o s K:=by unfold mo at h;split at h;exact h.elim;rename_i hd;have hd:=nf hd;rw[fE]at hd;split at h;rename_i els b0 hx;exact bT.nil aB hx hd λb hb=>hn _ (h b hb);split at h;rename_i p hp;unfold TP at hp;split at hp;split at hp;rename_i cs r hp' hm;obtain rfl:=auj hp;rw[bF]at h;exact bT.cS (aew aK aB hm h.1) hd (hn _ h.2);split at hp;rename_i cs r hp' hm;obtain rfl:=auj hp;rw[bF]at h;exact bT.cS (aeL aK aB hm h.1) hd (hn _ h.2);split at hp;rename_i r hm;obtain rfl:=auj hp;exact bT.val aK (Zx aK aB hm) hd (hn _ h);cases hp;cases hp;split at h;rename_i r hx;exact bT.val aK (Lv aB hx) hd (hn _ h);split at h;rename_i p hp;obtain⟨c,r,h1,h2,h3⟩:=y6 hp h;exact bT.val aK (zS aK aB h1 h2) hd (hn _ h3);split at h;rename_i p hp;unfold adq at hp;split at hp;split at hp;rename_i cs r hp' hm;obtain rfl:=auj hp;rw[bF]at h;exact bT.cS (Zw aK aB hm h.1) hd (hn _ h.2);cases hp;cases hp;split at h;rename_i cs r hp' hs;rw[bF]at h;exact bT.cS (TE aK aB hs (H4 h.1)) hd (hn _ h.2);split at h;rename_i p hp;obtain⟨c,r,hp',h1,h2,h3⟩:=EY hp h;exact bT.cS (sS aK aB h1 h2) hd (hn _ h3);split at h;rename_i p hp;obtain⟨r,hp',h1,h2⟩:=QM aK hP hp h;exact bT.cS h1 hd (hn _ h2);split at h;rename_i r hx;exact bT.val aK (LL aB hx) hd (hn _ h);unfold adp at h;split at h;rename_i f args aQ;rw[lL]at aQ;unfold mc at aQ;split at aQ;rename_i c hc;split at aQ;rename_i x hx;split at aQ;rename_i f' caps dL;simp only[aug,auk]at aQ;obtain⟨rfl,rfl⟩:=aQ;split at h;(rw[bF]at h;obtain⟨gK,h⟩:=h;obtain⟨x',y7,Dp⟩:=sZ h;rw[<-cE (g:=AV.cd s.hp) (λx=>dy) _ gK,hP]at y7;exact bT.pure aK hc hx dL y7 hd λr hr=>by rw[hr];exact hn _ Dp);(rw[bF]at h;obtain⟨gK,y7,Dp⟩:=h;rw[<-cE (g:=AV.cd s.hp) (λx=>dy) _ gK]at y7 Dp;rw[hP]at y7;exact bT.pure aK hc hx dL y7 hd λr hr=>by rw[hr];exact hn _ Dp);exact h.elim;exact TM.sound aK hP hd h hn;rw[bF]at h;obtain⟨gK,R,y7,Dp⟩:=h;rw[<-cE (g:=AV.cd s.hp) (λx=>dy) _ gK,hP]at y7;exact bT.pure aK hc hx dL y7 hd λr hr=>hn _ (wb (Dp r hr));rw[bF]at h;obtain⟨gK,R,y7,Dp⟩:=h;have aQ:=cE (g:=AV.sX 0 s.hp) (λx=>qR) _ gK;rw[hP]at y7;exact bT.agR aK hc hx dL y7 (λa w η us hr h=>by rw[<-aQ];exact ow hr _ us h) hd λr hr=>hn _ (wb (Dp r hr));(rename_i n l ag5;obtain⟨hb,h⟩:=cU h;rw[bF]at h;obtain⟨gK,R,g1,g2⟩:=h;rw[aul]at hb;have aQ:=cE (g:=AV.sX (s.hp.take n).length s.hp) (λx=>qR) _ gK;rw[hP]at g1;have sy:=aZ.frame (more:=s.hp.drop n) (R:=λr h'=>R r h'/\h'.length=(s.hp.take n).length) (g1.mono λr h' hr=>⟨hr,auG (cU (iY (g2 r h' hr))).1⟩) (λr h' hr=>hr.2) hb.1 hb.2;rw[avi]at sy;exact bT.Ti aK hc hx dL sy (λa w η us hr h=>by rw[<-aQ];exact HM hr _ _ us h) hd λr hp' hr=>by obtain⟨h',rfl,hr,_⟩:=hr;exact hn _ (cU (iY (g2 r h' hr))).2);rw[bF]at h;obtain⟨gK,els,y7,Dp⟩:=h;rw[<-cE (g:=AV.cd s.hp) (λx=>dy) _ gK,hP]at y7;exact bT.fresh aK hc hx dL y7 hd (hn _ Dp);(unfold CJ at h;obtain⟨hb,h⟩:=cU h;rw[bF]at h;obtain⟨gK,R,g1,g2⟩:=h;rename_i l _;generalize jI s.hp 100 [] (List.map s.ev c.args.toList++caps)=js at *;have aQ:=cE (g:=AV.LR js s.hp) (λx=>Au) _ gK;rw[hP]at g1;have sy:=CJ.hfn (R:=λr h'=>R r h'/\xq js r h'=true) hb (g1.mono λr h' hr=>⟨hr,(cU (iY (g2 r h' hr))).1⟩) (λr h' hr=>hr.2);exact bT.Ti aK hc hx dL sy (λa w η us hr h=>by rw[<-aQ];exact uu hr _ _ us h) hd λr hp' hr=>by obtain⟨r',h',hr,rfl,rfl⟩:=hr;exact hn _ (cU (iY (g2 r' h' hr.1))).2);cases aQ;cases aQ;cases aQ;exact Aw.sound aK hP hd h hn
def KG(l:List Oper)(o:Oper)(s:AS Unit)(run skip:AS Unit->Prop):Prop:=
 match o.guard with
 |none=>run s
 |some (j,want)=>(match (l[j]?).bind (·.dst)with
  |some d=>(match s.tmps d with
   | .ay (.bool b)=>aA b (match want with|true=>run (s.put (some d) (.ay (.bool true)))|false=>skip (s.put (some d) (.ay (.bool true))))
     (match want with|true=>skip (s.put (some d) (.ay (.bool false)))|false=>run (s.put (some d) (.ay (.bool false))))
   | .ay (.tuple _)=>skip s
   |_=>False)
  |none=>False)
theorem H5{d:Nat}{x:AV}(h:s.tmps d=x):s.put (some d) x=s:=by cases s with|mk f hp g=>simp only[AS.put];congr 1;funext t;rw[gW];split;rename_i ht;subst ht;exact h.symm;rfl
theorem KG.cases{l:List Oper}{o:Oper}{run skip:AS Unit->Prop}(h:KG l o s run skip): (o.guard=none/\run s)\/(∃j want b,o.guard=some (j,want)/\lZ l.toArray s j=some (some b)/\((b=want/\run s)\/(¬b=want/\skip s)))\/(∃j want,o.guard=some (j,want)/\lZ l.toArray s j=some none/\skip s):=by
 unfold KG at h;split at h;rename_i hg;exact .inl ⟨hg,h⟩;rename_i j want hg;split at h;rename_i d hd;split at h;rename_i b hb;refine .inr (.inl ⟨j,want,b,hg,?_,?_⟩);unfold lZ;simp only[avS,hd,hb];have:=h.elim;cases b with
  |true=>have h1:=this.1 rfl;rw[H5 hb]at h1;cases want with|true=>exact .inl ⟨rfl,h1⟩|false=>exact .inr ⟨by simp,h1⟩
  |false=>have h1:=this.2 rfl;rw[H5 hb]at h1;cases want with|true=>exact .inr ⟨by simp,h1⟩|false=>exact .inl ⟨rfl,h1⟩
 rename_i v hb;refine .inr (.inr ⟨j,want,hg,?_,h⟩);unfold lZ;simp only[avS,hd,hb];exact h.elim;exact h.elim
def uv(C:dQ)(l0:List Oper)(K:AS Unit->Prop):List Oper->AS Unit->Prop
 | [],s=>K s|o::rest,s=>KG l0 o s (λs=>mo C o s (uv C l0 K rest)) (λs=>match Ax C.nt o.dst with|true=>uv C l0 K rest (s.put o.dst (.ay (.tuple #[])))|false=>False)
theorem uv.TQ{C:dQ}(aK:Γ.Ok)(hP:C.P=Γ.P)(aB:bp Γ.P C.tab)(fE:C.nt=Γ.nt){l0 rest:List Oper}{K K':AS Unit->Prop}(hK:∀s,K' s->iG Γ l0.toArray K rest s):∀(l:List Oper)(s:AS Unit),uv C l0 K' l s->iG Γ l0.toArray K (l++rest) s:=by intro l;induction l with|nil=>intro s h;exact hK s h|cons o l ih=>(intro s h;have skip:(match Ax C.nt o.dst with|true=>uv C l0 K' l (s.put o.dst (.ay (.tuple #[])))|false=>False)->fq Γ.nt o.dst/\iG Γ l0.toArray K (l++rest) (s.put o.dst (.ay (.tuple #[]))):=by intro h;split at h;rename_i hd;exact⟨by rw[<-fE];exact nf hd,ih _ h⟩;exact h.elim);rw[avx];rcases KG.cases h with⟨hg,h⟩|⟨j,want,b,hg,hb,⟨vN,h⟩|⟨vN,h⟩⟩|⟨j,want,hg,hb,h⟩;exact iG.step (λa w η _=>by simp[Region.wanted,hg]) (mo.sound aK hP aB fE h ih);exact iG.step (λa w η hr=>by simp[Region.wanted,hg,eW hr hb,vN]) (mo.sound aK hP aB fE h ih);obtain⟨h1,h2⟩:=skip h;exact iG.skip (λa w η hr=>by simp[Region.wanted,hg,eW hr hb,vN]) h1 h2;obtain⟨h1,h2⟩:=skip h;exact iG.skip (λa w η hr=>by simp[Region.wanted,hg,eW hr hb]) h1 h2
theorem uv.sound{C:dQ}(aK:Γ.Ok)(hP:C.P=Γ.P)(aB:bp Γ.P C.tab)(fE:C.nt=Γ.nt){l0:List Oper}{K:AS Unit->Prop}(l:List Oper)(s:AS Unit)(h:uv C l0 K l s):iG Γ l0.toArray K l s:=by have:=uv.TQ aK hP aB fE (rest:=[]) (λs h a w η Qc hQ hr=>hQ s a w η h hr) l s h;rwa [auD]at this
def Ay(x:Operand)(d:Nat):Bool:=
 match x with
 | .tmp t=>Nat.beq t d
 |_=>false
theorem Az{x:Operand}{d:Nat}(h:Ay x d=true):x=.tmp d:=by unfold Ay at h;split at h;rw[auG h];cases h
def rm1(C:dQ)(s:AS Unit)(o:Oper):Option (Nat×Nat×TD×Int×Nat):=
 match o.guard,o.op,o.dst with
 |none,.call c,some d1=>(match c.callee,c.args.toList,c.argTypes.toList with
  | .builtin .append,[b,z],[T,T']=>(match s.ev b,s.ev z,qf C.tab T,(C.tab T').map TD.kind with
   | .ay (.slice none 0 0),.ay (.int .i64 n),some (e,_,d'),some (.int _)=>some (T,e,d',n,d1)
   |_,_,_,_=>none)
  |_,_,_=>none)
 |_,_,_=>none
def rm2(s:AS Unit)(o:Oper)(d1:Nat):Option Nat:=
 match o.guard,o.op,o.dst with
 |none,.move x,some d2=>(match s.ev x,Ay x d1 with
  | .ay (.slice none 0 0),false=>some d2
  |_,_=>none)
 |_,_,_=>none
def rm3(o:Oper)(T d2:Nat):Option Nat:=
 match o.guard,o.op,o.dst with
 |none,.call c,some d3=>(match c.callee,c.args.toList,c.argTypes.toList with
  | .builtin .len,[x],[T3]=>(match Ay x d2&&Nat.beq T3 T with
   |true=>some d3
   |false=>none)
  |_,_,_=>none)
 |_,_,_=>none
def rm4(o:Oper)(T d1 d3:Nat):Option Nat:=
 match o.guard,o.op,o.dst with
 |none,.slice T4 x none (some y) none,some d4=>(match Nat.beq T4 T&&(Ay x d1&&Ay y d3)with
  |true=>some d4
  |false=>none)
 |_,_,_=>none
def rmB(nt d1 d2 d3 d4:Nat)(d:TD):Bool:=(Nat.blt d1 nt&&(Nat.blt d2 nt&&(Nat.blt d3 nt&&Nat.blt d4 nt)))&&((!Nat.beq d1 d2&&!Nat.beq d1 d3)&&Nat.blt 0 d.size)
def H6(C:dQ)(l0:List Oper)(K:AS Unit->Prop)(s:AS Unit):List Oper->Prop
 |o1::o2::o3::o4::rest=>(match rm1 C s o1 with|some (T,e,d',n,d1)=>(match rm2 s o2 d1 with|some d2=>(match rm3 o3 T d2 with|some d3=>(match rm4 o4 T d1 d3 with|some d4=>okB (rmB C.nt d1 d2 d3 d4 d') ((0<n/\n.toNat<=maxLen/\n.toNat*d'.bytes<=140737488355328)/\ uv C l0 K rest (AS.put (AS.put (AS.put (AS.put { s with hp:=s.hp++[.row e d'.size []] } (some d1) .top) (some d2) (.ay (.slice none 0 0))) (some d3) (.ay (.int .i64 0))) (some d4) (.own s.hp.length 0)))|none=>False)|none=>False)|none=>False)|none=>False)|_=>False
theorem H6.sound{C:dQ}(aK:Γ.Ok)(hP:C.P=Γ.P)(aB:bp Γ.P C.tab)(fE:C.nt=Γ.nt){l0:List Oper}{K:AS Unit->Prop}{l:List Oper}{s:AS Unit}(h:H6 C l0 K s l):iG Γ l0.toArray K l s:=by unfold H6 at h;split at h;rename_i o1 o2 o3 o4 rest;split at h;rename_i T e d' n d1 h1;split at h;rename_i d2 h2;split at h;rename_i d3 h3;split at h;(rename_i d4 h4;obtain⟨hb,⟨hn,hm,K2⟩,hkr⟩:=cU h;unfold rmB at hb;simp only[aul,au7]at hb;obtain⟨⟨l1,l2,l3,l4⟩,⟨n12,n13⟩,cP⟩:=hb;have aE:∀{d:Nat},Nat.blt d C.nt=true->d<Γ.nt:=λh=>by rw[<-fE];exact auI h);(have bV:∀{x y:Nat},Nat.beq x y=false->x≠y:=λh e=>by subst e;rw[Nat.beq_refl]at h;cases h);obtain⟨m,rfl⟩:∃m:Nat,n=(m:Int):=⟨n.toNat,by omega⟩;rw[avk]at hm K2;unfold rm1 at h1;split at h1;rename_i c1 d1' g1 p1 t1;split at h1;rename_i b z T1 T' EW aQ dK;split at h1;rename_i dd ik qE hzv hs hT';simp only[aug,auk]at h1;obtain⟨rfl,rfl,rfl,rfl,rfl⟩:=h1;obtain⟨q1,q2,q3⟩:=uk hs;obtain⟨dz,q4,q5⟩:=au8.1 hT';unfold rm2 at h2;split at h2;rename_i x d2' g2 p2 t2;split at h2;rename_i hx hxd;obtain rfl:=auj h2;unfold rm3 at h3;split at h3;rename_i c3 d3' g3 p3 t3;split at h3;rename_i y T3 ag6 aeN amt;split at h3;rename_i hb3;obtain rfl:=auj h3;rw[aul]at hb3;have ey:=Az hb3.1;have eT:=auG hb3.2;subst ey;subst eT;unfold rm4 at h4;split at h4;rename_i T4 x4 y4 d4' g4 p4 t4;split at h4;rename_i hb4;obtain rfl:=auj h4;simp only[aul]at hb4;have e1:=Az hb4.2.1;have e2:=Az hb4.2.2;have e3:=auG hb4.1;subst e1;subst e2;subst e3;exact iG.room aK aB (n:=m) g1 g2 g3 g4 p1 EW (by rw[<-au1 (xs:=c1.args),aQ]) (by rw[<-au1 (xs:=c1.argTypes),dK]) q1 q2 q3 q4 q5 (auI cP) qE hzv (by omega) hm K2 p2 hx (λe=>by rw[e]at hxd;simp[Ay]at hxd) p3 ag6 (by rw[<-au1 (xs:=c3.args),aeN]) (by rw[<-au1 (xs:=c3.argTypes),amt]) p4 t1 t2 t3 t4 (aE l1) (aE l2) (aE l3) (aE l4) (bV n12) (bV n13) (uv.sound aK hP aB fE _ _ hkr);cases h4;cases h4;cases h3;cases h3;cases h3;cases h2;cases h2;cases h1;cases h1;cases h1;exact h.elim;exact h.elim;exact h.elim;exact h.elim;exact h.elim
def ag7:List (Nat×Nat)->Nat->Option Nat
 | [],_=>none|p::l,k=>(match Nat.beq p.1 k with|true=>some p.2|false=>ag7 l k)
def H7(C:dQ)(id:Nat)(l:List Oper)(K:AS Unit->Prop)(s:AS Unit):Prop:=
 match ag7 C.rm id with
 |none=>uv C l K l s
 |some k=>uv C l (λs=>H6 C l K s (l.drop k)) (l.take k) s
theorem H7.sound{C:dQ}(aK:Γ.Ok)(hP:C.P=Γ.P)(aB:bp Γ.P C.tab)(fE:C.nt=Γ.nt){id:Nat}{K:AS Unit->Prop}{l:List Oper}{s:AS Unit}(h:H7 C id l K s):iG Γ l.toArray K l s:=by unfold H7 at h;split at h;exact uv.sound aK hP aB fE l s h;rename_i k _;have:=uv.TQ aK hP aB fE (rest:=l.drop k) (λs h=>H6.sound aK hP aB fE h) _ _ h;rwa [avi]at this
def wc(C:dQ)(o:Oper)(s:AS Unit)(next:AS Unit->Prop):Prop:=
 match QI C.tab C.Sp s.hp s.ev o.op (λr=>next (s.put o.dst r))with
 |some p=>p
 |none=>(match qQ s o.op with
  |some (f,args)=>(match HX C f o with
   | .one sh=>gO (cZ (AV.bZ s.hp) args).1 (opn [] sh λx=>az C.P f (cZ (AV.bZ s.hp) args).2 x/\next (s.put o.dst x))
   |_=>False)
  |none=>False)
theorem wc.sound{C:dQ}(hP:C.P=Γ.P){o:Oper}{next N R:AS Unit->Prop}(h:wc C o s next)(h1:∀s,next s->N s)(h2:∀s,next s->R s):DStep Γ C.tab o s N R:=by
 unfold wc at h;split at h;rename_i p hp;obtain⟨c,r,g1,g2,g3⟩:=y6 hp h;unfold DStep;rw[g1];exact⟨g2,h1 _ g3⟩;split at h
 ·rename_i f args aQ;split at h;rotate_left;exact h.elim;rw[bF]at h;obtain⟨gK,h⟩:=h;obtain⟨x',y7,Dp⟩:=sZ h;rw[<-cE (g:=AV.cd s.hp) (λx=>dy) _ gK,hP]at y7;rw[lL]at aQ;unfold mc at aQ;split at aQ;rename_i c hc;split at aQ;rename_i x hx;split at aQ;(rename_i f' caps dL;simp only[aug,auk]at aQ;obtain⟨rfl,rfl⟩:=aQ;unfold DStep;rw[hc];have Y5:bK C.tab s.hp s.ev (.call c)=none:=by simp only[bK,hx]);(have Cr:gz s (.call c)=some (f',(c.args.toList.map s.ev++caps).map (AV.cd s.hp)):=by simp only[gz,hx,dL]);rw[Y5,Cr];exact⟨x',y7,h2 _ Dp⟩;cases aQ;cases aQ;cases aQ
 exact h.elim
def TR(C:dQ)(l0:List Oper)(K:AS Unit->Prop):List Oper->AS Unit->Prop
 | [],s=>K s|o::rest,s=>(match Ax C.nt o.dst with|false=>False|true=>(match gR o.op with|true=>(match o.guard with|none=>(match LQ C.tab s.hp s.ev o.op (λr hp'=>TR C l0 K rest (AS.put { s with hp:=hp' } o.dst r))with|some p=>p|none=>False)|some _=>False)|false=>KG l0 o s (λs=>wc C o s (TR C l0 K rest)) (λs=>TR C l0 K rest (s.put o.dst (.ay (.tuple #[]))))))
def Zy(ρ:Operand->AV):Op->Option Nat
 | .store _ p _=>(match ρ p with| .ptr r _=>some r| .gb r _ _ _=>some r|_=>none)| .mapUpdate _ m _ _=>(match ρ m with| .mp r=>some r|_=>none)| .call c=>(match c.args.toList with|b::_=>(match ρ b with| .own r _=>some r|_=>none)| []=>none)|_=>none
theorem aeO{tab:Nat->Option TD}{hp hp':List ax}{ρ:Operand->AV}{op:Op}{c:Prop}{r:AV}(h:eK tab hp ρ op=some (c,r,hp')): (∃o,hp'=hp++[o])\/∃q o,Zy ρ op=some q/\hp'=hp.set q o:=by
 cases op with
  |alloc T=>simp only[eK]at h;split at h;simp only[aug,auk]at h;exact .inl ⟨_,h.2.2.symm⟩;cases h|box T x=>simp only[eK]at h;split at h;simp only[aug,auk]at h;exact .inl ⟨_,h.2.2.symm⟩;cases h|store T p x=>simp only[eK]at h;split at h;rename_i d r' o hd jW;split at h;split at h;simp only[aug,auk]at h;exact .inr ⟨r',_,by simp only[Zy,jW],h.2.2.symm⟩;cases h;cases h;rename_i d r' m i z hd jW;split at h;split at h;split at h;simp only[aug,auk]at h;exact .inr ⟨r',_,by simp only[Zy,jW],h.2.2.symm⟩;simp only[aug,auk]at h;exact .inr ⟨r',_,by simp only[Zy,jW],h.2.2.symm⟩;cases h;cases h;cases h|makeSlice T l c=>simp only[eK]at h;split at h;split at h;split at h;split at h;split at h;simp only[aug,auk]at h;exact .inl ⟨_,h.2.2.symm⟩;cases h;cases h;split at h;simp only[aug,auk]at h;exact .inl ⟨_,h.2.2.symm⟩;cases h;cases h;cases h|makeMap T x=>cases x with|some x=>simp[eK]at h|none=>simp only[eK]at h;split at h;split at h;split at h;split at h;simp only[aug,auk]at h;exact .inl ⟨_,h.2.2.symm⟩;simp only[aug,auk]at h;exact .inl ⟨_,h.2.2.symm⟩;cases h;cases h;cases h
  |mapUpdate T m k x=>simp only[eK]at h;split at h;rename_i d r' a v hd hm hk hx;split at h;split at h;split at h;simp only[aug,auk]at h;exact .inr ⟨r',_,by simp only[Zy,hm],h.2.2.symm⟩;cases h;cases h;cases h;rename_i d r' a v hd hm hk hx;split at h;split at h;split at h;simp only[aug,auk]at h;exact .inr ⟨r',_,by simp only[Zy,hm],h.2.2.symm⟩;cases h;cases h;cases h;cases h|call c=>simp only[eK]at h;split at h;rename_i b x T T' hb hl hT;split at h;split at h;split at h;split at h;split at h;simp only[aug,auk]at h;exact .inl ⟨_,h.2.2.symm⟩;simp only[aug,auk]at h;exact .inl ⟨_,h.2.2.symm⟩;rename_i r' n qE;split at h;split at h;simp only[aug,auk]at h;exact .inr ⟨r',_,by simp only[Zy,hl,qE],h.2.2.symm⟩;cases h;split at h;simp only[aug,auk]at h;exact .inr ⟨r',_,by simp only[Zy,hl,qE],h.2.2.symm⟩;cases h;cases h;cases h;cases h;cases h;cases h;cases h;cases h|_=>simp[eK]at h
theorem qp.same(l:List Nat):∀(hp:List ax)(q:Nat)(more:List ax),qp l q hp (hp++more)
 | [],_,_=>ai|_::hp,q,more=>⟨.inr rfl,qp.same l hp (q+1) more⟩
theorem qp.refl(l:List Nat)(hp:List ax)(q:Nat):qp l q hp hp:=by have:=qp.same l hp q [];rwa [auD]at this
theorem qp.set(l:List Nat):∀(hp:List ax)(q r:Nat)(o:ax),q+r∈l->qp l q hp (hp.set r o)
 | [],_,_,_,_=>ai|_::hp,q,0,o,h=>⟨.inl h,qp.refl l hp (q+1)⟩|_::hp,q,r+1,o,h=>⟨.inr rfl,qp.set l hp (q+1) r o (by rw[show q+1+r=q+(r+1)from by omega];exact h)⟩
def LV:List Nat->Nat->Bool
 | [],_=>false|x::l,k=>(match Nat.beq x k with|true=>true|false=>LV l k)
theorem E2:∀{l:List Nat}{k:Nat},LV l k=true->k∈l
 | [],_,h=>by cases h|x::l,k,h=>by simp only[LV]at h;split at h;rename_i hx;rw[auG hx];exact auw;exact auz _ (E2 h)
def qU:List (Option (List Nat))->Nat->Option (List Nat)
 | [],_=>none|x::_,0=>x|_::l,n+1=>qU l n
theorem iw:∀(l:List (Option (List Nat)))(n:Nat),qU l n=l.getD n none
 | [],n=>by simp[qU]|x::l,0=>by simp[qU]|x::l,n+1=>by simp only[qU,iw l n,List.getD_cons_succ]
def TT(m:Option (List Nat))(ρ:Operand->AV)(op:Op):Bool:=
 match m with
 |none=>true
 |some l=>(match Zy ρ op with
  |none=>true
  |some q=>LV l q)
theorem N6{tab:Nat->Option TD}{hp hp':List ax}{ρ:Operand->AV}{op:Op}{c:Prop}{r:AV}{m:Option (List Nat)}(hb:TT m ρ op=true)(h:eK tab hp ρ op=some (c,r,hp')): ∀l,m=some l->qp l 0 hp hp':=by intro l hm;subst hm;rcases aeO h with⟨o,rfl⟩|⟨q,o,hq,rfl⟩;exact qp.same l hp 0 [o];simp only[TT,hq]at hb;exact qp.set l hp 0 q o (by rw[auO];exact E2 hb)
def gP(C:dQ)(m:Option (List Nat))(o:Oper)(s:AS Unit)(next:AS Unit->Prop):Prop:=
 match ia o.op with
 |true=>(match QI C.tab C.Sp s.hp s.ev o.op (λr=>next (s.put o.dst r))with
  |some p=>p
  |none=>False)
 |false=>(match m with
  |none=>wc C o s next
  |some K=>okB ((rT o.op).all λx=>(s.ev x).closed (kill K s.hp).length) (okB ((kill K s.hp).all λob=>ax.closed (kill K s.hp).length ob)
   (match QI C.tab C.Sp (kill K s.hp) s.ev o.op (λr=>okB (r.held (kill K s.hp)) (next (s.put o.dst r)))with
   |some p=>p
   |none=>(match qQ s o.op with
    |some (f,args)=>(match HX C f o with
     | .one sh=>gO (cZ (AV.bZ (kill K s.hp)) args).1 (opn [] sh λx=>az C.P f (cZ (AV.bZ (kill K s.hp)) args).2 x/\okB (x.held (kill K s.hp)) (next (s.put o.dst x)))
     |_=>False)
    |none=>False))))
theorem H8{s:AS Unit}{op:Op}{f:Nat}{args:List AV}(h:qQ s op=some (f,args))(tab:Nat->Option TD)(hp:List ax): bK tab hp s.ev op=none/\gz { s with hp:=hp } op=some (f,args.map (AV.cd hp)):=by rw[lL]at h;unfold mc at h;split at h;rename_i c;split at h;rename_i x hx;split at h;(rename_i f' caps dL;simp only[aug,auk]at h;obtain⟨rfl,rfl⟩:=h;refine⟨by simp only[bK,hx],?_⟩;have amu:(AS.ev { s with hp:=hp } x)=.bw f' caps:=by rw[<-dL];cases x<;>rfl);(have hm:c.args.toList.map (AS.ev { s with hp:=hp })=c.args.toList.map s.ev:=avD λy _=>by cases y<;>rfl);simp only[gz,hx,amu,hm];cases h;cases h;cases h
theorem gP.sound{C:dQ}(hP:C.P=Γ.P){m:Option (List Nat)}{o:Oper}{next N R:AS Unit->Prop}(h:gP C m o s next)(h1:∀s,next s->N s)(h2:∀s,next s->R s):nA Γ C.tab m o s N R:=by
 unfold gP at h;unfold nA;split at h;rename_i hh;rw[if_pos hh];split at h;rename_i p hp;obtain⟨c,r,g1,g2,g3⟩:=y6 hp h;rw[g1];exact⟨g2,h1 _ g3⟩;exact h.elim;rename_i hh;rw[if_neg (by rw[hh];simp)];cases m with
  |none=>exact wc.sound hP h h1 h2|some K=>
   dsimp only at h ⊢;obtain⟨Lj,h⟩:=cU h;obtain⟨Sg,h⟩:=cU h;refine⟨Lj,λob fe=>auB.1 Sg ob fe,?_⟩;split at h;rename_i p hp;obtain⟨c,r,g1,g2,g3⟩:=y6 hp h;obtain⟨g4,g5⟩:=cU g3;rw[g1];exact⟨g2,g4,h1 _ g5⟩;split at h
   ·rename_i f args aQ;split at h;rotate_left;exact h.elim;rw[bF]at h;obtain⟨gK,h⟩:=h;obtain⟨x',y7,Dp⟩:=sZ h;obtain⟨g4,g5⟩:=cU Dp;rw[<-cE (g:=AV.cd (kill K s.hp)) (λx=>dy) _ gK,hP]at y7;obtain⟨q1,q2⟩:=H8 aQ C.tab (kill K s.hp);rw[q1,q2];exact⟨x',y7,g4,h2 _ g5⟩
   exact h.elim
def TU(C:dQ)(l0:List Oper)(Cl M:List (Option (List Nat)))(K:AS Unit->Prop):Nat->List Oper->AS Unit->Prop
 |_,[],s=>K s|k,o::rest,s=>(match Ax C.nt o.dst with|false=>False|true=>(match gR o.op with|true=>(match o.guard with|none=>okB (TT (qU Cl k) s.ev o.op) (match LQ C.tab s.hp s.ev o.op (λr hp'=>TU C l0 Cl M K (k+1) rest (AS.put { s with hp:=hp' } o.dst r))with|some p=>p|none=>False)|some _=>False)|false=>KG l0 o s (λs=>gP C (qU M k) o s (TU C l0 Cl M K (k+1) rest)) (λs=>TU C l0 Cl M K (k+1) rest (s.put o.dst (.ay (.tuple #[]))))))
def bW(hs:List Nat)(o:Oper):Bool:=
 match o.op with
 | .call c=>(match c.callee with
  | .value (.func f)=>LV hs f
  | .value (.tmp t)=>LV hs (t+1000000)
  |_=>false)
 |_=>false
def sK(C:dQ)(hs:List Nat)(l0:List Oper)(Cl M:List (Option (List Nat)))(K:AS Unit->Prop):Nat->List Oper->AS Unit->Prop
 |_,[],s=>K s|k,o::rest,s=>(match Ax C.nt o.dst with|false=>False|true=>(match gR o.op with|true=>(match o.guard with|none=>okB (TT (qU Cl k) s.ev o.op) (match LQ C.tab s.hp s.ev o.op (λr hp'=>sK C hs l0 Cl M K (k+1) rest (AS.put { s with hp:=hp' } o.dst r))with|some p=>p|none=>False)|some _=>False)|false=>(match bW hs o with|true=>KG l0 o s (λs=>mo C o s (sK C hs l0 Cl M K (k+1) rest)) (λs=>sK C hs l0 Cl M K (k+1) rest (s.put o.dst (.ay (.tuple #[]))))|false=>KG l0 o s (λs=>gP C (qU M k) o s (sK C hs l0 Cl M K (k+1) rest)) (λs=>sK C hs l0 Cl M K (k+1) rest (s.put o.dst (.ay (.tuple #[])))))))
theorem sK.sound{C:dQ}(aK:Γ.Ok)(hP:C.P=Γ.P)(aB:bp Γ.P C.tab)(fE:C.nt=Γ.nt){hs:List Nat}{l0:List Oper}{Cl M:List (Option (List Nat))}{K:AS Unit->Prop}:∀(l:List Oper)(k:Nat)(s:AS Unit),sK C hs l0 Cl M K k l s->kT Γ l0.toArray (bW hs) Cl M K k l s:=by intro l;induction l with|nil=>intro k s h;exact h|cons o rest ih=>intro k s h;simp only[sK]at h;simp only[kT];split at h;exact h.elim;rename_i hd;have hd:=nf hd;rw[fE]at hd;split at h;rename_i he;rw[if_pos he];split at h;rename_i hg;obtain⟨LW,h⟩:=cU h;split at h;rename_i p hp;obtain⟨c,r,hp',g1,g2,g3⟩:=EY hp h;have:=N6 LW g1;rw[iw]at this;refine⟨hd,hg,r,hp',λvM LA e1 e2 e3=>sS LA (tab:=C.tab) (by rw[e1];exact aB) (c:=c) ?_ g2,?_,ih _ _ g3⟩;rw[<-g1];exact Af λx hx=>ub hx;unfold sJ;split;trivial;rename_i l' hl;have sy:=qp.fr (l:=l') s.hp hp' 0 (this l' hl);exact⟨sy.1,λi ob hi ho=>sy.2 i ob (by simpa using hi) ho⟩;exact h.elim;exact h.elim;rename_i he;rw[if_neg (by rw[he];simp)];split at h;rename_i hh;rw[if_pos hh];rcases KG.cases h with⟨hg,h⟩|⟨j,want,b,hg,hb,⟨vN,h⟩|⟨vN,h⟩⟩|⟨j,want,hg,hb,h⟩;exact .inl ⟨by simp[bE,hg],mo.sound aK hP aB fE h (ih (k+1))⟩;exact .inl ⟨by simp[bE,hg,hb,vN],mo.sound aK hP aB fE h (ih (k+1))⟩;exact .inr ⟨by simp[bE,hg,hb,vN],hd,ih _ _ h⟩;exact .inr ⟨by simp[bE,hg,hb],hd,ih _ _ h⟩;rename_i hh;rw[if_neg (by rw[hh];simp)];rcases KG.cases h with⟨hg,h⟩|⟨j,want,b,hg,hb,⟨vN,h⟩|⟨vN,h⟩⟩|⟨j,want,hg,hb,h⟩;rw[iw]at h;obtain⟨x,h3,h4⟩:=nA.sound (ops:=l0.toArray) aB (gP.sound (Γ:=Γ) (N:=kT Γ l0.toArray (bW hs) Cl M K (k+1) rest) (R:=kT Γ l0.toArray (bW hs) Cl M K (k+1) rest) hP h (ih (k+1)) (ih (k+1))) (λ_ h=>h) (λ_ h=>h) (.inl hg);exact⟨x,⟨hd,.inl ⟨by simp[bE,hg],h3⟩⟩,h4⟩;rw[iw]at h;obtain⟨x,h3,h4⟩:=nA.sound (ops:=l0.toArray) aB (gP.sound (Γ:=Γ) (N:=kT Γ l0.toArray (bW hs) Cl M K (k+1) rest) (R:=kT Γ l0.toArray (bW hs) Cl M K (k+1) rest) hP h (ih (k+1)) (ih (k+1))) (λ_ h=>h) (λ_ h=>h) (.inr ⟨j,want,_,hg,hb⟩);exact⟨x,⟨hd,.inl ⟨by simp[bE,hg,hb,vN],h3⟩⟩,h4⟩;exact⟨_,⟨hd,.inr ⟨by simp[bE,hg,hb,vN],rfl⟩⟩,ih _ _ h⟩;exact⟨_,⟨hd,.inr ⟨by simp[bE,hg,hb],rfl⟩⟩,ih _ _ h⟩
def ag8:List (Nat×List Nat)->Nat->Option (List Nat)
 | [],_=>none|p::l,k=>(match Nat.beq p.1 k with|true=>some p.2|false=>ag8 l k)
def ag9:List (Nat×List (Option (List Nat))×List (Option (List Nat)))->Nat->Option (List (Option (List Nat))×List (Option (List Nat)))
 | [],_=>none|p::l,k=>(match Nat.beq p.1 k with|true=>some p.2|false=>ag9 l k)
end
def yC.T:yC->Type
 | .i _=>Int| .b=>Bool| .s=>aw| .l=>List AV| .c=>List AV| .m=>List (Int×Value)| .ms=>List (aw×Value)| .k _=>Unit| .o _=>Unit| .fn=>Value| .q _=>Unit
def mkC(lens:List Nat):(sh:yC)->sh.T->AV
 | .i k,n=>.ay (.int k n)| .b,b=>.ay (.bool b)| .s,s=>.ay (.string s)| .l,l=>.sl l| .c,l=>.clip l| .m,l=>.eo (.i l)| .ms,l=>.eo (.s l)| .k x,_=>x| .o r,_=>.own r (sw lens r)| .fn,v=>.fn v| .q x,_=>x
def TCs:List yC->Type
 | []=>Unit|sh::l=>sh.T×TCs l
def QO(lens:List Nat):(l:List yC)->TCs l->List AV
 | [],_=>[]|sh::l,t=>mkC lens sh t.1::QO lens l t.2
def uo.T:uo->Type
 | .c x=>x.T| .a l=>TCs l
def mkV(lens:List Nat):(sh:uo)->sh.T->AV
 | .c x,t=>mkC lens x t| .a l,t=>.agg (QO lens l t)
def TVs:List uo->Type
 | []=>Unit|sh::l=>sh.T×TVs l
def LX(lens:List Nat):(l:List uo)->TVs l->List AV
 | [],_=>[]|sh::l,t=>mkV lens sh t.1::LX lens l t.2
def Sh.T:Sh->Type
 | .v x=>x.T| .t l=>TVs l| .f _ l=>TVs l| .m _ l=>TVs l
def mkS(lens:List Nat):(sh:Sh)->sh.T->AV
 | .v x,t=>mkV lens x t| .t l,t=>.aG (LX lens l t)| .f fn l,t=>.bw fn (LX lens l t)| .m fn l,t=>.dt fn (LX lens l t)
def TS:List Sh->Type
 | []=>Unit|sh::l=>sh.T×TS l
def yD(lens:List Nat):(l:List Sh)->TS l->List AV
 | [],_=>[]|sh::l,t=>mkS lens sh t.1::yD lens l t.2
def aY(x y:AV):Prop:=∀(w:World)(F:Nat->Nat->Prop)(η:List Value)(hp:List ax)(v:Value),bo w F η hp x v->bo w F η hp y v
def eh:List AV->List AV->Prop
 | [],[]=>True|x::xs,y::ys=>aY x y/\eh xs ys|_,_=>False
theorem aY.refl(x:AV):aY x x:=λ_ _ _ _ _ h=>h
theorem eh.refl:∀(xs:List AV),eh xs xs
 | []=>ai|x::xs=>⟨aY.refl x,eh.refl xs⟩
theorem eh.length:∀{xs ys:List AV},eh xs ys->xs.length=ys.length
 | [],[],_=>rfl|_::_,_::_,h=>by simp[eh.length h.2]
theorem eh.get:∀{xs ys:List AV},eh xs ys->∀(j:Nat)(y:AV),ys[j]?=some y->∃x,xs[j]?=some x/\aY x y
 | [],[],_,j,y,h=>by simp at h|x::xs,y::ys,h,0,z,hz=>by simp only[au4,aug]at hz;subst hz;exact⟨x,rfl,h.1⟩|x::xs,y::ys,h,j+1,z,hz=>by obtain⟨u,h1,h2⟩:=eh.get h.2 j z (by simpa using hz);exact⟨u,by simpa using h1,h2⟩
theorem eh.parts{cs eL:List AV}(h:eh cs eL){w:World}{F:Nat->Nat->Prop}{η:List Value}{hp:List ax}{vs:Array Value}(hr:∀(j:Nat)(x:AV)(v:Value),cs[j]?=some x->vs[j]?=some v->bo w F η hp x v): ∀(j:Nat)(x:AV)(v:Value),eL[j]?=some x->vs[j]?=some v->bo w F η hp x v:=by intro j y v hy hv;obtain⟨x,h1,h2⟩:=h.get j y hy;exact h2 _ _ _ _ _ (hr j x v h1 hv)
theorem aY.agg{cs eL:List AV}(h:eh cs eL):aY (.agg cs) (.agg eL):=by intro w F η hp v hv;cases hv with|agg _ vs hl h1 hr=>exact .agg _ vs (by rw[hl,h.length]) h1 (h.parts hr)
theorem aY.aG{cs eL:List AV}(h:eh cs eL):aY (.aG cs) (.aG eL):=by intro w F η hp v hv;cases hv with|aG _ vs hl hr=>exact .aG _ vs (by rw[hl,h.length]) (h.parts hr)
theorem aY.bw{f:Nat}{cs eL:List AV}(h:eh cs eL):aY (.bw f cs) (.bw f eL):=by intro w F η hp v hv;cases hv with|bw _ _ vs hl hr=>exact .bw f _ vs (by rw[hl,h.length]) (h.parts hr)
theorem aY.dt{f:Nat}{cs eL:List AV}(h:eh cs eL):aY (.dt f cs) (.dt f eL):=by intro w F η hp v hv;cases hv with|dt _ _ vs hl hr=>exact .dt f _ vs (by rw[hl,h.length]) (h.parts hr)
def QP:List AV->List AV->Bool
 | [],[]=>true| .ptr r o::l,.ptr r' o'::l'=>Nat.beq r r'&&(Nat.beq o o'&&QP l l')|_,_=>false
theorem N7:∀{l l':List AV},QP l l'=true->l=l'
 | [],[],_=>rfl|x::l,[],h=>by cases x<;>simp[QP]at h| [],y::l,h=>by simp[QP]at h|x::l,y::l',h=>by unfold QP at h;split at h;rename_i h1;cases h1;rename_i r o l1 r' o' l2 e1 e2;cases e1;cases e2;rw[aul,aul]at h;rw[auG h.1,auG h.2.1,N7 h.2.2];cases h
def eqK:AV->AV->Bool
 | .top,_=>true| .ptr r o,.ptr r' o'=>Nat.beq r r'&&Nat.beq o o'| .mp r,.mp r'=>Nat.beq r r'| .bw f cs,.bw f' eL=>Nat.beq f f'&&QP cs eL| .ay (.slice none 0 0),.ay (.slice none 0 0)=>true| .ay (.pointer none),.ay (.pointer none)=>true|_,_=>false
theorem aeQ{x y:AV}(h:eqK x y=true):aY y x:=by unfold eqK at h;split at h;exact λ_ _ _ _ v _=>.top v;rw[aul]at h;rw[auG h.1,auG h.2];exact .refl _;rw[auG h];exact .refl _;rw[aul]at h;rw[auG h.1,N7 h.2];exact .refl _;exact .refl _;exact .refl _;cases h
def TV(lens:List Nat):(sh:yC)->AV->Option (List Prop×sh.T)
 | .i k,.ay (.int k' n)=>if k=k' then some ([],n)else none| .b,.ay (.bool b)=>some ([],b)| .s,.ay (.string s)=>some ([],s)| .l,.sl l=>some ([],l)| .l,.clip l=>some ([],l)| .l,.ay (.slice none 0 0)=>some ([],([]:List AV))| .c,.clip l=>some ([],l)| .m,.eo (.i l)=>some ([],l)| .ms,.eo (.s l)=>some ([],l)| .fn,.fn v=>some ([],v)| .k x,y=>(match eqK x y with|true=>some ([],())|false=>none)| .o r,.own r' n=>if r=r' then some ([n=sw lens r],())else none| .q x,y=>some ([y=x],())|_,_=>none
theorem N8{lens:List Nat}{sh:yC}{x:AV}{cs:List Prop}{t:sh.T}(h:TV lens sh x=some (cs,t))(hc:eM cs):aY x (mkC lens sh t):=by unfold TV at h;split at h;split at h;rename_i hk;subst hk;cases h;exact .refl _;cases h;cases h;exact .refl _;cases h;exact .refl _;cases h;exact .refl _;cases h;exact λ_ _ _ _ _ h=>h.mS;cases h;intro w F η hp v hv;cases hv;exact .mR _;cases h;exact .refl _;cases h;exact .refl _;cases h;exact .refl _;cases h;exact .refl _;split at h;rename_i he;exact aeQ he;cases h;split at h;rename_i hr;subst hr;cases h;have:=hc.1;subst this;exact .refl _;cases h;cases h;have:=hc.1;subst this;exact .refl _;cases h
def uw(lens:List Nat):(l:List yC)->List AV->Option (List Prop×TCs l)
 | [],[]=>some ([],())|sh::l,x::xs=>(match TV lens sh x with|some (p,t)=>(match uw lens l xs with|some (q,ts)=>some (p++q,(t,ts))|none=>none)|none=>none)|_,_=>none
theorem AA{lens:List Nat}:∀{l:List yC}{xs:List AV}{cs:List Prop}{t:TCs l},uw lens l xs=some (cs,t)->eM cs->eh xs (QO lens l t)
 | [],[],_,_,_,_=>ai| [],_::_,_,_,h,_=>by simp[uw]at h|_::_,[],_,_,h,_=>by simp[uw]at h|sh::l,x::xs,cs,t,h,hc=>by simp only[uw]at h;split at h;rename_i p t1 h1;split at h;rename_i q ts h2;simp only[aug,auk]at h;obtain⟨rfl,rfl⟩:=h;rw[bU]at hc;exact⟨N8 h1 hc.1,AA h2 hc.2⟩;cases h;cases h
def N9:AV->Option (List AV)
 | .agg cs=>some cs|_=>none
def Oa:AV->Option (List AV)
 | .aG cs=>some cs|_=>none
def Ob:AV->Option (Nat×List AV)
 | .bw f cs=>some (f,cs)|_=>none
def E3:AV->Option (Nat×List AV)
 | .dt f cs=>some (f,cs)|_=>none
theorem TW{x:AV}{cs:List AV}(h:N9 x=some cs):x=.agg cs:=by cases x<;>simp only[N9]at h<;>cases h;rfl
theorem TX{x:AV}{cs:List AV}(h:Oa x=some cs):x=.aG cs:=by cases x<;>simp only[Oa]at h<;>cases h;rfl
theorem TY{x:AV}{f:Nat}{cs:List AV}(h:Ob x=some (f,cs)):x=.bw f cs:=by cases x<;>simp only[Ob]at h<;>cases h;rfl
theorem QQ{x:AV}{f:Nat}{cs:List AV}(h:E3 x=some (f,cs)):x=.dt f cs:=by cases x<;>simp only[E3]at h<;>cases h;rfl
def Zz(lens:List Nat)(sh:uo)(v:AV):Option (List Prop×sh.T):=
 match sh with
 | .c x=>TV lens x v
 | .a l=>(N9 v).bind λcs=>uw lens l cs
theorem Oc{lens:List Nat}{sh:uo}{x:AV}{cs:List Prop}{t:sh.T}(h:Zz lens sh x=some (cs,t))(hc:eM cs):aY x (mkV lens sh t):=by cases sh with|c y=>have h1:TV lens y x=some (cs,t):=h;exact N8 h1 hc|a l=>have h1:(N9 x).bind (λcs=>uw lens l cs)=some (cs,t):=h;obtain⟨eL,h2,h3⟩:=au9.1 h1;rw[TW h2];exact aY.agg (AA h3 hc)
def qV(lens:List Nat):(l:List uo)->List AV->Option (List Prop×TVs l)
 | [],[]=>some ([],())|sh::l,x::xs=>(match Zz lens sh x with|some (p,t)=>(match qV lens l xs with|some (q,ts)=>some (p++q,(t,ts))|none=>none)|none=>none)|_,_=>none
theorem ux{lens:List Nat}:∀{l:List uo}{xs:List AV}{cs:List Prop}{t:TVs l},qV lens l xs=some (cs,t)->eM cs->eh xs (LX lens l t)
 | [],[],_,_,_,_=>ai| [],_::_,_,_,h,_=>by simp[qV]at h|_::_,[],_,_,h,_=>by simp[qV]at h|sh::l,x::xs,cs,t,h,hc=>by simp only[qV]at h;split at h;rename_i p t1 h1;split at h;rename_i q ts h2;simp only[aug,auk]at h;obtain⟨rfl,rfl⟩:=h;rw[bU]at hc;exact⟨Oc h1 hc.1,ux h2 hc.2⟩;cases h;cases h
def ahb(lens:List Nat)(sh:Sh)(v:AV):Option (List Prop×sh.T):=
 match sh with
 | .v x=>Zz lens x v
 | .t l=>(Oa v).bind λcs=>qV lens l cs
 | .f fn l=>(Ob v).bind λp=>if fn=p.1 then qV lens l p.2 else none
 | .m fn l=>(E3 v).bind λp=>(qV lens l p.2).bind λq=>some ((p.1=fn)::q.1,q.2)
theorem ZA{lens:List Nat}{sh:Sh}{x:AV}{cs:List Prop}{t:sh.T}(h:ahb lens sh x=some (cs,t))(hc:eM cs):aY x (mkS lens sh t):=by cases sh with|v y=>have h1:Zz lens y x=some (cs,t):=h;exact Oc h1 hc|t l=>have h1:(Oa x).bind (λcs=>qV lens l cs)=some (cs,t):=h;obtain⟨eL,h2,h3⟩:=au9.1 h1;rw[TX h2];exact aY.aG (ux h3 hc)|f fn l=>have h1:(Ob x).bind (λp=>if fn=p.1 then qV lens l p.2 else none)=some (cs,t):=h;obtain⟨⟨f,eL⟩,h2,h3⟩:=au9.1 h1;split at h3;rename_i hf;simp only at hf;subst hf;rw[TY h2];exact aY.bw (ux h3 hc);cases h3|m fn l=>have h1:(E3 x).bind (λp=>(qV lens l p.2).bind λq=>some ((p.1=fn)::q.1,q.2))=some (cs,t):=h;obtain⟨⟨f,eL⟩,h2,h3⟩:=au9.1 h1;obtain⟨⟨qs,u⟩,h4,h5⟩:=au9.1 h3;simp only[aug,auk]at h5;obtain⟨rfl,rfl⟩:=h5;rw[QQ h2,show f=fn from hc.1];exact aY.dt (ux h4 hc.2)
def Dq(lens:List Nat):(l:List Sh)->List AV->Option (List Prop×TS l)
 | [],[]=>some ([],())|sh::l,x::xs=>(match ahb lens sh x with|some (p,t)=>(match Dq lens l xs with|some (q,ts)=>some (p++q,(t,ts))|none=>none)|none=>none)|_,_=>none
theorem H9{lens:List Nat}:∀{l:List Sh}{xs:List AV}{cs:List Prop}{t:TS l},Dq lens l xs=some (cs,t)->eM cs->eh xs (yD lens l t)
 | [],[],_,_,_,_=>ai| [],_::_,_,_,h,_=>by simp[Dq]at h|_::_,[],_,_,h,_=>by simp[Dq]at h|sh::l,x::xs,cs,t,h,hc=>by simp only[Dq]at h;split at h;rename_i p t1 h1;split at h;rename_i q ts h2;simp only[aug,auk]at h;obtain⟨rfl,rfl⟩:=h;rw[bU]at hc;exact⟨ZA h1 hc.1,H9 h2 hc.2⟩;cases h;cases h
def mh.T:mh->Type
 | .dead=>Unit| .box l=>TCs l| .row _ _| .aW _ _=>List AV| .cJ=>List (Int×Value)| .eZ=>List (aw×Value)| .jq _=>Unit| .fC _=>Nat×List Int
def mkO(lens:List Nat):(sh:mh)->sh.T->ax
 | .dead,_=>.dead| .box l,t=>.box (QO lens l t)| .row e size,t=>.row e size t| .aW e size,t=>.aW e size t| .cJ,t=>.cJ (.i t)| .eZ,t=>.cJ (.s t)| .jq r,_=>.jq r (sw lens r)| .fC e,t=>.fC e t.1 t.2
def TO:List mh->Type
 | []=>Unit|sh::l=>sh.T×TO l
def pw(lens:List Nat):(l:List mh)->TO l->List ax
 | [],_=>[]|sh::l,t=>mkO lens sh t.1::pw lens l t.2
def ahc:(sh:mh)->sh.T->Nat
 | .row _ _,t=>List.length t| .aW _ _,t=>List.length t| .fC _,t=>t.1|_,_=>0
def ie:(l:List mh)->TO l->List Nat
 | [],_=>[]|sh::l,t=>ahc sh t.1::ie l t.2
def lenOf:ax->Nat
 | .row _ _ els| .aW _ _ els=>els.length| .fC _ m _=>m|_=>0
def s5:List ax->List Nat
 | []=>[]|o::l=>lenOf o::s5 l
def E4:ax->Bool
 | .dead=>true|_=>false
def Od:ax->Option (List AV)
 | .box cs=>some cs|_=>none
def rowOf:ax->Option (Nat×Nat×List AV)
 | .row e size els=>some (e,size,els)|_=>none
def mapOf:ax->Option (List (Int×Value))
 | .cJ (.i es)=>some es|_=>none
def E5:ax->Option (List (aw×Value))
 | .cJ (.s es)=>some es|_=>none
theorem QR{o:ax}(h:E4 o=true):o=.dead:=by cases o<;>simp only[E4]at h<;>first|rfl|cases h
theorem TZ{o:ax}{cs:List AV}(h:Od o=some cs):o=.box cs:=by cases o<;>simp only[Od]at h<;>cases h;rfl
theorem T0{o:ax}{e size:Nat}{els:List AV}(h:rowOf o=some (e,size,els)):o=.row e size els:=by cases o<;>simp only[rowOf]at h<;>cases h;rfl
def Oe:ax->Option (Nat×Nat×List AV)
 | .aW e size els=>some (e,size,els)|_=>none
theorem T5{o:ax}{e size:Nat}{els:List AV}(h:Oe o=some (e,size,els)):o=.aW e size els:=by cases o<;>simp only[Oe]at h<;>cases h;rfl
def ZB:ax->Option (Nat×Nat×List Int)
 | .fC e m ns=>some (e,m,ns)|_=>none
theorem ZC{o:ax}{e m:Nat}{ns:List Int}(h:ZB o=some (e,m,ns)):o=.fC e m ns:=by cases o<;>simp only[ZB]at h<;>cases h;rfl
def Of:ax->Option (Nat×Nat)
 | .jq r n=>some (r,n)|_=>none
theorem T6{o:ax}{r n:Nat}(h:Of o=some (r,n)):o=.jq r n:=by unfold Of at h;split at h;cases h;rfl;cases h
theorem T7{o:ax}{es:List (Int×Value)}(h:mapOf o=some es):o=.cJ (.i es):=by unfold mapOf at h;split at h;cases h;rfl;cases h
theorem QS{o:ax}{es:List (aw×Value)}(h:E5 o=some es):o=.cJ (.s es):=by unfold E5 at h;split at h;cases h;rfl;cases h
def ahd(lens:List Nat)(sh:mh)(o:ax):Option (List Prop×sh.T):=
 match sh with
 | .dead=>(match E4 o with|true=>some ([],())|false=>none)
 | .box l=>(Od o).bind λcs=>uw lens l cs
 | .row e size=>(rowOf o).bind λp=>if e=p.1/\size=p.2.1 then some ([],p.2.2)else none
 | .aW e size=>(Oe o).bind λp=>if e=p.1/\size=p.2.1 then some ([],p.2.2)else none
 | .cJ=>(mapOf o).bind λes=>some ([],es)
 | .eZ=>(E5 o).bind λes=>some ([],es)
 | .jq r=>(Of o).bind λp=>(match Nat.beq r p.1 with|true=>some ([p.2=sw lens r],())|false=>none)
 | .fC e=>(ZB o).bind λp=>if e=p.1 then some ([],p.2)else none
def QT:ax->ax->Prop
 | .box cs,.box eL=>eh cs eL|o,o'=>o=o'
def fu:List ax->List ax->Prop
 | [],[]=>True|o::l,o'::l'=>QT o o'/\fu l l'|_,_=>False
theorem ZD{lens:List Nat}{sh:mh}{o:ax}{cs:List Prop}{t:sh.T}(h:ahd lens sh o=some (cs,t))(hc:eM cs):QT o (mkO lens sh t)/\ahc sh t=lenOf o:=by cases sh with|dead=>have h1:(match E4 o with|true=>some (([]:List Prop),())|false=>none)=some (cs,t):=h;split at h1;rename_i hd;rw[QR hd];exact⟨rfl,rfl⟩;cases h1|box l=>have h1:(Od o).bind (λcs=>uw lens l cs)=some (cs,t):=h;obtain⟨eL,h2,h3⟩:=au9.1 h1;rw[TZ h2];exact⟨AA h3 hc,rfl⟩|row e size=>have h1:(rowOf o).bind (λp=>if e=p.1/\size=p.2.1 then some (([]:List Prop),p.2.2)else none)=some (cs,t):=h;obtain⟨⟨e',w4,els⟩,h2,h3⟩:=au9.1 h1;split at h3;rename_i he;simp only at he;obtain⟨rfl,rfl⟩:=he;rw[T0 h2];cases h3;exact⟨rfl,rfl⟩;cases h3|aW e size=>have h1:(Oe o).bind (λp=>if e=p.1/\size=p.2.1 then some (([]:List Prop),p.2.2)else none)=some (cs,t):=h;obtain⟨⟨e',w4,els⟩,h2,h3⟩:=au9.1 h1;split at h3;rename_i he;simp only at he;obtain⟨rfl,rfl⟩:=he;rw[T5 h2];cases h3;exact⟨rfl,rfl⟩;cases h3|cJ=>have h1:(mapOf o).bind (λes=>some (([]:List Prop),es))=some (cs,t):=h;obtain⟨es,h2,h3⟩:=au9.1 h1;rw[T7 h2];cases h3;exact⟨rfl,rfl⟩|eZ=>have h1:(E5 o).bind (λes=>some (([]:List Prop),es))=some (cs,t):=h;obtain⟨es,h2,h3⟩:=au9.1 h1;rw[QS h2];cases h3;exact⟨rfl,rfl⟩|jq r=>have h1:(Of o).bind (λp=>(match Nat.beq r p.1 with|true=>some ([p.2=sw lens r],())|false=>none))=some (cs,t):=h;obtain⟨⟨r',n⟩,h2,h3⟩:=au9.1 h1;rw[T6 h2];split at h3;rename_i hb;have hb:=auG hb;simp only[aug,auk]at h3;obtain⟨rfl,_⟩:=h3;have:=hc.1;simp only at this hb;subst hb;subst this;exact⟨rfl,rfl⟩;cases h3|fC e=>have h1:(ZB o).bind (λp=>if e=p.1 then some (([]:List Prop),p.2)else none)=some (cs,t):=h;obtain⟨⟨e',m,ns⟩,h2,h3⟩:=au9.1 h1;split at h3;rename_i he;simp only at he;subst he;rw[ZC h2];cases h3;exact⟨rfl,rfl⟩;cases h3
def xr(lens:List Nat):(l:List mh)->List ax->Option (List Prop×TO l)
 | [],[]=>some ([],())|sh::l,x::xs=>(match ahd lens sh x with|some (p,t)=>(match xr lens l xs with|some (q,ts)=>some (p++q,(t,ts))|none=>none)|none=>none)|_,_=>none
theorem uy{lens lens':List Nat}:∀{l:List mh}{xs:List ax}{cs:List Prop}{t:TO l},xr lens l xs=some (cs,t)->eM cs->fu xs (pw lens l t)/\ie l t=s5 xs
 | [],[],_,_,_,_=>⟨ai,rfl⟩| [],_::_,_,_,h,_=>by simp[xr]at h|_::_,[],_,_,h,_=>by simp[xr]at h|sh::l,x::xs,cs,t,h,hc=>by simp only[xr]at h;split at h;rename_i p t1 h1;split at h;rename_i q ts h2;simp only[aug,auk]at h;obtain⟨rfl,rfl⟩:=h;rw[bU]at hc;have h3:=ZD h1 hc.1;have h4:=uy (lens':=lens') h2 hc.2;exact⟨⟨h3.1,h4.1⟩,by simp only[ie,s5,h3.2,h4.2]⟩;cases h;cases h
theorem fu.refl:∀(l:List ax),fu l l
 | []=>ai|o::l=>⟨by cases o with|box cs=>exact eh.refl cs|_=>rfl,fu.refl l⟩
theorem fu.append:∀{a b c d:List ax},fu a b->fu c d->fu (a++c) (b++d)
 | [],[],_,_,_,h=>h|_::_,_::_,_,_,h1,h2=>⟨h1.1,fu.append h1.2 h2⟩
theorem fu.length:∀{a b:List ax},fu a b->a.length=b.length
 | [],[],_=>rfl|_::_,_::_,h=>by simp[fu.length h.2]
theorem fu.get:∀{a b:List ax},fu a b->∀(r:Nat),(a[r]?=none/\b[r]?=none)\/∃o o',a[r]?=some o/\b[r]?=some o'/\QT o o'
 | [],[],_,r=>.inl ⟨by simp,by simp⟩|_::_,_::_,h,0=>.inr ⟨_,_,rfl,rfl,h.1⟩|_::_,_::_,h,r+1=>by simpa using fu.get h.2 r
section
abbrev Cells:=Nat->Nat->Prop
abbrev Gh:=Option (List (List AV))
def gT(b:Bool)(rest:List (List AV)):Gh:=
 match b with
 |true=>some rest
 |false=>none
structure Adv(D:Cells)(Y:Nat->Prop)(w:World)(D':Cells)(Y':Nat->Prop)(w':World):Prop where
 same:cy Y w w'
 cell:∀b o v,D b o->w.cell? ⟨b,o,none⟩=some v->w'.cell? ⟨b,o,none⟩=some v
 kH:∀b es c,D b 0->w.heap[b]?=some (.map es c)->w'.heap[b]?=some (.map es c)
 bC:∀b o,D b o->D' b o
 back:∀b o,D' b o->(D b o\/Y b\/w.heap.size<=b)/\b<w'.heap.size
 ads:∀b,Y' b->(Y b\/w.heap.size<=b)/\b<w'.heap.size
structure Left(D:Cells)(Y:Nat->Prop)(w:World)(D':Cells)(w':World):Prop where
 size:w.heap.size<=w'.heap.size
 cell:∀b o v,D b o->w.cell? ⟨b,o,none⟩=some v->w'.cell? ⟨b,o,none⟩=some v
 kH:∀b es c,D b 0->w.heap[b]?=some (.map es c)->w'.heap[b]?=some (.map es c)
 blocks:∀b,Y b->w'.heap[b]?=w.heap[b]?
 bC:∀b o,D b o->D' b o
 back:∀b o,D' b o->(D b o\/w.heap.size<=b)/\b<w'.heap.size
 gl:∀b,lU b->w'.heap[b]?=w.heap[b]?
def T8(P:Program)(yv:Value)(vals:List Value)(w:World)(R:Ending->World->Prop):Prop:=∃l fn tmps AB body,yv=.func (.yield l) #[] #[]/\(Instr.yield l vals.toArray).run P w=.ok (.round l fn tmps AB body) w/\RoundIn Fence.wide 0 P l fn tmps AB body w R
abbrev JT:=Cells->(Nat->Prop)->Gh->World->Prop
structure Cons(P:Program)(yv:Value)(J:JT):Prop where
 ap0:yv.oneCell'=true
 QU:∀D Y g w D' Y' w',J D Y g w->Adv D Y w D' Y' w'->J D' Y' g w'
 yield:∀(D:Cells)(Y:Nat->Prop) x rest w vals,J D Y (some (x::rest)) w->(∀b o,D b o->b<w.heap.size)->(∀b,Y b->b<w.heap.size)->oU w->cC w D [] [] x vals->
  T8 P yv vals w λe w'=>∃b,e=.returned (.bool b)/\J D Y (gT b rest) w'/\Left D Y w D w'
def YR(kind:Bool)(b:Bool)(v:Value):Prop:=
 match kind with
 |true=>v=.bool b
 |false=>True
def vO(P:Program)(f:FuncId)(args:AV->List AV)(L:List (List AV))(kind:Bool):Prop:=
 oo P f/\∀(J:JT)(yv:Value),Cons P yv J->∀(D:Cells)(Y:Nat->Prop)(rest:List (List AV))(w:World)(vals:List Value),
  J D Y (some (L++rest)) w->(∀b o,D b o->b<w.heap.size)->(∀b,Y b->b<w.heap.size)->oU w->cC w D [] [] (args (.fn yv)) vals->
  CallsIn Fence.wide 0 P f vals.toArray w λe w'=>∃v D' b,e=.returned v/\YR kind b v/\J D' Y (gT b rest) w'/\Left D Y w D' w'
section walk
variable {P:Program} {yv:Value} {J:JT} {D0:Cells} {Y0:Nat->Prop} {gL:World} {nt:Nat}
structure oy(P:Program)(J:JT)(D0:Cells)(Y0:Nat->Prop)(gL:World)(nt:Nat)(Γ:Env Unit)(g:Gh):Prop where
 ok:Γ.Ok
 hP:Γ.P=P
 fE:Γ.nt=nt
 Ez:Γ.Ez=none
 x:∀b,¬Γ.X b
 z:∀b o,¬Γ.Z b o
 h0:Γ.mU.length=0
 m0:∀r,¬Γ.m0 r
 j:J Γ.F0 (λb=>Y0 b\/Γ.Y b) g Γ.w0
 f0:∀b o,Γ.F0 b o->b<Γ.w0.heap.size
 cell:∀b o v,D0 b o->gL.cell? ⟨b,o,none⟩=some v->Γ.w0.cell? ⟨b,o,none⟩=some v
 kH:∀b es c,D0 b 0->gL.heap[b]?=some (.map es c)->Γ.w0.heap[b]?=some (.map es c)
 y0:∀b,Y0 b->Γ.w0.heap[b]?=gL.heap[b]?
 T9:∀b,Y0 b->b<gL.heap.size
 size:gL.heap.size<=Γ.w0.heap.size
 d0:∀b o,D0 b o->Γ.F0 b o
 f00:∀b o,Γ.F0 b o->D0 b o\/gL.heap.size<=b
 own:∀b,Γ.Y b->gL.heap.size<=b
 gl:∀b,lU b->Γ.w0.heap[b]?=gL.heap[b]?
variable {Γ:Env Unit} {s s':AS Unit} {a:Act} {w w' w2:World} {η:List Value} {g g2:Gh}
theorem oy.Ia(hB:oy P J D0 Y0 gL nt Γ g)(hr:Rel Γ s a w η):a.defers=[]:=by cases hd:a.defers with|nil=>rfl|cons d l=>obtain⟨r,_,_,h⟩:=hr.marks.all d (by rw[hd];exact auw);exact(hB.m0 r h).elim
theorem oy.live(hr:Rel Γ s a w η):∀b,aU η s.hp b->b<w.heap.size/\(Γ.w0.heap.size<=b\/Γ.Y b):=λb ⟨q,o,v,g1,g2,g3,g4⟩=>
 ⟨hr.heap.block g1 g2 g3 g4,(hr.cu q o v b g1 g2 g3 g4).1⟩
theorem oy.now(hC:Cons P yv J)(hB:oy P J D0 Y0 gL nt Γ g)(hr:Rel Γ s a w η):J (bu Γ w η s.hp) (λb=>Y0 b\/aU η s.hp b) g w:=by have cP:=hr.keeps.size;refine hC.QU _ _ _ _ _ _ _ hB.j ⟨?_,hr.ext.cell,hr.ext.kH,hr.ext.bC,λb o hf=>⟨?_,hf.2.1⟩,λb hb=>?_⟩;exact⟨hr.keeps.os,hr.keeps.tape,hr.keeps.output,cP,λk hk hx=>hr.keeps.block k hk λh=>h.elim (hB.x k) λh=>hx (.inr h)⟩;rcases hf.1 with h|h|h;exact .inl h;exact .inr (.inr h);exact .inr (.inl (.inr h));rcases hb with h|h;exact⟨.inl (.inl h),by have:=hB.T9 b h;have:=hB.size;omega⟩;obtain⟨h1,h2⟩:=oy.live hr b h;rcases h2 with h2|h2;exact⟨.inr h2,h1⟩;exact⟨.inl (.inr h2),h1⟩
def s6(Γ:Env Unit)(w2:World)(D2:Cells)(Y:Nat->Prop):Env Unit:={ P:=Γ.P,w0:=w2,F0:=D2,X:=λ_=>False,Y:=Y,Inv:=λ_ _=>True,nt:=Γ.nt,Ez:=none,m0:=λ_=>False,Z:=λ_ _=>False,Cx:=[],mU:=[] }
theorem oy.step(hC:Cons P yv J)(hB:oy P J D0 Y0 gL nt Γ g)(hr:Rel Γ s a w η){D2:Cells}(hj:J D2 (λb=>Y0 b\/aU η s.hp b) g2 w2)(hl:Left (bu Γ w η s.hp) (λb=>Y0 b\/aU η s.hp b) w D2 w2): oy P J D0 Y0 gL nt (s6 Γ w2 D2 (aU η s.hp)) g2/\Rel (s6 Γ w2 D2 (aU η s.hp)) s a w2 η:=by
 have cP:=hr.keeps.size;have eE:=oy.live hr;have S2:(s6 Γ w2 D2 (aU η s.hp)).Ok:=⟨rfl,λ_ h=>h.elim,λb hb=>auK (eE b hb).1 hl.size,λ_ _ _ _ _ _=>ai,λ_ _ h=>h.elim,λp hp=>by obtain⟨T,h1⟩:=(hr.iN hB.ok) p hp;exact⟨T,(hl.gl p.1 ⟨p,hp,rfl⟩).trans h1⟩,λb hb h=>h.elim (λh=>h) (hr.gx hB.ok hb)⟩;have oW:∀b o,D2 b o->ke η s.hp b o:=by intro b o hb;rcases (hl.back b o hb).1 with h|h;exact h.2.2.2;(refine(bn b o).2 λq u hu Sm=>?_;have hq:q<s.hp.length:=by rw[<-hr.heap.len];exact(auh.1 hu).1);(have hg:s.hp[q]?=some s.hp[q]:=by simp[hq]);refine⟨_,hg,?_⟩;cases hx:s.hp[q]with|dead=>exact ai|_=>exfalso;rw[hx]at hg;have:=hr.heap.block hg ai hu Sm;omega
 have he:Ext w (bu Γ w η s.hp) η s.hp w2 (bu (s6 Γ w2 D2 (aU η s.hp)) w2 η s.hp) η s.hp:= ⟨hl.cell,hl.kH,λb o hf=>⟨.inl (hl.bC b o hf),auK hf.2.1 hl.size,λh=>h.elim (λh=>h) λh=>h,hf.2.2.2⟩,λ_ _ h=>h,λ_ _ h=>h,λ_ _ _ h=>h⟩;refine⟨⟨S2,hB.hP,hB.fE,rfl,λ_ h=>h,λ_ _ h=>h,rfl,λ_ h=>h,hj,λb o hb=>(hl.back b o hb).2,λb o v hd hc=>?_,λb es c hd hc=>?_,λb hb=>?_,hB.T9,?_,λb o hd=>?_,λb o hf=>?_,λb hb=>?_,λb hb=>(hl.gl b hb).trans ((hr.keeps.block b (hB.ok.iN.lt hb) (hB.ok.gx b hb)).trans (hB.gl b hb))⟩, ⟨hr.nt,λt=>(hr.tmps t).ext he,⟨hr.heap.len,λq o v h1 h2=>?_,hr.heap.sep⟩,λq o v b h1 h2 h3 h4=>⟨.inr ⟨q,o,v,h1,h2,h3,h4⟩,λ_ h=>h.elim (λh=>h) λh=>h⟩,cy.refl _ _,ai,?_,?_⟩⟩;exact hl.cell b o v (hr.ext.bC _ _ (hB.d0 b o hd)) (hr.ext.cell b o v (hB.d0 b o hd) (hB.cell b o v hd hc));exact hl.kH b es c (hr.ext.bC _ _ (hB.d0 b 0 hd)) (hr.ext.kH b es c (hB.d0 b 0 hd) (hB.kH b es c hd hc));show w2.heap[b]?=_;rw[hl.blocks b (.inl hb),<-hB.y0 b hb];have h1:=hB.T9 b hb;have h2:=hB.size;exact hr.keeps.block b (by omega) λh=>h.elim (hB.x b) λh=>by have:=hB.own b h;omega
 show gL.heap.size<=w2.heap.size;have h1:=hB.size;have h2:=hl.size;omega;exact hl.bC b o (hr.ext.bC _ _ (hB.d0 b o hd));have h1:=hB.size;rcases (hl.back b o hf).1 with h|h;rcases h.1 with h|h|h;exact hB.f00 b o h;exact .inr (by omega);exact .inr (hB.own b h);exact .inr (by omega);have h1:=hB.size;rcases (eE b hb).2 with h|h;omega;exact hB.own b h
 ·by_cases hv:o.live;exact(hr.heap.obj q o v h1 h2).ext he hl.size λb hb _=>hl.blocks b (.inr ⟨q,o,v,h1,hv,h2,hb⟩)
  ·cases o<;>first|exact ai|exact(hv ai).elim
 rw[hB.Ia hr];exact⟨λd hd=>(by cases hd),List.Pairwise.nil⟩;refine⟨λ_ _ _ _ h=>h,λ_ _ _ _ h=>h,λb o hb=>⟨.inl hb,(hl.back b o hb).2,λh=>h.elim (λh=>h) λh=>h,oW b o hb⟩,λr a h=>?_,λr a h=>?_,λr n v h=>?_⟩;simp[s6]at h;simp[s6]at h;simp[s6,bk]at h
def Dr(P:Program)(J:JT)(D0:Cells)(Y0:Nat->Prop)(gL:World)(nt:Nat)(K:AS Unit->Gh->Prop)(a':Act)(w':World):Prop:=∃(vM:Env Unit)(s':AS Unit)(bh:List Value)(g':Gh),oy P J D0 Y0 gL nt vM g'/\K s' g'/\Rel vM s' a' w' bh
theorem Dr.mono{K K':AS Unit->Gh->Prop}(hk:∀s g,K s g->K' s g){a':Act}(h:Dr P J D0 Y0 gL nt K a' w'):Dr P J D0 Y0 gL nt K' a' w':=let ⟨vM,s',bh,g',h1,h2,h3⟩:=h;⟨vM,s',bh,g',h1,hk _ _ h2,h3⟩
def ea(P:Program)(J:JT)(D0:Cells)(Y0:Nat->Prop)(gL:World)(nt:Nat)(c:Code)(Q:Exit->AS Unit->Gh->Prop)(s:AS Unit)(g:Gh):Prop:=∀Γ a w η,oy P J D0 Y0 gL nt Γ g->Rel Γ s a w η->c.wpIn Fence.wide 0 P (λe=>Dr P J D0 Y0 gL nt (Q e)) a w
theorem oy.fR(hB:oy P J D0 Y0 gL nt Γ g):Γ.fR=Fence.wide:=by simp only[Env.fR,hB.Ez];rfl
theorem ea.of{c:Code}{Q:Exit->AS Unit->Gh->Prop}(h:∀Γ:Env Unit,Γ.Ok->Γ.P=P->Γ.nt=nt->Γ.mU.length=0->gu Γ c (λe s'=>Q e s' g) s):ea P J D0 Y0 gL nt c Q s g:=by intro Γ a w η hB hr;have h1:=h Γ hB.ok hB.hP hB.fE hB.h0 a w η hr;rw[hB.fR,hB.hP]at h1;exact wpIn_mono h1 λe a' w' ⟨s',bh,h2,h3⟩=>⟨Γ,s',bh,g,hB,h2,h3⟩
def fS(P:Program)(J:JT)(D0:Cells)(Y0:Nat->Prop)(gL:World)(nt:Nat)(ops:Array Oper)(K:AS Unit->Gh->Prop)(l:List Oper)(s:AS Unit)(g:Gh):Prop:=∀Γ a w η (Qc:Exit->Act->World->Prop),oy P J D0 Y0 gL nt Γ g->(∀a' w',Dr P J D0 Y0 gL nt K a' w'->Qc .normal a' w')->Rel Γ s a w η->wpListIn Fence.wide 0 P ops Qc l a w
theorem fS.nil{ops:Array Oper}{K:AS Unit->Gh->Prop}(h:K s g):fS P J D0 Y0 gL nt ops K [] s g:=λΓ a w η _ hB hQ hr=>hQ a w ⟨Γ,s,η,g,hB,h,hr⟩
theorem fS.calm{ops:Array Oper}{K N:AS Unit->Gh->Prop}{o:Oper}{rest:List Oper}(hg:∀(Γ:Env Unit) a w η,Rel Γ s a w η->Region.wanted o (yielded ops a.tmps)=true)(h:∀Γ:Env Unit,Γ.Ok->Γ.P=P->Γ.nt=nt->Γ.mU.length=0->bT Γ o s (λs'=>N s' g))(hn:∀s',N s' g->fS P J D0 Y0 gL nt ops K rest s' g):fS P J D0 Y0 gL nt ops K (o::rest) s g:=by intro Γ a w η Qc hB hQ hr;simp only[wpListIn];rw[if_pos (hg Γ a w η hr)];have h1:=h Γ hB.ok hB.hP hB.fE hB.h0 a w η (wpListIn Fence.wide 0 P ops Qc rest) Qc (λs' a' w' bh hN gM=>hn s' hN Γ a' w' bh Qc hB hQ gM) hr;rw[hB.fR,hB.hP]at h1;exact h1
theorem fS.skip{ops:Array Oper}{K:AS Unit->Gh->Prop}{o:Oper}{rest:List Oper}(hg:∀(Γ:Env Unit) a w η,Rel Γ s a w η->Region.wanted o (yielded ops a.tmps)=false)(hd:fq nt o.dst)(h:fS P J D0 Y0 gL nt ops K rest (s.put o.dst (.ay (.tuple #[]))) g):fS P J D0 Y0 gL nt ops K (o::rest) s g:=by intro Γ a w η Qc hB hQ hr;simp only[wpListIn];rw[if_neg (by rw[hg Γ a w η hr];simp)];exact⟨λ_ _=>trivial,h Γ _ w η Qc hB hQ (hr.put (dc (by rw[hB.fE];exact hd)) (.ay _))⟩
theorem Rel.Og(hB:oy P J D0 Y0 gL nt Γ g)(hr:Rel Γ s a w η){d:Option Nat}(hd:fq nt d){x:AV}{v:Value}(hx:bo w (bu Γ w η s.hp) η s.hp x v):Rel Γ (s.put d x) (a.put d v) w η:=hr.put (dc (by rw[hB.fE];exact hd)) hx
theorem AD{o:Oper}{c:Call}{x:Operand}(ho:o.op=.call c)(hc:c.callee=.value x){l:Nat}(hx:a.eval x=.func (.yield l) #[] #[]){n:Next}(h:(Instr.yield l (c.args.map a.eval)).run P w=.ok n w): (execOp a.eval o).run P w=.ok n w:=by simp[execOp,ho,resolve,hc,hx,Deferred.ofValue,invoke,h]
theorem fS.yield(hC:Cons P yv J){ops:Array Oper}{K:AS Unit->Gh->Prop}{o:Oper}{rest:List Oper}(hg:o.guard=none){c:Call}{x:Operand}(ho:o.op=.call c)(hc:c.callee=.value x)(hx:s.ev x=.fn yv)(hd:fq nt o.dst){more:List (List AV)}(hgh:g=some (((c.args.toList.map s.ev).map (AV.sX 0 s.hp))::more))(h:∀b,fS P J D0 Y0 gL nt ops K rest (s.put o.dst (.ay (.bool b))) (gT b more)):fS P J D0 Y0 gL nt ops K (o::rest) s g:=by intro Γ a w η Qc hB hQ hr;simp only[wpListIn];rw[if_pos (by simp[Region.wanted,hg])];have hj:=hB.now hC hr;rw[hgh]at hj;have eV:=hr.ev x;rw[hx]at eV;generalize hv:a.eval x=v at eV;cases eV with|fn v h1=>(obtain⟨l,fn,tmps,AB,body,rfl,gY,s7⟩:=hC.yield _ _ _ _ _ _ hj (λ_ _=>fk) (λb hb=>hb.elim (λh=>by have:=hB.T9 b h;have:=hB.size;have:=hr.keeps.size;omega) λh=>(oy.live hr b h).1) (hr.iN hB.ok) (ow hr _ _ (iu hr c.args.toList));refine⟨λ_ _=>trivial,?_⟩;have bV:∀c',o.op ≠ .defer c':=by intro c' h;rw[ho]at h;cases h);(have aQ:(c.args.toList.map a.eval).toArray=c.args.map a.eval:=by apply avy;simp);rw[aQ]at gY;rw[Oper.semAt_eq _ _ _ bV,AD ho hc hv gY];refine⟨λh=>(by cases h),?_⟩;refine RoundIn.mono s7 λe w' ⟨b,he,vK,hl⟩=>?_;subst he;obtain⟨hB2,ot⟩:=hB.step hC hr vK hl;exact h b _ _ _ _ Qc hB2 hQ (ot.Og hB2 hd (.ay _))
theorem fS.call(hC:Cons P yv J){ops:Array Oper}{K:AS Unit->Gh->Prop}{o:Oper}{rest:List Oper}(hg:o.guard=none){c:Call}{x:Operand}(ho:o.op=.call c)(hc:c.callee=.value x){f:FuncId}{caps:List AV}(hx:s.ev x=.bw f caps)(hd:fq nt o.dst){args:AV->List AV}{L more:List (List AV)}{kind:Bool}(hF:vO P f args L kind)(aQ:((c.args.toList.map s.ev++caps).map (AV.sX 0 s.hp))=args (.fn yv))(hgh:g=some (L++more))(h:∀b,fS P J D0 Y0 gL nt ops K rest (s.put o.dst (match kind with|true=>.ay (.bool b)|false=>.top)) (gT b more)):fS P J D0 Y0 gL nt ops K (o::rest) s g:=by
 intro Γ a w η Qc hB hQ hr;simp only[wpListIn];rw[if_pos (by simp[Region.wanted,hg])];have hj:=hB.now hC hr;rw[hgh]at hj;have eV:=hr.ev x;rw[hx]at eV;generalize hv:a.eval x=v at eV;cases eV with
  |bw _ _ vs hl dW=>(refine⟨λ_ _=>trivial,?_⟩;have bV:∀c',o.op ≠ .defer c':=by intro c' h;rw[ho]at h;cases h);(have eg:(execOp a.eval o).run P w=.ok (.enter f (c.args.map a.eval++vs)) w:=by have:=gN (Γ:=Γ) (a:=a) (w:=w) ho hc (f:=f) (by rw[hB.hP];exact hF.1) hv;rw[hB.hP]at this;exact this);(rw[Oper.semAt_eq _ _ _ bV,eg];have hav:(c.args.map a.eval++vs)=(c.args.toList.map a.eval++vs.toList).toArray:=by apply avy;simp);have dL:cC w (bu Γ w η s.hp) η s.hp caps vs.toList:=dM (by simpa using hl) λj y u hy hu=>dW j y u hy (by simpa using hu);have iH:=ow hr _ _ (eP _ _ (iu hr c.args.toList) dL);rw[aQ]at iH;refine⟨λh=>(by cases h),?_⟩;rw[hav];refine CallsIn.mono (hF.2 J yv hC _ _ more w _ hj (λ_ _=>fk) (λb hb=>hb.elim (λh=>by have:=hB.T9 b h;have:=hB.size;have:=hr.keeps.size;omega) λh=>(oy.live hr b h).1) (hr.iN hB.ok) iH) λe w' ⟨v,D',b,he,hv,vK,hl⟩=>?_;subst he;obtain⟨hB2,ot⟩:=hB.step hC hr vK hl;refine h b _ _ _ _ Qc hB2 hQ (ot.Og hB2 hd ?_);cases kind with
  |true=>simp only[YR]at hv;subst hv;exact .ay _|false=>exact .top _
variable {Q:Exit->AS Unit->Gh->Prop}
theorem ea.region{id:Nat}{l:List Oper}(h:fS P J D0 Y0 gL nt l.toArray (Q .normal) l s g):ea P J D0 Y0 gL nt (.region id l.toArray false) Q s g:=λΓ a w η hB hr=>wpIn_region_lit (h Γ a w η _ hB (λ_ _ h=>h) hr)
def Ua(N:AS Unit->Gh->Prop)(Q:Exit->AS Unit->Gh->Prop):Exit->AS Unit->Gh->Prop
 | .normal,s,g=>N s g|e,s,g=>Q e s g
def AE(id:Nat)(Q:Exit->AS Unit->Gh->Prop):Exit->AS Unit->Gh->Prop
 | .exit id',s,g=>if id'=id then Q .normal s g else Q (.exit id') s g|e,s,g=>Q e s g
theorem ea.mono{c:Code}{Q':Exit->AS Unit->Gh->Prop}(h:ea P J D0 Y0 gL nt c Q s g)(hq:∀e s g,Q e s g->Q' e s g):ea P J D0 Y0 gL nt c Q' s g:=λΓ a w η hB hr=>wpIn_mono (h Γ a w η hB hr) λe _ _ hp=>hp.mono (hq e)
theorem ea.seq{x y:Code}(h:ea P J D0 Y0 gL nt x (Ua (ea P J D0 Y0 gL nt y Q) Q) s g):ea P J D0 Y0 gL nt (.seq x y) Q s g:=by intro Γ a w η hB hr;refine wpIn_seq (wpIn_mono (h Γ a w η hB hr) λe a' w' hq=>?_);cases e with|normal=>obtain⟨vM,s',bh,g',h1,h2,h3⟩:=hq;exact h2 vM a' w' bh h1 h3|_=>exact hq
theorem ea.skip(h:Q .normal s g):ea P J D0 Y0 gL nt .skip Q s g:=λΓ _ _ η hB hr=>wpIn_skip ⟨Γ,s,η,g,hB,h,hr⟩
theorem ea.exit{id:Nat}(h:Q (.exit id) s g):ea P J D0 Y0 gL nt (.exit id) Q s g:=λΓ _ _ η hB hr=>wpIn_exit ⟨Γ,s,η,g,hB,h,hr⟩
theorem ea.ret(h:Q .ret s g):ea P J D0 Y0 gL nt .ret Q s g:=λΓ _ _ η hB hr=>wpIn_ret ⟨Γ,s,η,g,hB,h,hr⟩
theorem ea.label{l:Nat}(h:Q .normal s g):ea P J D0 Y0 gL nt (.label l) Q s g:=λΓ _ _ η hB hr=>wpIn_label ⟨Γ,s,η,g,hB,h,hr⟩
theorem ea.block{id:Nat}{c:Code}(h:ea P J D0 Y0 gL nt c (AE id Q) s g):ea P J D0 Y0 gL nt (.block id c) Q s g:=by intro Γ a w η hB hr;refine wpIn_block (wpIn_mono (h Γ a w η hB hr) λe a' w' hq=>?_);obtain⟨vM,s',bh,g',h1,h2,h3⟩:=hq;cases e with|exit id'=>simp only[AE]at h2;simp only[Exit.inBlock];split;rename_i hid;rw[if_pos hid]at h2;exact⟨vM,s',bh,g',h1,h2,h3⟩;rename_i hid;rw[if_neg hid]at h2;exact⟨vM,s',bh,g',h1,h2,h3⟩|_=>exact⟨vM,s',bh,g',h1,h2,h3⟩
theorem ea.cond{c:Operand}{x y:Code}{b:Bool}(hb:s.ev c=.ay (.bool b))(h1:b=true->ea P J D0 Y0 gL nt x Q s g)(h2:b=false->ea P J D0 Y0 gL nt y Q s g):ea P J D0 Y0 gL nt (.cond c x y) Q s g:=by intro Γ a w η hB hr;have hc:=hr.ev c;rw[hb]at hc;exact wpIn_cond_split hc.aC (λht=>h1 ht Γ a w η hB hr) λht=>h2 ht Γ a w η hB hr
def Oh(s s':AS Unit):Prop:=∀Γ:Env Unit,Γ.Ok->Γ.mU.length=0->∀a w η,Rel Γ s a w η->∃bh,Rel Γ s' a w bh
theorem ea.ss{c:Code}(hw:Oh s s')(h:ea P J D0 Y0 gL nt c Q s' g):ea P J D0 Y0 gL nt c Q s g:=λΓ a w η hB hr=>let ⟨bh,gM⟩:=hw Γ hB.ok hB.h0 a w η hr;h Γ a w bh hB gM
theorem ea.loop{c:Code}{β:Type}(I:β->Prop)(st:β->AS Unit)(gh:β->Gh)(μ:β->Nat)(b0:β)(hI:I b0)(h0:Oh s (st b0))(hg:g=gh b0)(round:∀b,I b->ea P J D0 Y0 gL nt c (Ua (λs' g'=>∃b',I b'/\Oh s' (st b')/\g'=gh b'/\μ b' < μ b) Q) (st b) (gh b)):ea P J D0 Y0 gL nt (.loop c) Q s g:=by
 intro Γ a w η hB hr;obtain⟨Cx,hr0⟩:=h0 Γ hB.ok hB.h0 a w η hr;subst hg;have key:∀(n:Nat)(b:β),I b->μ b=n->∀Γ a w η,oy P J D0 Y0 gL nt Γ (gh b)->Rel Γ (st b) a w η->∀(f:Frame)(k:List Item)(cs:List Frame),f.roundOf=Fence.wide.round->Fence.wide.fn f.fn->Fence.wide.room (cs.length+1+0)->
   ∃e a' w',Dr P J D0 Y0 gL nt (Q e) a' w'/\ArrivesIn (Machine.fenced P Fence.wide) P (lone (f.atR a (.code c :: .inLoop c::k)) cs w) f k cs e a' w':=by
  intro n
  induction n using Nat.strongRecOn with
  |_ n ih=>
   intro b hIb hb Γ a w η hB hr f k cs sk hf fp;obtain⟨e,we,wg,hq,gZ⟩:=round b hIb Γ a w η hB hr f (.inLoop c::k) cs sk hf fp
   cases e with
   |normal=>
    obtain⟨Sn,s1,oS,g1,hB1,⟨b',amA,hw',S9,aE⟩,Ct⟩:=hq;obtain⟨amB,amC⟩:=hw' Sn hB1.ok hB1.h0 _ _ _ Ct;subst S9;obtain⟨aeS,aeT,aeU,Ub,E6⟩:=ih (μ b') (hb▸aE) b' amA rfl Sn we wg amB hB1 amC f k cs sk hf fp;exact⟨aeS,aeT,aeU,Ub,.of_steps (StepsIn.trans gZ (.one (fenced_calm hf fp rfl) stepR_inLoop)) E6⟩
   |exit id=>exact⟨_,we,wg,hq,.pass (x:=.inLoop c) rfl (λ_ _=>.inl (by simp)) gZ⟩
   |goto l=>exact⟨_,we,wg,hq,.pass (x:=.inLoop c) rfl (λ_ _=>.inl (by simp)) gZ⟩
   |ret=>exact⟨_,we,wg,hq,.pass (x:=.inLoop c) rfl (λ_ _=>.inl (by simp)) gZ⟩
   |panic ch=>exact⟨_,we,wg,hq,.pass (x:=.inLoop c) rfl (λ_ _=>.inl (by simp)) gZ⟩
   |outgrown=>exact⟨_,we,wg,hq,.pass (x:=.inLoop c) rfl (λ_ _=>.inl (by simp)) gZ⟩
 intro f k cs sk hf fp;obtain⟨e,a',w',hq,gZ⟩:=key _ b0 hI rfl Γ a w Cx hB hr0 f k cs sk hf fp;exact⟨e,a',w',hq,.of_steps (.one (fenced_calm hf fp rfl) stepR_loop) gZ⟩
end walk
def Oi(kind b:Bool)(x:AV):Prop:=
 match kind with
 |true=>x=.ay (.bool b)
 |false=>True
def Uc(tab:Nat->Option TD)(rs:List ResultVar)(kind:Bool)(more:List (List AV)):Exit->AS Unit->Gh->Prop
 | .normal,s,g| .ret,s,g=>(match gd tab s rs with|some l=>∃b,g=gT b more/\Oi kind b (iV l)|none=>False)|_,_,_=>False
theorem Ib{P:Program}{tab:Nat->Option TD}(aB:bp P tab){f:FuncId}{fn:Func}{c:Code}{args:AV->List AV}{L:List (List AV)}{kind:Bool}(hf:P.funcs[f]?=some fn)(hb:fn.body=some c)(jB:(fn.name == "runtime.NumGoroutine")=false)(hn:∀v,(args v).length<=fn.ntmps)(h:∀(J:JT)(yv:Value),Cons P yv J->∀D0 Y0 gL more,ea P J D0 Y0 gL fn.ntmps c (Uc tab fn.results.toList kind more) ⟨eu 0 (args (.fn yv)),[],()⟩ (some (L++more))):vO P f args L kind:=by
 refine⟨⟨fn,hf,jB,by rw[hb];rfl⟩,λJ yv hC D Y more w vals hj hD hY hgl hv=>?_⟩;let Γ:Env Unit:={ P:=P,w0:=w,F0:=D,X:=λ_=>False,Y:=λ_=>False,Inv:=λ_ _=>True,nt:=fn.ntmps,Ez:=none,m0:=λ_=>False,Z:=λ_ _=>False,Cx:=[],mU:=[] };have aK:Γ.Ok:=⟨rfl,λ_ h=>h.elim,λ_ h=>h.elim,λ_ _ _ _ _ h=>h,λ_ _ h=>h.elim,hgl,λ_ _ h=>h.elim (λh=>h) λh=>h⟩;have Y3:=hv.length;have iP:∀b o,D b o->bu Γ w [] [] b o:=λb o hb=>⟨.inl hb,hD b o hb,λh=>h.elim (λh=>h) λh=>h,λr v hr=>by simp at hr⟩;have hB:oy P J D Y w fn.ntmps Γ (some (L++more)):=by (refine⟨aK,rfl,rfl,rfl,λ_ h=>h,λ_ _ h=>h,rfl,λ_ h=>h,?_,hD,λ_ _ _ _ h=>h,λ_ _ _ _ h=>h,λ_ _=>rfl,hY,aum _,λ_ _ h=>h,λ_ _ h=>.inl h,λ_ h=>h.elim,λ_ _=>rfl⟩;have e:(λb=>Y b\/Γ.Y b)=Y:=by funext b;simp[Γ]);rw[e];exact hj
 have hrel:Rel Γ ⟨eu 0 (args (.fn yv)),[],()⟩ ⟨vals.toArray++Array.replicate (fn.ntmps-vals.toArray.size) undef,[]⟩ w []:=by have hna:=hn (.fn yv);refine⟨by simp[Γ];omega,λt=>?_,⟨rfl,λr o v h=>by simp at h,λr r' o o' v v' b _ h=>by simp at h⟩,λr o v b h=>by simp at h,cy.refl _ w,ai,⟨λd hd=>(by cases hd),List.Pairwise.nil⟩,⟨λ_ _ _ _ h=>h,λ_ _ _ _ h=>h,iP,λ_ _ h=>h,λ_ _ h=>h,λ_ _ _ h=>h⟩⟩;have:=Ab (hp:=[]) (η:=[]) (args (.fn yv)) vals 0 hv t;simp only[Nat.not_lt_zero,if_false,or_false,Nat.sub_zero]at this;show bo w _ _ _ _ ((vals.toArray++Array.replicate (fn.ntmps-vals.toArray.size) undef).getD t undef);rw[Ac];exact this.bC iP
 have kS:=h J yv hC D Y w more Γ _ w _ hB hrel;refine callsIn_of_wp_marks (F:=Fence.wide) hf hb trivial (wpIn_mono (F:=Fence.wide) kS λe a' w' ⟨vM,s',bh,g',G6,hq,gM⟩=>?_);have fin:(∃l,gd tab s' fn.results.toList=some l/\∃b,g'=gT b more/\Oi kind b (iV l))->
   LeavesInM Fence.wide 0 P fn a'.tmps (λe w'=>∃v D' b,e=.returned v/\YR kind b v/\J D' Y (gT b more) w'/\Left D Y w D' w') a'.defers .returning w':=by
  intro ⟨l,hl,b,S9,hR⟩;have hd:=G6.Ia gM;obtain⟨ts,ds⟩:=a';simp only at hd;subst hd;obtain⟨v,h1,h2⟩:=qH (fn:=fn) (by rw[G6.hP];exact aB) gM hl;rw[G6.hP]at h1;have vK:=G6.now hC gM;have cP:=gM.keeps.size;have hB0:=G6.size;refine⟨v,h1,v,bu vM w' bh s'.hp,b,rfl,?_,?_,⟨by omega,λk o u hk hc=>?_,λk es c hk hc=>?_,λk hk=>?_,λk o hk=>?_,λk o hk=>⟨?_,hk.2.1⟩,λk hk=>(gM.keeps.block k (G6.ok.iN.lt hk) (G6.ok.gx k hk)).trans (G6.gl k hk)⟩⟩
  ·cases kind with
   |true=>simp only[Oi]at hR;rw[hR]at h2;exact h2.aC
   |false=>exact ai
  ·rw[<-S9];refine hC.QU _ _ _ _ _ _ _ vK ⟨cy.refl _ _,λ_ _ _ _ h=>h,λ_ _ _ _ h=>h,λ_ _ h=>h,λk o h=>⟨.inl h,h.2.1⟩,λk hk=>⟨.inl (.inl hk),?_⟩⟩;have:=hY k hk;omega
  ·exact gM.ext.cell k o u (G6.d0 k o hk) (G6.cell k o u hk hc)
  ·exact gM.ext.kH k es c (G6.d0 k 0 hk) (G6.kH k es c hk hc)
  ·rw[<-G6.y0 k hk];have:=hY k hk;exact gM.keeps.block k (by omega) λh=>h.elim (G6.x k) λh=>by have:=G6.own k h;omega
  ·exact gM.ext.bC _ _ (G6.d0 k o hk)
  ·rcases hk.1 with h|h|h
   ·exact G6.f00 k o h
   ·exact .inr (by omega)
   ·exact .inr (G6.own k h)
 cases e with|normal=>simp only[Uc]at hq;split at hq;rename_i l hl;exact fin ⟨l,hl,hq⟩;exact hq.elim|ret=>simp only[Uc]at hq;split at hq;rename_i l hl;exact fin ⟨l,hl,hq⟩;exact hq.elim|_=>exact hq.elim
end
section
variable {P:Program} {Γ:Env Unit} {s s':AS Unit} {a:Act} {w w' w2:World} {η bh:List Value} {hp hp':List ax} {F:Cells}
theorem Ds(h:ep w F η hp){b:Nat}(hl:aU η hp b):(∃vs T p,w.heap[b]?=some (.cells vs T p))\/∃en c,w.heap[b]?=some (.map en c):=by obtain⟨r,o,v,g1,g2,g3,g4⟩:=hl;have fe:=h.obj r o v g1 g3;cases o with|dead=>exact g2.elim|box cs=>obtain⟨b',vs,T,rfl,h1,_⟩:=fe;simp only[da,aug]at g4;subst g4;exact .inl ⟨_,_,_,h1⟩|row e size els=>obtain⟨_,xs,h1,_⟩:=fe;obtain⟨cur,h5⟩:=h1.lt g4;exact .inl ⟨_,_,_,h5⟩|cJ es=>obtain⟨b',en,c,rfl,h1,_⟩:=fe;simp only[da,aug]at g4;subst g4;exact .inr ⟨_,_,h1⟩|jq q k=>obtain⟨b',vs,rfl,h1,_⟩:=fe;simp only[da,aug]at g4;subst g4;exact .inl ⟨_,_,_,h1⟩|aW e size els=>obtain⟨_,xs,h1,_⟩:=fe;obtain⟨cur,h5⟩:=h1.lt g4;exact .inl ⟨_,_,_,h5⟩|fC e m ns=>obtain⟨cur,h5⟩:=gv.lt fe g4;exact .inl ⟨_,_,_,h5⟩
theorem Dt(h:ep w F η hp){l:Nat}{r:Loop}(hl:w.heap[l]?=some (.loop r)):¬aU η hp l:=by intro hb;rcases Ds h hb with⟨_,_,_,h1⟩|⟨_,_,h1⟩<;>rw[hl]at h1<;>cases h1
theorem Ic(h:ep w F η hp){l:Nat}{r:Option (List Deferred)}(hl:w.heap[l]?=some (.deferred r)):¬aU η hp l:=by intro hb;rcases Ds h hb with⟨_,_,_,h1⟩|⟨_,_,h1⟩<;>rw[hl]at h1<;>cases h1
theorem oz(hlen:η.length=hp.length){b o:Nat}(h:¬aU η hp b):ke η hp b o:=by (refine(bn b o).2 λq u hu Sm=>?_;have hq:q<hp.length:=by rw[<-hlen];exact(auh.1 hu).1);(have hg:hp[q]?=some hp[q]:=by simp[hq]);refine⟨_,hg,?_⟩;cases hx:hp[q]with|dead=>exact ai|_=>exfalso;rw[hx]at hg;exact h ⟨q,_,u,hg,ai,hu,Sm⟩
theorem Rel.adu(hr:Rel Γ s a w η){l:Nat}{r:Loop}(hx:Γ.X l)(hl:w.heap[l]?=some (.loop r))(ob:Obj){I:Unit->World->Prop}(hI:I () (w.putObj l ob)):Rel { Γ with Inv:=I } s a (w.putObj l ob) η:=by
 have hs:∀k,k≠l->(w.putObj l ob).heap[k]?=w.heap[k]?:=λk hk=>World.putObj_heap_other hk;have he:Ext w (bu Γ w η s.hp) η s.hp (w.putObj l ob) (bu { Γ with Inv:=I } (w.putObj l ob) η s.hp) η s.hp:=by refine⟨λb o v hf hc=>?_,λb es c hf hc=>?_,λb o hf=>⟨hf.1,by simpa using hf.2.1,hf.2.2⟩,λ_ _ h=>h,λ_ _ h=>h,λ_ _ _ h=>h⟩;rw[World.cell?_of_block (hs b λe=>hf.2.2.1 (.inl (e▸hx)))];exact hc;rw[hs b λe=>hf.2.2.1 (.inl (e▸hx))];exact hc
 have Hn:∀(q:Nat)(o:ax)(v:Value)(b:Nat),s.hp[q]?=some o->o.live->η[q]?=some v->da v=some b->b≠l:=by intro q o v b h1 h2 h3 h4 hb;subst hb;exact(hr.cu q o v b h1 h2 h3 h4).2 0 (.inl hx)
 refine⟨hr.nt,λt=>(hr.tmps t).ext he,⟨hr.heap.len,λq o v h1 h2=>?_,hr.heap.sep⟩,hr.cu,?_,hI,?_,hr.ext.trans he⟩
 ·by_cases hv:o.live;exact(hr.heap.obj q o v h1 h2).ext he (by simp) λb hb _=>hs b (Hn q o v b h1 hv h2 hb)
  ·cases o<;>first|exact ai|exact(hv ai).elim
 refine⟨hr.keeps.os,hr.keeps.tape,hr.keeps.output,by simpa using hr.keeps.size,λk hk Du=>?_⟩;rw[hs k λe=>Du (.inl (e▸hx))];exact hr.keeps.block k hk Du;refine⟨λd hd=>?_,hr.marks.apart⟩;obtain⟨q,h1,h2,h3⟩:=hr.marks.all d hd;refine⟨q,h1,?_,h3⟩;rw[hs q λe=>by subst e;rw[hl]at h2;cases h2];exact h2
def uz:List Nat->List AV->(Nat->AV)->Nat->AV
 |p::ps,x::xs,f=>uz ps xs (Cp f p x)|_,_,f=>f
theorem QV{x:List AV}:∀(ps:List Nat)(xs:List AV)(f:Nat->AV)(ts:Array Value)(vs:List Value),(∀p∈ps,p<ts.size)->(∀t,bo w F η hp (f t) (ts.getD t undef))->cC w F η hp xs vs-> ∀t,bo w F η hp (uz ps xs f t) (((ps.zip vs).foldl (λt (p,v)=>t.setIfInBounds p v) ts).getD t undef):=by
 intro ps;induction ps with
  |nil=>intro xs f ts vs _ hf _ t;simp only[uz,List.zip_nil_left,List.foldl_nil];exact hf t|cons p ps ih=>
   intro xs f ts vs YH hf hx t;cases xs with
    |nil=>cases vs with|nil=>simp only[uz,List.zip_nil_right,List.foldl_nil];exact hf t|cons v vs=>exact hx.elim
    |cons x xs=>cases vs with|nil=>exact hx.elim|cons v vs=>simp only[uz,List.zip_cons_cons,List.foldl_cons];refine ih xs (Cp f p x) (ts.setIfInBounds p v) vs (λq hq=>by rw[avY];exact YH q (auz _ hq)) (λt=>?_) hx.2 t;have hp:=YH p auw;rw[gW];by_cases htp:t=p;(subst htp;rw[if_pos rfl];have e:(ts.setIfInBounds t v).getD t undef=v:=by simp[hp]);rw[e];exact hx.1;(rw[if_neg htp];have e:(ts.setIfInBounds p v).getD t undef=ts.getD t undef:=by simp only[au2];rw[avN (avU htp)]);rw[e];exact hf t
theorem Dv:∀(l:List (Nat×Value))(ts:Array Value),(l.foldl (λt (p,v)=>t.setIfInBounds p v) ts).size=ts.size
 | [],_=>rfl|(p,v)::l,ts=>by rw[List.foldl_cons,Dv l];simp
def LY:Code->Exit->Prop
 | .ret,e=>e=.ret| .exit id,e=>e=.exit id|_,_=>False
def Ud(mM:Env Unit)(H:List (List AV)->List ax->Prop)(rest:List (List AV))(Q:Exit->AS Unit->Prop)(f:Nat->AV):Exit->AS Unit->Prop
 | .normal,s'=>∃hp,cW mM s' ⟨λ_=>.top,hp,()⟩/\H rest hp| .ret,s'=>Q .ret ⟨f,s'.hp,()⟩| .exit id,s'=>Q (.exit id) ⟨f,s'.hp,()⟩|_,_=>False
def noQ:Exit->AS Unit->Prop:=λ_ _=>False
structure iZ(Γ:Env Unit)(n:Nat)(mM:Env Unit):Prop where
 ok:mM.Ok
 hP:mM.P=Γ.P
 nt:mM.nt=Γ.nt
 h0:mM.mU.length=n
structure RJ(η:List Value)(hp:List ax)(F1:Cells)(w:World)(rec:LoopState->Option Code->Loop)(m:Nat)(H:List (List AV)->List ax->Prop)(S:Exit->List ax->Prop)
  (D:Cells) (Y:Nat->Prop) (gh:Gh) (W:World) (F:Cells) (bh:List Value) (hp':List ax):Prop where
 pre:qI W F bh hp'
 keeps:cy (aU η hp) w W
 ext:Ext w F1 η hp W F bh hp'
 cu:∀b,aU bh hp' b->w.heap.size<=b\/aU η hp b
 bC:∀b o,F b o->F1 b o\/w.heap.size<=b\/aU η hp b
 Ue:∀b o,F b o->b≠w.heap.size+1
 df:∀b o,D b o->F b o
 y:∀b,Y b->b<W.heap.size/\¬aU bh hp' b/\w.heap.size+2<=b
 fy:∀b o,F b o->Y b->D b o
 size:w.heap.size+2<=W.heap.size
 gw:∀b,lU b->b<w.heap.size
 db:W.heap[w.heap.size]?=some (.deferred (some []))
 st:match gh with
  |some rest=>W.heap[w.heap.size+1]?=some (.loop (rec .ready none))/\H rest hp'/\∀x∈rest,x.length=m
  |none=>∃c e,W.heap[w.heap.size+1]?=some (.loop (rec .done (some c)))/\LY c e/\S e hp'
variable {F1 D D':Cells} {Y Y':Nat->Prop} {gh:Gh} {W W':World} {rec:LoopState->Option Code->Loop} {m:Nat} {H:List (List AV)->List ax->Prop} {S:Exit->List ax->Prop}
theorem RJ.QU(h:RJ η hp F1 w rec m H S D Y gh W F bh hp')(k:Adv D Y W D' Y' W'):RJ η hp F1 w rec m H S D' Y' gh W' (λb o=>F b o\/D' b o) bh hp':=by
 have hE:Ext W F bh hp' W' (λb o=>F b o\/D' b o) bh hp':=by refine⟨λb o v hf hc=>?_,λb es c hf hc=>?_,λb o hf=>.inl hf,λ_ _ h=>h,λ_ _ h=>h,λ_ _ _ h=>h⟩;by_cases hy:Y b;exact k.cell b o v (h.fy b o hf hy) hc;rw[World.cell?_of_block (k.same.block b (h.pre.bC b o hf).1 hy)];exact hc;by_cases hy:Y b;exact k.kH b es c (h.fy b 0 hf hy) hc;rw[k.same.block b (h.pre.bC b 0 hf).1 hy];exact hc
 have cP:=k.same.size;have hnl:∀b,W.heap.size<=b->¬aU bh hp' b:=λb hb hl=>by have:=h.pre.live b hl;omega
 have hly:∀b,aU bh hp' b->¬Y b:=λb hl hy=>(h.y b hy).2.1 hl;have Zm:¬Y (w.heap.size+1):=λhy=>by have:=(h.y _ hy).2.2;omega
 have nY:¬Y w.heap.size:=λhy=>by have:=(h.y _ hy).2.2;omega
 have hs2:=h.size;refine⟨⟨λb o hf=>?_,⟨h.pre.heap.len,λq o v h1 h2=>?_,h.pre.heap.sep⟩,λb hb=>auK (h.pre.live b hb) cP,h.pre.iN.keeps k.same λb hb hy=>(by have:=(h.y b hy).2.2;have:=h.gw b hb;omega),h.pre.gx⟩,h.keeps.trans k.same λi hi hy=>?_,h.ext.trans hE,h.cu,λb o hf=>?_,λb o hf=>?_,λb o hd=>.inr hd,λb hb=>?_,λb o hf hy=>?_,by omega,h.gw,?_,?_⟩;rcases hf with hf|hd;exact⟨auK (h.pre.bC b o hf).1 cP,(h.pre.bC b o hf).2⟩;obtain⟨h1,h2⟩:=k.back b o hd;refine⟨h2,?_⟩;rcases h1 with h1|h1|h1;exact(h.pre.bC b o (h.df b o h1)).2;exact oz h.pre.heap.len (h.y b h1).2.1;exact oz h.pre.heap.len (hnl b h1)
 ·by_cases hv:o.live;exact(h.pre.heap.obj q o v h1 h2).ext hE cP λb hb aE=>k.same.block b aE (hly b ⟨q,o,v,h1,hv,h2,hb⟩)
  ·cases o<;>first|exact ai|exact(hv ai).elim
 have:=(h.y i hy).2.2;omega;rcases hf with hf|hd;exact h.bC b o hf;rcases (k.back b o hd).1 with h1|h1|h1;exact h.bC b o (h.df b o h1);exact .inr (.inl (by have:=(h.y b h1).2.2;omega));exact .inr (.inl (by omega));rcases hf with hf|hd;exact h.Ue b o hf;rcases (k.back b o hd).1 with h1|h1|h1;exact h.Ue b o (h.df b o h1);have:=(h.y b h1).2.2;omega;omega;obtain⟨h1,h2⟩:=k.ads b hb;refine⟨h2,?_,?_⟩;rcases h1 with h1|h1;exact(h.y b h1).2.1;exact hnl b h1;rcases h1 with h1|h1;exact(h.y b h1).2.2;omega;rcases hf with hf|hd;rcases (k.ads b hy).1 with h1|h1;exact k.bC b o (h.fy b o hf h1);have:=(h.pre.bC b o hf).1;omega;exact hd;rw[k.same.block _ (by omega) nY];exact h.db;have tV:=h.st;have e:W'.heap[w.heap.size+1]?=W.heap[w.heap.size+1]?:=k.same.block _ (by omega) Zm;cases gh with|some rest=>simp only[e];exact tV|none=>simp only[e];exact tV
def ja(Γ:Env Unit)(W:World)(F:Cells)(bh:List Value)(hp':List ax)(l:Nat)(I:Unit->World->Prop):Env Unit:={ P:=Γ.P,w0:=W,F0:=F,X:=λb=>b=l,Y:=aU bh hp',Inv:=I,nt:=Γ.nt,Ez:=some l,m0:=λr=>W.heap.size<=r,Z:=λ_ _=>False,Cx:=bh,mU:=hp' }
theorem RJ.after(h:RJ η hp F1 w rec m H S D Y gh W F bh hp')(hD:∀b o,D b o->b<W.heap.size){I:Unit->World->Prop}{f3:Nat->AV}{a3:Act}{w3:World}{Se:List Value}{hp3:List ax}(hr:Rel (ja Γ W F bh hp' (w.heap.size+1) I) ⟨f3,hp3,()⟩ a3 w3 Se)
  {r:Loop} (hl:w3.heap[w.heap.size+1]?=some (.loop r)) (ob:Loop) {gh2:Gh} (tV:∀W':World,W'.heap[w.heap.size+1]?=some (.loop ob)->match gh2 with
   |some rest=>W'.heap[w.heap.size+1]?=some (.loop (rec .ready none))/\H rest hp3/\∀x∈rest,x.length=m
   |none=>∃c e,W'.heap[w.heap.size+1]?=some (.loop (rec .done (some c)))/\LY c e/\S e hp3):
  RJ η hp F1 w rec m H S D Y gh2 (w3.putObj (w.heap.size+1) (.loop ob)) (bu (ja Γ W F bh hp' (w.heap.size+1) (λ_ _=>True)) (w3.putObj (w.heap.size+1) (.loop ob)) Se hp3) Se hp3/\
   Left D Y W D (w3.putObj (w.heap.size+1) (.loop ob)):=by
 have hs2:=h.size;have aE:w.heap.size+1<w3.heap.size:=cf hl;have hr5:Rel (ja Γ W F bh hp' (w.heap.size+1) (λ_ _=>True)) ⟨f3,hp3,()⟩ a3 (w3.putObj (w.heap.size+1) (.loop ob)) Se:=hr.adu (I:=λ_ _=>True) rfl hl (.loop ob) ai;have oA:cy (λb=>b=w.heap.size+1\/aU bh hp' b) W (w3.putObj (w.heap.size+1) (.loop ob)):=hr5.keeps;have cP:=oA.size;have eD:Ext W F bh hp' (w3.putObj (w.heap.size+1) (.loop ob)) (bu (ja Γ W F bh hp' (w.heap.size+1) (λ_ _=>True)) (w3.putObj (w.heap.size+1) (.loop ob)) Se hp3) Se hp3:=hr5.ext;have HJ:∀b,aU Se hp3 b->(W.heap.size<=b\/aU bh hp' b)/\b≠w.heap.size+1:=λb ⟨q,o,v,g1,g2,g3,g4⟩=>
  ⟨(hr5.cu q o v b g1 g2 g3 g4).1,λe=>(hr5.cu q o v b g1 g2 g3 g4).2 0 (.inl e)⟩
 have amF:∀b,aU Se hp3 b->b<(w3.putObj (w.heap.size+1) (.loop ob)).heap.size:=λb ⟨q,o,v,g1,g2,g3,g4⟩=>hr5.heap.block g1 g2 g3 g4;have hgk:∀b,lU b->¬(b=w.heap.size+1\/aU bh hp' b):=λb hb hx=>hx.elim (λe=>by have:=h.gw b hb;omega) (h.pre.gx b hb);refine⟨⟨⟨λb o hf=>⟨hf.2.1,hf.2.2.2⟩,hr5.heap,amF,h.pre.iN.keeps oA hgk,λb hb hl=>(HJ b hl).1.elim (λh1=>by have:=h.gw b hb;omega) (h.pre.gx b hb)⟩,h.keeps.trans oA λi hi hx=>?_,h.ext.trans eD,λb hb=>?_,λb o hf=>?_,λb o hf e=>hf.2.2.1 (.inl e),λb o hd=>eD.bC _ _ (h.df b o hd),λb hb=>⟨?_,λhl=>?_,(h.y b hb).2.2⟩,λb o hf hy=>?_,by omega,h.gw,?_,?_⟩,
  cP,λb o v hd hc=>eD.cell b o v (h.df b o hd) hc,λb es c hd hc=>eD.kH b es c (h.df b 0 hd) hc,λb hb=>?_,λ_ _ h=>h,λb o hd=>⟨.inl hd,?_⟩,λb hb=>oA.block b (by have:=h.gw b hb;omega) (hgk b hb)⟩
 ·rcases hx with rfl|hx
  ·omega
  ·rcases h.cu i hx with h1|h1
   ·omega
   ·exact h1
 ·rcases (HJ b hb).1 with h1|h1
  ·exact .inl (by omega)
  ·exact h.cu b h1
 ·rcases hf.1 with h1|h1|h1
  ·exact h.bC b o h1
  ·have h1':W.heap.size<=b:=h1;exact .inr (.inl (by omega))
  ·exact(h.cu b h1).imp (λh=>.inl h) (λh=>h) |>.elim (λh=>.inr h) λh=>.inr (.inr h)
 ·have:=(h.y b hb).1;omega
 ·rcases (HJ b hl).1 with h1|h1
  ·have:=(h.y b hb).1;omega
  ·exact(h.y b hb).2.1 h1
 ·rcases hf.1 with h1|h1|h1
  ·exact h.fy b o h1 hy
  ·have h1':W.heap.size<=b:=h1;have:=(h.y b hy).1;omega
  ·exact((h.y b hy).2.1 h1).elim
 ·rw[oA.block _ (by omega) λhx=>hx.elim (λe=>by omega) λhx=>Ic h.pre.heap h.db hx];exact h.db
 ·exact tV _ (World.putObj_heap_same aE)
 ·have:=h.y b hb;exact oA.block b this.1 λhx=>hx.elim (λe=>by omega) this.2.1
 ·have:=hD b o hd;omega
theorem ZE(ps:Array Nat)(vals:List Value)(ts:Array Value):(ps.zip vals.toArray).foldl (λtmps (t,a)=>tmps.setIfInBounds t a) ts=(ps.toList.zip vals).foldl (λt (p,v)=>t.setIfInBounds p v) ts:=by rw[<-Array.foldl_toList];simp
theorem RJ.round{ps:Array Tmp}{AB body:Code}{fn:Nat}{Q:Exit->AS Unit->Prop}{f:Nat->AV}(ha:a.tmps.size=Γ.nt)(YH:∀p∈ps.toList,p<Γ.nt)(hf:∀t,bo w F1 η hp (f t) (a.tmps.getD t undef))(wh:rec=λst pe=>{ state:=st,pending:=pe,fn:=fn,tmps:=a.tmps,params:=ps,assign:=AB,body:=body,defers:=w.heap.size })(s7:∀x rest hp,H (x::rest) hp->∃N:AS Unit->Prop,(∀mM,iZ Γ hp.length mM->gu mM AB (sH N noQ) ⟨uz ps.toList x f,hp,()⟩)/\∀s1,N s1->∀mM,iZ Γ hp.length mM->gu mM body (Ud mM H rest Q f) s1){x:List AV}{rest:List (List AV)}{vals:List Value}(h:RJ η hp F1 w rec ps.size H (λe hp=>Q e ⟨f,hp,()⟩) D Y (some (x::rest)) W F bh hp')(hD:∀b o,D b o->b<W.heap.size)(hv:cC W D [] [] x vals): T8 Γ.P (.func (.yield (w.heap.size+1)) #[] #[]) vals W λe w'=>∃b,e=.returned (.bool b)/\(∃F bh hp',RJ η hp F1 w rec ps.size H (λe hp=>Q e ⟨f,hp,()⟩) D Y (gT b rest) w' F bh hp')/\Left D Y W D w':=by
 generalize hR:(fun(e:Ending) (w':World)=>∃b,e=.returned (.bool b)/\(∃F bh hp',RJ η hp F1 w rec ps.size H (λe hp=>Q e ⟨f,hp,()⟩) D Y (gT b rest) w' F bh hp')/\Left D Y W D w')=R;obtain⟨hl,hH,hlen⟩:=h.st;have hs2:=h.size;have Y3:=hv.length;have hxl:=hlen x auw;have hy:=run_yield (P:=Γ.P) (args:=vals.toArray) hl (by rw[wh];simp;omega);refine⟨_,_,_,_,_,rfl,hy,roundIn_of_wpIn (F:=Fence.wide) (P:=Γ.P) trivial ?_⟩;obtain⟨N,amG,kS⟩:=s7 x rest hp' hH;rw[wh];simp only[ZE];have ZF:∀I:Unit->World->Prop,(∀(w1 w2:World),w2.heap[w.heap.size+1]?=w1.heap[w.heap.size+1]?->I () w1->I () w2)->iZ Γ hp'.length (ja Γ W F bh hp' (w.heap.size+1) I):=λI hI=> ⟨⟨h.pre.heap.len,λb hb=>by have:b=w.heap.size+1:=hb;show b<W.heap.size;omega,h.pre.live,λg w1 w2 hx _ hi=>hI w1 w2 (hx _ rfl) hi,λ_ _ h=>h.elim,h.pre.iN,λb hb hx=>hx.elim (λe=>by have:b=w.heap.size+1:=e;have:=h.gw b hb;omega) (h.pre.gx b hb)⟩,rfl,rfl,rfl⟩;have hnl:=Dt h.pre.heap hl;have CD:∀(I:Unit->World->Prop) b o,F b o->bu (ja Γ W F bh hp' (w.heap.size+1) I) W bh hp' b o:=λI b o hf=>⟨.inl hf,(h.pre.bC b o hf).1,λhx=>hx.elim (λe=>h.Ue b o hf e) λh=>h,(h.pre.bC b o hf).2⟩;let I1:Unit->World->Prop:=λ_ w1=>w1.heap[w.heap.size+1]?=some (.loop (rec .ready none));let I2:Unit->World->Prop:=λ_ w1=>w1.heap[w.heap.size+1]?=some (.loop { rec .ready none with state:=.busy });have hE:Ext W F bh hp' W (bu (ja Γ W F bh hp' (w.heap.size+1) I1) W bh hp') bh hp':=⟨λ_ _ _ _ h=>h,λ_ _ _ _ h=>h,CD I1,λ_ _ h=>h,λ_ _ h=>h,λ_ _ _ h=>h⟩;have hrel:Rel (ja Γ W F bh hp' (w.heap.size+1) I1) ⟨uz ps.toList x f,hp',()⟩ ⟨(ps.toList.zip vals).foldl (λt (p,v)=>t.setIfInBounds p v) a.tmps,[]⟩ W bh:=by refine⟨by rw[Dv];exact ha,QV (x:=x) ps.toList x f a.tmps vals (λp hp=>by rw[ha];exact YH p hp) (λt=>((hf t).ext h.ext).ext hE) ?_,⟨h.pre.heap.len,λq o v h1 h2=>(h.pre.heap.obj q o v h1 h2).ext hE (aum _) λ_ _ _=>rfl,h.pre.heap.sep⟩, λq o v b h1 h2 h3 h4=>⟨.inr ⟨q,o,v,h1,h2,h3,h4⟩,λ_ hx=>hx.elim (λe=>hnl (e▸⟨q,o,v,h1,h2,h3,h4⟩)) λh=>h⟩,cy.refl _ _,hl,⟨λd hd=>(by cases hd),List.Pairwise.nil⟩,hE⟩;exact dM hv.length λj y u hy hu=>((hv.get j y u hy hu).bC λb o hd=>CD I1 b o (h.df b o hd)).lift
 have h1:=amG _ (ZF I1 λw1 w2 e hi=>by show w2.heap[_]?=_;rw[e];exact hi) _ _ _ hrel;refine wpIn_mono (F:=Fence.wide.inRound (w.heap.size+1)) h1 λe a1 w1 ⟨s1,oS,hN,Ct⟩=>?_;cases e with
  |normal=>have yU:w1.heap[w.heap.size+1]?=some (.loop (rec .ready none)):=Ct.inv;have Tr:w.heap.size+1<w1.heap.size:=cf yU;refine⟨_,run_beginRound yU (by rw[wh]),?_⟩;have ot:Rel (ja Γ W F bh hp' (w.heap.size+1) I2) s1 a1 (w1.putObj (w.heap.size+1) (.loop { rec .ready none with state:=.busy })) oS:=Ct.adu (I:=I2) rfl yU _ (World.putObj_heap_same Tr);have h2:=kS s1 hN _ (ZF I2 λw1 w2 e hi=>by show w2.heap[_]?=_;rw[e];exact hi) _ _ _ ot;refine wpIn_mono (F:=Fence.wide.inRound (w.heap.size+1)) h2 λe a3 w3 ⟨s3,Se,hq,Lu⟩=>?_;have Zf:w3.heap[w.heap.size+1]?=some (.loop { rec .ready none with state:=.busy }):=Lu.inv;cases e with|normal=>(obtain⟨hp3,hw,hH3⟩:=hq;obtain⟨η4,hr4⟩:=hw _ _ _ Lu;have hra:=RJ.after (gh2:=some rest) h hD hr4 Zf (rec .ready none) λW' YI=>⟨YI,hH3,λy hy=>hlen y (auz _ hy)⟩;have he:=run_endRound (P:=Γ.P) none Zf;have e2:({ { rec .ready none with state:=.busy } with state:=if(none:Option Code).isNone then .ready else .done,pending:=none }:Loop)=rec .ready none:=by rw[wh];rfl);rw[e2]at he;exact⟨_,_,he,by rw[<-hR];exact⟨true,rfl,⟨_,_,_,hra.1⟩,hra.2⟩⟩|ret=>(have hra:=RJ.after (gh2:=none) h hD (f3:=s3.tmps) (hp3:=s3.hp) Lu Zf (rec .done (some .ret)) λW' YI=>⟨.ret,.ret,YI,rfl,hq⟩;have he:=run_endRound (P:=Γ.P) (some .ret) Zf;have e2:({ { rec .ready none with state:=.busy } with state:=if(some Code.ret).isNone then .ready else .done,pending:=some .ret }:Loop)=rec .done (some .ret):=by rw[wh];rfl);rw[e2]at he;exact⟨_,_,he,by rw[<-hR];exact⟨false,rfl,⟨_,_,_,hra.1⟩,hra.2⟩⟩|exit id=>(have hra:=RJ.after (gh2:=none) h hD (f3:=s3.tmps) (hp3:=s3.hp) Lu Zf (rec .done (some (.exit id))) λW' YI=>⟨.exit id,.exit id,YI,rfl,hq⟩;have he:=run_endRound (P:=Γ.P) (some (.exit id)) Zf;have e2:({ { rec .ready none with state:=.busy } with state:=if(some (Code.exit id)).isNone then .ready else .done,pending:=some (.exit id) }:Loop)=rec .done (some (.exit id)):=by rw[wh];rfl);rw[e2]at he;exact⟨_,_,he,by rw[<-hR];exact⟨false,rfl,⟨_,_,_,hra.1⟩,hra.2⟩⟩|_=>exact hq.elim
  |_=>exact hN.elim
theorem RJ.back(aK:Γ.Ok)(ic:Γ.K1)(hr:Rel Γ s a w η)(h:RJ η s.hp (bu Γ w η s.hp) w rec m H S D Y gh W F bh hp'){r:Loop}(hl:W.heap[w.heap.size+1]?=some (.loop r))(ob:Loop): Rel Γ ⟨s.tmps,hp',()⟩ { a with defers:={ target:=.collected w.heap.size,args:=#[] }::a.defers } (W.putObj (w.heap.size+1) (.loop ob)) bh:=by
 have hs:∀k,k≠w.heap.size+1->(W.putObj (w.heap.size+1) (.loop ob)).heap[k]?=W.heap[k]?:=λk hk=>World.putObj_heap_other hk;have cP:=hr.keeps.size;have hs2:=h.size;have eE:∀b,aU η s.hp b->(Γ.w0.heap.size<=b\/Γ.Y b)/\∀o,¬Γ.No b o:=λb ⟨q,o,v,g1,g2,g3,g4⟩=>hr.cu q o v b g1 g2 g3 g4;have CD:∀b o,F b o->bu Γ (W.putObj (w.heap.size+1) (.loop ob)) bh hp' b o:=by intro b o hf;have h1:=h.pre.bC b o hf;refine⟨?_,by simpa using h1.1,?_,h1.2⟩;rcases h.bC b o hf with g|g|g;exact g.1;exact .inr (.inl (by omega));exact .inr (eE b g).1;rcases h.bC b o hf with g|g|g;exact g.2.2.1;intro hx;have:=aK.no hx;omega;exact(eE b g).2 o
 have hE:Ext W F bh hp' (W.putObj (w.heap.size+1) (.loop ob)) (bu Γ (W.putObj (w.heap.size+1) (.loop ob)) bh hp') bh hp':=by refine⟨λb o v hf hc=>?_,λb es c hf hc=>?_,CD,λ_ _ h=>h,λ_ _ h=>h,λ_ _ _ h=>h⟩;rw[World.cell?_of_block (hs b (h.Ue b o hf))];exact hc;rw[hs b (h.Ue b 0 hf)];exact hc
 have hET:=h.ext.trans hE;have Hn:∀b,aU bh hp' b->b≠w.heap.size+1:=λb hb e=>Dt h.pre.heap hl (e▸hb);refine⟨hr.nt,λt=>(hr.tmps t).ext hET,⟨h.pre.heap.len,λq o v h1 h2=>?_,h.pre.heap.sep⟩,λq o v b h1 h2 h3 h4=>?_,?_,?_,?_,hr.ext.trans hET⟩
 ·by_cases hv:o.live;exact(h.pre.heap.obj q o v h1 h2).ext hE (by simp) λb hb _=>hs b (Hn b ⟨q,o,v,h1,hv,h2,hb⟩)
  ·cases o<;>first|exact ai|exact(hv ai).elim
 rcases h.cu b ⟨q,o,v,h1,h2,h3,h4⟩ with g|g;exact⟨.inl (by omega),λo hx=>by have:=aK.no hx;omega⟩;exact eE b g;refine⟨h.keeps.os.trans hr.keeps.os,h.keeps.tape.trans hr.keeps.tape,h.keeps.output.trans hr.keeps.output,by simp;omega,λk hk hx=>?_⟩;rw[hs k (by omega),h.keeps.block k (by omega) λhl=>?_];exact hr.keeps.block k hk hx;rcases (eE k hl).1 with g|g;omega;exact hx (.inr g);refine aK.qx _ _ _ (λb hb=>?_) (by simp;omega) hr.inv;have hb0:=aK.x b hb;rw[hs b (by omega),h.keeps.block b (by omega) λhl=>(eE b hl).2 0 (.inl hb)];refine⟨λd hd=>?_,List.pairwise_cons.2 ⟨λd hd=>?_,hr.marks.apart⟩⟩;rcases auJ.1 hd with rfl|hd;exact⟨_,rfl,by rw[hs _ (by omega)];exact h.db,ic.2 _ cP⟩;obtain⟨q,g1,g2,g3⟩:=hr.marks.all d hd;have hq:=cf g2;refine⟨q,g1,?_,g3⟩;rw[hs q (by omega),h.keeps.block q hq λhl=>Ic hr.heap g2 hl];exact g2;obtain⟨q,g1,g2,g3⟩:=hr.marks.all d hd;have hq:=cf g2;rw[g1];simp;omega
theorem gu.range(aK:Γ.Ok)(ic:Γ.K1){g:Operand}{ps:Array Tmp}{AB body:Code}{Q:Exit->AS Unit->Prop}{gf:Nat}{caps:List AV}{L:List (List AV)}(hg:s.ev g=.bw gf caps)(ahh:vO Γ.P gf (λv=>v::caps.map (AV.sX 0 s.hp)) L false)(hlen:∀x∈L,x.length=ps.size)(YH:∀p∈ps.toList,p<Γ.nt)(H:List (List AV)->List ax->Prop)(h0:H L s.hp)(s7:∀x rest hp,H (x::rest) hp->∃N:AS Unit->Prop,(∀mM,iZ Γ hp.length mM->gu mM AB (sH N noQ) ⟨uz ps.toList x s.tmps,hp,()⟩)/\∀s1,N s1->∀mM,iZ Γ hp.length mM->gu mM body (Ud mM H rest Q s.tmps) s1)(Oj:∀hp,H [] hp->Q .normal ⟨s.tmps,hp,()⟩):gu Γ (.rangeFunc g ps AB body) Q s:=by (intro a w η hr;refine wpIn_rangeFunc λfn hfn=>?_;have sk:Γ.fR.round=none:=ic.1;rw[sk];obtain⟨rec,wh⟩:∃rec:LoopState->Option Code->Loop,rec=λst pe=>{ state:=st,pending:=pe,fn:=fn,tmps:=a.tmps,params:=ps,assign:=AB,body:=body,defers:=w.heap.size }:=⟨_,rfl⟩;obtain⟨W1,hW1⟩:∃W1,(w.alloc (.deferred (some []))).alloc (.loop (rec .ready none))=W1:=⟨_,rfl⟩;have iR:ck w W1:=by rw[<-hW1];exact(ck.alloc w _).trans (ck.alloc _ _));(have amH:W1.heap.size=w.heap.size+2:=by rw[<-hW1];simp);(have ZG:W1.heap[w.heap.size+1]?=some (.loop (rec .ready none)):=by rw[<-hW1];have:=World.alloc_heap_new (w.alloc (.deferred (some []))) (.loop (rec .ready none));rwa [World.size_alloc]at this);(have hK1:W1.heap[w.heap.size]?=some (.deferred (some [])):=by rw[<-hW1];exact(heap_alloc_old _ _ (by simp)).trans (World.alloc_heap_new w _));have ZH:=hr.ev g;rw[hg]at ZH;generalize hgv:a.eval g=v at ZH;cases ZH with|bw _ _ vs Y3 hvr=>refine⟨w.heap.size+1,[{ target:=.collected w.heap.size,args:=#[] }],W1,{ target:=.fn (.func gf) vs,args:=#[.func (.yield (w.heap.size+1)) #[] #[]] },W1,gf, #[.func (.yield (w.heap.size+1)) #[] #[]]++vs,W1,?_,?_,λ_ _=>trivial,?_,λh=>(by cases h),?_⟩;rw[<-hW1,wh];exact run_enterLoop_outer _ _ _ _ _;simp only[resolve,hgv];simp[go_sem];simp[invoke,pc ahh.1];let J:JT:=λD Y gh W=>∃F bh hp',RJ η s.hp (bu Γ w η s.hp) w rec ps.size H (λe hp=>Q e ⟨s.tmps,hp,()⟩) D Y gh W F bh hp';have hC:Cons Γ.P (.func (.yield (w.heap.size+1)) #[] #[]) J:= ⟨rfl,λD Y gh W D' Y' W' ⟨F,bh,hp',h⟩ k=>⟨_,_,_,h.QU k⟩,λD Y x rest W vals ⟨F,bh,hp',h⟩ hD hY _ hv=>h.round hr.nt YH hr.tmps wh s7 hD hv⟩;have he1:Ext w (bu Γ w η s.hp) η s.hp W1 (bu Γ w η s.hp) η s.hp:= ⟨λb o v hf hc=>by rw[World.cell?_of_block (iR.block b hf.2.1)];exact hc,λb es c hf hc=>by rw[iR.block b hf.2.1];exact hc,λ_ _ h=>h,λ_ _ h=>h,λ_ _ h=>h,λ_ _ _ h=>h⟩;(have eE:∀b,aU η s.hp b->b<w.heap.size:=λb ⟨q,o,v,g1,g2,g3,g4⟩=>hr.heap.block g1 g2 g3 g4;have hJ:J (bu Γ w η s.hp) (λ_=>False) (some (L++[])) W1:=by rw[auD];refine⟨_,_,_,⟨⟨λb o hf=>⟨auK hf.2.1 iR.size,hf.2.2.2⟩,⟨hr.heap.len,λq o v h1 h2=>(hr.heap.obj q o v h1 h2).ext he1 iR.size λb _ aE=>iR.block b aE,hr.heap.sep⟩,λb hb=>auK (eE b hb) iR.size,(hr.iN aK).same iR,λb hb hl=>hr.gx aK hb hl⟩,iR.keeps _,he1,λb hb=>.inr hb,λb o hf=>.inl hf, λb o hf=>by have:=hf.2.1;omega,λ_ _ h=>h,λ_ h=>h.elim,λ_ _ _ h=>h.elim,by omega,λb hb=>(hr.iN aK).lt hb,hK1,⟨ZG,h0,hlen⟩⟩⟩);(have ahk:cC W1 (bu Γ w η s.hp) [] [] (.fn (.func (.yield (w.heap.size+1)) #[] #[])::caps.map (AV.sX 0 s.hp)) (.func (.yield (w.heap.size+1)) #[] #[]::vs.toList):=by refine⟨.fn _ rfl,?_⟩;have dL:cC w (bu Γ w η s.hp) η s.hp caps vs.toList:=dM (by simpa using Y3) λj y u hy hu=>hvr j y u hy (by simpa using hu);exact cC.ext ⟨he1.cell,he1.kH,he1.bC,λ_ _ h=>h,λ_ _ h=>h,λ_ _ _ h=>h⟩ (ow hr _ _ dL));(have hav:(#[.func (.yield (w.heap.size+1)) #[] #[]]++vs:Array Value)=(.func (.yield (w.heap.size+1)) #[] #[]::vs.toList:List Value).toArray:=by apply avy;simp);have eg:=ahh.2 J _ hC (bu Γ w η s.hp) (λ_=>False) [] W1 _ hJ (λb o hf=>auK hf.2.1 iR.size) (λ_ h=>h.elim) ((hr.iN aK).same iR) ahk;rw[hav];refine CallsIn.mono (F:=Γ.fR) (R:=λe w'=>∃v D' b,e=.returned v/\YR false b v/\J D' (λ_=>False) (gT b []) w'/\Left (bu Γ w η s.hp) (λ_=>False) W1 D' w') eg λe w3 ⟨v,D',b,he,_,⟨F,bh,hp',hj⟩,_⟩=>?_;subst he;cases b with|true=>obtain⟨hl,hH,_⟩:=hj.st;have:=run_endLoop (P:=Γ.P) hl (by rw[wh];simp);rw[wh]at this;exact⟨none,_,this,⟨s.tmps,hp',()⟩,bh,Oj _ hH,hj.back aK ic hr hl _⟩|false=>obtain⟨c,e,hl,Ol,hS⟩:=hj.st;have:=run_endLoop (P:=Γ.P) hl (by rw[wh];simp);rw[wh]at this;refine⟨some c,_,this,?_⟩;(cases c<;>simp only[LY]at Ol<;>first|exact Ol.elim|skip);subst Ol;exact wpIn_exit ⟨_,bh,hS,hj.back aK ic hr hl _⟩;subst Ol;exact wpIn_ret ⟨_,bh,hS,hj.back aK ic hr hl _⟩
end
end Go.Proofs.YthnnplohnceogaaGreatDoor
