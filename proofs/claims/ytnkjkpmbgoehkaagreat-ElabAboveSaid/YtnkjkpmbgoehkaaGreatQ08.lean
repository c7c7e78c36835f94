/- Texts of ours laid together for a claim: FilT. -/
import Derived.Laws.Cover3
import Derived.Test.YtnkjkpmbgoehkaaGreatQ07
namespace Go.Proofs.YtnkjkpmbgoehkaaGreat
open Go
set_option linter.unusedSimpArgs false
set_option linter.unusedVariables false
variable {G:Type} {Γ:Env G} {s s':AS G} {a:Act} {w w':World} {η:List Value} {hp:List ab} {P:Program} {ops:Array Oper}
def kI (s:AS G):Op->Option (Nat×List AV)
 | .call c=>(match c.callee with
  | .value x=>(match s.ev x with
   | .bf f caps=>some (f,c.args.toList.map s.ev++caps)
   |_=>none)
  |_=>none)
 |_=>none
def Xl (tab:Nat->Option TD) (ρ:Operand->AV):Op->Option AV
 | .slice T x none (some h) none=>(match tab T,ρ x,ρ h with
  |some d,.ae (.slice none 0 0),.ae (.int _ n)=>(match d.kind with
   | .kC e=>if n=0/\(tab e).isSome=true then some (.ae (.slice none 0 0)) else none
   |_=>none)
  |_,_,_=>none)
 | .call c=>(match c.callee,c.args.toList,c.argTypes.toList with
  | .builtin .cap,[x],[T]=>(match tab T,ρ x with
   |some d,.ae (.slice none 0 0)=>(match d.kind with
    | .kC _=>some (.ae (.int .i64 0))
    |_=>none)
   |_,_=>none)
  |_,_,_=>none)
 |_=>none
theorem Hb {tab:Nat->Option TD} (ah:aL Γ.P tab) {o:Oper} {r:AV} (h:Xl tab s.ev o.op=some r):fE Γ o s r:=by
 generalize ho:o.op=op at h;unfold Xl at h;split at h
 ·rename_i T x h';split at h
  ·rename_i d k n hd hx hh;split at h
   ·rename_i e hk;split at h
    ·rename_i hn;obtain⟨rfl,he⟩:=hn;obtain rfl:=alj h;refine aH fun a w η hr=>?_;obtain⟨d',dy⟩:=Option.isSome_iff_exists.1 he;have hu:Γ.P.underlying T=some (.slice e):=by
      obtain⟨u,q2,q3⟩:=(ah T d hd).lj;rw[hk] at q3;rw[q2];exact congrArg some q3
     have h1:=hr.ev x;rw[hx] at h1;have h1:=h1.aj;have h2:=hr.ev h';rw[hh] at h2;have h2:=h2.aj;have qF:=(ah e d' dy).run_sizeOf w;have hs:=run_sliceBound (P:=Γ.P) w (v:=.int k 0) (k:=k) (n:=0) rfl (y:=0) (by omega) (by omega) .sliceAcap;refine⟨.slice none 0 0,?_,.ae _⟩;have fY:(Instr.sliceBounds true 0 0 none (some (.int k 0)) none).run Γ.P w=.ok (0,0,0) w:=by
      simp[Instr.sliceBounds,hs]
     simp only[execOp,ho,Instr.sliceAt,Sem.run_bind,run_underlying hu,Result.andThen_ok,Instr.slice,h1,h2,Option.map_none,alN,fY,qF,Sem.run_pure];simp
    ·cases h
   ·cases h
  ·cases h
 ·rename_i c;split at h
  ·rename_i x T hb hl hT;split at h
   ·rename_i d hd hx;split at h
    ·rename_i e hk;obtain rfl:=alj h;refine aH fun a w η hr=>?_;have hu:Γ.P.underlying T=some (.slice e):=by
      obtain⟨u,q2,q3⟩:=(ah T d hd).lj;rw[hk] at q3;rw[q2];exact congrArg some q3
     have h1:=hr.ev x;rw[hx] at h1;have h1:=h1.aj;have oM:c.argTypes=#[T]:=by rw[<-alV (xs:=c.argTypes),hT]
     have aw:c.args=#[x]:=by rw[<-alV (xs:=c.args),hl]
     refine⟨.int .i64 0,?_,.ae _⟩;simp only[execOp,ho,resolve,hb,Sem.run_bind,Sem.run_pure,Result.andThen_ok,invoke,builtin,oM,aw,amI,alQ,ama,h1];simp[Builtin.cap_,run_underlying hu,goInt]
    ·cases h
   ·cases h
  ·cases h
 ·cases h
def Hc (tab:Nat->Option TD) (ρ:Operand->AV):Op->Option (List AV×Bool)
 | .binOp op T x y _=>(match tab T,ρ x,ρ y with
  |some d,.sl els,.ae (.slice none 0 0)=>(match d.kind,op with
   | .kC _,.eql=>some (els,true)
   | .kC _,.neq=>some (els,false)
   |_,_=>none)
  |_,_,_=>none)
 |_=>none
theorem bq.nil {tab:Nat->Option TD} (ah:aL Γ.P tab) {o:Oper} {els:List AV} {b0:Bool} (h:Hc tab s.ev o.op=some (els,b0)) (hd:cP Γ.nt o.dst) {K:AS G->Prop} (hK:∀b:Bool,(els≠[]->b=!b0)->K (s.put o.dst (.ae (.bool b)))):bq Γ o s K:=by
 generalize ho:o.op=op at h;unfold Hc at h;split at h
 ·rename_i bop T x y T';split at h
  ·rename_i d oE hdT hx hy;have key:∀(e:Nat),d.kind=.kC e->(bop=.eql/\b0=true\/bop=.neq/\b0=false)->oE=els->bq Γ o s K:=by
    intro e hk hop he;subst he;intro a w η Kc Qc zi hr;have hu:Γ.P.underlying T=some (.slice e):=by
     obtain⟨u,q2,q3⟩:=(ah T d hdT).lj;rw[hk] at q3;rw[q2];exact congrArg some q3
    have h1:=hr.ev x;rw[hx] at h1;have h2:=hr.ev y;rw[hy] at h2;have h2:=h2.aj;have hv:∃ad l c,a.eval x=.slice ad l c/\(oE≠[]->ad.isNone=false):=by
     generalize a.eval x=v at h1
     cases h1 with
     |oc=>exact⟨_,_,_,rfl,fun h=>(h rfl).elim⟩
     |sl size els b o c f hc hm hl aA hr=>exact⟨_,_,_,rfl,fun _=>rfl⟩
    obtain⟨ad,l,c,hv,bL⟩:=hv;have hq:=run_equal_slice_nil (P:=Γ.P) w T e ad l c hu;have fY:∃b:Bool,(oE≠[]->b=!b0)/\(execOp a.eval o).run Γ.P w=.ok (.value (.bool b)) w:=by
     rcases hop with⟨rfl,rfl⟩|⟨rfl,rfl⟩
     ·refine⟨ad.isNone,fun h=>by rw[bL h];rfl,?_⟩;simp only[execOp,ho,hv,h2,eqGuard,binOp,Sem.run_bind,aml,alx,if_false,hq,Result.andThen_ok,Sem.run_pure]
     ·refine⟨!ad.isNone,fun h=>by rw[bL h],?_⟩;simp only[execOp,ho,hv,h2,eqGuard,binOp,Sem.run_bind,aml,alx,if_false,hq,Result.andThen_ok,Sem.run_pure]
    obtain⟨b,hb,hex⟩:=fY;refine⟨fun _ _=>trivial,?_⟩;rw[kl hex (.inl ⟨_,rfl⟩)];exact zi _ _ _ _ (hK b hb) (hr.put (bT hd) (.ae _))
   split at h
   ·rename_i e hk;simp only[alh,alk] at h;exact key e hk (.inl ⟨rfl,h.2.symm⟩) h.1
   ·rename_i e hk;simp only[alh,alk] at h;exact key e hk (.inr ⟨rfl,h.2.symm⟩) h.1
   ·cases h
  ·cases h
 ·cases h
theorem ej.Zf {c:Operand} {x y:Code} {Q:Exit->AS G->Prop} {t:Bool} (h:s.ev c=.ae (.bool t)) (h1:t=true->ej Γ x Q s) (h2:t=false->ej Γ y Q s):ej Γ (.cond c x y) Q s:=
 ej.Za fun _ _ k1 k2=>by rw[h];exact⟨fun ht=>k1 (h1 ht),fun ht=>k2 (h2 ht)⟩
theorem ej.Zg (al:Γ.Ok) {tab:Nat->Option TD} (ah:aL Γ.P tab) {nt:Nat} (dj:nt=Γ.nt) (hm:Γ.P.follows .mixedOrders=true) {id:Nat} {l:List Oper} {Q:Exit->AS G->Prop} (hd:wW l=true) (h:mC Γ tab nt l.toArray (Q .normal) l s):ej Γ (.region id l.toArray true) Q s:=
 ej.draw al hm hd (mC.sound al ah dj l s h)
end Go.Proofs.YtnkjkpmbgoehkaaGreat
