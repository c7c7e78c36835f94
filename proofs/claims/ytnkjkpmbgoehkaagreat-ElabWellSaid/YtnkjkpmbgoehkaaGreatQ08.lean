/- Lemmas. -/
import Derived.Laws.Cover3
import Derived.Test.YtnkjkpmbgoehkaaGreatQ07
namespace Go.Proofs.YtnkjkpmbgoehkaaGreat
open Go
open Go.Result renaming andThen_ok->al
open Go.Sem renaming run_bind->ao,run_pure->aq
set_option linter.unusedSimpArgs false
set_option linter.unusedVariables false
variable {G:Type} {Γ:Env G} {s s':AS G} {a:Act} {w w':World} {η:List Value} {hp:List aw} {P:Program} {ops:Array Oper}
def ma (s:AS G):Op->Option (Nat×List AV)
 | .call c=>(match c.callee with
  | .value x=>(match s.ev x with
   | .bz f caps=>some (f,c.args.toList.map s.ev++caps)
   |_=>none)
  |_=>none)
 |_=>none
def abQ (tab:Nat->Option TD) (ρ:Operand->AV):Op->Option AV
 | .slice T x none (some h) none=>(match tab T,ρ x,ρ h with
  |some d,.ax (.slice none 0 0),.ax (.int _ n)=>(match d.kind with
   | .lU e=>if n=0/\(tab e).isSome=true then some (.ax (.slice none 0 0)) else none
   |_=>none)
  |_,_,_=>none)
 | .call c=>(match c.callee,c.args.toList,c.argTypes.toList with
  | .builtin .cap,[x],[T]=>(match tab T,ρ x with
   |some d,.ax (.slice none 0 0)=>(match d.kind with
    | .lU _=>some (.ax (.int .i64 0))
    |_=>none)
   |_,_=>none)
  |_,_,_=>none)
 |_=>none
theorem J7 {tab:Nat->Option TD} (aA:bc Γ.P tab) {o:Oper} {r:AV} (h:abQ tab s.ev o.op=some r):gq Γ o s r:=by
 generalize ho:o.op=op at h;unfold abQ at h;split at h
 ·rename_i T x h';split at h
  ·rename_i d k n hd hx hh;split at h
   ·rename_i e hk;split at h
    ·rename_i hn;obtain⟨rfl,he⟩:=hn;obtain rfl:=aqs h;refine aZ fun a w η hr=>?_;obtain⟨d',ef⟩:=Option.isSome_iff_exists.1 he;have hu:Γ.P.underlying T=some (.slice e):=by
      obtain⟨u,q2,q3⟩:=(aA T d hd).mK;rw[hk] at q3;rw[q2];exact congrArg some q3
     have h1:=hr.ev x;rw[hx] at h1;have h1:=h1.aC;have h2:=hr.ev h';rw[hh] at h2;have h2:=h2.aC;have sF:=(aA e d' ef).run_sizeOf w;have hs:=run_sliceBound (P:=Γ.P) w (v:=.int k 0) (k:=k) (n:=0) rfl (y:=0) (by omega) (by omega) .sliceAcap;refine⟨.slice none 0 0,?_,.ax _⟩;have gX:(Instr.sliceBounds true 0 0 none (some (.int k 0)) none).run Γ.P w=.ok (0,0,0) w:=by
      simp[Instr.sliceBounds,hs]
     simp only[execOp,ho,Instr.sliceAt,ao,run_underlying hu,al,Instr.slice,h1,h2,Option.map_none,aq1,gX,sF,aq];simp
    ·cases h
   ·cases h
  ·cases h
 ·rename_i c;split at h
  ·rename_i x T hb hl hT;split at h
   ·rename_i d hd hx;split at h
    ·rename_i e hk;obtain rfl:=aqs h;refine aZ fun a w η hr=>?_;have hu:Γ.P.underlying T=some (.slice e):=by
      obtain⟨u,q2,q3⟩:=(aA T d hd).mK;rw[hk] at q3;rw[q2];exact congrArg some q3
     have h1:=hr.ev x;rw[hx] at h1;have h1:=h1.aC;have qE:c.argTypes=#[T]:=by rw[<-aq8 (xs:=c.argTypes),hT]
     have aN:c.args=#[x]:=by rw[<-aq8 (xs:=c.args),hl]
     refine⟨.int .i64 0,?_,.ax _⟩;simp only[execOp,ho,resolve,hb,ao,aq,al,invoke,builtin,qE,aN,arY,aqS,arl,h1];simp[Builtin.cap_,run_underlying hu,goInt]
    ·cases h
   ·cases h
  ·cases h
 ·cases h
def J8 (tab:Nat->Option TD) (ρ:Operand->AV):Op->Option (List AV×Bool)
 | .binOp op T x y _=>(match tab T,ρ x,ρ y with
  |some d,.sl els,.ax (.slice none 0 0)=>(match d.kind,op with
   | .lU _,.eql=>some (els,true)
   | .lU _,.neq=>some (els,false)
   |_,_=>none)
  |_,_,_=>none)
 |_=>none
theorem bO.nil {tab:Nat->Option TD} (aA:bc Γ.P tab) {o:Oper} {els:List AV} {b0:Bool} (h:J8 tab s.ev o.op=some (els,b0)) (hd:dC Γ.nt o.dst) {K:AS G->Prop} (hK:∀b:Bool,(els≠[]->b=!b0)->K (s.put o.dst (.ax (.bool b)))):bO Γ o s K:=by
 generalize ho:o.op=op at h;unfold J8 at h;split at h
 ·rename_i bop T x y T';split at h
  ·rename_i d qx hdT hx hy;have key:∀(e:Nat),d.kind=.lU e->(bop=.eql/\b0=true\/bop=.neq/\b0=false)->qx=els->bO Γ o s K:=by
    intro e hk hop he;subst he;intro a w η Kc Qc yP hr;have hu:Γ.P.underlying T=some (.slice e):=by
     obtain⟨u,q2,q3⟩:=(aA T d hdT).mK;rw[hk] at q3;rw[q2];exact congrArg some q3
    have h1:=hr.ev x;rw[hx] at h1;have h2:=hr.ev y;rw[hy] at h2;have h2:=h2.aC;have hv:∃ad l c,a.eval x=.slice ad l c/\(qx≠[]->ad.isNone=false):=by
     generalize a.eval x=v at h1
     cases h1 with
     |qq=>exact⟨_,_,_,rfl,fun h=>(h rfl).elim⟩
     |sl size els b o c f hc hm hl aR hr=>exact⟨_,_,_,rfl,fun _=>rfl⟩
    obtain⟨ad,l,c,hv,cg⟩:=hv;have hq:=run_equal_slice_nil (P:=Γ.P) w T e ad l c hu;have gX:∃b:Bool,(qx≠[]->b=!b0)/\(execOp a.eval o).run Γ.P w=.ok (.value (.bool b)) w:=by
     rcases hop with⟨rfl,rfl⟩|⟨rfl,rfl⟩
     ·refine⟨ad.isNone,fun h=>by rw[cg h];rfl,?_⟩;simp only[execOp,ho,hv,h2,eqGuard,binOp,ao,arC,aqH,if_false,hq,al,aq]
     ·refine⟨!ad.isNone,fun h=>by rw[cg h],?_⟩;simp only[execOp,ho,hv,h2,eqGuard,binOp,ao,arC,aqH,if_false,hq,al,aq]
    obtain⟨b,hb,hex⟩:=gX;refine⟨fun _ _=>trivial,?_⟩;rw[lH hex (.inl ⟨_,rfl⟩)];exact yP _ _ _ _ (hK b hb) (hr.put (cy hd) (.ax _))
   split at h
   ·rename_i e hk;simp only[aqq,aqt] at h;exact key e hk (.inl ⟨rfl,h.2.symm⟩) h.1
   ·rename_i e hk;simp only[aqq,aqt] at h;exact key e hk (.inr ⟨rfl,h.2.symm⟩) h.1
   ·cases h
  ·cases h
 ·cases h
theorem eY.ad7 {c:Operand} {x y:Code} {Q:Exit->AS G->Prop} {t:Bool} (h:s.ev c=.ax (.bool t)) (h1:t=true->eY Γ x Q s) (h2:t=false->eY Γ y Q s):eY Γ (.cond c x y) Q s:=
 eY.ad2 fun _ _ k1 k2=>by rw[h];exact⟨fun ht=>k1 (h1 ht),fun ht=>k2 (h2 ht)⟩
theorem eY.ad8 (aE:Γ.Ok) {tab:Nat->Option TD} (aA:bc Γ.P tab) {nt:Nat} (dS:nt=Γ.nt) (hm:Γ.P.follows .mixedOrders=true) {id:Nat} {l:List Oper} {Q:Exit->AS G->Prop} (hd:zf l=true) (h:nY Γ tab nt l.toArray (Q .normal) l s):eY Γ (.region id l.toArray true) Q s:=
 eY.draw aE hm hd (nY.sound aE aA dS l s h)
end Go.Proofs.YtnkjkpmbgoehkaaGreat
