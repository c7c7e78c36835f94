/- Texts of ours laid together for a claim: FilT. -/
import Derived.Laws.Cover3
import Derived.Test.YtdcikhleahfknaaGreatDoorQ07
namespace Go.Proofs.YtdcikhleahfknaaGreatDoor
open Go
set_option linter.unusedSimpArgs false
set_option linter.unusedVariables false
variable {G:Type} {Γ:Env G} {s s':AS G} {a:Act} {w w':World} {η:List Value} {hp:List af} {P:Program} {ops:Array Oper}
def j7 (s:AS G):Op->Option (Nat×List AV)
 | .call c=>(match c.callee with
  | .value x=>(match s.ev x with
   | .aY f caps=>some (f,c.args.toList.map s.ev++caps)
   |_=>none)
  |_=>none)
 |_=>none
def Yf (tab:Nat->Option TD) (ρ:Operand->AV):Op->Option AV
 | .slice T x none (some h) none=>(match tab T,ρ x,ρ h with
  |some d,.ae (.slice none 0 0),.ae (.int _ n)=>(match d.kind with
   | .jS e=>if n=0/\(tab e).isSome=true then some (.ae (.slice none 0 0)) else none
   |_=>none)
  |_,_,_=>none)
 | .call c=>(match c.callee,c.args.toList,c.argTypes.toList with
  | .builtin .cap,[x],[T]=>(match tab T,ρ x with
   |some d,.ae (.slice none 0 0)=>(match d.kind with
    | .jS _=>some (.ae (.int .i64 0))
    |_=>none)
   |_,_=>none)
  |_,_,_=>none)
 |_=>none
theorem Hv {tab:Nat->Option TD} (aj:aZ Γ.P tab) {o:Oper} {r:AV} (h:Yf tab s.ev o.op=some r):fb Γ o s r:=by
 generalize ho:o.op=op at h;unfold Yf at h;split at h
 ·rename_i T x h';split at h
  ·rename_i d k n hd hx hh;split at h
   ·rename_i e hk;split at h
    ·rename_i hn;obtain⟨rfl,he⟩:=hn;obtain rfl:=alw h;refine aX fun a w η hr=>?_;obtain⟨d',dv⟩:=Option.isSome_iff_exists.1 he;have hu:Γ.P.underlying T=some (.slice e):=by
      obtain⟨u,q2,q3⟩:=(aj T d hd).kC;rw[hk] at q3;rw[q2];exact congrArg some q3
     have h1:=hr.ev x;rw[hx] at h1;have h1:=h1.ay;have h2:=hr.ev h';rw[hh] at h2;have h2:=h2.ay;have lY:=(aj e d' dv).run_sizeOf w;have hs:=run_sliceBound (P:=Γ.P) w (v:=.int k 0) (k:=k) (n:=0) rfl (y:=0) (by omega) (by omega) .sliceAcap;refine⟨.slice none 0 0,?_,.ae _⟩;have fz:(Instr.sliceBounds true 0 0 none (some (.int k 0)) none).run Γ.P w=.ok (0,0,0) w:=by
      simp[Instr.sliceBounds,hs]
     simp only[execOp,ho,Instr.sliceAt,Sem.run_bind,run_underlying hu,Result.andThen_ok,Instr.slice,h1,h2,Option.map_none,al7,fz,lY,Sem.run_pure];simp
    ·cases h
   ·cases h
  ·cases h
 ·rename_i c;split at h
  ·rename_i x T hb hl hT;split at h
   ·rename_i d hd hx;split at h
    ·rename_i e hk;obtain rfl:=alw h;refine aX fun a w η hr=>?_;have hu:Γ.P.underlying T=some (.slice e):=by
      obtain⟨u,q2,q3⟩:=(aj T d hd).kC;rw[hk] at q3;rw[q2];exact congrArg some q3
     have h1:=hr.ev x;rw[hx] at h1;have h1:=h1.ay;have oC:c.argTypes=#[T]:=by rw[<-ami (xs:=c.argTypes),hT]
     have aF:c.args=#[x]:=by rw[<-ami (xs:=c.args),hl]
     refine⟨.int .i64 0,?_,.ae _⟩;simp only[execOp,ho,resolve,hb,Sem.run_bind,Sem.run_pure,Result.andThen_ok,invoke,builtin,oC,aF,am2,al3,aml,h1];simp[Builtin.cap_,run_underlying hu,goInt]
    ·cases h
   ·cases h
  ·cases h
 ·cases h
def Hw (tab:Nat->Option TD) (ρ:Operand->AV):Op->Option (List AV×Bool)
 | .binOp op T x y _=>(match tab T,ρ x,ρ y with
  |some d,.sl els,.ae (.slice none 0 0)=>(match d.kind,op with
   | .jS _,.eql=>some (els,true)
   | .jS _,.neq=>some (els,false)
   |_,_=>none)
  |_,_,_=>none)
 |_=>none
theorem bD.nil {tab:Nat->Option TD} (aj:aZ Γ.P tab) {o:Oper} {els:List AV} {b0:Bool} (h:Hw tab s.ev o.op=some (els,b0)) (hd:cR Γ.nt o.dst) {K:AS G->Prop} (hK:∀b:Bool,(els≠[]->b=!b0)->K (s.put o.dst (.ae (.bool b)))):bD Γ o s K:=by
 generalize ho:o.op=op at h;unfold Hw at h;split at h
 ·rename_i bop T x y T';split at h
  ·rename_i d lO hdT hx hy;have key:∀(e:Nat),d.kind=.jS e->(bop=.eql/\b0=true\/bop=.neq/\b0=false)->lO=els->bD Γ o s K:=by
    intro e hk hop he;subst he;intro a w η Kc Qc rE hr;have hu:Γ.P.underlying T=some (.slice e):=by
     obtain⟨u,q2,q3⟩:=(aj T d hdT).kC;rw[hk] at q3;rw[q2];exact congrArg some q3
    have h1:=hr.ev x;rw[hx] at h1;have h2:=hr.ev y;rw[hy] at h2;have h2:=h2.ay;have hv:∃ad l c,a.eval x=.slice ad l c/\(lO≠[]->ad.isNone=false):=by
     generalize a.eval x=v at h1
     cases h1 with
     |lL=>exact⟨_,_,_,rfl,fun h=>(h rfl).elim⟩
     |sl size els b o c f hc hm hl aE hr=>exact⟨_,_,_,rfl,fun _=>rfl⟩
    obtain⟨ad,l,c,hv,bu⟩:=hv;have hq:=run_equal_slice_nil (P:=Γ.P) w T e ad l c hu;have fz:∃b:Bool,(lO≠[]->b=!b0)/\(execOp a.eval o).run Γ.P w=.ok (.value (.bool b)) w:=by
     rcases hop with⟨rfl,rfl⟩|⟨rfl,rfl⟩
     ·refine⟨ad.isNone,fun h=>by rw[bu h];rfl,?_⟩;simp only[execOp,ho,hv,h2,eqGuard,binOp,Sem.run_bind,amX,alQ,if_false,hq,Result.andThen_ok,Sem.run_pure]
     ·refine⟨!ad.isNone,fun h=>by rw[bu h],?_⟩;simp only[execOp,ho,hv,h2,eqGuard,binOp,Sem.run_bind,amX,alQ,if_false,hq,Result.andThen_ok,Sem.run_pure]
    obtain⟨b,hb,hex⟩:=fz;refine⟨fun _ _=>trivial,?_⟩;rw[jK hex (.inl ⟨_,rfl⟩)];exact rE _ _ _ _ (hK b hb) (hr.put (cd hd) (.ae _))
   split at h
   ·rename_i e hk;simp only[als,alx] at h;exact key e hk (.inl ⟨rfl,h.2.symm⟩) h.1
   ·rename_i e hk;simp only[als,alx] at h;exact key e hk (.inr ⟨rfl,h.2.symm⟩) h.1
   ·cases h
  ·cases h
 ·cases h
theorem dT.aai {c:Operand} {x y:Code} {Q:Exit->AS G->Prop} {t:Bool} (h:s.ev c=.ae (.bool t)) (h1:t=true->dT Γ x Q s) (h2:t=false->dT Γ y Q s):dT Γ (.cond c x y) Q s:=
 dT.aaf fun _ _ k1 k2=>by rw[h];exact⟨fun ht=>k1 (h1 ht),fun ht=>k2 (h2 ht)⟩
theorem dT.aaj (ax:Γ.Ok) {tab:Nat->Option TD} (aj:aZ Γ.P tab) {nt:Nat} (cW:nt=Γ.nt) (hm:Γ.P.follows .mixedOrders=true) {id:Nat} {l:List Oper} {Q:Exit->AS G->Prop} (hd:w5 l=true) (h:mf Γ tab nt l.toArray (Q .normal) l s):dT Γ (.region id l.toArray true) Q s:=
 dT.draw ax hm hd (mf.sound ax aj cW l s h)
end Go.Proofs.YtdcikhleahfknaaGreatDoor
