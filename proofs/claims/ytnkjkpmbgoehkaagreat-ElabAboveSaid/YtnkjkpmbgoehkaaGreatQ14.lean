/- Texts of ours laid together for a claim: VcB. -/
import Derived.Test.YtnkjkpmbgoehkaaGreatQ13
namespace Go.Proofs.YtnkjkpmbgoehkaaGreat
open Go
set_option linter.unusedSimpArgs false
set_option linter.unusedVariables false
theorem gY {α:Type} {o:Option α} {cs:List Prop} {r:α} (h:o.map (fun v=>(([]:List Prop),v))=some (cs,r)):o=some r:=by
 cases o with
 |none=>cases h
 |some v=>simp only[alN,alh,alk] at h;rw[h.2]
theorem Dy:∀{l:List Prop},dK l->IW l
 | [],_=>True.intro
 |_::_,h=>⟨h.1,Dy h.2⟩
theorem Zl {tab:Nat->Option TD} {hp:List ab} {ρ:Operand->AV} {op:Op} {cs:List Prop} {r:AV} (h:pv tab hp ρ op=some (cs,r)) (hc:dK cs):∃c,bo tab hp ρ op=some (c,r)/\c:=by
 cases op with
 |move x=>simp only[pv,alh,alk] at h;exact⟨True,by rw[<-h.2];rfl,True.intro⟩
 |assign x=>simp only[pv,alh,alk] at h;exact⟨True,by rw[<-h.2];rfl,True.intro⟩
 |nilCheck x=>
  simp only[pv] at h;split at h
  ·rename_i hx;simp only[alh,alk] at h;exact⟨True,by simp only[bo,hx];rw[<-h.2],True.intro⟩
  ·rename_i hx;simp only[alh,alk] at h;exact⟨True,by simp only[bo,hx];rw[<-h.2],True.intro⟩
  ·cases h
 |pick c x y=>
  simp only[pv] at h;split at h
  ·rename_i t ht;refine⟨True,?_,True.intro⟩;simp only[bo,ht]
   cases t<;>simp only[alh,alk] at h<;>simp[h.2]
  ·cases h
 |fieldAddr T x f=>
  simp only[pv] at h;split at h
  ·rename_i p hp';split at h
   ·cases h
   ·rename_i h0;refine⟨True,?_,True.intro⟩;simp only[bo,hp',if_neg h0];split at h
    ·rename_i r' o' hx;simp only[alh,alk] at h;simp[hx,h.2]
    ·rename_i r' o' hx;simp only[alh,alk] at h;simp[hx,h.2]
    ·rename_i r' m' i' z' hx;split at h
     ·rename_i hz;simp only[alh,alk] at h;simp[hx,hz,<-h.2]
     ·cases h
    ·cases h
  ·cases h
 |load T x=>
  simp only[pv] at h;split at h
  ·rename_i d hd;refine⟨True,?_,True.intro⟩;simp only[bo,hd];split at h
   ·rename_i r' o' hx;simp only[hx];split at h
    ·rename_i eQ hb;simp only[hb];rw[gY h];rfl
    ·cases h
   ·rename_i e o' hx;simp only[hx];rw[gY h];rfl
   ·cases h
  ·cases h
 |binOp bop T x y T'=>
  simp only[pv] at h;simp only[bo,A8];split at h
  ·rename_i v hv;simp only[alh,alk] at h;obtain⟨rfl,rfl⟩:=h;rw[hv];exact⟨True,rfl,True.intro⟩
  ·rename_i hi;rw[hi];split at h
   ·rename_i v hv;simp only[alh,alk] at h;obtain⟨rfl,rfl⟩:=h;rw[Hg hv];exact⟨True,rfl,True.intro⟩
   ·rw[GJ h,h];exact⟨_,rfl,Dy hc⟩
 |convert S D x=>
  simp only[pv] at h;refine⟨True,?_,True.intro⟩;simp only[bo];rw[gY h];rfl
 |unOp uop T x=>
  simp only[pv] at h;refine⟨True,?_,True.intro⟩;simp only[bo];split at h
  ·rename_i b hb;simp only[alh,alk] at h;simp[hb,h.2]
  ·rename_i k n hb;simp only[alh,alk] at h;simp only[hb,h.2]
  ·cases h
 |build T parts=>
  simp only[pv] at h;split at h
  ·rename_i d hd;refine⟨True,?_,True.intro⟩;simp only[bo,hd];split at h
   ·rename_i fs hk;simp only[hk]
    cases hf:da fs (d.zero.cells.toList.map .ae) (parts.toList.map fun p=>(p.1,ρ p.2)) with
    |none=>rw[hf] at h;cases h
    |some l=>rw[hf] at h;simp only[alN,alh,alk] at h;simp[h.2]
   ·rename_i n hk;simp only[hk]
    cases hf:da (wI n) (d.zero.cells.toList.map .ae) (parts.toList.map fun p=>(p.1,ρ p.2)) with
    |none=>rw[hf] at h;cases h
    |some l=>rw[hf] at h;simp only[alN,alh,alk] at h;simp[h.2]
   ·cases h
  ·cases h
 |buildSlice T n parts=>
  simp only[pv] at h;split at h
  ·rename_i d hd;split at h
   ·rename_i e hk;split at h
    ·rename_i d' dy;split at h
     ·rename_i oK;simp only[alh,alk] at h;obtain⟨rfl,rfl⟩:=h;have hm:=bP (g:=AV.bl hp) (fun x=>cK) (parts.toList.map fun p=>ρ p.2) hc;simp only[bo,hd,hk,dy,if_pos oK.1];refine⟨_,?_,w8 oK.2⟩;rw[<-hm,List.map_map];rfl
     ·cases h
    ·cases h
   ·cases h
  ·cases h
 |slice T x lo hi mx=>
  simp only[pv] at h;split at h
  ·rename_i d hd;split at h
   ·rename_i e hk;split at h
    ·rename_i eQ els d' hx dy;split at h
     ·rename_i l h' hl hh hm;simp only[alh,alk] at h;obtain⟨rfl,rfl⟩:=h;rw[bt] at hc;have hs:=gd hx hc.1;exact⟨_,by simp only[bo,hd,hk,hs,dy,hl,hh,hm],hc.2.1⟩
     ·rename_i l h' m hl hh hm;split at h
      ·rename_i tE;simp only[alh,alk] at h;obtain⟨rfl,rfl⟩:=h;rw[bt] at hc;have hs:=gd hx hc.1;exact⟨_,by simp only[bo,hd,hk,hs,dy,hl,hh,hm,if_pos tE],hc.2.1⟩
      ·cases h
     ·cases h
    ·cases h
   ·rename_i hk;split at h
    ·rename_i b hx;split at h
     ·rename_i l h' hl hh;simp only[alh,alk] at h;obtain⟨rfl,rfl⟩:=h;exact⟨_,by simp only[bo,hd,hk,hx,hl,hh],hc.1⟩
     ·cases h
    ·cases h
   ·cases h
  ·cases h
 |field T x f=>
  simp only[pv] at h;split at h
  ·rename_i p eQ hp' hx;split at h
   ·rename_i oK;refine⟨True,?_,True.intro⟩;simp only[bo,hp',hx,if_pos oK];rw[gY h];rfl
   ·cases h
  ·cases h
 |lookup T m k ok=>
  simp only[pv] at h;split at h
  ·rename_i d es a hd hm zi;split at h
   ·rename_i kt et hk;split at h
    ·rename_i dk de ma Dc;split at h
     ·rename_i ik vX;refine⟨True,?_,True.intro⟩;simp only[bo,hd,hm,zi,hk,ma,Dc,vX];rw[uK h hc]
     ·cases h
    ·cases h
   ·cases h
  ·rename_i d es a hd hm zi;split at h
   ·rename_i kt et hk;split at h
    ·rename_i dk de ma Dc;split at h
     ·rename_i vX;refine⟨True,?_,True.intro⟩;simp only[bo,hd,hm,zi,hk,ma,Dc,vX];rw[uK h hc]
     ·cases h
    ·cases h
   ·cases h
  ·cases h
 |index T x i=>
  simp only[pv] at h;split at h
  ·rename_i d b k n hd hx hi;split at h
   ·rename_i hk;simp only[alh,alk] at h;obtain⟨rfl,rfl⟩:=h;exact⟨_,by simp only[bo,hd,hx,hi,hk],hc.1⟩
   ·cases h
  ·cases h
 |extract x i=>
  simp only[pv] at h;split at h
  ·rename_i vs hx;refine⟨True,?_,True.intro⟩;simp only[bo,hx];rw[gY h];rfl
  ·cases h
 |makeFunc fn first caps=>
  cases fn with
  |func f=>
   simp only[pv] at h;split at h
   ·rename_i oK;simp only[alh,alk] at h;exact⟨True,by simp only[bo,if_pos oK,h.2],True.intro⟩
   ·rename_i oK;split at h
    ·rename_i aeW;simp only[alh,alk] at h;exact⟨True,by simp only[bo,if_neg oK,if_pos aeW,h.2],True.intro⟩
    ·cases h
  |_=>simp[pv] at h
 |call c=>
  simp only[pv] at h;split at h
  ·rename_i x hb hl;split at h
   ·rename_i d hd;split at h
    ·rename_i e hk
     cases hx:(ρ x).lC hp with
     |none=>
      rw[hx] at h;simp only at h;split at h
      ·rename_i q m e' z k hm;simp only[alh,alk] at h;obtain⟨rfl,rfl⟩:=h;obtain⟨hv,els,qp,_⟩:=pU hm;refine⟨m=k,?_,hc.1⟩;have Tw:AV.gN hp (.own q m)=none:=by simp only[AV.gN,qp]
       rw[hv] at hm;simp only[bo,hb,hl,hd,hk,hv,tJ,Tw,Option.map_none,hm]
      ·cases h
     |some p=>
      rw[hx] at h;simp only[alh,alk] at h;obtain⟨rfl,rfl⟩:=h;have hs:=gd (cs:=p.1) (els:=p.2) hx hc;refine⟨True,?_,True.intro⟩;simp only[bo,hb,hl,hd,hk]
      cases hv:ρ x with
      |ae v=>
       rw[hv] at hs hx
       cases v with
       |string s=>simp[AV.lC] at hx
       |_=>simp only[tJ,hs,alN]
      |_=>rw[hv] at hs;simp only[tJ,hs,alN]
    ·rename_i hk;split at h
     ·rename_i b hx;simp only[alh,alk] at h;exact⟨True,by simp only[bo,hb,hl,hd,hk,hx,h.2],True.intro⟩
     ·cases h
    ·cases h
   ·cases h
  ·rename_i x y hb hl;split at h
   ·rename_i k m k' n hx hy;simp only[alh,alk] at h;exact⟨True,by simp only[bo,hb,hl,hx,hy,h.2],True.intro⟩
   ·cases h
  ·rename_i x y hb hl;split at h
   ·rename_i k m k' n hx hy;simp only[alh,alk] at h;exact⟨True,by simp only[bo,hb,hl,hx,hy,h.2],True.intro⟩
   ·cases h
  ·cases h
 |_=>simp[pv] at h
def hv (tab:Nat->Option TD) (hp:List ab) (ρ:Operand->AV):Op->Option (List Prop×AV×List ab)
 | .alloc T=>(match tab T with
  |some d=>some ([],.ptr hp.length 0,hp++[.box (d.zero.cells.toList.map .ae)])
  |none=>none)
 | .box _ x=>if(ρ x).mm=true then some ([],.ptr hp.length 0,hp++[.box (ρ x).cells]) else none
 | .store T p x=>(match tab T,ρ p with
  |some d,.ptr r o=>(match hp[r]? with
   |some (.box cs)=>if(ρ x).mm=true/\(ρ x).cells.length=d.size/\o+d.size<=cs.length then some ([],.top,hp.set r (.box (setCells cs o (ρ x).cells))) else none
   |_=>none)
  |some d,.fq r m i z=>(match hp[r]? with
   |some (.aQ e size els)=>if((ρ x).fL hp).2.mm=true/\size=z/\((ρ x).fL hp).2.cells.length=d.size/\d.size<=z then(if d.size=z then some (((ρ x).fL hp).1++[m=els.length,i<els.length],.top,hp.set r (.aQ e size (els.set i ((ρ x).fL hp).2)))
     else some (((ρ x).fL hp).1++[m=els.length,i<els.length],.top,hp.set r (.aQ e size (els.set i (.agg (setCells (els.getD i .top).cells 0 ((ρ x).fL hp).2.cells)))))) else none
   |_=>none)
  |_,_=>none)
 | .makeSlice T l c=>(match tab T with
  |some d=>(match d.kind with
   | .kC e=>(match vY l c with
    |true=>(match tab e,ρ c with
     |some d',.ae (.int _ n)=>(match Dd d' with
      |some z=>some ([0<=n/\n<=9223372036854775807/\(d'.bytes:Int)*n<=281474976710656],.own hp.length (List.replicate n.toNat (AV.ae z)).length,hp++[.aQ e 1 (List.replicate n.toNat (.ae z))])
      |none=>none)
     |_,_=>none)
    |false=>(match tab e,ρ l,ρ c with
     |some d',.ae (.int _ 0),.ae (.int _ n)=>if 0<d'.size then some ([0<=n/\n<=9223372036854775807/\(d'.bytes:Int)*n<=281474976710656],.own hp.length ([]:List AV).length,hp++[.row e d'.size []]) else none
     |_,_,_=>none))
   |_=>none)
  |none=>none)
 | .makeMap T none=>(match tab T with
  |some d=>(match d.kind with
   | .oy kt _=>(match tab kt with
    |some dk=>(match dk.kind with
     | .str=>some ([],.mp hp.length,hp++[.bW (.s [])])
     |_=>some ([],.mp hp.length,hp++[.bW (.i [])]))
    |none=>none)
   |_=>none)
  |none=>none)
 | .mapUpdate T m k x=>(match tab T,ρ m,ρ k,(ρ x).val? with
  |some d,.mp r,.ae (.int .i64 a),some v=>(match d.kind,hp[r]? with
   | .oy kt _,some (.bW (.i es))=>(match tab kt with
    |some dk=>(match dk.kind with
     | .int _=>some ([],.top,hp.set r (.bW (.i (cd es a v))))
     |_=>none)
    |none=>none)
   |_,_=>none)
  |some d,.mp r,.ae (.string a),some v=>(match d.kind,hp[r]? with
   | .oy kt _,some (.bW (.s es))=>(match tab kt with
    |some dk=>(match dk.kind with
     | .str=>some ([],.top,hp.set r (.bW (.s (cd es a v))))
     |_=>none)
    |none=>none)
   |_,_=>none)
  |_,_,_,_=>none)
 | .call c=>(match c.callee,c.args.toList,c.argTypes.toList with
  | .builtin .append,[b,x],[T,T']=>if T=T' then(match tab T with
   |some d=>(match d.kind with
    | .kC e=>(match tab e,(ρ x).lC hp with
     |some d',some (cs,ar)=>if 0<d'.size then(match ρ b with
      | .ae (.slice none 0 0)=>some (cs++[aZ d' ar.length [] ar],.own hp.length ar.length,hp++[.row e d'.size ar])
      | .clip els=>some (cs++[ar=[]->els=[],aZ d' (els++ar).length els ar],.own hp.length (els++ar).length,hp++[.row e d'.size (els++ar)])
      | .own r n=>(match hp[r]? with
       |some (.row e' size els)=>if e'=e/\size=d'.size then some (cs++[n=els.length,aZ d' (els++ar).length [] ar],.own r (els++ar).length,hp.set r (.row e size (els++ar))) else none
       |some (.aQ e' size els)=>if e'=e/\size=d'.size then some (cs++[n=els.length,aZ d' (els++ar).length [] ar],.own r (els++ar).length,hp.set r (.aQ e size (els++ar))) else none
       |_=>none)
      |_=>none) else none
     |_,_=>none)
    |_=>none)
   |none=>none) else none
  |_,_,_=>none)
 |_=>none
theorem Zm {tab:Nat->Option TD} {hp hp':List ab} {ρ:Operand->AV} {op:Op} {cs:List Prop} {r:AV} (h:hv tab hp ρ op=some (cs,r,hp')) (hc:dK cs):∃c,dB tab hp ρ op=some (c,r,hp')/\c:=by
 cases op with
 |alloc T=>
  simp only[hv] at h;split at h
  ·rename_i d hd;simp only[alh,alk] at h;obtain⟨_,rfl,rfl⟩:=h;exact⟨True,by simp only[dB,hd],True.intro⟩
  ·cases h
 |box T x=>
  simp only[hv] at h;split at h
  ·rename_i oK;simp only[alh,alk] at h;obtain⟨_,rfl,rfl⟩:=h;exact⟨True,by simp only[dB,if_pos oK],True.intro⟩
  ·cases h
 |store T p x=>
  simp only[hv] at h;split at h
  ·rename_i d r' o hd iC;split at h
   ·rename_i eQ hb;split at h
    ·rename_i oK;simp only[alh,alk] at h;obtain⟨_,rfl,rfl⟩:=h;exact⟨_,by simp only[dB,hd,iC,hb,if_pos oK.1],oK.2⟩
    ·cases h
   ·cases h
  ·rename_i d r' m' i' z' hd iC;split at h
   ·rename_i e' uA oE hb;split at h
    ·rename_i oK;obtain⟨h1,h2,h3,h4⟩:=oK;split at h
     ·rename_i C2;simp only[alh,alk] at h;obtain⟨rfl,rfl,rfl⟩:=h;rw[bt] at hc;have hdv:=iN hc.1;refine⟨((ρ x).fL hp).2.cells.length=d.size/\m'=oE.length/\i' < oE.length,?_,h3,hc.2.1,hc.2.2.1⟩;simp only[dB,hd,iC,hb,hdv];rw[if_pos ⟨h1,h2⟩,if_pos C2]
     ·rename_i C2;simp only[alh,alk] at h;obtain⟨rfl,rfl,rfl⟩:=h;rw[bt] at hc;have hdv:=iN hc.1;refine⟨((ρ x).fL hp).2.cells.length=d.size/\d.size<=z'/\m'=oE.length/\i' < oE.length,?_,h3,h4,hc.2.1,hc.2.2.1⟩;simp only[dB,hd,iC,hb,hdv];rw[if_pos ⟨h1,h2⟩,if_neg C2]
    ·cases h
   ·cases h
  ·cases h
 |makeSlice T l c=>
  simp only[hv] at h;split at h
  ·rename_i d hd;split at h
   ·rename_i e hk;split at h
    ·rename_i Xb;split at h
     ·rename_i d' k n dy YL;split at h
      ·rename_i z hz;simp only[alh,alk] at h;obtain⟨rfl,rfl,rfl⟩:=h;exact⟨0<=n/\n<=9223372036854775807/\(d'.bytes:Int)*n<=281474976710656,by simp only[dB,hd,hk,Xb,dy,YL,hz],hc.1⟩
      ·cases h
     ·cases h
    rename_i Xb;split at h
    ·rename_i d' k1 k2 n dy hl YL;split at h
     ·rename_i oK;simp only[alh,alk] at h;obtain⟨rfl,rfl,rfl⟩:=h;exact⟨0<=n/\n<=9223372036854775807/\(d'.bytes:Int)*n<=281474976710656/\0<d'.size,by simp only[dB,hd,hk,Xb,dy,hl,YL];rfl,hc.1.1,hc.1.2.1,hc.1.2.2,oK⟩
     ·cases h
    ·cases h
   ·cases h
  ·cases h
 |makeMap T x=>
  cases x with
  |some x=>simp[hv] at h
  |none=>
   simp only[hv] at h;split at h
   ·rename_i d hd;split at h
    ·rename_i k e hk;split at h
     ·rename_i dk ma;split at h
      ·rename_i vX;simp only[alh,alk] at h;obtain⟨_,rfl,rfl⟩:=h;exact⟨True,by simp only[dB,hd,hk,ma,vX],True.intro⟩
      ·rename_i vX;simp only[alh,alk] at h;obtain⟨_,rfl,rfl⟩:=h;exact⟨True,by simp only[dB,hd,hk,ma],True.intro⟩
     ·cases h
    ·cases h
   ·cases h
 |mapUpdate T m k x=>
  simp only[hv] at h;split at h
  ·rename_i d r' a v hd hm hk hx;split at h
   ·rename_i kt et es zi hb;split at h
    ·rename_i dk ma;split at h
     ·rename_i ik vX;simp only[alh,alk] at h;obtain⟨_,rfl,rfl⟩:=h;exact⟨True,by simp only[dB,hd,hm,hk,hx,zi,hb,ma,vX],True.intro⟩
     ·cases h
    ·cases h
   ·cases h
  ·rename_i d r' a v hd hm hk hx;split at h
   ·rename_i kt et es zi hb;split at h
    ·rename_i dk ma;split at h
     ·rename_i vX;simp only[alh,alk] at h;obtain⟨_,rfl,rfl⟩:=h;exact⟨True,by simp only[dB,hd,hm,hk,hx,zi,hb,ma,vX],True.intro⟩
     ·cases h
    ·cases h
   ·cases h
  ·cases h
 |call c=>
  simp only[hv] at h;split at h
  ·rename_i b x T T' hb hl hT;split at h
   ·rename_i YI;split at h
    ·rename_i d hd;split at h
     ·rename_i e hk;split at h
      ·rename_i d' eQ ar dy hx;split at h
       ·rename_i Tx;split at h
        ·rename_i oL;simp only[alh,alk] at h;obtain⟨rfl,rfl,rfl⟩:=h;rw[bt] at hc;have hs:=gd hx hc.1;exact⟨0<d'.size/\aZ d' ar.length [] ar,by simp only[dB,hb,hl,hT,if_pos YI,hd,hk,dy,hs,oL],Tx,hc.2.1⟩
        ·rename_i els oL;simp only[alh,alk] at h;obtain⟨rfl,rfl,rfl⟩:=h;rw[bt] at hc;have hs:=gd hx hc.1;refine⟨0<d'.size/\(ar=[]->els=[])/\aZ d' (els.length+ar.length) els ar,by simp only[dB,hb,hl,hT,if_pos YI,hd,hk,dy,hs,oL,alA],Tx,hc.2.1,?_⟩;have:=hc.2.2.1
         rwa [alA] at this
        ·rename_i r' n oL;split at h
         ·rename_i e' size els fI;split at h
          ·rename_i oK;simp only[alh,alk] at h;obtain⟨rfl,rfl,rfl⟩:=h;rw[bt] at hc;have hs:=gd hx hc.1;have hn:=hc.2.1;refine⟨aZ d' (els.length+ar.length) [] ar,by simp only[dB,hb,hl,hT,if_pos YI,hd,hk,dy,hs,oL,fI,oK.1,oK.2,hn,and_self,if_true,alA],?_⟩;have:=hc.2.2.1
           rwa [alA] at this
          ·cases h
         ·rename_i e' size els fI;split at h
          ·rename_i oK;simp only[alh,alk] at h;obtain⟨rfl,rfl,rfl⟩:=h;rw[bt] at hc;have hs:=gd hx hc.1;have hn:=hc.2.1;refine⟨aZ d' (els.length+ar.length) [] ar,by simp only[dB,hb,hl,hT,if_pos YI,hd,hk,dy,hs,oL,fI,oK.1,oK.2,hn,and_self,if_true,alA],?_⟩;have:=hc.2.2.1
           rwa [alA] at this
          ·cases h
         ·cases h
        ·cases h
       ·cases h
      ·cases h
     ·cases h
    ·cases h
   ·cases h
  ·cases h
 |_=>simp[hv] at h
end Go.Proofs.YtnkjkpmbgoehkaaGreat
