/- Lemmas. -/
import Derived.Test.YtnkjkpmbgoehkaaGreatQ13
namespace Go.Proofs.YtnkjkpmbgoehkaaGreat
open Go
open _root_.True renaming intro->ai
set_option linter.unusedSimpArgs false
set_option linter.unusedVariables false
theorem je {α:Type} {o:Option α} {cs:List Prop} {r:α} (h:o.map (fun v=>(([]:List Prop),v))=some (cs,r)):o=some r:=by
 cases o with
 |none=>cases h
 |some v=>simp only[aq1,aqq,aqt] at h;rw[h.2]
theorem Gf:∀{l:List Prop},eA l->LV l
 | [],_=>ai
 |_::_,h=>⟨h.1,Gf h.2⟩
theorem aed {tab:Nat->Option TD} {hp:List aw} {ρ:Operand->AV} {op:Op} {cs:List Prop} {r:AV} (h:pv tab hp ρ op=some (cs,r)) (hc:eA cs):∃c,bL tab hp ρ op=some (c,r)/\c:=by
 cases op with
 |move x=>simp only[pv,aqq,aqt] at h;exact⟨True,by rw[<-h.2];rfl,ai⟩
 |assign x=>simp only[pv,aqq,aqt] at h;exact⟨True,by rw[<-h.2];rfl,ai⟩
 |nilCheck x=>
  simp only[pv] at h;split at h
  ·rename_i hx;simp only[aqq,aqt] at h;exact⟨True,by simp only[bL,hx];rw[<-h.2],ai⟩
  ·rename_i hx;simp only[aqq,aqt] at h;exact⟨True,by simp only[bL,hx];rw[<-h.2],ai⟩
  ·cases h
 |pick c x y=>
  simp only[pv] at h;split at h
  ·rename_i t ht;refine⟨True,?_,ai⟩;simp only[bL,ht]
   cases t<;>simp only[aqq,aqt] at h<;>simp[h.2]
  ·cases h
 |fieldAddr T x f=>
  simp only[pv] at h;split at h
  ·rename_i p hp';split at h
   ·cases h
   ·rename_i h0;refine⟨True,?_,ai⟩;simp only[bL,hp',if_neg h0];split at h
    ·rename_i r' o' hx;simp only[aqq,aqt] at h;simp[hx,h.2]
    ·rename_i r' o' hx;simp only[aqq,aqt] at h;simp[hx,h.2]
    ·rename_i r' m' i' z' hx;split at h
     ·rename_i hz;simp only[aqq,aqt] at h;simp[hx,hz,<-h.2]
     ·cases h
    ·cases h
  ·cases h
 |load T x=>
  simp only[pv] at h;split at h
  ·rename_i d hd;refine⟨True,?_,ai⟩;simp only[bL,hd];split at h
   ·rename_i r' o' hx;simp only[hx];split at h
    ·rename_i gi hb;simp only[hb];rw[je h];rfl
    ·cases h
   ·rename_i e o' hx;simp only[hx];rw[je h];rfl
   ·cases h
  ·cases h
 |binOp bop T x y T'=>
  simp only[pv] at h;simp only[bL,DE];split at h
  ·rename_i v hv;simp only[aqq,aqt] at h;obtain⟨rfl,rfl⟩:=h;rw[hv];exact⟨True,rfl,ai⟩
  ·rename_i hi;rw[hi];split at h
   ·rename_i v hv;simp only[aqq,aqt] at h;obtain⟨rfl,rfl⟩:=h;rw[Ke hv];exact⟨True,rfl,ai⟩
   ·rw[JJ h,h];exact⟨_,rfl,Gf hc⟩
 |convert S D x=>
  simp only[pv] at h;refine⟨True,?_,ai⟩;simp only[bL];rw[je h];rfl
 |unOp uop T x=>
  simp only[pv] at h;refine⟨True,?_,ai⟩;simp only[bL];split at h
  ·rename_i b hb;simp only[aqq,aqt] at h;simp[hb,h.2]
  ·rename_i k n hb;simp only[aqq,aqt] at h;simp only[hb,h.2]
  ·cases h
 |build T parts=>
  simp only[pv] at h;split at h
  ·rename_i d hd;refine⟨True,?_,ai⟩;simp only[bL,hd];split at h
   ·rename_i fs hk;simp only[hk]
    cases hf:dP fs (d.zero.cells.toList.map .ax) (parts.toList.map fun p=>(p.1,ρ p.2)) with
    |none=>rw[hf] at h;cases h
    |some l=>rw[hf] at h;simp only[aq1,aqq,aqt] at h;simp[h.2]
   ·rename_i n hk;simp only[hk]
    cases hf:dP (yV n) (d.zero.cells.toList.map .ax) (parts.toList.map fun p=>(p.1,ρ p.2)) with
    |none=>rw[hf] at h;cases h
    |some l=>rw[hf] at h;simp only[aq1,aqq,aqt] at h;simp[h.2]
   ·cases h
  ·cases h
 |buildSlice T n parts=>
  simp only[pv] at h;split at h
  ·rename_i d hd;split at h
   ·rename_i e hk;split at h
    ·rename_i d' ef;split at h
     ·rename_i oX;simp only[aqq,aqt] at h;obtain⟨rfl,rfl⟩:=h;have hm:=cr (g:=AV.bK hp) (fun x=>dv) (parts.toList.map fun p=>ρ p.2) hc;simp only[bL,hd,hk,ef,if_pos oX.1];refine⟨_,?_,zn oX.2⟩;rw[<-hm,List.map_map];rfl
     ·cases h
    ·cases h
   ·cases h
  ·cases h
 |slice T x lo hi mx=>
  simp only[pv] at h;split at h
  ·rename_i d hd;split at h
   ·rename_i e hk;split at h
    ·rename_i gi els d' hx ef;split at h
     ·rename_i l h' hl hh hm;simp only[aqq,aqt] at h;obtain⟨rfl,rfl⟩:=h;rw[bP] at hc;have hs:=ie hx hc.1;exact⟨_,by simp only[bL,hd,hk,hs,ef,hl,hh,hm],hc.2.1⟩
     ·rename_i l h' m hl hh hm;split at h
      ·rename_i tR;simp only[aqq,aqt] at h;obtain⟨rfl,rfl⟩:=h;rw[bP] at hc;have hs:=ie hx hc.1;exact⟨_,by simp only[bL,hd,hk,hs,ef,hl,hh,hm,if_pos tR],hc.2.1⟩
      ·cases h
     ·cases h
    ·cases h
   ·rename_i hk;split at h
    ·rename_i b hx;split at h
     ·rename_i l h' hl hh;simp only[aqq,aqt] at h;obtain⟨rfl,rfl⟩:=h;exact⟨_,by simp only[bL,hd,hk,hx,hl,hh],hc.1⟩
     ·cases h
    ·cases h
   ·cases h
  ·cases h
 |field T x f=>
  simp only[pv] at h;split at h
  ·rename_i p gi hp' hx;split at h
   ·rename_i oX;refine⟨True,?_,ai⟩;simp only[bL,hp',hx,if_pos oX];rw[je h];rfl
   ·cases h
  ·cases h
 |lookup T m k ok=>
  simp only[pv] at h;split at h
  ·rename_i d es a hd hm yP;split at h
   ·rename_i kt et hk;split at h
    ·rename_i dk de mN FO;split at h
     ·rename_i ik yi;refine⟨True,?_,ai⟩;simp only[bL,hd,hm,yP,hk,mN,FO,yi];rw[wR h hc]
     ·cases h
    ·cases h
   ·cases h
  ·rename_i d es a hd hm yP;split at h
   ·rename_i kt et hk;split at h
    ·rename_i dk de mN FO;split at h
     ·rename_i yi;refine⟨True,?_,ai⟩;simp only[bL,hd,hm,yP,hk,mN,FO,yi];rw[wR h hc]
     ·cases h
    ·cases h
   ·cases h
  ·cases h
 |index T x i=>
  simp only[pv] at h;split at h
  ·rename_i d b k n hd hx hi;split at h
   ·rename_i hk;simp only[aqq,aqt] at h;obtain⟨rfl,rfl⟩:=h;exact⟨_,by simp only[bL,hd,hx,hi,hk],hc.1⟩
   ·cases h
  ·cases h
 |extract x i=>
  simp only[pv] at h;split at h
  ·rename_i vs hx;refine⟨True,?_,ai⟩;simp only[bL,hx];rw[je h];rfl
  ·cases h
 |makeFunc fn first caps=>
  cases fn with
  |func f=>
   simp only[pv] at h;split at h
   ·rename_i oX;simp only[aqq,aqt] at h;exact⟨True,by simp only[bL,if_pos oX,h.2],ai⟩
   ·rename_i oX;split at h
    ·rename_i ajQ;simp only[aqq,aqt] at h;exact⟨True,by simp only[bL,if_neg oX,if_pos ajQ,h.2],ai⟩
    ·cases h
  |_=>simp[pv] at h
 |call c=>
  simp only[pv] at h;split at h
  ·rename_i x hb hl;split at h
   ·rename_i d hd;split at h
    ·rename_i e hk
     cases hx:(ρ x).mZ hp with
     |none=>
      rw[hx] at h;simp only at h;split at h
      ·rename_i q m e' z k hm;simp only[aqq,aqt] at h;obtain⟨rfl,rfl⟩:=h;obtain⟨hv,els,ss,_⟩:=rS hm;refine⟨m=k,?_,hc.1⟩;have XE:AV.iU hp (.own q m)=none:=by simp only[AV.iU,ss]
       rw[hv] at hm;simp only[bL,hb,hl,hd,hk,hv,vK,XE,Option.map_none,hm]
      ·cases h
     |some p=>
      rw[hx] at h;simp only[aqq,aqt] at h;obtain⟨rfl,rfl⟩:=h;have hs:=ie (cs:=p.1) (els:=p.2) hx hc;refine⟨True,?_,ai⟩;simp only[bL,hb,hl,hd,hk]
      cases hv:ρ x with
      |ax v=>
       rw[hv] at hs hx
       cases v with
       |string s=>simp[AV.mZ] at hx
       |_=>simp only[vK,hs,aq1]
      |_=>rw[hv] at hs;simp only[vK,hs,aq1]
    ·rename_i hk;split at h
     ·rename_i b hx;simp only[aqq,aqt] at h;exact⟨True,by simp only[bL,hb,hl,hd,hk,hx,h.2],ai⟩
     ·cases h
    ·cases h
   ·cases h
  ·rename_i x y hb hl;split at h
   ·rename_i k m k' n hx hy;simp only[aqq,aqt] at h;exact⟨True,by simp only[bL,hb,hl,hx,hy,h.2],ai⟩
   ·cases h
  ·rename_i x y hb hl;split at h
   ·rename_i k m k' n hx hy;simp only[aqq,aqt] at h;exact⟨True,by simp only[bL,hb,hl,hx,hy,h.2],ai⟩
   ·cases h
  ·cases h
 |_=>simp[pv] at h
def hv (tab:Nat->Option TD) (hp:List aw) (ρ:Operand->AV):Op->Option (List Prop×AV×List aw)
 | .alloc T=>(match tab T with
  |some d=>some ([],.ptr hp.length 0,hp++[.box (d.zero.cells.toList.map .ax)])
  |none=>none)
 | .box _ x=>if(ρ x).nO=true then some ([],.ptr hp.length 0,hp++[.box (ρ x).cells]) else none
 | .store T p x=>(match tab T,ρ p with
  |some d,.ptr r o=>(match hp[r]? with
   |some (.box cs)=>if(ρ x).nO=true/\(ρ x).cells.length=d.size/\o+d.size<=cs.length then some ([],.top,hp.set r (.box (setCells cs o (ρ x).cells))) else none
   |_=>none)
  |some d,.fV r m i z=>(match hp[r]? with
   |some (.bj e size els)=>if((ρ x).gB hp).2.nO=true/\size=z/\((ρ x).gB hp).2.cells.length=d.size/\d.size<=z then(if d.size=z then some (((ρ x).gB hp).1++[m=els.length,i<els.length],.top,hp.set r (.bj e size (els.set i ((ρ x).gB hp).2)))
     else some (((ρ x).gB hp).1++[m=els.length,i<els.length],.top,hp.set r (.bj e size (els.set i (.agg (setCells (els.getD i .top).cells 0 ((ρ x).gB hp).2.cells)))))) else none
   |_=>none)
  |_,_=>none)
 | .makeSlice T l c=>(match tab T with
  |some d=>(match d.kind with
   | .lU e=>(match yj l c with
    |true=>(match tab e,ρ c with
     |some d',.ax (.int _ n)=>(match FP d' with
      |some z=>some ([0<=n/\n<=9223372036854775807/\(d'.bytes:Int)*n<=281474976710656],.own hp.length (List.replicate n.toNat (AV.ax z)).length,hp++[.bj e 1 (List.replicate n.toNat (.ax z))])
      |none=>none)
     |_,_=>none)
    |false=>(match tab e,ρ l,ρ c with
     |some d',.ax (.int _ 0),.ax (.int _ n)=>if 0<d'.size then some ([0<=n/\n<=9223372036854775807/\(d'.bytes:Int)*n<=281474976710656],.own hp.length ([]:List AV).length,hp++[.row e d'.size []]) else none
     |_,_,_=>none))
   |_=>none)
  |none=>none)
 | .makeMap T none=>(match tab T with
  |some d=>(match d.kind with
   | .qo kt _=>(match tab kt with
    |some dk=>(match dk.kind with
     | .str=>some ([],.mp hp.length,hp++[.cE (.s [])])
     |_=>some ([],.mp hp.length,hp++[.cE (.i [])]))
    |none=>none)
   |_=>none)
  |none=>none)
 | .mapUpdate T m k x=>(match tab T,ρ m,ρ k,(ρ x).val? with
  |some d,.mp r,.ax (.int .i64 a),some v=>(match d.kind,hp[r]? with
   | .qo kt _,some (.cE (.i es))=>(match tab kt with
    |some dk=>(match dk.kind with
     | .int _=>some ([],.top,hp.set r (.cE (.i (cH es a v))))
     |_=>none)
    |none=>none)
   |_,_=>none)
  |some d,.mp r,.ax (.string a),some v=>(match d.kind,hp[r]? with
   | .qo kt _,some (.cE (.s es))=>(match tab kt with
    |some dk=>(match dk.kind with
     | .str=>some ([],.top,hp.set r (.cE (.s (cH es a v))))
     |_=>none)
    |none=>none)
   |_,_=>none)
  |_,_,_,_=>none)
 | .call c=>(match c.callee,c.args.toList,c.argTypes.toList with
  | .builtin .append,[b,x],[T,T']=>if T=T' then(match tab T with
   |some d=>(match d.kind with
    | .lU e=>(match tab e,(ρ x).mZ hp with
     |some d',some (cs,aJ)=>if 0<d'.size then(match ρ b with
      | .ax (.slice none 0 0)=>some (cs++[bw d' aJ.length [] aJ],.own hp.length aJ.length,hp++[.row e d'.size aJ])
      | .clip els=>some (cs++[aJ=[]->els=[],bw d' (els++aJ).length els aJ],.own hp.length (els++aJ).length,hp++[.row e d'.size (els++aJ)])
      | .own r n=>(match hp[r]? with
       |some (.row e' size els)=>if e'=e/\size=d'.size then some (cs++[n=els.length,bw d' (els++aJ).length [] aJ],.own r (els++aJ).length,hp.set r (.row e size (els++aJ))) else none
       |some (.bj e' size els)=>if e'=e/\size=d'.size then some (cs++[n=els.length,bw d' (els++aJ).length [] aJ],.own r (els++aJ).length,hp.set r (.bj e size (els++aJ))) else none
       |_=>none)
      |_=>none) else none
     |_,_=>none)
    |_=>none)
   |none=>none) else none
  |_,_,_=>none)
 |_=>none
theorem aee {tab:Nat->Option TD} {hp hp':List aw} {ρ:Operand->AV} {op:Op} {cs:List Prop} {r:AV} (h:hv tab hp ρ op=some (cs,r,hp')) (hc:eA cs):∃c,eh tab hp ρ op=some (c,r,hp')/\c:=by
 cases op with
 |alloc T=>
  simp only[hv] at h;split at h
  ·rename_i d hd;simp only[aqq,aqt] at h;obtain⟨_,rfl,rfl⟩:=h;exact⟨True,by simp only[eh,hd],ai⟩
  ·cases h
 |box T x=>
  simp only[hv] at h;split at h
  ·rename_i oX;simp only[aqq,aqt] at h;obtain⟨_,rfl,rfl⟩:=h;exact⟨True,by simp only[eh,if_pos oX],ai⟩
  ·cases h
 |store T p x=>
  simp only[hv] at h;split at h
  ·rename_i d r' o hd jC;split at h
   ·rename_i gi hb;split at h
    ·rename_i oX;simp only[aqq,aqt] at h;obtain⟨_,rfl,rfl⟩:=h;exact⟨_,by simp only[eh,hd,jC,hb,if_pos oX.1],oX.2⟩
    ·cases h
   ·cases h
  ·rename_i d r' m' i' z' hd jC;split at h
   ·rename_i e' wI qx hb;split at h
    ·rename_i oX;obtain⟨h1,h2,h3,h4⟩:=oX;split at h
     ·rename_i FF;simp only[aqq,aqt] at h;obtain⟨rfl,rfl,rfl⟩:=h;rw[bP] at hc;have hdv:=jQ hc.1;refine⟨((ρ x).gB hp).2.cells.length=d.size/\m'=qx.length/\i' < qx.length,?_,h3,hc.2.1,hc.2.2.1⟩;simp only[eh,hd,jC,hb,hdv];rw[if_pos ⟨h1,h2⟩,if_pos FF]
     ·rename_i FF;simp only[aqq,aqt] at h;obtain⟨rfl,rfl,rfl⟩:=h;rw[bP] at hc;have hdv:=jQ hc.1;refine⟨((ρ x).gB hp).2.cells.length=d.size/\d.size<=z'/\m'=qx.length/\i' < qx.length,?_,h3,h4,hc.2.1,hc.2.2.1⟩;simp only[eh,hd,jC,hb,hdv];rw[if_pos ⟨h1,h2⟩,if_neg FF]
    ·cases h
   ·cases h
  ·cases h
 |makeSlice T l c=>
  simp only[hv] at h;split at h
  ·rename_i d hd;split at h
   ·rename_i e hk;split at h
    ·rename_i hlc;split at h
     ·rename_i d' k n ef hcp;split at h
      ·rename_i z hz;simp only[aqq,aqt] at h;obtain⟨rfl,rfl,rfl⟩:=h;exact⟨0<=n/\n<=9223372036854775807/\(d'.bytes:Int)*n<=281474976710656,by simp only[eh,hd,hk,hlc,ef,hcp,hz],hc.1⟩
      ·cases h
     ·cases h
    rename_i hlc;split at h
    ·rename_i d' k1 k2 n ef hl hcp;split at h
     ·rename_i oX;simp only[aqq,aqt] at h;obtain⟨rfl,rfl,rfl⟩:=h;exact⟨0<=n/\n<=9223372036854775807/\(d'.bytes:Int)*n<=281474976710656/\0<d'.size,by simp only[eh,hd,hk,hlc,ef,hl,hcp];rfl,hc.1.1,hc.1.2.1,hc.1.2.2,oX⟩
     ·cases h
    ·cases h
   ·cases h
  ·cases h
 |makeMap T x=>
  cases x with
  |some x=>simp[hv] at h
  |none=>
   simp only[hv] at h;split at h
   ·rename_i d hd;split at h
    ·rename_i k e hk;split at h
     ·rename_i dk mN;split at h
      ·rename_i yi;simp only[aqq,aqt] at h;obtain⟨_,rfl,rfl⟩:=h;exact⟨True,by simp only[eh,hd,hk,mN,yi],ai⟩
      ·rename_i yi;simp only[aqq,aqt] at h;obtain⟨_,rfl,rfl⟩:=h;exact⟨True,by simp only[eh,hd,hk,mN],ai⟩
     ·cases h
    ·cases h
   ·cases h
 |mapUpdate T m k x=>
  simp only[hv] at h;split at h
  ·rename_i d r' a v hd hm hk hx;split at h
   ·rename_i kt et es yP hb;split at h
    ·rename_i dk mN;split at h
     ·rename_i ik yi;simp only[aqq,aqt] at h;obtain⟨_,rfl,rfl⟩:=h;exact⟨True,by simp only[eh,hd,hm,hk,hx,yP,hb,mN,yi],ai⟩
     ·cases h
    ·cases h
   ·cases h
  ·rename_i d r' a v hd hm hk hx;split at h
   ·rename_i kt et es yP hb;split at h
    ·rename_i dk mN;split at h
     ·rename_i yi;simp only[aqq,aqt] at h;obtain⟨_,rfl,rfl⟩:=h;exact⟨True,by simp only[eh,hd,hm,hk,hx,yP,hb,mN,yi],ai⟩
     ·cases h
    ·cases h
   ·cases h
  ·cases h
 |call c=>
  simp only[hv] at h;split at h
  ·rename_i b x T T' hb hl hT;split at h
   ·rename_i hTT;split at h
    ·rename_i d hd;split at h
     ·rename_i e hk;split at h
      ·rename_i d' gi aJ ef hx;split at h
       ·rename_i XF;split at h
        ·rename_i qD;simp only[aqq,aqt] at h;obtain⟨rfl,rfl,rfl⟩:=h;rw[bP] at hc;have hs:=ie hx hc.1;exact⟨0<d'.size/\bw d' aJ.length [] aJ,by simp only[eh,hb,hl,hT,if_pos hTT,hd,hk,ef,hs,qD],XF,hc.2.1⟩
        ·rename_i els qD;simp only[aqq,aqt] at h;obtain⟨rfl,rfl,rfl⟩:=h;rw[bP] at hc;have hs:=ie hx hc.1;refine⟨0<d'.size/\(aJ=[]->els=[])/\bw d' (els.length+aJ.length) els aJ,by simp only[eh,hb,hl,hT,if_pos hTT,hd,hk,ef,hs,qD,aqz],XF,hc.2.1,?_⟩;have:=hc.2.2.1
         rwa [aqz] at this
        ·rename_i r' n qD;split at h
         ·rename_i e' size els gy;split at h
          ·rename_i oX;simp only[aqq,aqt] at h;obtain⟨rfl,rfl,rfl⟩:=h;rw[bP] at hc;have hs:=ie hx hc.1;have hn:=hc.2.1;refine⟨bw d' (els.length+aJ.length) [] aJ,by simp only[eh,hb,hl,hT,if_pos hTT,hd,hk,ef,hs,qD,gy,oX.1,oX.2,hn,and_self,if_true,aqz],?_⟩;have:=hc.2.2.1
           rwa [aqz] at this
          ·cases h
         ·rename_i e' size els gy;split at h
          ·rename_i oX;simp only[aqq,aqt] at h;obtain⟨rfl,rfl,rfl⟩:=h;rw[bP] at hc;have hs:=ie hx hc.1;have hn:=hc.2.1;refine⟨bw d' (els.length+aJ.length) [] aJ,by simp only[eh,hb,hl,hT,if_pos hTT,hd,hk,ef,hs,qD,gy,oX.1,oX.2,hn,and_self,if_true,aqz],?_⟩;have:=hc.2.2.1
           rwa [aqz] at this
          ·cases h
         ·cases h
        ·cases h
       ·cases h
      ·cases h
     ·cases h
    ·cases h
   ·cases h
  ·cases h
 |_=>simp[hv] at h
end Go.Proofs.YtnkjkpmbgoehkaaGreat
