/- Texts of ours laid together for a claim: VcB. -/
import Derived.Test.YtdcikhleahfknaaGreatDoorQ13
namespace Go.Proofs.YtdcikhleahfknaaGreatDoor
open Go
set_option linter.unusedSimpArgs false
set_option linter.unusedVariables false
theorem gX {α:Type} {o:Option α} {cs:List Prop} {r:α} (h:o.map (fun v=>(([]:List Prop),v))=some (cs,r)):o=some r:=by
 cases o with
 |none=>cases h
 |some v=>simp only[al7,als,alx] at h;rw[h.2]
theorem DX:∀{l:List Prop},dQ l->Jw l
 | [],_=>True.intro
 |_::_,h=>⟨h.1,DX h.2⟩
theorem aap {tab:Nat->Option TD} {hp:List af} {ρ:Operand->AV} {op:Op} {cs:List Prop} {r:AV} (h:pv tab hp ρ op=some (cs,r)) (hc:dQ cs):∃c,bC tab hp ρ op=some (c,r)/\c:=by
 cases op with
 |move x=>simp only[pv,als,alx] at h;exact⟨True,by rw[<-h.2];rfl,True.intro⟩
 |assign x=>simp only[pv,als,alx] at h;exact⟨True,by rw[<-h.2];rfl,True.intro⟩
 |nilCheck x=>
  simp only[pv] at h;split at h
  ·rename_i hx;simp only[als,alx] at h;exact⟨True,by simp only[bC,hx];rw[<-h.2],True.intro⟩
  ·rename_i hx;simp only[als,alx] at h;exact⟨True,by simp only[bC,hx];rw[<-h.2],True.intro⟩
  ·cases h
 |pick c x y=>
  simp only[pv] at h;split at h
  ·rename_i t ht;refine⟨True,?_,True.intro⟩;simp only[bC,ht]
   cases t<;>simp only[als,alx] at h<;>simp[h.2]
  ·cases h
 |fieldAddr T x f=>
  simp only[pv] at h;split at h
  ·rename_i p hp';split at h
   ·cases h
   ·rename_i h0;refine⟨True,?_,True.intro⟩;simp only[bC,hp',if_neg h0];split at h
    ·rename_i r' o' hx;simp only[als,alx] at h;simp[hx,h.2]
    ·rename_i r' o' hx;simp only[als,alx] at h;simp[hx,h.2]
    ·rename_i r' m' i' z' hx;split at h
     ·rename_i hz;simp only[als,alx] at h;simp[hx,hz,<-h.2]
     ·cases h
    ·cases h
  ·cases h
 |load T x=>
  simp only[pv] at h;split at h
  ·rename_i d hd;refine⟨True,?_,True.intro⟩;simp only[bC,hd];split at h
   ·rename_i r' o' hx;simp only[hx];split at h
    ·rename_i cs' hb;simp only[hb];rw[gX h];rfl
    ·cases h
   ·rename_i e o' hx;simp only[hx];rw[gX h];rfl
   ·cases h
  ·cases h
 |binOp bop T x y T'=>
  simp only[pv] at h;simp only[bC,Bf];split at h
  ·rename_i v hv;simp only[als,alx] at h;obtain⟨rfl,rfl⟩:=h;rw[hv];exact⟨True,rfl,True.intro⟩
  ·rename_i hi;rw[hi];split at h
   ·rename_i v hv;simp only[als,alx] at h;obtain⟨rfl,rfl⟩:=h;rw[Hz hv];exact⟨True,rfl,True.intro⟩
   ·rw[G9 h,h];exact⟨_,rfl,DX hc⟩
 |convert S D x=>
  simp only[pv] at h;refine⟨True,?_,True.intro⟩;simp only[bC];rw[gX h];rfl
 |unOp uop T x=>
  simp only[pv] at h;refine⟨True,?_,True.intro⟩;simp only[bC];split at h
  ·rename_i b hb;simp only[als,alx] at h;simp[hb,h.2]
  ·rename_i k n hb;simp only[als,alx] at h;simp only[hb,h.2]
  ·cases h
 |build T parts=>
  simp only[pv] at h;split at h
  ·rename_i d hd;refine⟨True,?_,True.intro⟩;simp only[bC,hd];split at h
   ·rename_i fs hk;simp only[hk]
    cases hf:cV fs (d.zero.cells.toList.map .ae) (parts.toList.map fun p=>(p.1,ρ p.2)) with
    |none=>rw[hf] at h;cases h
    |some l=>rw[hf] at h;simp only[al7,als,alx] at h;simp[h.2]
   ·rename_i n hk;simp only[hk]
    cases hf:cV (wK n) (d.zero.cells.toList.map .ae) (parts.toList.map fun p=>(p.1,ρ p.2)) with
    |none=>rw[hf] at h;cases h
    |some l=>rw[hf] at h;simp only[al7,als,alx] at h;simp[h.2]
   ·cases h
  ·cases h
 |buildSlice T n parts=>
  simp only[pv] at h;split at h
  ·rename_i d hd;split at h
   ·rename_i e hk;split at h
    ·rename_i d' dv;split at h
     ·rename_i qj;simp only[als,alx] at h;obtain⟨rfl,rfl⟩:=h;have hm:=cf (g:=AV.bB hp) (fun x=>cO) (parts.toList.map fun p=>ρ p.2) hc;simp only[bC,hd,hk,dv,if_pos qj.1];refine⟨_,?_,xc qj.2⟩;rw[<-hm,List.map_map];rfl
     ·cases h
    ·cases h
   ·cases h
  ·cases h
 |slice T x lo hi mx=>
  simp only[pv] at h;split at h
  ·rename_i d hd;split at h
   ·rename_i e hk;split at h
    ·rename_i cs' els d' hx dv;split at h
     ·rename_i l h' hl hh hm;simp only[als,alx] at h;obtain⟨rfl,rfl⟩:=h;rw[bF] at hc;have hs:=fQ hx hc.1;exact⟨_,by simp only[bC,hd,hk,hs,dv,hl,hh,hm],hc.2.1⟩
     ·rename_i l h' m hl hh hm;split at h
      ·rename_i qu;simp only[als,alx] at h;obtain⟨rfl,rfl⟩:=h;rw[bF] at hc;have hs:=fQ hx hc.1;exact⟨_,by simp only[bC,hd,hk,hs,dv,hl,hh,hm,if_pos qu],hc.2.1⟩
      ·cases h
     ·cases h
    ·cases h
   ·rename_i hk;split at h
    ·rename_i b hx;split at h
     ·rename_i l h' hl hh;simp only[als,alx] at h;obtain⟨rfl,rfl⟩:=h;exact⟨_,by simp only[bC,hd,hk,hx,hl,hh],hc.1⟩
     ·cases h
    ·cases h
   ·cases h
  ·cases h
 |field T x f=>
  simp only[pv] at h;split at h
  ·rename_i p cs' hp' hx;split at h
   ·rename_i qj;refine⟨True,?_,True.intro⟩;simp only[bC,hp',hx,if_pos qj];rw[gX h];rfl
   ·cases h
  ·cases h
 |lookup T m k ok=>
  simp only[pv] at h;split at h
  ·rename_i d es a hd hm rE;split at h
   ·rename_i kt et hk;split at h
    ·rename_i dk de nR DA;split at h
     ·rename_i ik vX;refine⟨True,?_,True.intro⟩;simp only[bC,hd,hm,rE,hk,nR,DA,vX];rw[uI h hc]
     ·cases h
    ·cases h
   ·cases h
  ·rename_i d es a hd hm rE;split at h
   ·rename_i kt et hk;split at h
    ·rename_i dk de nR DA;split at h
     ·rename_i vX;refine⟨True,?_,True.intro⟩;simp only[bC,hd,hm,rE,hk,nR,DA,vX];rw[uI h hc]
     ·cases h
    ·cases h
   ·cases h
  ·cases h
 |index T x i=>
  simp only[pv] at h;split at h
  ·rename_i d b k n hd hx hi;split at h
   ·rename_i hk;simp only[als,alx] at h;obtain⟨rfl,rfl⟩:=h;exact⟨_,by simp only[bC,hd,hx,hi,hk],hc.1⟩
   ·cases h
  ·cases h
 |extract x i=>
  simp only[pv] at h;split at h
  ·rename_i vs hx;refine⟨True,?_,True.intro⟩;simp only[bC,hx];rw[gX h];rfl
  ·cases h
 |makeFunc fn first caps=>
  cases fn with
  |func f=>
   simp only[pv] at h;split at h
   ·rename_i qj;simp only[als,alx] at h;exact⟨True,by simp only[bC,if_pos qj,h.2],True.intro⟩
   ·rename_i qj;split at h
    ·rename_i aeQ;simp only[als,alx] at h;exact⟨True,by simp only[bC,if_neg qj,if_pos aeQ,h.2],True.intro⟩
    ·cases h
  |_=>simp[pv] at h
 |call c=>
  simp only[pv] at h;split at h
  ·rename_i x hb hl;split at h
   ·rename_i d hd;split at h
    ·rename_i e hk
     cases hx:(ρ x).kZ hp with
     |none=>
      rw[hx] at h;simp only at h;split at h
      ·rename_i q m e' z k hm;simp only[als,alx] at h;obtain⟨rfl,rfl⟩:=h;obtain⟨hv,els,qi,_⟩:=pH hm;refine⟨m=k,?_,hc.1⟩;have Ln:AV.gN hp (.own q m)=none:=by simp only[AV.gN,qi]
       rw[hv] at hm;simp only[bC,hb,hl,hd,hk,hv,tI,Ln,Option.map_none,hm]
      ·cases h
     |some p=>
      rw[hx] at h;simp only[als,alx] at h;obtain⟨rfl,rfl⟩:=h;have hs:=fQ (cs:=p.1) (els:=p.2) hx hc;refine⟨True,?_,True.intro⟩;simp only[bC,hb,hl,hd,hk]
      cases hv:ρ x with
      |ae v=>
       rw[hv] at hs hx
       cases v with
       |string s=>simp[AV.kZ] at hx
       |_=>simp only[tI,hs,al7]
      |_=>rw[hv] at hs;simp only[tI,hs,al7]
    ·rename_i hk;split at h
     ·rename_i b hx;simp only[als,alx] at h;exact⟨True,by simp only[bC,hb,hl,hd,hk,hx,h.2],True.intro⟩
     ·cases h
    ·cases h
   ·cases h
  ·rename_i x y hb hl;split at h
   ·rename_i k m k' n hx hy;simp only[als,alx] at h;exact⟨True,by simp only[bC,hb,hl,hx,hy,h.2],True.intro⟩
   ·cases h
  ·rename_i x y hb hl;split at h
   ·rename_i k m k' n hx hy;simp only[als,alx] at h;exact⟨True,by simp only[bC,hb,hl,hx,hy,h.2],True.intro⟩
   ·cases h
  ·cases h
 |_=>simp[pv] at h
def hv (tab:Nat->Option TD) (hp:List af) (ρ:Operand->AV):Op->Option (List Prop×AV×List af)
 | .alloc T=>(match tab T with
  |some d=>some ([],.ptr hp.length 0,hp++[.box (d.zero.cells.toList.map .ae)])
  |none=>none)
 | .box _ x=>if(ρ x).lT=true then some ([],.ptr hp.length 0,hp++[.box (ρ x).cells]) else none
 | .store T p x=>(match tab T,ρ p with
  |some d,.ptr r o=>(match hp[r]? with
   |some (.box cs)=>if(ρ x).lT=true/\(ρ x).cells.length=d.size/\o+d.size<=cs.length then some ([],.top,hp.set r (.box (setCells cs o (ρ x).cells))) else none
   |_=>none)
  |some d,.fa r m i z=>(match hp[r]? with
   |some (.aQ e size els)=>if((ρ x).fg hp).2.lT=true/\size=z/\((ρ x).fg hp).2.cells.length=d.size/\d.size<=z then(if d.size=z then some (((ρ x).fg hp).1++[m=els.length,i<els.length],.top,hp.set r (.aQ e size (els.set i ((ρ x).fg hp).2)))
     else some (((ρ x).fg hp).1++[m=els.length,i<els.length],.top,hp.set r (.aQ e size (els.set i (.agg (setCells (els.getD i .top).cells 0 ((ρ x).fg hp).2.cells)))))) else none
   |_=>none)
  |_,_=>none)
 | .makeSlice T l c=>(match tab T with
  |some d=>(match d.kind with
   | .jS e=>(match vY l c with
    |true=>(match tab e,ρ c with
     |some d',.ae (.int _ n)=>(match DB d' with
      |some z=>some ([0<=n/\n<=9223372036854775807/\(d'.bytes:Int)*n<=281474976710656],.own hp.length (List.replicate n.toNat (AV.ae z)).length,hp++[.aQ e 1 (List.replicate n.toNat (.ae z))])
      |none=>none)
     |_,_=>none)
    |false=>(match tab e,ρ l,ρ c with
     |some d',.ae (.int _ 0),.ae (.int _ n)=>if 0<d'.size then some ([0<=n/\n<=9223372036854775807/\(d'.bytes:Int)*n<=281474976710656],.own hp.length ([]:List AV).length,hp++[.row e d'.size []]) else none
     |_,_,_=>none))
   |_=>none)
  |none=>none)
 | .makeMap T none=>(match tab T with
  |some d=>(match d.kind with
   | .oh kt _=>(match tab kt with
    |some dk=>(match dk.kind with
     | .str=>some ([],.mp hp.length,hp++[.aJ (.s [])])
     |_=>some ([],.mp hp.length,hp++[.aJ (.i [])]))
    |none=>none)
   |_=>none)
  |none=>none)
 | .mapUpdate T m k x=>(match tab T,ρ m,ρ k,ρ x with
  |some d,.mp r,.ae (.int .i64 a),.ae v=>(match d.kind,hp[r]? with
   | .oh kt _,some (.aJ (.i es))=>(match tab kt with
    |some dk=>(match dk.kind with
     | .int _=>some ([],.top,hp.set r (.aJ (.i (bU es a v))))
     |_=>none)
    |none=>none)
   |_,_=>none)
  |some d,.mp r,.ae (.string a),.ae v=>(match d.kind,hp[r]? with
   | .oh kt _,some (.aJ (.s es))=>(match tab kt with
    |some dk=>(match dk.kind with
     | .str=>some ([],.top,hp.set r (.aJ (.s (bU es a v))))
     |_=>none)
    |none=>none)
   |_,_=>none)
  |_,_,_,_=>none)
 | .call c=>(match c.callee,c.args.toList,c.argTypes.toList with
  | .builtin .append,[b,x],[T,T']=>if T=T' then(match tab T with
   |some d=>(match d.kind with
    | .jS e=>(match tab e,(ρ x).kZ hp with
     |some d',some (cs,aD)=>if 0<d'.size then(match ρ b with
      | .ae (.slice none 0 0)=>some (cs++[bd d' aD.length [] aD],.own hp.length aD.length,hp++[.row e d'.size aD])
      | .clip els=>some (cs++[aD=[]->els=[],bd d' (els++aD).length els aD],.own hp.length (els++aD).length,hp++[.row e d'.size (els++aD)])
      | .own r n=>(match hp[r]? with
       |some (.row e' size els)=>if e'=e/\size=d'.size then some (cs++[n=els.length,bd d' (els++aD).length [] aD],.own r (els++aD).length,hp.set r (.row e size (els++aD))) else none
       |some (.aQ e' size els)=>if e'=e/\size=d'.size then some (cs++[n=els.length,bd d' (els++aD).length [] aD],.own r (els++aD).length,hp.set r (.aQ e size (els++aD))) else none
       |_=>none)
      |_=>none) else none
     |_,_=>none)
    |_=>none)
   |none=>none) else none
  |_,_,_=>none)
 |_=>none
theorem aaq {tab:Nat->Option TD} {hp hp':List af} {ρ:Operand->AV} {op:Op} {cs:List Prop} {r:AV} (h:hv tab hp ρ op=some (cs,r,hp')) (hc:dQ cs):∃c,dy tab hp ρ op=some (c,r,hp')/\c:=by
 cases op with
 |alloc T=>
  simp only[hv] at h;split at h
  ·rename_i d hd;simp only[als,alx] at h;obtain⟨_,rfl,rfl⟩:=h;exact⟨True,by simp only[dy,hd],True.intro⟩
  ·cases h
 |box T x=>
  simp only[hv] at h;split at h
  ·rename_i qj;simp only[als,alx] at h;obtain⟨_,rfl,rfl⟩:=h;exact⟨True,by simp only[dy,if_pos qj],True.intro⟩
  ·cases h
 |store T p x=>
  simp only[hv] at h;split at h
  ·rename_i d r' o hd fG;split at h
   ·rename_i cs' hb;split at h
    ·rename_i qj;simp only[als,alx] at h;obtain⟨_,rfl,rfl⟩:=h;exact⟨_,by simp only[dy,hd,fG,hb,if_pos qj.1],qj.2⟩
    ·cases h
   ·cases h
  ·rename_i d r' m' i' z' hd fG;split at h
   ·rename_i e' uE lO hb;split at h
    ·rename_i qj;obtain⟨h1,h2,h3,h4⟩:=qj;split at h
     ·rename_i Dt;simp only[als,alx] at h;obtain⟨rfl,rfl,rfl⟩:=h;rw[bF] at hc;have hdv:=iC hc.1;refine⟨((ρ x).fg hp).2.cells.length=d.size/\m'=lO.length/\i' < lO.length,?_,h3,hc.2.1,hc.2.2.1⟩;simp only[dy,hd,fG,hb,hdv];rw[if_pos ⟨h1,h2⟩,if_pos Dt]
     ·rename_i Dt;simp only[als,alx] at h;obtain⟨rfl,rfl,rfl⟩:=h;rw[bF] at hc;have hdv:=iC hc.1;refine⟨((ρ x).fg hp).2.cells.length=d.size/\d.size<=z'/\m'=lO.length/\i' < lO.length,?_,h3,h4,hc.2.1,hc.2.2.1⟩;simp only[dy,hd,fG,hb,hdv];rw[if_pos ⟨h1,h2⟩,if_neg Dt]
    ·cases h
   ·cases h
  ·cases h
 |makeSlice T l c=>
  simp only[hv] at h;split at h
  ·rename_i d hd;split at h
   ·rename_i e hk;split at h
    ·rename_i X7;split at h
     ·rename_i d' k n dv hcp;split at h
      ·rename_i z hz;simp only[als,alx] at h;obtain⟨rfl,rfl,rfl⟩:=h;exact⟨0<=n/\n<=9223372036854775807/\(d'.bytes:Int)*n<=281474976710656,by simp only[dy,hd,hk,X7,dv,hcp,hz],hc.1⟩
      ·cases h
     ·cases h
    rename_i X7;split at h
    ·rename_i d' k1 k2 n dv hl hcp;split at h
     ·rename_i qj;simp only[als,alx] at h;obtain⟨rfl,rfl,rfl⟩:=h;exact⟨0<=n/\n<=9223372036854775807/\(d'.bytes:Int)*n<=281474976710656/\0<d'.size,by simp only[dy,hd,hk,X7,dv,hl,hcp];rfl,hc.1.1,hc.1.2.1,hc.1.2.2,qj⟩
     ·cases h
    ·cases h
   ·cases h
  ·cases h
 |makeMap T x=>
  cases x with
  |some x=>simp[hv] at h
  |none=>
   simp only[hv] at h;split at h
   ·rename_i d hd;split at h
    ·rename_i k e hk;split at h
     ·rename_i dk nR;split at h
      ·rename_i vX;simp only[als,alx] at h;obtain⟨_,rfl,rfl⟩:=h;exact⟨True,by simp only[dy,hd,hk,nR,vX],True.intro⟩
      ·rename_i vX;simp only[als,alx] at h;obtain⟨_,rfl,rfl⟩:=h;exact⟨True,by simp only[dy,hd,hk,nR],True.intro⟩
     ·cases h
    ·cases h
   ·cases h
 |mapUpdate T m k x=>
  simp only[hv] at h;split at h
  ·rename_i d r' a v hd hm hk hx;split at h
   ·rename_i kt et es rE hb;split at h
    ·rename_i dk nR;split at h
     ·rename_i ik vX;simp only[als,alx] at h;obtain⟨_,rfl,rfl⟩:=h;exact⟨True,by simp only[dy,hd,hm,hk,hx,rE,hb,nR,vX],True.intro⟩
     ·cases h
    ·cases h
   ·cases h
  ·rename_i d r' a v hd hm hk hx;split at h
   ·rename_i kt et es rE hb;split at h
    ·rename_i dk nR;split at h
     ·rename_i vX;simp only[als,alx] at h;obtain⟨_,rfl,rfl⟩:=h;exact⟨True,by simp only[dy,hd,hm,hk,hx,rE,hb,nR,vX],True.intro⟩
     ·cases h
    ·cases h
   ·cases h
  ·cases h
 |call c=>
  simp only[hv] at h;split at h
  ·rename_i b x T T' hb hl hT;split at h
   ·rename_i ZS;split at h
    ·rename_i d hd;split at h
     ·rename_i e hk;split at h
      ·rename_i d' cs' aD dv hx;split at h
       ·rename_i Yj;split at h
        ·rename_i oB;simp only[als,alx] at h;obtain⟨rfl,rfl,rfl⟩:=h;rw[bF] at hc;have hs:=fQ hx hc.1;exact⟨0<d'.size/\bd d' aD.length [] aD,by simp only[dy,hb,hl,hT,if_pos ZS,hd,hk,dv,hs,oB],Yj,hc.2.1⟩
        ·rename_i els oB;simp only[als,alx] at h;obtain⟨rfl,rfl,rfl⟩:=h;rw[bF] at hc;have hs:=fQ hx hc.1;refine⟨0<d'.size/\(aD=[]->els=[])/\bd d' (els.length+aD.length) els aD,by simp only[dy,hb,hl,hT,if_pos ZS,hd,hk,dv,hs,oB,alz],Yj,hc.2.1,?_⟩;have:=hc.2.2.1
         rwa [alz] at this
        ·rename_i r' n oB;split at h
         ·rename_i e' size els eH;split at h
          ·rename_i qj;simp only[als,alx] at h;obtain⟨rfl,rfl,rfl⟩:=h;rw[bF] at hc;have hs:=fQ hx hc.1;have hn:=hc.2.1;refine⟨bd d' (els.length+aD.length) [] aD,by simp only[dy,hb,hl,hT,if_pos ZS,hd,hk,dv,hs,oB,eH,qj.1,qj.2,hn,and_self,if_true,alz],?_⟩;have:=hc.2.2.1
           rwa [alz] at this
          ·cases h
         ·rename_i e' size els eH;split at h
          ·rename_i qj;simp only[als,alx] at h;obtain⟨rfl,rfl,rfl⟩:=h;rw[bF] at hc;have hs:=fQ hx hc.1;have hn:=hc.2.1;refine⟨bd d' (els.length+aD.length) [] aD,by simp only[dy,hb,hl,hT,if_pos ZS,hd,hk,dv,hs,oB,eH,qj.1,qj.2,hn,and_self,if_true,alz],?_⟩;have:=hc.2.2.1
           rwa [alz] at this
          ·cases h
         ·cases h
        ·cases h
       ·cases h
      ·cases h
     ·cases h
    ·cases h
   ·cases h
  ·cases h
 |_=>simp[hv] at h
end Go.Proofs.YtdcikhleahfknaaGreatDoor
