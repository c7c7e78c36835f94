/- Texts of ours laid together for a claim: P1Y P1Z P2A P2B P2C P2D P2E P2F P2G. -/
import Derived.Test.YtjhanogfpkbamaaGreatDoorQ52
namespace Go.Proofs.YtjhanogfpkbamaaGreatDoor
open Go
set_option linter.unusedSimpArgs false
set_option linter.unusedVariables false
theorem Dt {n:Nat} (hn:n≤1000000000):
  cG Tryz.prog 103 [.ah (.slice none 0 0),nI (n:Nat)] [] (fun r q=>if n=0 then r=.ah (.slice none 0 0)∧q=[] else r=.own 0 0∧q=[.row 3 1 []]):=by
 have e:IntKind.wrap .i64 ((n:Int)-IntKind.wrap .i64 (0-((List.length ([]:List AV):Nat):Int)))=(n:Int):=by
  rw[show IntKind.wrap .i64 (0-((List.length ([]:List AV):Nat):Int))=0 from by decide,Int.sub_zero,bH (by omega) (by omega)]
 refine Ow (ak.neg (decide_eq_false (by omega)) ?_)
 rw[e,ajl]
 refine ak.intro (fun h=>⟨⟨of_decide_eq_true h,by simp only[maxLen];omega,?_⟩,?_⟩) fun h=>?_
 ·have:TD.bytes Mo≤1000:=by decide
  have h2:n*TD.bytes Mo≤n*1000:=Nat.mul_le_mul_left _ this
  omega
 ·have:=of_decide_eq_true h
  dsimp only;rw[if_neg (by omega)];exact⟨rfl,rfl⟩
 ·have:=of_decide_eq_false h
  dsimp only;rw[if_pos (by omega)];exact⟨rfl,rfl⟩
def mH (ll:List (List Int)):List AV:=ll.map fun l=>.sl (l.map nI)
theorem wC {ll:List (List Int)} {k:Nat} (h:k<ll.length):List.getD (mH ll) (Int.toNat (k:Int)) .top=.sl (ll[k].map nI):=by
 simp[mH,List.getD,h]
theorem zI (ll:List (List Int)):(mH ll).length=ll.length:=by simp[mH]
theorem wD {ll:List (List Int)} {k:Nat} (h:k<ll.length):(ll.take (k+1)).flatten=(ll.take k).flatten++ll[k]:=by
 rw[aiW h,aj0,List.flatten_singleton]
theorem lM (ll:List (List Int)) (k:Nat):(ll.take k).flatten.length≤ll.flatten.length:=by
 have h:ll.flatten=(ll.take k).flatten++(ll.drop k).flatten:=by rw[←aj0,aiq]
 rw[h,ah0];omega
theorem GG {l:List Int} {x:AV} (h:x∈l.map nI):x.cells.length=1:=by
 obtain⟨t,_,rfl⟩:=aiQ.1 h
 exact rfl
theorem qD {ll:List (List Int)} (h0:ll.length≤1000000000) (hn:ll.flatten.length≤1000000000):
  av Tryz.prog 60 [.sl (mH ll)] (.sl (ll.flatten.map nI)):=by
 refine RQ ?_
 refine aB.intro (fun k:Nat=>((mH ll,((ll.take k).flatten.length:Nat),mH ll,((mH ll).length:Int),(k:Int),()),())) (fun k=>k≤ll.length) (fun k=>ll.length-k) 0 rfl (ah3 _) ?_
 intro k hk again bO
 dsimp only
 have hle:=lM ll k
 unfold JD
 rw[zI] at *
 refine ak.intro (fun h=>?_) fun h=>?_
 ·have ay:k<ll.length:=by simpa using h
  have uM:=lM ll (k+1)
  have aV:=bO (k+1) (by omega) (by omega)
  rw[wD ay,ah0] at uM aV
  refine⟨by omega,by omega,_,wC ay,?_⟩
  rw[ahX,bH (n:=(((ll.take k).flatten.length:Nat):Int)+_) (by omega) (by omega),aL (by omega)]
  exact ak.neg (decide_eq_false (by omega)) aV
 ·have gQ:ll.length≤k:=by simpa using h
  clear bO
  rw[ah9 gQ]
  suffices hL:zg (((),mH ll,(ll.length:Int),0,()),([],())) (fun r=>r=.sl (ll.flatten.map nI)) from
   ⟨_,Dt hn,fun r q hq=>by
    by_cases hz:ll.flatten.length=0
    ·rw[if_pos hz] at hq;exact .inr ⟨hq,rfl,hL⟩
    ·rw[if_neg hz] at hq;exact .inl ⟨[],hq,rfl,hL⟩⟩
  refine aB.intro (fun k:Nat=>(((),mH ll,(ll.length:Int),(k:Int),()),((ll.take k).flatten.map nI,()))) (fun k=>k≤ll.length) (fun k=>ll.length-k) 0 rfl (ah3 _) ?_
  intro j hj kr gX
  dsimp only
  have uM:=lM ll (j+1)
  unfold E8
  refine ak.intro (fun h=>?_) fun h=>?_
  ·have ay:j<ll.length:=by simpa using h
   have aV:=gX (j+1) (by omega) (by omega)
   rw[wD ay] at uM aV
   rw[aii] at aV
   rw[ah0] at uM
   refine⟨by omega,by rw[zI];omega,_,wC ay,rfl,kT (fun x hx=>GG hx) (by rw[ah0,ahX,ahX];omega) (by decide),rfl,?_⟩
   rw[aL (by omega)]
   exact aV
  ·have gQ:ll.length≤j:=by simpa using h
   exact⟨rfl,by rw[ah9 gQ]⟩
def ID:List Int→List Int→Int
 | [],[]=>0
 | [],_::_ => -1
 |_::_,[]=>1
 |x::l,y::m=>if x<y then -1 else if x>y then 1 else ID l m
theorem Bp:∀l m:List Int,(ID l m==0)=o8 l m
 | [],[]=>by rw[fM];rfl
 | [],_::_=>by rw[fM];rfl
 |_::_,[]=>by rw[fM];rfl
 |x::l,y::m=>by
  have ih:=Bp l m
  rw[fM] at ih ⊢
  rw[ID]
  split
  ·rw[decide_eq_false (fun e=>by cases e;omega)];rfl
  ·split
   ·rw[decide_eq_false (fun e=>by cases e;omega)];rfl
   ·have:x=y:=by omega
    subst this
    rw[ih]
    exact decide_eq_decide.2 ⟨fun e=>by rw[e],fun e=>by cases e;rfl⟩
theorem L3 {l m:List Int} (hl:l.length≤1000000000) (hm:m.length≤1000000000):av Tryz.prog 99 [.sl (aK l),.sl (aK m)] (nI (ID l m)):=by
 refine Tu ?_
 refine aB.intro (fun k:Nat=>((aK l,aK m,(k:Int),()),())) (fun k=>(k≤l.length∧k≤m.length)∧ID l m=ID (l.drop k) (m.drop k)) (fun k=>l.length-k) 0 rfl ⟨⟨ah3 _,ah3 _⟩,rfl⟩ ?_
 intro k ⟨⟨hk,QD⟩,hs⟩ again bO
 dsimp only
 unfold Kl Cv
 rw[bu,bu]
 by_cases h1:k=l.length
 ·have c1:((k:Int)==((l.length:Nat):Int))=true:=by simp;omega
  rw[ah8 (by omega)] at hs
  refine ak.pos c1 ?_
  by_cases h2:k=m.length
  ·rw[ah8 (by omega)] at hs
   exact ak.pos (by simp;omega) (by rw[hs];rfl)
  ·refine ak.neg (by simp;omega) (ak.pos c1 ?_)
   rw[ah6 (by omega)] at hs
   rw[hs];rfl
 ·have c1:((k:Int)==((l.length:Nat):Int))=false:=by simp;omega
  refine ak.neg c1 (ak.neg c1 ?_)
  have ay:k<l.length:=by omega
  by_cases h2:k=m.length
  ·rw[ah8 (show m.length≤k by omega),ah6 ay] at hs
   exact ak.pos (by simp;omega) (by rw[hs];rfl)
  ·have DH:k<m.length:=by omega
   rw[ah6 ay,ah6 DH,ID] at hs
   refine ak.neg (by simp;omega) ⟨by omega,by omega,_,cy ay,by omega,by omega,_,cy DH,ak.intro (fun c=>?_) fun c=>⟨by omega,by omega,_,cy ay,by omega,by omega,_,cy DH,ak.intro (fun c2=>?_) fun c2=>?_⟩⟩
   ·rw[hs,if_pos (of_decide_eq_true c)]
   ·rw[hs,if_neg (of_decide_eq_false c),if_pos (of_decide_eq_true c2)]
   ·rw[if_neg (of_decide_eq_false c),if_neg (of_decide_eq_false c2)] at hs
    rw[aL (by omega)]
    exact bO (k+1) ⟨⟨ay,DH⟩,hs⟩ (by omega)
theorem xg {l m:List Int} (hl:l.length≤1000000000) (hm:m.length≤1000000000):av Tryz.prog 55 [.sl (aK l),.sl (aK m)] (nB (o8 l m)):=by
 rw[←Bp]
 exact Tv ⟨_,L3 hl hm,rfl⟩
theorem zJ {l m:List (Int×Tm)} (hl:l.length≤1000000000) (hp:∀p∈l,p.2.size≤1000000):av Tryz.prog 56 [.sl (l.map bp),.sl (m.map bp)] (nB (rW oK l m)):=by
 refine SZ (ak.intro (fun h=>?_) fun h=>?_)
 ·rw[oJ (by simp at h;omega)]
 ·have DH:l.length=m.length:=by simp at h;omega
  refine aB.intro (fun k:Nat=>((l.map bp,m.map bp,(k:Int),()),())) (fun k=>k≤l.length∧rW oK l m=rW oK (l.drop k) (m.drop k)) (fun k=>l.length-k) 0 rfl ⟨ah3 _,rfl⟩ ?_
  intro k ⟨hk,hs⟩ again bO
  dsimp only
  unfold J6
  rw[ahX]
  refine ak.intro (fun h=>?_) fun h=>?_
  ·have ay:k<l.length:=by simpa using h
   rw[nD ay (by omega)] at hs
   have G9:k<m.length:=by omega
   have g1:List.getD (l.map bp) (Int.toNat (k:Int)) .top=bp l[k]:=getD_map ay
   have g2:List.getD (m.map bp) (Int.toNat (k:Int)) .top=bp m[k]:=getD_map G9
   have hi:=qt _ l[k].2 m[k].2 (ah5 _) (by have:=hp l[k] (ah1 ay);omega)
   rw[Tm.aF,Tm.aF] at hi
   refine⟨by omega,by omega,_,_,_,_,_,g1,by omega,by rw[ahX];omega,_,_,_,_,_,g2,ak.intro (fun c=>?_) fun c=>⟨by omega,by omega,_,_,_,_,_,g1,by omega,by rw[ahX];omega,_,_,_,_,_,g2,_,hi,ak.intro (fun c2=>?_) fun c2=>?_⟩⟩
   ·have:(l[k].1==m[k].1)=false:=by simpa using c
    rw[hs,oK,this,aih,aih]
   ·have:Tm.same l[k].2 m[k].2=false:=by simpa using c2
    rw[hs,oK,this,ai3,aih]
   ·have e1:(l[k].1==m[k].1)=true:=by simpa using c
    have e2:Tm.same l[k].2 m[k].2=true:=by simpa using c2
    rw[oK,e1,e2,aim,aim] at hs
    rw[aL (by omega)]
    exact bO (k+1) ⟨by omega,hs⟩ (by omega)
  ·have:l.length≤k:=by simpa using h
   rw[ah8 this,ah8 (by omega)] at hs
   rw[hs];rfl
theorem zK {l m:List bF} (hl:l.length≤1000000000) (hp:∀s∈l,s.Sz) (hq:∀s∈m,s.path.length≤1000000000):av Tryz.prog 14 [.sl (l.map bF.enc),.sl (m.map bF.enc)] (nB (rW lI l m)):=by
 refine SN (ak.intro (fun h=>?_) fun h=>?_)
 ·rw[oJ (by simp at h;omega)]
 ·have DH:l.length=m.length:=by simp at h;omega
  refine aB.intro (fun k:Nat=>((l.map bF.enc,m.map bF.enc,(k:Int),()),())) (fun k=>k≤l.length∧rW lI l m=rW lI (l.drop k) (m.drop k)) (fun k=>l.length-k) 0 rfl ⟨ah3 _,rfl⟩ ?_
  intro k ⟨hk,hs⟩ again bO
  dsimp only
  unfold JV
  rw[ahX]
  refine ak.intro (fun h=>?_) fun h=>?_
  ·have ay:k<l.length:=by simpa using h
   rw[nD ay (by omega)] at hs
   have G9:k<m.length:=by omega
   have hx:=hp l[k] (ah1 ay)
   have g1:List.getD (l.map bF.enc) (Int.toNat (k:Int)) .top=bF.enc l[k]:=getD_map ay
   have g2:List.getD (m.map bF.enc) (Int.toNat (k:Int)) .top=bF.enc m[k]:=getD_map G9
   have h1:=xg (l:=l[k].path) (m:=m[k].path) hx.path (hq m[k] (ah1 G9))
   have h2:=zJ (l:=l[k].sub) (m:=m[k].sub) hx.sub hx.sizes
   have b2:k<(m.map bF.enc).length:=by rw[ahX];omega
   refine⟨by omega,by omega,_,_,_,_,g1,by omega,by omega,_,_,_,_,g2,ak.intro (fun c=>?_) fun c=>⟨by omega,by omega,_,_,_,_,g1,by omega,by omega,_,_,_,_,g2,ak.intro (fun c2=>?_) fun c2=>
    ⟨by omega,by omega,_,_,_,_,g1,by omega,by omega,_,_,_,_,g2,_,h1,ak.intro (fun c3=>?_) fun c3=>⟨by omega,by omega,_,_,_,_,g1,by omega,by omega,_,_,_,_,g2,_,h2,ak.intro (fun c4=>?_) fun c4=>?_⟩⟩⟩⟩
   ·have:(l[k].eq==m[k].eq)=false:=by simpa using c
    rw[hs,lI,this,aih,aih]
   ·have:(l[k].back==m[k].back)=false:=by simpa only[aiA] using c2
    rw[hs,lI,this,aih,ai3,aih]
   ·have:o8 l[k].path m[k].path=false:=by simpa only[aiA] using c3
    rw[hs,lI,this,aih,ai3,ai3,aih]
   ·have:rW oK l[k].sub m[k].sub=false:=by simpa only[aiA] using c4
    rw[hs,lI,this,ai3,ai3,ai3,aih]
   ·have e1:(l[k].eq==m[k].eq)=true:=by simpa using c
    have e2:(l[k].back==m[k].back)=true:=by simpa only[ajd] using c2
    have e3:o8 l[k].path m[k].path=true:=by simpa only[ajd] using c3
    have e4:rW oK l[k].sub m[k].sub=true:=by simpa only[ajd] using c4
    rw[lI,e1,e2,e3,e4,aim,aim,aim,aim] at hs
    rw[aL (by omega)]
    exact bO (k+1) ⟨by omega,hs⟩ (by omega)
  ·have:l.length≤k:=by simpa using h
   rw[ah8 this,ah8 (by omega)] at hs
   rw[hs];rfl
theorem zL {l m:List Ty} (cJ:Ty.sizes l≤1000000000):av Tryz.prog 65 [.sl (l.map Ty.enc),.sl (m.map Ty.enc)] (nB (Ty.bU l m)):=by
 have hq:=Ty.bA l
 refine SX (ak.intro (fun h=>?_) fun h=>?_)
 ·rw[Ty.jF (by simp at h;omega)]
 ·have DH:l.length=m.length:=by simp at h;omega
  refine aB.intro (fun k:Nat=>((l.map Ty.enc,m.map Ty.enc,(k:Int),()),())) (fun k=>k≤l.length∧Ty.bU l m=Ty.bU (l.drop k) (m.drop k)) (fun k=>l.length-k) 0 rfl ⟨ah3 _,rfl⟩ ?_
  intro k ⟨hk,hs⟩ again bO
  dsimp only
  unfold J4
  rw[ahX]
  refine ak.intro (fun h=>?_) fun h=>?_
  ·have ay:k<l.length:=by simpa using h
   have G9:k<m.length:=by omega
   rw[ah6 ay,ah6 G9,Ty.bU] at hs
   have hi:=vY _ l[k] m[k] (ah5 _) (by have:=Ty.cN (ah1 ay);omega)
   rw[Ty.aF,Ty.aF] at hi
   refine⟨by omega,by omega,_,_,Ty.bh ay,by omega,by rw[ahX];omega,_,_,Ty.bh G9,_,hi,ak.intro (fun c=>?_) fun c=>?_⟩
   ·have:Ty.same l[k] m[k]=false:=by simpa using c
    rw[hs,this,aih]
   ·have:Ty.same l[k] m[k]=true:=by simpa using c
    rw[this,aim] at hs
    rw[aL (by omega)]
    exact bO (k+1) ⟨by omega,hs⟩ (by omega)
  ·have:l.length≤k:=by simpa using h
   rw[ah8 this,ah8 (by omega)] at hs
   rw[hs];rfl
theorem Am {l m:aP} (h:l.Sz):av Tryz.prog 22 [.agg (Mq l),.agg (Mq m)] (nB (w6 l m)):=by
 have h1:=qt _ l.left m.left (ah5 _) (by have:=h.left;omega)
 have h2:=qt _ l.right m.right (ah5 _) (by have:=h.right;omega)
 have h3:=zL (m:=m.aO) h.aO
 rw[Tm.aF,Tm.aF] at h1 h2
 refine SV ⟨_,h1,ak.intro (fun c1=>⟨_,h2,ak.intro (fun c2=>⟨_,h3,?_⟩) fun c2=>?_⟩) fun c1=>?_⟩
 ·rw[w6,c1,c2,aim,aim]
 ·rw[w6,c1,c2,aim,aih]
 ·rw[w6,c1,aih]
theorem zM {l m:List aP} (hl:l.length≤1000000000) (hp:∀s∈l,s.Sz) (hq:∀s∈m,s.Sz):av Tryz.prog 25 [.sl (l.map aP.enc),.sl (m.map aP.enc)] (nB (rW rE l m)):=by
 refine SQ (ak.intro (fun h=>?_) fun h=>?_)
 ·rw[oJ (by simp at h;omega)]
 ·have DH:l.length=m.length:=by simp at h;omega
  refine aB.intro (fun k:Nat=>((l.map aP.enc,m.map aP.enc,(k:Int),()),())) (fun k=>k≤l.length∧rW rE l m=rW rE (l.drop k) (m.drop k)) (fun k=>l.length-k) 0 rfl ⟨ah3 _,rfl⟩ ?_
  intro k ⟨hk,hs⟩ again bO
  dsimp only
  unfold JX
  rw[ahX]
  refine ak.intro (fun h=>?_) fun h=>?_
  ·have ay:k<l.length:=by simpa using h
   rw[nD ay (by omega)] at hs
   have G9:k<m.length:=by omega
   have hx:=hp l[k] (ah1 ay)
   have hy:=hq m[k] (ah1 G9)
   have g1:List.getD (l.map aP.enc) (Int.toNat (k:Int)) .top=aP.enc l[k]:=getD_map ay
   have g2:List.getD (m.map aP.enc) (Int.toNat (k:Int)) .top=aP.enc m[k]:=getD_map G9
   have h1:=Am (l:=l[k]) (m:=m[k]) hx
   have h2:=zK (l:=l[k].steps) (m:=m[k].steps) hx.len hx.steps fun s hs=>(hy.steps s hs).path
   have b2:k<(m.map aP.enc).length:=by rw[ahX];omega
   refine⟨by omega,by omega,_,_,_,_,_,_,_,_,_,_,g1,by omega,by omega,_,_,_,_,_,_,_,_,_,_,g2,_,h1,ak.intro (fun c=>?_) fun c=>⟨by omega,by omega,_,_,_,_,_,_,_,_,_,_,g1,by omega,by omega,_,_,_,_,_,_,_,_,_,_,g2,_,h2,ak.intro (fun c2=>?_) fun c2=>?_⟩⟩
   ·have:w6 l[k] m[k]=false:=by simpa only[aiA] using c
    rw[hs,rE,this,aih,aih]
   ·have:rW lI l[k].steps m[k].steps=false:=by simpa only[aiA] using c2
    rw[hs,rE,this,ai3,aih]
   ·have e1:w6 l[k] m[k]=true:=by simpa only[ajd] using c
    have e2:rW lI l[k].steps m[k].steps=true:=by simpa only[ajd] using c2
    rw[rE,e1,e2,aim,aim] at hs
    rw[aL (by omega)]
    exact bO (k+1) ⟨by omega,hs⟩ (by omega)
  ·have:l.length≤k:=by simpa using h
   rw[ah8 this,ah8 (by omega)] at hs
   rw[hs];rfl
mutual
theorem Tm.xV:∀(t:Tm),t.Full→t.Ok
 | .mk b k i a,h=>⟨h.2.1,h.2.2.1,Tm.GH a h.2.2.2⟩
theorem Tm.GH:∀(l:List Tm),Tm.rV l→Tm.FX l
 | [],_=>True.intro
 |t::l,h=>⟨Tm.xV t h.1,Tm.GH l h.2⟩
end
structure Xv (l:List bF):Prop where
 len:l.length≤8
 path:∀s∈l,s.path.length≤1000
 sub:∀s∈l,s.sub.length≤10
 sizes:∀s∈l,∀p∈s.sub,p.2.size≤150
 ok:∀s∈l,∀p∈s.sub,p.2.Ok
theorem Xv.sz {l:List bF} (h:Xv l):∀s∈l,s.Sz:=fun s hs=>⟨aiy (h.path s hs) (by decide),aiy (h.sub s hs) (by decide),fun p hp=>aiy (h.sizes s hs p hp) (by decide)⟩
def bF.jR (p:List Int) (s:bF):bF:=⟨s.eq,s.back,p++s.path,s.sub⟩
theorem qE {s:bF} (h:s.Sz) (hk:∀p∈s.sub,p.2.Ok):av Tryz.prog 59 [s.enc] s.enc:=by
 have h1:=FV (l:=s.path) h.path
 have hl:=h.sub
 refine SB ⟨_,h1,rfl,?_⟩
 refine aB.intro (fun k:Nat=>(((),(),s.sub.map bp,(s.sub.length:Int),(k:Int),()),((s.eq,s.back,aK s.path,s.sub.map bp,()),(0,false,(),(),()),(s.eq,s.back,aK s.path,(),()),(s.sub.take k).map bp,())))
  (fun k=>k≤s.sub.length) (fun k=>s.sub.length-k) 0 (by rw[ahX];rfl) (ah3 _) ?_
 intro k zW again bO
 dsimp only
 unfold JM
 rw[ahX]
 refine ak.intro (fun h'=>?_) fun h'=>?_
 ·have ay:k<s.sub.length:=by simpa using h'
  have g:List.getD (s.sub.map bp) (Int.toNat (k:Int)) .top=bp s.sub[k]:=getD_map ay
  have hi:=sG (t:=s.sub[k].2) (by have:=h.sizes _ (ah1 ay);omega) (hk _ (ah1 ay))
  rw[Tm.aF] at hi
  refine⟨by omega,by omega,_,_,_,_,_,g,_,_,_,_,hi,rfl,aJ rfl (by simp;omega) (by decide),rfl,?_⟩
  have e:(s.sub.take k).map bp++[bp s.sub[k]]=(s.sub.take (k+1)).map bp:=by rw[←aH ay,aii];rfl
  have:=bO (k+1) (by omega) (by omega)
  rw[←e] at this
  rw[aL (by omega)]
  exact this
 ·have:s.sub.length≤k:=by simpa using h'
  exact⟨rfl,by rw[ah9 this];rfl⟩
theorem GI {l:List bF} (h:Xv l) {p:List Int} (hp:p.length≤1000):av Tryz.prog 18 [.sl (l.map bF.enc),.sl (aK p)] (.sl ((l.map (bF.jR p)).map bF.enc)):=by
 have hn:=h.len
 refine SH ⟨rfl,?_⟩
 refine aB.intro (fun k:Nat=>((aK p,(),l.map bF.enc,(l.length:Int),(k:Int),()),(((l.take k).map (bF.jR p)).map bF.enc,()))) (fun k=>k≤l.length) (fun k=>l.length-k) 0 (by rw[ahX];rfl) (ah3 _) ?_
 intro k hk again bO
 dsimp only
 unfold JO
 rw[ahX]
 refine ak.intro (fun h'=>?_) fun h'=>?_
 ·have ay:k<l.length:=by simpa using h'
  have g:List.getD (l.map bF.enc) (Int.toNat (k:Int)) .top=bF.enc l[k]:=getD_map ay
  have hi:=qE (h.sz _ (ah1 ay)) (h.ok _ (ah1 ay))
  have hc:=qD (ll:=[p,l[k].path]) (by simp) (by have:=h.path _ (ah1 ay);simp;omega)
  have e2:[p,l[k].path].flatten=p++l[k].path:=by simp
  rw[e2] at hc
  refine⟨by omega,by omega,_,_,_,_,g,_,_,_,_,hi,_,hc,rfl,aJ rfl (by simp;omega) (by decide),rfl,?_⟩
  have e:((l.take k).map (bF.jR p)).map bF.enc++[bF.enc (bF.jR p l[k])]=((l.take (k+1)).map (bF.jR p)).map bF.enc:=by rw[←aH ay,aii,aii];rfl
  have:=bO (k+1) (by omega) (by omega)
  rw[←e] at this
  rw[aL (by omega)]
  exact this
 ·have:l.length≤k:=by simpa using h'
  exact⟨rfl,by rw[ah9 this]⟩
theorem IE {l:List Ty} (h:Ty.sizes l≤1000000):av Tryz.prog 151 [.sl (l.map Ty.enc)] (.sl (l.map Ty.enc)):=by
 have:=vV (t:=.mk [] 0) (l:=l) (by simp only[Ty.size,Ty.sizes];omega)
 rw[Ty.arrow,Ty.oA,Ty.oA] at this
 have e:(l++(Ty.mk [] 0).args)=l:=aiH l
 rw[e] at this
 exact OY ⟨_,_,this,rfl⟩
def aP.swap (l:aP):aP:=⟨l.right,l.left,l.aO,l.steps⟩
structure aP.Qn (l:aP):Prop where
 left:l.left.size≤1000000
 right:l.right.size≤1000000
 lok:l.left.Ok
 rok:l.right.Ok
 aO:Ty.sizes l.aO≤1000000
theorem An {l:aP} (h:l.Qn):av Tryz.prog 141 [.agg (Mq l)] (.agg (Mq l)):=by
 have a:=sG (t:=l.left) (by have:=h.left;omega) h.lok
 have b:=sG (t:=l.right) (by have:=h.right;omega) h.rok
 rw[Tm.aF] at a b
 exact OZ ⟨_,_,_,_,a,_,_,_,_,b,_,IE h.aO,rfl⟩
theorem wE {l:aP} (h:l.Qn):av Tryz.prog 106 [.agg (Mq l)] (.agg (Mq l.swap)):=
 O0 ⟨_,_,_,_,_,_,_,_,_,An (l:=l.swap) ⟨h.right,h.left,h.rok,h.lok,h.aO⟩,rfl⟩
theorem zN {l:aP} (h:l.Qn):av Tryz.prog 63 [.agg (Mq l)] (.agg (Mq l)):=
 Sy ⟨_,_,_,_,_,_,_,_,_,wE h,_,_,_,_,_,_,_,_,_,wE (l:=l.swap) ⟨h.right,h.left,h.rok,h.lok,h.aO⟩,rfl⟩
theorem aP.Cut.Ms {l:aP} (h:l.Cut) (ho:l.Ok):Xv l.steps:=
 ⟨h.sl,fun s hs=>aiy (h.sub hs).2 (by decide),h.P3,fun s hs=>(h.sub hs).1,fun s hs p hp=>Tm.xV _ ((ho.steps s hs).sub p hp).term⟩
theorem aP.Cut.pa {l:aP} (h:l.Cut) (ho:l.Ok):l.Qn:=
 ⟨ho.PV,ho.PW,Tm.xV _ ho.left,Tm.xV _ ho.right,aiy h.jg.tys (by decide)⟩
def oP (n:Int) (k:Nat) (e:Int) (t:Nat):Bool:=decide (n≤e∧0≤e∧e-max n 0=(t:Int))&&decide (t<k)
structure KM (ls:List aP) (n:Int) (S:Nat→Prop):Prop where
 last:∀k,ls.length=k+1→S k
 step:∀(i:Nat) (h:i<ls.length),S i→∀s∈ls[i].steps,∀t,oP n ls.length s.eq t=true→S t
def fX (ls:List aP) (n:Int) (i:Nat):Prop:=∀S,KM ls n S→S i
open Classical in
noncomputable def aq (ls:List aP) (n:Int):List Nat:=(List.range ls.length).filter fun i=>decide (fX ls n i)
theorem fG (ls:List aP) (n:Int):KM ls n (fX ls n):=
 ⟨fun k hk S hS=>hS.last k hk,fun i hi hn s hs t ht S hS=>hS.step i hi (hn S hS) s hs t ht⟩
theorem KN {n:Int} {k t:Nat} {e:Int} (h:oP n k e t=true):t<k:=by
 rw[oP,ahZ,decide_eq_true_eq,decide_eq_true_eq] at h
 exact h.2
def Ao (n e:Int):Option Int:=if n≤e∧0≤e then some (e-max n 0) else none
def Ap (n:Int) (l:List bF):List Int:=l.filterMap fun s=>Ao n s.eq
theorem L4 {n:Int} {l:List bF} {k:Nat} (h:k<l.length):Ap n (l.take (k+1))=Ap n (l.take k)++(Ao n l[k].eq).toList:=by
 rw[←aH h,Ap,Ap,List.filterMap_append]
 cases hq:Ao n l[k].eq<;>simp[hq]
theorem GJ (n:Int) (l:List bF):(Ap n l).length≤l.length:=List.length_filterMap_le _ _
theorem GK {n:Int} {K:Nat} {l:List bF} {t:Nat}:(t:Int)∈Ap n l∧t<K↔∃s∈l,oP n K s.eq t=true:=by
 simp only[Ap,ajQ,Ao,oP,ahZ,decide_eq_true_eq]
 constructor
 ·rintro⟨⟨s,hs,h1⟩,h2⟩
  split at h1
  ·rename_i h3
   exact⟨s,hs,⟨h3.1,h3.2,by have:=Option.some.inj h1;omega⟩,h2⟩
  ·cases h1
 ·rintro⟨s,hs,⟨h1,h2,h3⟩,h4⟩
  exact⟨⟨s,hs,by rw[if_pos ⟨h1,h2⟩,h3]⟩,h4⟩
structure Du (ls:List aP) (n:Int) (N:List Nat) (q:List Int):Prop where
 lt:∀i∈N,i<ls.length
 Qo:∀i∈N,fX ls n i
 Bq:∀i:Nat,(i:Int)∈q→i<ls.length→fX ls n i
 last:∀k,ls.length=k+1→k∈N∨(k:Int)∈q
 step:∀(i:Nat) (h:i<ls.length),i∈N→∀s∈ls[i].steps,∀t,oP n ls.length s.eq t=true→t∈N∨(t:Int)∈q
theorem Du.skip {ls:List aP} {n x:Int} {N:List Nat} {q:List Int} (h:Du ls n N (x::q)) (hx:∀t:Nat,(t:Int)=x→t<ls.length→t∈N):Du ls n N q where
 lt:=h.lt
 Qo:=h.Qo
 Bq i hi:=h.Bq i (aip _ hi)
 last k hk:=by
  rcases h.last k hk with h1|h1
  ·exact .inl h1
  ·rcases aiC.1 h1 with h2|h2
   ·exact .inl (hx k h2 (by omega))
   ·exact .inr h2
 step i hi hN s hs t ht:=by
  rcases h.step i hi hN s hs t ht with h1|h1
  ·exact .inl h1
  ·rcases aiC.1 h1 with h2|h2
   ·exact .inl (hx t h2 (KN ht))
   ·exact .inr h2
theorem Du.add {ls:List aP} {n:Int} {N:List Nat} {q:List Int} {i:Nat} (h:Du ls n N ((i:Int)::q)) (hi:i<ls.length):Du ls n (N++[i]) (q++Ap n ls[i].steps) where
 lt j hj:=by
  rcases aiM.1 hj with h1|h1
  ·exact h.lt j h1
  ·rw[air.1 h1];exact hi
 Qo j hj:=by
  rcases aiM.1 hj with h1|h1
  ·exact h.Qo j h1
  ·rw[air.1 h1];exact h.Bq i (aia ..) hi
 Bq j hj hl:=by
  rcases aiM.1 hj with h1|h1
  ·exact h.Bq j (aip _ h1) hl
  ·obtain⟨s,hs,ht⟩:=GK.1 ⟨h1,hl⟩
   exact(fG ls n).step i hi (h.Bq i (aia ..) hi) s hs j ht
 last k hk:=by
  rcases h.last k hk with h1|h1
  ·exact .inl (aje _ h1)
  ·rcases aiC.1 h1 with h2|h2
   ·exact .inl (ajK _ (by rw[show k=i by omega];exact air.2 rfl))
   ·exact .inr (aje _ h2)
 step j hj hN s hs t ht:=by
  rcases aiM.1 hN with h1|h1
  ·rcases h.step j hj h1 s hs t ht with h2|h2
   ·exact .inl (aje _ h2)
   ·rcases aiC.1 h2 with h3|h3
    ·exact .inl (ajK _ (by rw[show t=i by omega];exact air.2 rfl))
    ·exact .inr (aje _ h3)
  ·obtain rfl:=air.1 h1
   exact .inr (ajK _ (GK.2 ⟨s,hs,ht⟩).1)
theorem Du.done {ls:List aP} {n:Int} {N:List Nat} (h:Du ls n N []) (i:Nat):i∈N↔fX ls n i:=by
 refine⟨h.Qo i,fun hn=>hn (·∈N) ⟨fun k hk=>?_,fun j hj hN s hs t ht=>?_⟩⟩
 ·rcases h.last k hk with h1|h1
  ·exact h1
  ·cases h1
 ·rcases h.step j hj hN s hs t ht with h1|h1
  ·exact h1
  ·cases h1
def GL (N:List Nat) (k:Nat):Nat:=((List.range k).filter fun i=>!N.contains i).length
theorem wF {p q:Nat→Bool}:∀{l:List Nat} {i:Nat},(∀x,q x=true→p x=true)→i∈l→p i=true→q i=false→(l.filter q).length+1≤(l.filter p).length
 |x::l,i,hpq,hi,h1,h2=>by
  have hle:∀l:List Nat,(l.filter q).length≤(l.filter p).length:=fun l=>by
   induction l with
   |nil=>exact ah5 _
   |cons y l ih=>
    simp only[List.filter_cons]
    split
    ·rename_i hq;rw[if_pos (hpq y hq)];simp only[aif];omega
    ·split
     ·simp only[aif];omega
     ·exact ih
  rcases aiC.1 hi with rfl|hi
  ·simp only[List.filter_cons,h1,h2]
   have:=hle l
   simp;omega
  ·have ih:=wF (p:=p) (q:=q) hpq hi h1 h2
   simp only[List.filter_cons]
   split
   ·rename_i hq;rw[if_pos (hpq x hq)];simp only[aif];omega
   ·split
    ·simp only[aif];omega
    ·exact ih
theorem L5 {N:List Nat} {k i:Nat} (hi:i<k) (hN:i∉N):GL (N++[i]) k+1≤GL N k:=
 wF (i:=i) (fun x hx=>by simp at hx ⊢;exact hx.1) (aja.2 hi) (by simpa using hN) (by simp)
theorem Qp (N:List Nat) (k:Nat):GL N k≤k:=by
 have:=ajY (fun i=>!N.contains i) (List.range k)
 rw[ajU] at this
 exact this
def ndE (N:List Nat) (es:List (Int×Value)):Prop:=∀i:Nat,bE es (i:Int)=if i∈N then some (.bool true) else none
theorem ndE.put {N:List Nat} {es:List (Int×Value)} (h:ndE N es) {i:Nat}:ndE (N++[i]) (dG es (i:Int) (.bool true)):=fun j=>by
 rw[zv,h j]
 by_cases hj:j=i
 ·subst hj;simp
 ·have:¬(j:Int)=i:=by omega
  rw[if_neg this]
  simp[hj]
theorem wG (ls:List aP) (n:Int) (k:Nat) (p:Nat→Bool):(List.range (k+1)).filter p=(List.range k).filter p++(if p k=true then[k] else[]):=by
 rw[List.range_succ,List.filter_append]
 cases h:p k<;>simp[h]
abbrev iA (l:List Nat):List Int:=l.map fun i:Nat=>(i:Int)
open Classical in
theorem uD {ls:List aP} {n:Int} (hK:ls.length≤6) (h8:∀l∈ls,l.steps.length≤8) (he:∀l∈ls,∀s∈l.steps,ke s.eq):av Tryz.prog 28 [.agg [.sl (ls.map aP.enc)],nI n] (.sl (aK (iA (aq ls n)))):=by
 refine SJ ⟨rfl,?_⟩
 rw[ahX,bH (by omega) (by omega)]
 refine aB.intro (fun b:Nat×List Nat×List (Int×Value)×List Int=>((n,(),(ls.length:Int),(),(),()),((ls.map aP.enc,()),b.2.2.1,(b.1,b.2.2.2),())))
  (fun b=>ndE b.2.1 b.2.2.1∧Du ls n b.2.1 b.2.2.2∧b.2.2.2.length+9*GL b.2.1 ls.length≤100) (fun b=>b.2.2.2.length+9*GL b.2.1 ls.length) (0,[],[],[(ls.length:Int)-1]) rfl
  ⟨fun i=>by simp[bE],⟨fun i hi=>(by cases hi),fun i hi=>(by cases hi),fun i hi hl=>?_,fun k hk=>.inr (by rw[hk];exact air.2 (by omega)),fun i _ hi=>(by cases hi)⟩,?_⟩ ?_
 ·have:=air.1 hi
  exact(fG ls n).last i (by omega)
 ·have:=Qp [] ls.length
  simp only[aiN]
  omega
 rintro⟨m,N,es,q⟩ ⟨xm,hI,hq⟩ again bO
 dsimp only at xm hI hq bO ⊢
 unfold JQ
 refine⟨rfl,ak.intro (fun h=>?_) fun h=>?_⟩
 ·cases q with
  |nil=>simp at h
  |cons x q=>
   have e1:List.getD (x::q) (Int.toNat 0) 0=x:=rfl
   have e2:List.drop (Int.toNat 1) (x::q)=q:=rfl
   rw[e1,e2]
   rw[aif] at hq bO
   refine⟨rfl,⟨Int.le_refl _,by simp only[aif];omega⟩,rfl,by simp,rfl,⟨by decide,by simp only[aif];omega⟩,?_⟩
   have skip:(∀t:Nat,(t:Int)=x→t<ls.length→t∈N)→again ((n,(),(ls.length:Int),(),(),()),((ls.map aP.enc,()),es,(m+1,q),())):=fun hx=>
    bO (m+1,N,es,q) ⟨xm,hI.skip hx,by dsimp only;omega⟩ (by dsimp only;omega)
   refine ak.intro (fun c=>⟨rfl,skip fun t ht hl=>?_⟩) fun c=>ak.intro (fun d=>⟨rfl,skip fun t ht hl=>?_⟩) fun d=>?_
   ·have:=of_decide_eq_true c;omega
   ·have:=of_decide_eq_true d;omega
   ·have c':0≤x:=by have:=of_decide_eq_false c;omega
    have d':x<ls.length:=by have:=of_decide_eq_false d;omega
    obtain⟨i,rfl⟩:∃i:Nat,x=(i:Int):=⟨x.toNat,by omega⟩
    have hi:i<ls.length:=by omega
    have hm:=ah1 hi
    rw[xm i]
    by_cases hN:i∈N
    ·rw[if_pos hN]
     exact⟨rfl,ak.pos rfl ⟨rfl,skip fun t ht _=>by rw[show t=i by omega];exact hN⟩⟩
    ·rw[if_neg hN]
     have g:List.getD (ls.map aP.enc) (Int.toNat (i:Int)) .top=aP.enc ls[i]:=getD_map hi
     refine⟨rfl,ak.neg rfl ⟨c',by rw[ahX];exact d',_,_,_,_,_,_,_,_,_,_,g,rfl,?_⟩⟩
     have qR:=L5 hi hN
     have h8':=h8 _ hm
     have aep:=hI.add hi
     refine aB.intro (fun b:Nat×Nat=>((n,(),(ls.length:Int),(),(),ls[i].steps.map bF.enc,((List.length (ls[i].steps.map bF.enc):Nat):Int),(b.2:Int),()),((ls.map aP.enc,()),dG es (i:Int) (.bool true),(b.1,q++Ap n (ls[i].steps.take b.2)),())))
      (fun b=>b.2≤ls[i].steps.length) (fun b=>ls[i].steps.length-b.2) (m+1,0) (by rw[ajq];show _=(_,_,_,(_,q++[]),_);rw[aiH];rfl) (ah3 _) ?_
     rintro⟨m2,k⟩ hk kr gX
     dsimp only at hk gX ⊢
     unfold Ft
     rw[ahX]
     refine ak.intro (fun c2=>?_) fun c2=>?_
     ·have ay:k<ls[i].steps.length:=by simpa using c2
      have g2:List.getD (ls[i].steps.map bF.enc) (Int.toNat (k:Int)) .top=bF.enc ls[i].steps[k]:=getD_map ay
      have hE:=he _ hm _ (ah1 ay)
      unfold ke at hE
      refine⟨by omega,by omega,_,_,_,_,g2,?_⟩
      have hq2:=GJ n (ls[i].steps.take k)
      rw[aid] at hq2
      have aV:=fun m3=>gX (m3,k+1) (by dsimp only;omega) (by dsimp only;omega)
      have hw:IntKind.wrap .i64 ((k:Int)+1)=((k+1:Nat):Int):=aL (by omega)
      simp only[L4 ay,ahX] at aV
      refine ak.intro (fun c3=>?_) fun c3=>?_
      ·have c3:=of_decide_eq_true c3
       unfold Fq
       refine ak.intro (fun c4=>?_) fun c4=>?_
       ·have c4:=of_decide_eq_true c4
        have ea:Ao n ls[i].steps[k].eq=some (ls[i].steps[k].eq-max n 0):=by rw[Ao,if_pos ⟨c3,c4⟩]
        have em:(if 0>n then 0 else n)=max n 0:=by omega
        rw[em,bH (by omega) (by omega),hw]
        refine⟨rfl,⟨by simp only[ah0,aiN,maxLen];omega,by rw[show TD.bytes Mo=8 from rfl];simp only[ah0,aiN];omega⟩,rfl,?_⟩
        have:=aV (m2+1)
        rw[ea] at this
        rw[ah7]
        exact this
       ·have c4:=of_decide_eq_false c4
        have ea:Ao n ls[i].steps[k].eq=none:=by rw[Ao,if_neg (by omega)]
        have:=aV m2
        rw[ea,Option.toList_none,aiH] at this
        rw[hw]
        exact⟨rfl,this⟩
      ·have c3:=of_decide_eq_false c3
       have ea:Ao n ls[i].steps[k].eq=none:=by rw[Ao,if_neg (by omega)]
       have:=aV m2
       rw[ea,Option.toList_none,aiH] at this
       rw[hw]
       exact⟨rfl,this⟩
     ·have gQ:ls[i].steps.length≤k:=by simpa using c2
      have ht:ls[i].steps.take k=ls[i].steps:=ah9 gQ
      have hq2:=GJ n ls[i].steps
      refine⟨rfl,?_⟩
      rw[ht]
      exact bO (m2,N++[i],dG es (i:Int) (.bool true),q++Ap n ls[i].steps) ⟨xm.put,aep,by simp only[ah0];omega⟩ (by simp only[ah0];omega)
 ·have hq0:q=[]:=by
   cases q with
   |nil=>rfl
   |cons x q=>simp at h
  subst hq0
  have y6:=hI.done
  refine⟨rfl,aB.intro (fun k:Nat=>(((),(),(ls.length:Int),(k:Int),()),((ls.map aP.enc,()),es,(m,[]),aK (iA ((List.range k).filter fun i=>decide (fX ls n i))),()))) (fun k=>k≤ls.length) (fun k=>ls.length-k) 0 rfl (ah3 _) ?_⟩
  intro k hk kr gX
  dsimp only
  unfold Fu
  refine ak.intro (fun c=>?_) fun c=>?_
  ·have ay:k<ls.length:=by simpa using c
   have aV:=gX (k+1) (by omega) (by omega)
   rw[xm k,aL (by omega)]
   rw[wG ls n] at aV
   have hl:=ajY (fun i=>decide (fX ls n i)) (List.range k)
   rw[ajU] at hl
   by_cases hN:k∈N
   ·rw[if_pos hN]
    rw[if_pos (decide_eq_true ((y6 k).1 hN))] at aV
    refine⟨rfl,ak.pos rfl ⟨rfl,aJ rfl (by simp only[ah0,bu,ahX,aiN];omega) (by decide),rfl,?_⟩⟩
    rw[uf]
    rw[iA,aii] at aV
    exact aV
   ·rw[if_neg hN]
    rw[if_neg (by rw[decide_eq_true_eq];exact fun h=>hN ((y6 k).2 h)),aiH] at aV
    exact⟨rfl,ak.neg rfl ⟨rfl,aV⟩⟩
  ·have gQ:k=ls.length:=by have:=of_decide_eq_false c;omega
   subst gQ
   exact⟨rfl,rfl⟩
def kf (B:List Bool) (i:Nat):Prop:=B[i]?=some true
def rF:List Bool→Nat
 | []=>0
 |b::l=>(if b=true then 1 else 0)+rF l
theorem GM:∀B:List Bool,rF B≤B.length
 | []=>ah5 _
 |b::l=>by have:=GM l;simp only[rF,aif];split<;>omega
theorem uE {B:List Bool} {t i:Nat} (ht:t<B.length):kf (B.set t true) i↔kf B i∨i=t:=by
 unfold kf
 rw[ajk]
 by_cases h:t=i
 ·subst h;simp[ht]
 ·rw[if_neg h]
  exact⟨.inl,fun h1=>h1.elim id fun h2=>(h h2.symm).elim⟩
theorem KO:∀{B0 B:List Bool},B0.length=B.length→(∀i,kf B0 i→kf B i)→rF B0≤rF B∧(rF B0=rF B→∀i,kf B i→kf B0 i)
 | [],[],_,_=>⟨ah5 _,fun _ _ h=>h⟩
 | [],_::_,h,_=>by simp at h
 |_::_,[],h,_=>by simp at h
 |b0::B0,b::B,hl,h=>by
  obtain⟨h1,h2⟩:=KO (B0:=B0) (B:=B) (by simpa using hl) fun i hi=>by simpa [kf] using h (i+1) (by simpa [kf] using hi)
  have h0:b0=true→b=true:=fun hb=>by simpa [kf] using h 0 (by simp[kf,hb])
  simp only[rF]
  refine⟨?_,fun he i hi=>?_⟩
  ·cases b0<;>cases b<;>simp_all;omega
  ·have VT:b0=b∧rF B0=rF B:=by cases b0<;>cases b<;>simp_all;omega
   cases i with
   |zero=>simpa [kf,VT.1] using hi
   |succ i=>simpa [kf] using h2 VT.2 i (by simpa [kf] using hi)
theorem fX.lt {ls:List aP} {n:Int} {i:Nat} (h:fX ls n i):i<ls.length:=
 h (· < ls.length) ⟨fun k hk=>by omega,fun j hj _ s hs t ht=>KN ht⟩
structure Dv (ls:List aP) (n:Int) (r:Nat) (B:List Bool):Prop where
 len:B.length=ls.length
 snd:∀i,kf B i→fX ls n i
 last:∀k,ls.length=k+1→kf B k
 prog:(∀i,fX ls n i→kf B i)∨r+1≤rF B
theorem Dv.done {ls:List aP} {n:Int} {r:Nat} {B:List Bool} (h:Dv ls n r B) (hr:ls.length≤r) (i:Nat):kf B i↔fX ls n i:=by
 refine⟨h.snd i,fun hn=>?_⟩
 rcases h.prog with h1|h1
 ·exact h1 i hn
 ·have:=GM B;have:=h.len;omega
theorem Dv.next {ls:List aP} {n:Int} {r:Nat} {B0 B:List Bool} (h:Dv ls n r B0) (hl:B.length=ls.length) (hs:∀i,kf B i→fX ls n i) (hle:∀i,kf B0 i→kf B i)
  (hc:∀(i:Nat) (hi:i<ls.length),kf B0 i→∀s∈ls[i].steps,∀t,oP n ls.length s.eq t=true→kf B t):Dv ls n (r+1) B:=by
 refine⟨hl,hs,fun k hk=>hle k (h.last k hk),?_⟩
 rcases h.prog with h1|h1
 ·exact .inl fun i hn=>hle i (h1 i hn)
 ·obtain⟨h2,h3⟩:=KO (by rw[h.len,hl]) hle
  by_cases he:rF B0=rF B
  ·exact .inl fun i hn=>hn (kf B) ⟨fun k hk=>hle k (h.last k hk),fun j hj hj2 s UM t ht=>hc j hj (h3 he j hj2) s UM t ht⟩
  ·exact .inr (by omega)
def eO (B:List Bool):List AV:=B.map nB
theorem eB (B:List Bool):(eO B).length=B.length:=by simp[eO]
theorem Br {B:List Bool} {k:Nat} (h:k<B.length):List.getD (eO B) (Int.toNat (k:Int)) .top=nB B[k]:=getD_map h
theorem Bs {B:List Bool} {k:Nat}:List.set (eO B) (Int.toNat (k:Int)) (nB true)=eO (B.set k true):=by
 rw[ajl,eO,eO,List.map_set]
theorem xW {B:List Bool} {k:Nat} (h:k<B.length):kf B k↔B[k]=true:=by
 unfold kf;rw[ah2 h];simp
open Classical in
theorem uF {ls:List aP} {n:Int} (hK:ls.length≤6) (h8:∀l∈ls,l.steps.length≤8) (he:∀l∈ls,∀s∈l.steps,ke s.eq) (hn:ke n) {B:List Bool} (hB:Dv ls n 0 B) {R:AV→Prop} (hR:R (.sl (aK (iA (aq ls n))))):
  n8 ((ls.map aP.enc,max n 0,(),0,()),(eO B,())) R:=by
 unfold ke at hn
 refine aB.intro (fun b:Nat×List Bool=>((ls.map aP.enc,max n 0,(),(b.1:Int),()),(eO b.2,()))) (fun b=>b.1≤ls.length∧Dv ls n b.1 b.2) (fun b=>ls.length-b.1) (0,B) rfl ⟨ah3 _,hB⟩ ?_
 clear hB B
 rintro⟨r,B0⟩ ⟨hr,hI⟩ again bO
 dsimp only at hr hI bO ⊢
 unfold JZ
 rw[ahX]
 refine ak.intro (fun c=>⟨rfl,?_⟩) fun c=>⟨rfl,rfl,?_⟩
 ·have hrl:r<ls.length:=by simpa using c
  refine aB.intro (fun b:Nat×List Bool=>((ls.map aP.enc,max n 0,(),(r:Int),(b.1:Int),()),(eO b.2,())))
   (fun b=>b.1≤ls.length∧b.2.length=ls.length∧(∀i,kf b.2 i→fX ls n i)∧(∀i,kf B0 i→kf b.2 i)∧∀(i:Nat) (hi:i<ls.length),i<b.1→kf B0 i→∀s∈ls[i].steps,∀t,oP n ls.length s.eq t=true→kf b.2 t)
   (fun b=>ls.length-b.1) (0,B0) rfl ⟨ah3 _,hI.len,hI.snd,fun _ h=>h,fun i _ hi=>absurd hi (ajX _)⟩ ?_
  rintro⟨i,B⟩ ⟨hi,hl,hs,hle,hc⟩ kr gX
  dsimp only at hi hl hs hle hc gX ⊢
  unfold Fy
  rw[ahX]
  refine ak.intro (fun c=>⟨rfl,?_⟩) fun c=>⟨rfl,?_⟩
  ·have GZ:i<ls.length:=by simpa using c
   have hm:=ah1 GZ
   have h8':=h8 _ hm
   have g:List.getD (ls.map aP.enc) (Int.toNat (i:Int)) .top=aP.enc ls[i]:=getD_map GZ
   refine aB.intro (fun b:Nat×List Bool=>((ls.map aP.enc,max n 0,(),(r:Int),(i:Int),(b.1:Int),()),(eO b.2,())))
    (fun b=>b.1≤ls[i].steps.length∧b.2.length=ls.length∧(∀i,kf b.2 i→fX ls n i)∧(∀i,kf B0 i→kf b.2 i)∧(∀(i:Nat) (sX:i<ls.length),i<(i:Nat)→kf B0 i→True)∧
     (∀j,kf B j→kf b.2 j)∧∀s∈ls[i].steps.take b.1,∀t,oP n ls.length s.eq t=true→kf b.2 t)
    (fun b=>ls[i].steps.length-b.1) (0,B) rfl ⟨ah3 _,hl,hs,hle,fun _ _ _ _=>trivial,fun _ h=>h,fun s hs=>by simp at hs⟩ ?_
   rintro⟨k,B1⟩ ⟨hk,DA,MO,UF,_,hBB,IW⟩ P0 Us
   dsimp only at hk DA MO UF hBB IW Us ⊢
   have pG:i<B1.length:=by omega
   unfold Fx
   have aV:(kf B0 i→∀s∈ls[i].steps,∀t,oP n ls.length s.eq t=true→kf B1 t)→kr ((ls.map aP.enc,max n 0,(),(r:Int),IntKind.wrap .i64 ((i:Int)+1),()),(eO B1,())):=fun hq=>by
    rw[aL (by omega)]
    refine gX (i+1,B1) ⟨GZ,DA,MO,UF,fun j hj hj2 hj3=>?_⟩ (by dsimp only;omega)
    by_cases iE:j=i
    ·subst iE;exact hq hj3
    ·exact fun s hs t ht=>hBB t (hc j hj (by omega) hj3 s hs t ht)
   refine⟨⟨by omega,by rw[eB];omega,rfl⟩,rfl,by rw[eB];simpa using pG,B1[i],Br pG,ak.intro (fun d=>?_) fun d=>?_⟩
   ·have hon:kf B1 i:=(xW pG).2 d
    refine⟨by omega,by rw[ahX];omega,_,_,_,_,_,_,_,_,_,_,g,?_⟩
    rw[ahX]
    refine ak.intro (fun d2=>?_) fun d2=>?_
    ·have ay:k<ls[i].steps.length:=by simpa using d2
     have g2:List.getD (ls[i].steps.map bF.enc) (Int.toNat (k:Int)) .top=bF.enc ls[i].steps[k]:=getD_map ay
     have hE:=he _ hm _ (ah1 ay)
     unfold ke at hE
     unfold Fw
     refine⟨by omega,by rw[ahX];omega,_,_,_,_,_,_,_,_,_,_,g,by omega,by rw[ahX];omega,_,_,_,_,g2,?_⟩
     have Eg:∀(B2:List Bool),B2.length=ls.length→(∀i,kf B2 i→fX ls n i)→(∀j,kf B1 j→kf B2 j)→(∀t,oP n ls.length ls[i].steps[k].eq t=true→kf B2 t)→
       P0 ((ls.map aP.enc,max n 0,(),(r:Int),(i:Int),IntKind.wrap .i64 ((k:Int)+1),()),(eO B2,())):=fun B2 h1 h2 h3 h4=>by
      rw[aL (by omega)]
      refine Us (k+1,B2) ⟨ay,h1,h2,fun j hj=>h3 j (UF j hj),fun _ _ _ _=>trivial,fun j hj=>h3 j (hBB j hj),fun s hs t ht=>?_⟩ (by dsimp only;omega)
      rw[←aH ay] at hs
      rcases aiM.1 hs with h5|h5
      ·exact h3 t (IW s h5 t ht)
      ·rw[air.1 h5] at ht;exact h4 t ht
     refine ak.intro (fun d3=>?_) fun d3=>⟨rfl,?_⟩
     ·have d3:=of_decide_eq_true d3
      unfold Fv
      rw[ahX,bH (by omega) (by omega)]
      refine ak.intro (fun d4=>?_) fun d4=>⟨rfl,?_⟩
      ·have d4:=of_decide_eq_true d4
       obtain⟨t,ht⟩:∃t:Nat,ls[i].steps[k].eq-max n 0=(t:Int):=⟨(ls[i].steps[k].eq-max n 0).toNat,by omega⟩
       rw[ht] at d4 ⊢
       have I8:t<ls.length:=by omega
       have Qq:oP n ls.length ls[i].steps[k].eq t=true:=by
        rw[oP,ahZ,decide_eq_true_eq,decide_eq_true_eq]
        exact⟨⟨by omega,by omega,by omega⟩,I8⟩
       rw[Bs]
       refine⟨⟨by omega,by rw[eB];omega,rfl⟩,rfl,by rw[eB];simp;omega,by rw[eB,eB,ajb],Eg _ (by rw[ajb];exact DA) (fun j hj=>?_) (fun j hj=>(uE (by omega)).2 (.inl hj)) fun t' VB=>?_⟩
       ·rcases (uE (by omega)).1 hj with h5|h5
        ·exact MO j h5
        ·rw[h5];exact(fG ls n).step i GZ (MO i hon) _ (ah1 ay) t Qq
       ·rw[oP,ahZ,decide_eq_true_eq,decide_eq_true_eq] at VB
        exact(uE (by omega)).2 (.inr (by omega))
      ·have d4:=of_decide_eq_false d4
       refine Eg B1 DA MO (fun _ h=>h) fun t' VB=>?_
       rw[oP,ahZ,decide_eq_true_eq,decide_eq_true_eq] at VB
       omega
     ·have d3:=of_decide_eq_false d3
      refine Eg B1 DA MO (fun _ h=>h) fun t' VB=>?_
      rw[oP,ahZ,decide_eq_true_eq,decide_eq_true_eq] at VB
      omega
    ·have gQ:ls[i].steps.length≤k:=by simpa using d2
     exact⟨rfl,aV fun _ s hs=>IW s (by rw[ah9 gQ];exact hs)⟩
   ·exact⟨rfl,aV fun h0=>by
     have:=(xW pG).1 (UF i h0)
     rw[this] at d
     cases d⟩
  ·have gQ:i=ls.length:=by have:=of_decide_eq_false c;omega
   subst gQ
   rw[aL (by omega)]
   exact bO (r+1,B) ⟨hrl,hI.next hl hs hle fun j hj=>hc j hj hj⟩ (by dsimp only;omega)
 ·have gQ:ls.length≤r:=by have:=of_decide_eq_false c;omega
  have y6:=hI.done gQ
  have hl:=hI.len
  refine aB.intro (fun k:Nat=>((ls.map aP.enc,(),(),(k:Int),()),(eO B0,aK (iA ((List.range k).filter fun i=>decide (fX ls n i))),()))) (fun k=>k≤ls.length) (fun k=>ls.length-k) 0 rfl (ah3 _) ?_
  intro k hk kr gX
  dsimp only
  rw[ahX]
  refine ak.intro (fun c=>?_) fun c=>?_
  ·have ay:k<ls.length:=by simpa using c
   have hkB:k<B0.length:=by omega
   have aV:=gX (k+1) (by omega) (by omega)
   rw[wG ls n] at aV
   have uM:=ajY (fun i=>decide (fX ls n i)) (List.range k)
   rw[ajU] at uM
   unfold Fz
   rw[aL (by omega)]
   refine⟨⟨by omega,by rw[eB];omega,rfl⟩,rfl,by rw[eB];simpa using hkB,B0[k],Br hkB,ak.intro (fun d=>?_) fun d=>?_⟩
   ·rw[if_pos (decide_eq_true ((y6 k).1 ((xW hkB).2 d)))] at aV
    refine⟨rfl,aJ rfl (by simp only[ah0,bu,ahX,aiN];omega) (by decide),rfl,rfl,?_⟩
    rw[uf]
    rw[iA,aii] at aV
    exact aV
   ·rw[if_neg (by rw[decide_eq_true_eq];exact fun h=>by have:=(xW hkB).1 ((y6 k).2 h);rw[this] at d;cases d),aiH] at aV
    exact⟨rfl,rfl,aV⟩
  ·have gQ:k=ls.length:=by have:=of_decide_eq_false c;omega
   subst gQ
   exact⟨rfl,hR⟩
def pK:List Nat→Nat→Nat
 | [],_=>0
 |x::l,t=>if x=t then 0 else pK l t+1
abbrev Up (u:List Nat):Prop:=u.Pairwise (· < ·)
theorem qF:∀{u:List Nat} {j:Nat} (hu:Up u) (h:j<u.length),pK u u[j]=j
 |x::l,0,_,_=>by simp[pK]
 |x::l,j+1,hu,h=>by
  have hl:j<l.length:=by simpa using h
  have h1:=(ajf.1 hu).1 l[j] (ah1 hl)
  show (if x=l[j] then 0 else pK l l[j]+1)=j+1
  rw[if_neg (by omega),qF (ajf.1 hu).2 hl]
theorem Up.lt {u:List Nat} (hu:Up u) {i j:Nat} (hij:i<j) (hj:j<u.length):u[i]<u[j]:=(List.pairwise_iff_getElem.1 hu) i j (by omega) hj hij
theorem Up.nG {u:List Nat} (hu:Up u) {p t:Nat} (hp:p<u.length) (ht:t∈u):t<u[p]↔t∈u.take p:=by
 obtain⟨j,hj,rfl⟩:=aj1 ht
 constructor
 ·intro h
  have:j<p:=by
   rcases Nat.lt_trichotomy j p with h1|rfl|h1
   ·exact h1
   ·omega
   ·have:=hu.lt h1 hj;omega
  exact ajR.2 ⟨j,by omega,rfl⟩
 ·intro h
  obtain⟨k,hk,e⟩:=ajR.1 h
  have h1:k<p:=by omega
  rw[←e];exact hu.lt h1 hp
theorem Up.le:∀{u:List Nat} {a j:Nat} (hu:Up u) (ha:∀x∈u,a≤x) (h:j<u.length),a+j≤u[j]
 |x::l,a,0,_,ha,_=>by simpa using ha x (aia ..)
 |x::l,a,j+1,hu,ha,h=>by
  have hl:j<l.length:=by simpa using h
  have:=Up.le (u:=l) (a:=a+1) (ajf.1 hu).2 (fun y hy=>by have:=(ajf.1 hu).1 y hy;have:=ha x (aia ..);omega) hl
  show a+(j+1)≤l[j]
  omega
theorem Dw {u:List Nat} (hu:Up u) {t:Nat} (ht:t∈u):pK u t≤t∧pK u t<u.length:=by
 obtain⟨j,hj,rfl⟩:=aj1 ht
 rw[qF hu hj]
 have:=Up.le (a:=0) hu (fun _ _=>ah3 _) hj
 exact⟨by omega,hj⟩
theorem jo (ls:List aP) (n:Int):Up (aq ls n):=List.Pairwise.filter _ List.pairwise_lt_range
theorem dA {ls:List aP} {n:Int} {i:Nat}:i∈aq ls n↔fX ls n i:=by
 unfold aq
 rw[List.mem_filter,aja]
 exact⟨fun h=>by simpa using h.2,fun h=>⟨h.lt,by simpa using h⟩⟩
theorem iH (ls:List aP) (n:Int):(aq ls n).length≤ls.length:=by
 have:=ajY (fun i=>@decide (fX ls n i) (Classical.propDecidable _)) (List.range ls.length)
 rw[ajU] at this
 exact this
def ju:aP:=⟨.mk [] 0 0 [],.mk [] 0 0 [],[],[]⟩
def kO (n:Int) (u:List Nat) (s:bF):bF:=if s.eq<n then s else⟨n+(pK u (s.eq-n).toNat:Nat),s.back,s.path,s.sub⟩
def lN (n:Int) (u:List Nat) (l:aP):aP:=⟨l.left,l.right,l.aO,l.steps.map (kO n u)⟩
def rG (ls:List aP) (n:Int):Prop:=∀i∈aq ls n,∀s∈(ls.getD i ju).steps,n≤s.eq→s.eq-n<i
open Classical in
noncomputable def cx (ls:List aP) (n:Int):List aP:=
 if n<0 then ls else if rG ls n then(aq ls n).map fun i=>lN n (aq ls n) (ls.getD i ju) else ls
theorem mA {ls:List aP} {i:Nat} (h:i<ls.length):ls.getD i ju=ls[i]:=by simp[List.getD,h]
theorem uG {ls:List aP} {n:Int} (hn:0≤n) {i:Nat} (hi:i∈aq ls n) {s:bF} (hs:s∈(ls.getD i ju).steps) {t:Nat} (he:s.eq=n+t) (ht:t<ls.length):t∈aq ls n:=by
 have hl:=(dA.1 hi).lt
 rw[mA hl] at hs
 refine dA.2 ((fG ls n).step i hl (dA.1 hi) s hs t ?_)
 rw[oP,ahZ,decide_eq_true_eq,decide_eq_true_eq]
 exact⟨⟨by omega,by omega,by omega⟩,ht⟩
theorem rq {n:Int} {u:List Nat} {s:bF} (h:s.eq<n):kO n u s=s:=if_pos h
theorem uH {n:Int} {u:List Nat} {s:bF} {t:Nat} (h:s.eq=n+t):kO n u s=⟨n+(pK u t:Nat),s.back,s.path,s.sub⟩:=by
 rw[kO,if_neg (by omega),h,show (n+(t:Int)-n).toNat=t by omega]
theorem UG (s:bF):bF.jR [] s=s:=rfl
theorem Qr (l:List bF):l.map (bF.jR [])=l:=by
 rw[ai7 (g:=id) (fun s _=>UG s),List.map_id]
structure aP.Tr (l:aP):Prop where
 pa:l.Qn
 Ms:Xv l.steps
 eqs:∀s∈l.steps,ke s.eq
theorem Dx {l:List bF} (h:Xv l):Rc Tryz.prog 18 [.sl (l.map bF.enc),.sl []] 107 4 (l.map bF.enc):=by
 have hn:=h.len
 refine Cx ⟨rfl,?_⟩
 refine aB.intro (fun k:Nat=>(([],(),l.map bF.enc,(l.length:Int),(k:Int),()),((l.take k).map bF.enc,()))) (fun k=>k≤l.length) (fun k=>l.length-k) 0 (by rw[ahX];rfl) (ah3 _) ?_
 intro k hk again bO
 dsimp only
 unfold tU
 rw[ahX]
 refine ak.intro (fun h'=>?_) fun h'=>?_
 ·have ay:k<l.length:=by simpa using h'
  have g:List.getD (l.map bF.enc) (Int.toNat (k:Int)) .top=bF.enc l[k]:=getD_map ay
  have hi:=qE (h.sz _ (ah1 ay)) (h.ok _ (ah1 ay))
  have hc:=qD (ll:=[[],l[k].path]) (by simp) (by have:=h.path _ (ah1 ay);simp;omega)
  have e2:[[],l[k].path].flatten=l[k].path:=by simp
  rw[e2] at hc
  refine⟨by omega,by omega,_,_,_,_,g,_,_,_,_,hi,_,hc,rfl,aJ rfl (by simp;omega) (by decide),rfl,?_⟩
  have e:(l.take k).map bF.enc++[bF.enc l[k]]=(l.take (k+1)).map bF.enc:=by rw[←aH ay,aii];rfl
  have:=bO (k+1) (by omega) (by omega)
  rw[←e] at this
  rw[aL (by omega)]
  exact this
 ·have:l.length≤k:=by simpa using h'
  exact⟨rfl,rfl,by rw[ah9 this],by rw[ah9 this,ahX]⟩
theorem GN {ls:List aP} (hK:ls.length≤6) (DC:∀l∈ls,l.Tr):av Tryz.prog 68 [.agg [.sl (ls.map aP.enc)]] (.agg [.sl (ls.map aP.enc)]):=by
 refine SL ⟨rfl,?_⟩
 refine aB.intro (fun k:Nat=>(((),(),ls.map aP.enc,(ls.length:Int),(k:Int),()),((ls.map aP.enc,()),((),()),((),()),(ls.take k).map aP.enc,()))) (fun k=>k≤ls.length) (fun k=>ls.length-k) 0 (by rw[ahX];rfl) (ah3 _) ?_
 intro k hk again bO
 dsimp only
 unfold JS
 rw[ahX]
 refine ak.intro (fun h'=>?_) fun h'=>?_
 ·have ay:k<ls.length:=by simpa using h'
  have g:List.getD (ls.map aP.enc) (Int.toNat (k:Int)) .top=aP.enc ls[k]:=getD_map ay
  have ht:=DC _ (ah1 ay)
  have hu:=GI ht.Ms (p:=[]) (by simp)
  rw[Qr] at hu
  refine⟨by omega,by omega,_,_,_,_,_,_,_,_,_,_,g,_,_,_,_,_,_,_,_,_,zN ht.pa,_,hu,rfl,aJ rfl (by simp;omega) (by decide),rfl,?_⟩
  have e:(ls.take k).map aP.enc++[aP.enc ls[k]]=(ls.take (k+1)).map aP.enc:=by rw[←aH ay,aii];rfl
  have:=bO (k+1) (by omega) (by omega)
  rw[←e] at this
  rw[aL (by omega)]
  exact this
 ·have:ls.length≤k:=by simpa using h'
  exact⟨rfl,by rw[ah9 this]⟩
def Xw (u:List Nat) (p:Nat) (es:List (Int×Value)):Prop:=∀t:Nat,bE es (t:Int)=if t∈u.take p then some (.int .i64 (pK u t:Nat)) else none
theorem Xw.put {u:List Nat} (hu:Up u) {p:Nat} {es:List (Int×Value)} (h:Xw u p es) (hp:p<u.length):Xw u (p+1) (dG es (u[p]:Nat) (.int .i64 (p:Nat))):=fun t=>by
 rw[zv,h t,←aH hp]
 by_cases ht:t=u[p]
 ·subst ht
  rw[if_pos rfl,if_pos (ajK _ (air.2 rfl)),qF hu hp]
 ·have:¬(t:Int)=(u[p]:Nat):=by omega
  have hm:t∈u.take p++[u[p]]↔t∈u.take p:=by rw[aiM,air];exact⟨fun h=>h.elim id fun h=>(ht h).elim,.inl⟩
  rw[if_neg this]
  simp only[hm]
def rH (n:Int) (u:List Nat) (l:List bF) (k:Nat):List bF:=(l.take k).map (kO n u)++l.drop k
theorem bZ {n:Int} {u:List Nat} {l:List bF} {k:Nat}:(rH n u l k).length=l.length:=by
 unfold rH;rw[ah0,ahX,aid,aix];omega
theorem uI {n:Int} {u:List Nat} {l:List bF} {k:Nat} (h:k<l.length):List.getD ((rH n u l k).map bF.enc) (Int.toNat (k:Int)) .top=bF.enc l[k]:=by
 rw[getD_map (by rw[bZ];exact h)]
 congr 1
 unfold rH
 rw[List.getElem_append_right (by simp;omega)]
 simp[ajC (ajB h)]
theorem Bt {n:Int} {u:List Nat} {l:List bF} {k:Nat} (h:k<l.length):List.set ((rH n u l k).map bF.enc) (Int.toNat (k:Int)) (bF.enc (kO n u l[k]))=(rH n u l (k+1)).map bF.enc:=by
 rw[ajl,←List.map_set]
 congr 1
 unfold rH
 have e0:k-((l.take k).map (kO n u)).length=0:=by rw[ahX,aid];omega
 rw[List.set_append_right _ _ (by rw[ahX,aid];omega),←aH h,aii,ah7,e0,ah6 h]
 rfl
theorem Bu {n:Int} {u:List Nat} {l:List bF} {k:Nat} (h:k<l.length) (hs:kO n u l[k]=l[k]):rH n u l (k+1)=rH n u l k:=by
 unfold rH
 rw[←aH h,aii,ah7,ah6 h]
 show _++([kO n u l[k]]++_)=_
 rw[hs];rfl
theorem Dy {ls:List aP} {n:Int} (hn:0≤n) (hK:ls.length≤6) {p:Nat} (hp:p<(aq ls n).length) {out:List aP} (ho:out.length=p) {es:List (Int×Value)} (xm:Xw (aq ls n) p es)
  (hw:av Tryz.prog 68 [.agg [.sl (ls.map aP.enc)]] (.agg [.sl (ls.map aP.enc)])) (hl:(ls.getD (aq ls n)[p] ju).Tr) {R:AV→Prop} {again:jd→Prop}
  (Aq:¬rG ls n→R (.agg [.sl (ls.map aP.enc)]))
  (zO:(∀s∈(ls.getD (aq ls n)[p] ju).steps,n≤s.eq→s.eq-n<(aq ls n)[p])→
   again ((n,(),(),(),(),aK (iA (aq ls n)),((aq ls n).length:Int),((p+1:Nat):Int),()),((ls.map aP.enc,()),((),()),dG es ((aq ls n)[p]:Nat) (.int .i64 (p:Nat)),((),()),(out++[lN n (aq ls n) (ls.getD (aq ls n)[p] ju)]).map aP.enc,()))):
  FK ((n,(),(),(),(),((aq ls n)[p]:Nat),(),aK (iA (aq ls n)),((aq ls n).length:Int),(p:Int),(),(((ls.getD (aq ls n)[p] ju).steps.length:Nat):Int),0,()),
   ((ls.map aP.enc,()),((),()),es,((),()),out.map aP.enc,(ls.getD (aq ls n)[p] ju).steps.map bF.enc,((ls.getD (aq ls n)[p] ju).left.binds.map Ty.enc,(ls.getD (aq ls n)[p] ju).left.kind,(ls.getD (aq ls n)[p] ju).left.index,(ls.getD (aq ls n)[p] ju).left.args.map Tm.enc,(ls.getD (aq ls n)[p] ju).right.binds.map Ty.enc,(ls.getD (aq ls n)[p] ju).right.kind,(ls.getD (aq ls n)[p] ju).right.index,(ls.getD (aq ls n)[p] ju).right.args.map Tm.enc,(ls.getD (aq ls n)[p] ju).aO.map Ty.enc,(),()),())) R again:=by
 generalize hL:ls.getD (aq ls n)[p] ju=l at hl zO
 have h8:=hl.Ms.len
 have hu:=jo ls n
 have IF:(aq ls n)[p]∈aq ls n:=ah1 hp
 have UN:=iH ls n
 refine aB.intro (fun k:Nat=>((n,(),(),(),(),((aq ls n)[p]:Nat),(),aK (iA (aq ls n)),((aq ls n).length:Int),(p:Int),(),((l.steps.length:Nat):Int),(k:Int),()),
   ((ls.map aP.enc,()),((),()),es,((),()),out.map aP.enc,(rH n (aq ls n) l.steps k).map bF.enc,(l.left.binds.map Ty.enc,l.left.kind,l.left.index,l.left.args.map Tm.enc,l.right.binds.map Ty.enc,l.right.kind,l.right.index,l.right.args.map Tm.enc,l.aO.map Ty.enc,(),()),())))
  (fun k=>k≤l.steps.length∧∀s∈l.steps.take k,n≤s.eq→s.eq-n<(aq ls n)[p]) (fun k=>l.steps.length-k) 0 rfl ⟨ah3 _,fun s hs=>by simp at hs⟩ ?_
 rintro k ⟨hk,aD⟩ kr gX
 dsimp only at hk aD gX ⊢
 unfold FJ
 rw[ahX,ahX,bZ]
 refine ak.intro (fun c=>?_) fun c=>⟨rfl,?_⟩
 ·have ay:k<l.steps.length:=by simpa using c
  have hE:=hl.eqs _ (ah1 ay)
  unfold ke at hE
  have uW:(n≤l.steps[k].eq→l.steps[k].eq-n<(aq ls n)[p])→∀s∈l.steps.take (k+1),n≤s.eq→s.eq-n<(aq ls n)[p]:=fun hq s hs=>by
   rw[←aH ay] at hs
   rcases aiM.1 hs with h5|h5
   ·exact aD s h5
   ·rw[air.1 h5];exact hq
  unfold FI
  refine⟨⟨by omega,by omega,by rw[ahX,bZ]⟩,by rw[ahX,bZ],by rw[ahX,bZ];omega,_,_,_,_,uI ay,ak.intro (fun d=>?_) fun d=>?_⟩
  ·have d:=of_decide_eq_true d
   refine⟨by rw[ahX],by rw[ahX,bZ],by rw[ahX,bZ],?_⟩
   have:=gX (k+1) ⟨by omega,uW fun h=>by omega⟩ (by omega)
   rw[Bu ay (rq d)] at this
   rw[aL (by omega)]
   exact this
  ·have d:=of_decide_eq_false d
   obtain⟨t,ht⟩:∃t:Nat,l.steps[k].eq=n+t:=⟨(l.steps[k].eq-n).toNat,by omega⟩
   unfold FH
   rw[show l.steps[k].eq-n=(t:Int) by omega,bH (by omega) (by omega),xm t]
   by_cases hm:t∈(aq ls n).take p
   ·rw[if_pos hm]
    have Xk:=aiR hm
    have C7:=(hu.nG hp Xk).2 hm
    have Em:=Dw hu Xk
    refine⟨rfl,ak.neg rfl ?_⟩
    unfold FG
    have ev:BR ((some (Value.int .i64 ((pK (aq ls n) t:Nat):Int))).getD (.int .i64 0))=((pK (aq ls n) t:Nat):Int):=rfl
    rw[ev,bH (by omega) (by omega),uI ay]
    have e:AV.agg (setCells (AV.cells (bF.enc l.steps[k])) 0 [nI (n+((pK (aq ls n) t:Nat):Int))])=bF.enc (kO n (aq ls n) l.steps[k]):=by rw[uH ht];rfl
    rw[e,Bt ay]
    refine⟨⟨by omega,by omega,by rw[ahX,bZ]⟩,by rw[ahX,bZ],by rw[ahX,bZ];omega,by rw[ahX],by rw[ahX,bZ],by rw[ahX,bZ],?_⟩
    rw[aL (by omega)]
    exact gX (k+1) ⟨by omega,uW fun _=>by omega⟩ (by omega)
   ·rw[if_neg hm]
    refine⟨rfl,ak.pos rfl ⟨_,hw,Aq fun ho=>hm ?_⟩⟩
    have hs:l.steps[k]∈(ls.getD (aq ls n)[p] ju).steps:=by rw[hL];exact ah1 ay
    have h1:=ho _ IF _ hs (by omega)
    have h2:=(dA.1 IF).lt
    exact(hu.nG hp (uG hn IF hs ht (by omega))).1 (by omega)
 ·have gQ:k=l.steps.length:=by have:=of_decide_eq_false c;omega
  subst gQ
  unfold tX
  rw[aiJ] at aD
  have e1:rH n (aq ls n) l.steps l.steps.length=(lN n (aq ls n) l).steps:=by unfold rH;rw[aiJ,ajn,aiH];rfl
  have e2:out.map aP.enc++[aP.enc (lN n (aq ls n) l)]=(out++[lN n (aq ls n) l]).map aP.enc:=by rw[aii];rfl
  have:=zO aD
  rw[←e2] at this
  rw[e1,ahX,ho,aL (by omega)]
  exact⟨by rw[←e1,bZ],by rw[ahX,ho],aJ rfl (by simp;omega) (by decide),rfl,this⟩
theorem Ar {ls:List aP} {n:Int} (hn:0≤n) (hK:ls.length≤6) {p:Nat} (hp:p<(aq ls n).length) {out:List aP} (ho:out.length=p) {es:List (Int×Value)} (xm:Xw (aq ls n) p es)
  (hw:av Tryz.prog 68 [.agg [.sl (ls.map aP.enc)]] (.agg [.sl (ls.map aP.enc)])) (hl:(ls.getD (aq ls n)[p] ju).Tr) {R:AV→Prop} {again:jd→Prop}
  (Aq:¬rG ls n→R (.agg [.sl (ls.map aP.enc)]))
  (zO:(∀s∈(ls.getD (aq ls n)[p] ju).steps,n≤s.eq→s.eq-n<(aq ls n)[p])→
   again ((n,(),(),(),(),aK (iA (aq ls n)),((aq ls n).length:Int),((p+1:Nat):Int),()),((ls.map aP.enc,()),((),()),dG es ((aq ls n)[p]:Nat) (.int .i64 (p:Nat)),((),()),(out++[lN n (aq ls n) (ls.getD (aq ls n)[p] ju)]).map aP.enc,()))):
  Bf ((n,(),(),(),(),((aq ls n)[p]:Nat),(),aK (iA (aq ls n)),((aq ls n).length:Int),(p:Int),(),(((ls.getD (aq ls n)[p] ju).steps.length:Nat):Int),0,()),
   ((ls.map aP.enc,()),((),()),es,((),()),out.map aP.enc,((ls.getD (aq ls n)[p] ju).left.binds.map Ty.enc,(ls.getD (aq ls n)[p] ju).left.kind,(ls.getD (aq ls n)[p] ju).left.index,(ls.getD (aq ls n)[p] ju).left.args.map Tm.enc,(ls.getD (aq ls n)[p] ju).right.binds.map Ty.enc,(ls.getD (aq ls n)[p] ju).right.kind,(ls.getD (aq ls n)[p] ju).right.index,(ls.getD (aq ls n)[p] ju).right.args.map Tm.enc,(ls.getD (aq ls n)[p] ju).aO.map Ty.enc,(),()),(ls.getD (aq ls n)[p] ju).steps.map bF.enc,())) R again:=by
 generalize hL:ls.getD (aq ls n)[p] ju=l at hl zO
 have h8:=hl.Ms.len
 have hu:=jo ls n
 have IF:(aq ls n)[p]∈aq ls n:=ah1 hp
 have UN:=iH ls n
 refine aB.intro (fun k:Nat=>((n,(),(),(),(),((aq ls n)[p]:Nat),(),aK (iA (aq ls n)),((aq ls n).length:Int),(p:Int),(),((l.steps.length:Nat):Int),(k:Int),()),
   ((ls.map aP.enc,()),((),()),es,((),()),out.map aP.enc,(l.left.binds.map Ty.enc,l.left.kind,l.left.index,l.left.args.map Tm.enc,l.right.binds.map Ty.enc,l.right.kind,l.right.index,l.right.args.map Tm.enc,l.aO.map Ty.enc,(),()),(rH n (aq ls n) l.steps k).map bF.enc,())))
  (fun k=>k≤l.steps.length∧∀s∈l.steps.take k,n≤s.eq→s.eq-n<(aq ls n)[p]) (fun k=>l.steps.length-k) 0 rfl ⟨ah3 _,fun s hs=>by simp at hs⟩ ?_
 rintro k ⟨hk,aD⟩ kr gX
 dsimp only at hk aD gX ⊢
 unfold Be
 rw[ahX,ahX,bZ]
 refine ak.intro (fun c=>?_) fun c=>⟨rfl,?_⟩
 ·have ay:k<l.steps.length:=by simpa using c
  have hE:=hl.eqs _ (ah1 ay)
  unfold ke at hE
  have uW:(n≤l.steps[k].eq→l.steps[k].eq-n<(aq ls n)[p])→∀s∈l.steps.take (k+1),n≤s.eq→s.eq-n<(aq ls n)[p]:=fun hq s hs=>by
   rw[←aH ay] at hs
   rcases aiM.1 hs with h5|h5
   ·exact aD s h5
   ·rw[air.1 h5];exact hq
  unfold Bd
  refine⟨⟨by omega,by omega,by rw[ahX,bZ]⟩,by rw[ahX,bZ],by rw[ahX,bZ];omega,_,_,_,_,uI ay,ak.intro (fun d=>?_) fun d=>?_⟩
  ·have d:=of_decide_eq_true d
   refine⟨by rw[ahX],by rw[ahX,bZ],by rw[ahX,bZ],?_⟩
   have:=gX (k+1) ⟨by omega,uW fun h=>by omega⟩ (by omega)
   rw[Bu ay (rq d)] at this
   rw[aL (by omega)]
   exact this
  ·have d:=of_decide_eq_false d
   obtain⟨t,ht⟩:∃t:Nat,l.steps[k].eq=n+t:=⟨(l.steps[k].eq-n).toNat,by omega⟩
   unfold Bc
   rw[show l.steps[k].eq-n=(t:Int) by omega,bH (by omega) (by omega),xm t]
   by_cases hm:t∈(aq ls n).take p
   ·rw[if_pos hm]
    have Xk:=aiR hm
    have C7:=(hu.nG hp Xk).2 hm
    have Em:=Dw hu Xk
    refine⟨rfl,ak.neg rfl ?_⟩
    unfold Bb
    have ev:BR ((some (Value.int .i64 ((pK (aq ls n) t:Nat):Int))).getD (.int .i64 0))=((pK (aq ls n) t:Nat):Int):=rfl
    rw[ev,bH (by omega) (by omega),uI ay]
    have e:AV.agg (setCells (AV.cells (bF.enc l.steps[k])) 0 [nI (n+((pK (aq ls n) t:Nat):Int))])=bF.enc (kO n (aq ls n) l.steps[k]):=by rw[uH ht];rfl
    rw[e,Bt ay]
    refine⟨⟨by omega,by omega,by rw[ahX,bZ]⟩,by rw[ahX,bZ],by rw[ahX,bZ];omega,by rw[ahX],by rw[ahX,bZ],by rw[ahX,bZ],?_⟩
    rw[aL (by omega)]
    exact gX (k+1) ⟨by omega,uW fun _=>by omega⟩ (by omega)
   ·rw[if_neg hm]
    refine⟨rfl,ak.pos rfl ⟨_,hw,Aq fun ho=>hm ?_⟩⟩
    have hs:l.steps[k]∈(ls.getD (aq ls n)[p] ju).steps:=by rw[hL];exact ah1 ay
    have h1:=ho _ IF _ hs (by omega)
    have h2:=(dA.1 IF).lt
    exact(hu.nG hp (uG hn IF hs ht (by omega))).1 (by omega)
 ·have gQ:k=l.steps.length:=by have:=of_decide_eq_false c;omega
  subst gQ
  unfold tX
  rw[aiJ] at aD
  have e1:rH n (aq ls n) l.steps l.steps.length=(lN n (aq ls n) l).steps:=by unfold rH;rw[aiJ,ajn,aiH];rfl
  have e2:out.map aP.enc++[aP.enc (lN n (aq ls n) l)]=(out++[lN n (aq ls n) l]).map aP.enc:=by rw[aii];rfl
  have:=zO aD
  rw[←e2] at this
  rw[e1,ahX,ho,aL (by omega)]
  exact⟨by rw[←e1,bZ],by rw[ahX,ho],aJ rfl (by simp;omega) (by decide),rfl,this⟩
open Classical in
theorem zP {ls:List aP} {n:Int} (hK:ls.length≤6) (DC:∀l∈ls,l.Tr):av Tryz.prog 26 [.agg [.sl (ls.map aP.enc)],nI n] (.agg [.sl ((cx ls n).map aP.enc)]):=by
 have hw:=GN hK DC
 have hU:=uD (n:=n) hK (fun l hl=>(DC l hl).Ms.len) fun l hl=>(DC l hl).eqs
 refine TA (ak.intro (fun c=>⟨_,hw,?_⟩) fun c=>⟨_,hU,rfl,?_⟩)
 ·rw[cx,if_pos (of_decide_eq_true c)]
 have hn:0≤n:=by have:=of_decide_eq_false c;omega
 have UN:=iH ls n
 have hu:=jo ls n
 have Aq:¬rG ls n→(AV.agg [.sl (ls.map aP.enc)])=(AV.agg [.sl ((cx ls n).map aP.enc)]):=fun h=>by rw[cx,if_neg (by omega),if_neg h]
 refine aB.intro (fun b:Nat×List (Int×Value)=>((n,(),(),(),(),aK (iA (aq ls n)),((aq ls n).length:Int),(b.1:Int),()),((ls.map aP.enc,()),((),()),b.2,((),()),(((aq ls n).take b.1).map fun i=>lN n (aq ls n) (ls.getD i ju)).map aP.enc,())))
  (fun b=>b.1≤(aq ls n).length∧Xw (aq ls n) b.1 b.2∧∀i∈(aq ls n).take b.1,∀s∈(ls.getD i ju).steps,n≤s.eq→s.eq-n<i) (fun b=>(aq ls n).length-b.1) (0,[]) (by rw[bu,ahX];rfl)
  ⟨ah3 _,fun t=>by simp[bE],fun i hi=>by simp at hi⟩ ?_
 rintro⟨p,es⟩ ⟨hp,xm,aD⟩ again bO
 dsimp only at hp xm aD bO ⊢
 unfold Km
 refine ak.intro (fun d=>?_) fun d=>?_
 ·have ay:p<(aq ls n).length:=by simpa using d
  have GZ:=(dA.1 (ah1 ay)).lt
  have g:List.getD (aK (iA (aq ls n))) (Int.toNat (p:Int)) .top=nI ((aq ls n)[p]:Nat):=by rw[cy (by rw[ahX];exact ay),ajL]
  have g2:List.getD (ls.map aP.enc) (Int.toNat ((aq ls n)[p]:Nat)) .top=aP.enc ls[(aq ls n)[p]]:=getD_map GZ
  have eL:ls.getD (aq ls n)[p] ju=ls[(aq ls n)[p]]:=mA GZ
  have ht:=DC _ (ah1 GZ)
  have hM:=Dx ht.Ms
  have aV:(∀s∈(ls.getD (aq ls n)[p] ju).steps,n≤s.eq→s.eq-n<(aq ls n)[p])→
   again ((n,(),(),(),(),aK (iA (aq ls n)),((aq ls n).length:Int),((p+1:Nat):Int),()),((ls.map aP.enc,()),((),()),dG es ((aq ls n)[p]:Nat) (.int .i64 (p:Nat)),((),()),(((aq ls n).take p).map (fun i=>lN n (aq ls n) (ls.getD i ju))++[lN n (aq ls n) (ls.getD (aq ls n)[p] ju)]).map aP.enc,())):=fun hq=>by
   have:=bO (p+1,dG es ((aq ls n)[p]:Nat) (.int .i64 (p:Nat))) ⟨ay,xm.put hu ay,fun i hi=>by
    rw[←aH ay] at hi
    rcases aiM.1 hi with h5|h5
    ·exact aD i h5
    ·rw[air.1 h5];exact hq⟩ (by dsimp only;omega)
   dsimp only at this
   rw[←aH ay,aii] at this
   exact this
  have UI:(((aq ls n).take p).map fun i=>lN n (aq ls n) (ls.getD i ju)).length=p:=by rw[ahX,aid];omega
  have VB:(ls.getD (aq ls n)[p] ju).Tr:=by rw[eL];exact ht
  have i1:=Dy hn hK ay UI xm hw VB (R:=fun r=>r=.agg [.sl ((cx ls n).map aP.enc)]) Aq aV
  have i2:=Ar hn hK ay UI xm hw VB (R:=fun r=>r=.agg [.sl ((cx ls n).map aP.enc)]) Aq aV
  rw[eL] at i1 i2
  refine⟨by omega,by rw[bu,ahX];omega,_,g,by omega,by rw[ahX];omega,_,_,_,_,_,_,_,_,_,_,g2,_,_,_,_,_,_,_,_,_,zN ht.pa,by omega,by rw[ahX];omega,_,_,_,_,_,_,_,_,_,_,g2,
   ⟨_,hM,rfl,rfl,rfl,rfl,?_⟩,⟨_,hM,rfl,rfl,rfl,rfl,?_⟩⟩
  ·rw[ahX (f:=bF.enc)];exact i1
  ·rw[ahX (f:=bF.enc)];exact i2
 ·have gQ:(aq ls n).length≤p:=by have:=of_decide_eq_false d;omega
  rw[ah9 gQ] at aD ⊢
  refine⟨rfl,?_⟩
  have ho:rG ls n:=aD
  rw[cx,if_neg (by omega),if_pos ho]
section
theorem GO:∀{B:List Bool} {i:Nat},kf B i→1≤rF B
 | [],i,h=>by simp[kf] at h
 |b::B,0,h=>by
  have:b=true:=by simpa [kf] using h
  simp[rF,this]
 |b::B,i+1,h=>by
  have:=GO (B:=B) (i:=i) (by simpa [kf] using h)
  simp only[rF];omega
theorem wH {ls:List aP} {n:Int} (hK:ls.length≤6) (h8:∀l∈ls,l.steps.length≤8) (he:∀l∈ls,∀s∈l.steps,ke s.eq) (hn:ke n):av Tryz.prog 29 [.sl (ls.map aP.enc),nI n] (.sl (aK (iA (aq ls n)))):=by
 have eR:List.replicate (Int.toNat ((ls.length:Nat):Int)) (nB false)=eO (List.replicate ls.length false):=by rw[ajl,eO,List.map_replicate]
 have hb:(0≤((ls.length:Nat):Int)∧((ls.length:Nat):Int)≤9223372036854775807∧(TD.bytes Yz:Int)*((ls.length:Nat):Int)≤281474976710656):=⟨by omega,by omega,by rw[show TD.bytes Yz=1 from rfl];omega⟩
 have h0:ls.length=0→Dv ls n 0 (List.replicate ls.length false):=fun h=>⟨by simp,fun i hi=>by rw[h] at hi;simp[kf] at hi,fun k hk=>by omega,.inl fun i hi=>by have:=hi.lt;omega⟩
 have h1:∀k,ls.length=k+1→Dv ls n 0 ((List.replicate ls.length false).set k true):=fun k hk=>by
  have ay:k<(List.replicate ls.length false).length:=by rw[ajJ];omega
  have on:kf ((List.replicate ls.length false).set k true) k:=(uE ay).2 (.inr rfl)
  refine⟨by simp,fun i hi=>?_,fun j hj=>by rw[show j=k by omega];exact on,.inr (GO on)⟩
  rcases (uE ay).1 hi with h2|h2
  ·unfold kf at h2
   have:=(ahY.1 h2).2
   simp at this
  ·rw[h2];exact(fG ls n).last k hk
 have key:∀m,m=max n 0→ak (decide (((ls.length:Nat):Int)>0))
   ((0≤(IntKind.wrap .i64 (((ls.length:Nat):Int)-1))∧(IntKind.wrap .i64 (((ls.length:Nat):Int)-1))<List.length (eO (List.replicate ls.length false))∧List.length (eO (List.replicate ls.length false))=List.length (eO (List.replicate ls.length false)))∧
    List.length (eO (List.replicate ls.length false))=List.length (eO (List.replicate ls.length false))∧
    Int.toNat (IntKind.wrap .i64 (((ls.length:Nat):Int)-1))<List.length (eO (List.replicate ls.length false))∧
    List.length (eO (List.replicate ls.length false))=List.length (List.set (eO (List.replicate ls.length false)) (Int.toNat (IntKind.wrap .i64 (((ls.length:Nat):Int)-1))) (nB true))∧
    n8 ((ls.map aP.enc,m,(),0,()),((List.set (eO (List.replicate ls.length false)) (Int.toNat (IntKind.wrap .i64 (((ls.length:Nat):Int)-1))) (nB true)),())) fun r=>r=.sl (aK (iA (aq ls n))))
   (List.length (eO (List.replicate ls.length false))=List.length (eO (List.replicate ls.length false))∧
    n8 ((ls.map aP.enc,m,(),0,()),(eO (List.replicate ls.length false),())) fun r=>r=.sl (aK (iA (aq ls n)))):=fun m hm=>by
  subst hm
  refine ak.intro (fun c=>?_) fun c=>?_
  ·have c:=of_decide_eq_true c
   obtain⟨k,hk⟩:∃k,ls.length=k+1:=⟨ls.length-1,by omega⟩
   have ew:IntKind.wrap .i64 (((ls.length:Nat):Int)-1)=(k:Int):=by rw[bH (by omega) (by omega)];omega
   rw[ew,Bs]
   exact⟨⟨by omega,by rw[eB,ajJ];omega,rfl⟩,rfl,by rw[eB,ajJ];omega,by rw[eB,eB,ajb],uF hK h8 he hn (h1 k hk) rfl⟩
  ·have c:=of_decide_eq_false c
   exact⟨rfl,uF hK h8 he hn (h0 (by omega)) rfl⟩
 refine SR ?_
 unfold ZL
 rw[ahX,eR]
 refine ak.intro (fun c=>⟨hb,?_⟩) fun c=>⟨hb,?_⟩
 ·unfold J0
  rw[ahX]
  exact key 0 (by have:=of_decide_eq_true c;omega)
 ·unfold FA
  rw[ahX]
  exact key n (by have:=of_decide_eq_false c;omega)
abbrev Xx (l:aP):List AV×Int×Int×List AV×List AV×Int×Int×List AV×List AV×List AV×Unit:=(l.left.binds.map Ty.enc,l.left.kind,l.left.index,l.left.args.map Tm.enc,l.right.binds.map Ty.enc,l.right.kind,l.right.index,l.right.args.map Tm.enc,l.aO.map Ty.enc,l.steps.map bF.enc,())
abbrev Xy (l:aP):List AV×Int×Int×List AV×List AV×Int×Int×List AV×List AV×Unit×Unit:=(l.left.binds.map Ty.enc,l.left.kind,l.left.index,l.left.args.map Tm.enc,l.right.binds.map Ty.enc,l.right.kind,l.right.index,l.right.args.map Tm.enc,l.aO.map Ty.enc,(),())
theorem VC {ys:List bF} (s:bF):ys.map bF.enc++[bF.enc s]=(ys++[s]).map bF.enc:=by rw[aii];rfl
theorem GQ {ls:List aP} {n:Int} (hn:0≤n) (hK:ls.length≤6) {p:Nat} (hp:p<(aq ls n).length) {t:Nat} (ht:t∈(aq ls n).take p) {s:bF} (he:s.eq=n+t) (hE:ke s.eq) {out:List aP} {l:aP} {ys:List bF} (hys:ys.length≤8) {k:Nat}
  {again:qV→Prop}
  (bO:again ((ls.map aP.enc,n,aK (iA (aq ls n)),(),(p:Int),(),(),IntKind.wrap .i64 ((k:Int)+1),()),(out.map aP.enc,Xx l,Xy l,(ys++[kO n (aq ls n) s]).map bF.enc,()))):
  FC ((ls.map aP.enc,n,aK (iA (aq ls n)),(),(p:Int),(),(),(k:Int),(),0,()),(out.map aP.enc,Xx l,Xy l,ys.map bF.enc,(s.eq,s.back,aK s.path,s.sub.map bp,()),())) again:=by
 have hu:=jo ls n
 have UN:=iH ls n
 have Xk:=aiR ht
 obtain⟨j0,hj0,e0⟩:=ajR.1 ht
 have ahe:j0<p:=by omega
 have aaL:j0<(aq ls n).length:=by omega
 have aaM:pK (aq ls n) t=j0:=by rw[←e0];exact qF hu aaL
 have Em:=Dw hu Xk
 rw[aaM] at Em
 unfold ke at hE
 rw[uH he,aaM,←VC] at bO
 refine aB.intro (fun j:Nat=>((ls.map aP.enc,n,aK (iA (aq ls n)),(),(p:Int),(),(),(k:Int),(),(j:Int),()),(out.map aP.enc,Xx l,Xy l,ys.map bF.enc,(s.eq,s.back,aK s.path,s.sub.map bp,()),()))) (fun j=>j≤j0) (fun j=>j0-j) 0 rfl (ah3 _) ?_
 intro j hj kr gX
 dsimp only
 unfold FB
 have s7:j<(aq ls n).length:=by omega
 have g:List.getD (aK (iA (aq ls n))) (Int.toNat (j:Int)) .top=nI ((aq ls n)[j]:Nat):=by rw[cy (by rw[ahX];exact s7),ajL]
 refine ak.pos (decide_eq_true (by omega)) ⟨by omega,by rw[bu,ahX];omega,_,g,?_⟩
 rw[he,show n+(t:Int)-n=t by omega,bH (n:=(t:Int)) (by omega) (by omega)]
 by_cases hje:j=j0
 ·subst hje
  refine ak.pos (by rw[e0];exact beq_self_eq_true _) ?_
  unfold qq
  rw[bH (n:=n+(j:Int)) (by omega) (by omega),←he] at *
  exact⟨rfl,aJ rfl (by simp;omega) (by decide),rfl,rfl,bO⟩
 ·have ay:=hu.lt (i:=j) (j:=j0) (by omega) aaL
  refine ak.neg (beq_eq_false_iff_ne.2 (by rw[←e0];omega)) ⟨rfl,rfl,?_⟩
  rw[aL (by omega),←he]
  exact gX (j+1) (by omega) (by omega)
theorem IG {ls:List aP} {n:Int} (hn:0≤n) (hK:ls.length≤6) {p:Nat} (hp:p<(aq ls n).length) {l:aP} (hl:ls.getD (aq ls n)[p] ju=l) (h8:l.steps.length≤8) (heq:∀s∈l.steps,ke s.eq) {out:List aP} (ho:out.length=p)
  {R:AV→Prop} {again:tS→Prop} (Aq:¬rG ls n→R (.sl (ls.map aP.enc)))
  (zO:(∀s∈l.steps,n≤s.eq→s.eq-n<(aq ls n)[p])→again ((ls.map aP.enc,n,aK (iA (aq ls n)),(),((p+1:Nat):Int),()),((out++[lN n (aq ls n) l]).map aP.enc,()))):
  FE ((ls.map aP.enc,n,aK (iA (aq ls n)),(),(p:Int),(),(),0,()),(out.map aP.enc,Xx l,Xy l,[],())) R again:=by
 have hu:=jo ls n
 have UN:=iH ls n
 have IF:(aq ls n)[p]∈aq ls n:=ah1 hp
 have g0:List.getD (aK (iA (aq ls n))) (Int.toNat (p:Int)) .top=nI ((aq ls n)[p]:Nat):=by rw[cy (by rw[ahX];exact hp),ajL]
 refine aB.intro (fun k:Nat=>((ls.map aP.enc,n,aK (iA (aq ls n)),(),(p:Int),(),(),(k:Int),()),(out.map aP.enc,Xx l,Xy l,((l.steps.take k).map (kO n (aq ls n))).map bF.enc,())))
  (fun k=>k≤l.steps.length∧∀s∈l.steps.take k,n≤s.eq→s.eq-n<(aq ls n)[p]) (fun k=>l.steps.length-k) 0 rfl ⟨ah3 _,fun s hs=>by simp at hs⟩ ?_
 rintro k ⟨hk,aD⟩ kr gX
 dsimp only at hk aD gX ⊢
 unfold FD
 have hyl:((l.steps.take k).map (kO n (aq ls n))).length≤8:=by rw[ahX,aid];omega
 refine ak.intro (fun c=>?_) fun c=>?_
 ·have ay:k<l.steps.length:=by simpa using c
  have g:List.getD (l.steps.map bF.enc) (Int.toNat (k:Int)) .top=bF.enc l.steps[k]:=getD_map ay
  have hE:=heq _ (ah1 ay)
  have hE':=hE
  unfold ke at hE'
  have uW:(n≤l.steps[k].eq→l.steps[k].eq-n<(aq ls n)[p])→∀s∈l.steps.take (k+1),n≤s.eq→s.eq-n<(aq ls n)[p]:=fun hq s hs=>by
   rw[←aH ay] at hs
   rcases aiM.1 hs with h5|h5
   ·exact aD s h5
   ·rw[air.1 h5];exact hq
  have aV:(n≤l.steps[k].eq→l.steps[k].eq-n<(aq ls n)[p])→kr ((ls.map aP.enc,n,aK (iA (aq ls n)),(),(p:Int),(),(),IntKind.wrap .i64 ((k:Int)+1),()),(out.map aP.enc,Xx l,Xy l,((l.steps.take k).map (kO n (aq ls n))++[kO n (aq ls n) l.steps[k]]).map bF.enc,())):=fun hq=>by
   have:=gX (k+1) ⟨by omega,uW hq⟩ (by omega)
   rw[←aH ay,aii] at this
   rw[aL (by omega)]
   exact this
  refine⟨by omega,by rw[ahX];omega,_,_,_,_,g,ak.intro (fun d=>?_) fun d=>?_⟩
  ·have d:=of_decide_eq_true d
   obtain⟨t,ht⟩:∃t:Nat,l.steps[k].eq=n+t:=⟨(l.steps[k].eq-n).toNat,by omega⟩
   refine⟨by omega,by rw[bu,ahX];omega,_,g0,?_⟩
   rw[show l.steps[k].eq-n=(t:Int) by omega,bH (n:=(t:Int)) (by omega) (by omega)]
   refine ak.intro (fun d2=>?_) fun d2=>⟨rfl,rfl,?_⟩
   ·have d2:=of_decide_eq_true d2
    refine Aq fun ho=>?_
    have:=ho _ IF _ (by rw[hl];exact ah1 ay) (by omega)
    omega
   ·have d2:=of_decide_eq_false d2
    have h2:=(dA.1 IF).lt
    have hm:=(hu.nG hp (uG hn IF (by rw[hl];exact ah1 ay) ht (by omega))).1 (by omega)
    exact GQ hn hK hp hm ht hE hyl (aV fun _=>by omega)
  ·have d:=of_decide_eq_false d
   have:=aV fun h=>by omega
   rw[rq (by omega),←VC] at this
   unfold qq
   exact⟨rfl,aJ rfl (by simp;omega) (by decide),rfl,rfl,this⟩
 ·have gQ:l.steps.length≤k:=by have:=of_decide_eq_false c;rw[ahX] at this;omega
  rw[ah9 gQ] at aD ⊢
  have e2:out.map aP.enc++[aP.enc (lN n (aq ls n) l)]=(out++[lN n (aq ls n) l]).map aP.enc:=by rw[aii];rfl
  have:=zO aD
  rw[←e2] at this
  rw[aL (by omega)]
  exact⟨rfl,rfl,aJ rfl (by simp;omega) (by decide),rfl,this⟩
open Classical in
theorem GR {ls:List aP} {n:Int} (hK:ls.length≤6) (h8:∀l∈ls,l.steps.length≤8) (heq:∀l∈ls,∀s∈l.steps,ke s.eq) (hN:ke n):av Tryz.prog 30 [.sl (ls.map aP.enc),nI n] (.sl ((cx ls n).map aP.enc)):=by
 refine SU (ak.intro (fun c=>?_) fun c=>⟨_,wH hK h8 heq hN,rfl,?_⟩)
 ·rw[cx,if_pos (of_decide_eq_true c)]
 have hn:0≤n:=by have:=of_decide_eq_false c;omega
 have UN:=iH ls n
 have Aq:¬rG ls n→(AV.sl (ls.map aP.enc))=(AV.sl ((cx ls n).map aP.enc)):=fun h=>by rw[cx,if_neg (by omega),if_neg h]
 refine aB.intro (fun p:Nat=>((ls.map aP.enc,n,aK (iA (aq ls n)),(),(p:Int),()),((((aq ls n).take p).map fun i=>lN n (aq ls n) (ls.getD i ju)).map aP.enc,())))
  (fun p=>p≤(aq ls n).length∧∀i∈(aq ls n).take p,∀s∈(ls.getD i ju).steps,n≤s.eq→s.eq-n<i) (fun p=>(aq ls n).length-p) 0 rfl ⟨ah3 _,fun i hi=>by simp at hi⟩ ?_
 rintro p ⟨hp,aD⟩ again bO
 dsimp only at hp aD bO ⊢
 unfold J2
 rw[bu,ahX]
 refine ak.intro (fun d=>?_) fun d=>?_
 ·have ay:p<(aq ls n).length:=by simpa using d
  have GZ:=(dA.1 (ah1 ay)).lt
  have g:List.getD (aK (iA (aq ls n))) (Int.toNat (p:Int)) .top=nI ((aq ls n)[p]:Nat):=by rw[cy (by rw[ahX];exact ay),ajL]
  have g2:List.getD (ls.map aP.enc) (Int.toNat ((aq ls n)[p]:Nat)) .top=aP.enc ls[(aq ls n)[p]]:=getD_map GZ
  have eL:ls.getD (aq ls n)[p] ju=ls[(aq ls n)[p]]:=mA GZ
  have UI:(((aq ls n).take p).map fun i=>lN n (aq ls n) (ls.getD i ju)).length=p:=by rw[ahX,aid];omega
  refine⟨by omega,by omega,_,g,by omega,by rw[ahX];omega,_,_,_,_,_,_,_,_,_,_,g2,rfl,rfl,?_⟩
  refine IG hn hK ay eL (h8 _ (ah1 GZ)) (heq _ (ah1 GZ)) UI (R:=fun r=>r=.sl ((cx ls n).map aP.enc)) Aq fun hq=>?_
  have:=bO (p+1) ⟨ay,fun i hi=>by
   rw[←aH ay] at hi
   rcases aiM.1 hi with h5|h5
   ·exact aD i h5
   ·rw[air.1 h5,eL];exact hq⟩ (by omega)
  rw[←aH ay,aii] at this
  rw[←eL]
  exact this
 ·have gQ:(aq ls n).length≤p:=by have:=of_decide_eq_false d;omega
  rw[ah9 gQ] at aD ⊢
  refine⟨rfl,?_⟩
  have ho:rG ls n:=aD
  rw[cx,if_neg (by omega),if_pos ho]
theorem jK {n:Int} {u:List Nat} (s:bF):(kO n u s).back=s.back∧(kO n u s).path=s.path∧(kO n u s).sub=s.sub:=by unfold kO;split<;>exact⟨rfl,rfl,rfl⟩
section
variable {ls:List aP} {n:Int}
theorem II (hn:0≤n) (ho:rG ls n) {j:Nat} (hj:j<(aq ls n).length) {s:bF} (hs:s∈(ls.getD (aq ls n)[j] ju).steps) (gQ:n≤s.eq):
  ∃k,∃hk:k<(aq ls n).length,k<j∧s.eq=n+((aq ls n)[k]:Nat)∧(kO n (aq ls n) s).eq=n+(k:Nat):=by
 have hu:=jo ls n
 have IF:(aq ls n)[j]∈aq ls n:=ah1 hj
 have h1:=ho _ IF _ hs gQ
 have h2:=(dA.1 IF).lt
 obtain⟨t,ht⟩:∃t:Nat,s.eq=n+t:=⟨(s.eq-n).toNat,by omega⟩
 have hm:=(hu.nG hj (uG hn IF hs ht (by omega))).1 (by omega)
 obtain⟨k,hk,e⟩:=ajR.1 hm
 have hkj:k<j:=by omega
 have DE:k<(aq ls n).length:=by omega
 refine⟨k,DE,hkj,by rw[ht,←e],?_⟩
 rw[uH ht,←e,qF hu DE]
theorem qG (hn:0≤n) (ho:rG ls n):cx ls n=(aq ls n).map fun i=>lN n (aq ls n) (ls.getD i ju):=by
 unfold cx;rw[if_neg (by omega),if_pos ho]
theorem wI (hn:0≤n) (ho:rG ls n) {j:Nat} (hj:j<(aq ls n).length):(cx ls n).getD j ju=lN n (aq ls n) (ls.getD (aq ls n)[j] ju):=by
 rw[qG hn ho]
 simp[List.getD,hj]
theorem Dz (hn:0≤n) (ho:rG ls n) {j:Nat} (hj:j<(aq ls n).length):fX (cx ls n) n j:=by
 intro S hS
 have hu:=jo ls n
 have hlen:(cx ls n).length=(aq ls n).length:=by rw[qG hn ho,ahX]
 have key:∀i,fX ls n i→fX ls n i∧∀j,∀hj:j<(aq ls n).length,(aq ls n)[j]=i→S j:=fun i hi=>by
  refine hi (fun i=>fX ls n i∧∀j,∀hj:j<(aq ls n).length,(aq ls n)[j]=i→S j) ⟨fun k hk=>⟨(fG ls n).last k hk,fun j hj e=>?_⟩,fun i GZ ⟨wQ,hiS⟩ s hs t ht=>⟨(fG ls n).step i GZ wQ s hs t ht,fun j hj e=>?_⟩⟩
  ·have s7:j+1=(aq ls n).length:=by
    rcases ajP (j+1) (aq ls n).length with h1|h1
    ·have h2:=hu.lt (i:=j) (j:=j+1) (by omega) h1
     have h3:=(dA.1 (ah1 h1)).lt
     omega
    ·omega
   exact hS.last j (by omega)
  ·have hiu:i∈aq ls n:=dA.2 wQ
   obtain⟨q,hq,eq⟩:=aj1 hiu
   have hSq:=hiS q hq eq
   have Mx:s∈(ls.getD (aq ls n)[q] ju).steps:=by rw[eq,mA GZ];exact hs
   rw[oP,ahZ,decide_eq_true_eq,decide_eq_true_eq] at ht
   obtain⟨k,hk,Zh,e1,e2⟩:=II hn ho hq Mx ht.1.1
   have hkt:(aq ls n)[k]=(aq ls n)[j]:=by rw[e];omega
   have hkj:k=j:=by
    rcases Nat.lt_trichotomy k j with h1|h1|h1
    ·have:=hu.lt h1 hj;omega
    ·exact h1
    ·have:=hu.lt h1 hk;omega
   subst hkj
   have D9:q<(cx ls n).length:=by omega
   refine hS.step q D9 hSq (kO n (aq ls n) s) ?_ k ?_
   ·rw[←mA D9,wI hn ho hq]
    exact List.mem_map_of_mem Mx
   ·rw[oP,ahZ,decide_eq_true_eq,decide_eq_true_eq,e2,hlen]
    exact⟨⟨by omega,by omega,by omega⟩,hk⟩
 exact(key _ (dA.1 (ah1 hj))).2 j hj rfl
theorem VD:∀{u v:List Nat},Up u→Up v→(∀x,x∈u↔x∈v)→u=v
 | [],[],_,_,_=>rfl
 | [],y::v,_,_,h=>by have:=(h y).2 (aia ..);cases this
 |x::u,[],_,_,h=>by have:=(h x).1 (aia ..);cases this
 |x::u,y::v,hu,hv,h=>by
  obtain⟨h1,h2⟩:=ajf.1 hu
  obtain⟨h3,h4⟩:=ajf.1 hv
  have e:x=y:=by
   rcases aiC.1 ((h x).1 (aia ..)) with e|e
   ·exact e
   ·rcases aiC.1 ((h y).2 (aia ..)) with e2|e2
    ·exact e2.symm
    ·have:=h3 x e;have:=h1 y e2;omega
  subst e
  rw[VD h2 h4 fun z=>⟨fun hz=>?_,fun hz=>?_⟩]
  ·rcases aiC.1 ((h z).1 (aip _ hz)) with e|e
   ·have:=h1 z hz;omega
   ·exact e
  ·rcases aiC.1 ((h z).2 (aip _ hz)) with e|e
   ·have:=h3 z hz;omega
   ·exact e
theorem zQ:∀{m a t:Nat},t<m→pK (List.range' a m) (a+t)=t
 |0,_,_,h=>by omega
 |m+1,a,t,h=>by
  rw[List.range'_succ,pK]
  by_cases h0:t=0
  ·subst h0;rw[ai4,if_pos rfl]
  ·rw[if_neg (by omega)]
   have:=zQ (m:=m) (a:=a+1) (t:=t-1) (by omega)
   rw[show a+1+(t-1)=a+t by omega] at this
   rw[this];omega
theorem GU:cx (cx ls n) n=cx ls n:=by
 by_cases hn:0≤n
 ·by_cases ho:rG ls n
  ·have hlen:(cx ls n).length=(aq ls n).length:=by rw[qG hn ho,ahX]
   have QA:aq (cx ls n) n=List.range (aq ls n).length:=VD (jo _ _) List.pairwise_lt_range fun x=>by
    rw[dA,aja]
    exact⟨fun h=>by have:=h.lt;omega,fun h=>Dz hn ho h⟩
   have BB:∀j,∀hj:j<(aq ls n).length,∀s∈((cx ls n).getD j ju).steps,(n≤s.eq→s.eq-n<j)∧kO n (List.range (aq ls n).length) s=s:=fun j hj s hs=>by
    rw[wI hn ho hj] at hs
    obtain⟨s0,h0,rfl⟩:=aiQ.1 hs
    by_cases ay:s0.eq<n
    ·rw[rq ay];exact⟨fun h=>by omega,rq ay⟩
    ·obtain⟨k,hk,hkj,e1,e2⟩:=II hn ho hj h0 (by omega)
     refine⟨fun _=>by omega,?_⟩
     rw[uH e2,List.range_eq_range']
     have:=zQ (m:=(aq ls n).length) (a:=0) hk
     rw[aiw] at this
     rw[this,←e2]
   have ho2:rG (cx ls n) n:=fun i hi s hs gQ=>by
    rw[QA] at hi
    exact(BB i (aja.1 hi) s hs).1 gQ
   rw[qG hn ho2,QA]
   apply List.ext_getElem
   ·rw[ahX,ajU,hlen]
   ·intro j h1 h2
    rw[ajL,List.getElem_range]
    have hj:j<(aq ls n).length:=by omega
    have e:(cx ls n).getD j ju=(cx ls n)[j]:=mA h2
    have hs:=BB j hj
    rw[e] at hs ⊢
    unfold lN
    rw[ai7 (g:=id) (fun s Mx=>(hs s Mx).2),List.map_id]
  ·have e:cx ls n=ls:=by unfold cx;rw[if_neg (by omega),if_neg ho]
   rw[e,e]
 ·have e:∀l,cx l n=l:=fun l=>by unfold cx;rw[if_pos (by omega)]
  rw[e,e]
theorem Qs {l:aP} (h:l.Cut):(lN n (aq ls n) l).Cut:=by
 refine⟨⟨h.jg.left,h.jg.right,h.jg.ml,h.jg.aO,fun s hs=>?_⟩,by show (l.steps.map _).length≤8;rw[ahX];exact h.sl,fun s hs=>?_⟩
 ·have Mx:s∈(l.steps.map (kO n (aq ls n))).take 8:=hs
  rw[←List.map_take] at Mx
  obtain⟨s0,h0,rfl⟩:=aiQ.1 Mx
  rw[(jK s0).2.1,(jK s0).2.2]
  exact h.jg.steps s0 h0
 ·obtain⟨s0,h0,rfl⟩:=aiQ.1 hs
  rw[(jK s0).2.2]
  exact h.P3 s0 h0
theorem Bv {P:aP→Prop} (h:∀l∈ls,P l) (h2:0≤n→rG ls n→∀j,∀hj:j<(aq ls n).length,P (lN n (aq ls n) (ls.getD (aq ls n)[j] ju))):∀l∈cx ls n,P l:=by
 by_cases hn:0≤n
 ·by_cases ho:rG ls n
  ·rw[qG hn ho]
   intro l hl
   obtain⟨i,hi,rfl⟩:=aiQ.1 hl
   obtain⟨j,hj,rfl⟩:=aj1 hi
   exact h2 hn ho j hj
  ·have e:cx ls n=ls:=by unfold cx;rw[if_neg (by omega),if_neg ho]
   rw[e];exact h
 ·have e:cx ls n=ls:=by unfold cx;rw[if_pos (by omega)]
  rw[e];exact h
theorem L6:(cx ls n).length≤ls.length:=by
 unfold cx
 split
 ·exact ah5 _
 ·split
  ·rw[ahX];exact iH ls n
  ·exact ah5 _
theorem L7 (h:∀l∈ls,l.Cut):∀l∈cx ls n,l.Cut:=Bv h fun hn ho j hj=>by
 rw[mA (dA.1 (ah1 hj)).lt]
 exact Qs (h _ (ah1 _))
theorem Qt (h:∀l∈ls,l.Tr):∀l∈cx ls n,l.Tr:=Bv h fun hn ho j hj=>by
 have hl:=(dA.1 (ah1 hj)).lt
 have Qq:=fun s hs gQ=>II hn ho hj (s:=s) hs gQ
 rw[mA hl] at Qq ⊢
 have ht:=h _ (ah1 hl)
 generalize ls[(aq ls n)[j]]=l at ht Qq
 refine⟨⟨ht.pa.left,ht.pa.right,ht.pa.lok,ht.pa.rok,ht.pa.aO⟩,⟨by show (l.steps.map _).length≤8;rw[ahX];exact ht.Ms.len,fun s hs=>?_,fun s hs=>?_,fun s hs=>?_,fun s hs=>?_⟩,fun s hs=>?_⟩<;>obtain⟨s0,h0,rfl⟩:=aiQ.1 hs
 ·rw[(jK s0).2.1];exact ht.Ms.path s0 h0
 ·rw[(jK s0).2.2];exact ht.Ms.sub s0 h0
 ·rw[(jK s0).2.2];exact ht.Ms.sizes s0 h0
 ·rw[(jK s0).2.2];exact ht.Ms.ok s0 h0
 ·have hE:=ht.eqs s0 h0
  by_cases ay:s0.eq<n
  ·rw[rq ay];exact hE
  ·obtain⟨k,hk,hkj,e1,e2⟩:=Qq s0 h0 (by omega)
   have:=Up.le (a:=0) (jo ls n) (fun _ _=>ah3 _) hk
   rw[e2]
   unfold ke at hE ⊢
   omega
end
theorem xh {a:List aP} (ha:∀l∈a,l.QM) {n:Int} (hn:ke n):av Tryz.prog 5 [.sl (a.map aP.enc),nI n] (nB true):=by
 refine WY ⟨_,Dc,ak.intro (fun c=>⟨_,r4,rfl⟩) fun c=>?_⟩
 have aaO:(a.take 6).all mu=true:=by simpa only[ajd] using c
 have hfA:∀x∈a.take 6,x.QL:=fun x hx=>LR (ah4.1 aaO x hx)
 have Xz:=P4 hfA
 have hoA:∀l∈Gj a,l.Ok:=fun l hl=>by
  obtain⟨l0,h0,rfl⟩:=aiQ.1 hl
  exact(ha l0 (aiR h0)).cut (hfA l0 h0)
 have Xl:=P5 a
 have htA:=Gp hfA
 generalize Gj a=A at Xz hoA Xl htA
 have hT:∀l∈A,l.Tr:=fun l hl=>⟨(Xz l hl).pa (hoA l hl),(Xz l hl).Ms (hoA l hl),fun s hs=>((hoA l hl).steps s hs).eq⟩
 have h8:∀l∈A,l.steps.length≤8:=fun l hl=>(Xz l hl).sl
 have heq:∀l∈A,∀s∈l.steps,ke s.eq:=fun l hl=>(hT l hl).eqs
 have hyl:(cx A n).length≤6:=aiy L6 Xl
 have hcY:=L7 (n:=n) Xz
 have hTY:=Qt (n:=n) hT
 have Xm:∀l∈cx A n,l.Sz:=fun l hl=>(hcY l hl).sz
 have UN:=iH A n
 have VE:=H8 (l:=iA (aq A n)) (m:=iA (aq A n)) (by rw[ahX];omega)
 rw[fM,decide_eq_true rfl] at VE
 have F5:=zM (l:=cx A n) (m:=cx A n) (by omega) Xm Xm
 rw[qz Bl] at F5
 have hce:=C8 (l:=cx A n) (m:=cx A n) (by omega) Xm
 rw[qz Bl] at hce
 have Qu:=zP (n:=n) hyl hTY
 rw[GU] at Qu
 exact⟨_,htA,_,wk Xl Xz,_,zP Xl hT,_,r4,ak.pos rfl ⟨_,uD Xl h8 heq,_,wH Xl h8 heq hn,_,VE,ak.pos rfl ⟨_,wk hyl hcY,_,GR Xl h8 heq hn,_,F5,ak.pos rfl ⟨_,Qu,_,hce,rfl⟩⟩⟩⟩
end
end Go.Proofs.YtjhanogfpkbamaaGreatDoor
