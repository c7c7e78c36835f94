/- Texts of ours laid together for a claim: P82. -/
import Derived.Test.YtghnkppcncbddaaGreatDoorQ47
namespace Go.Proofs.YtghnkppcncbddaaGreatDoor
open Go
set_option linter.unusedSimpArgs false
set_option linter.unusedVariables false
structure It where
 kind:Int
 words:List ByteArray
 nodes:List Nd
 num:Int
 at_:Int
abbrev itC (x:It):List AV:=[nI x.kind,wsAV x.words,.sl (x.nodes.map Nd.enc),nI x.num,nI x.at_]
abbrev itAV (x:It):AV:=.agg (itC x)
structure Fm where
 word:ByteArray
 least:Int
 most:Int
 trees:Int
 types:Bool
 count:Bool
def formI (k:Int):Option Fm:=
 if k=1 then some ⟨⟨#[115,111,114,116]⟩,1,1073741824,0,false,false⟩ else
 if k=2 then some ⟨⟨#[99,111,110,115,116]⟩,1,1,1,true,false⟩ else
 if k=3 then some ⟨⟨#[118,97,114]⟩,1,1,1,true,false⟩ else
 if k=4 then some ⟨⟨#[101,113]⟩,1,1,2,false,false⟩ else
 if k=5 then some ⟨⟨#[114,117,108,101]⟩,1,1,2,false,false⟩ else
 if k=6 then some ⟨⟨#[112,114,101,99]⟩,2,1073741824,0,false,false⟩ else
 if k=7 then some ⟨⟨#[115,116,97,116,117,115]⟩,2,2,0,false,false⟩ else
 if k=8 then some ⟨⟨#[99,111,109,112,108,101,116,101]⟩,0,0,0,false,true⟩ else
 if k=9 then some ⟨⟨#[110,111,114,109,97,108]⟩,0,0,1,false,true⟩ else
 if k=10 then some ⟨⟨#[100,101,99,105,100,101]⟩,0,0,2,false,true⟩ else
 if k=11 then some ⟨⟨#[99,111,110,102,108,117,101,110,116]⟩,0,0,0,false,true⟩ else
 if k=12 then some ⟨⟨#[99,101,114,116,105,102,121]⟩,1,1,0,false,false⟩ else none
def noF:Fm:=⟨⟨#[]⟩,0,0,0,false,false⟩
abbrev fmAV (f:Fm):AV:=.agg [nS f.word,nI f.least,nI f.most,nI f.trees,nB f.types,nB f.count]
theorem formOf_calls {k:Int}:PureIs Tryz.prog 88 [nI k] (.tup [fmAV ((formI k).getD noF),nB (formI k).isSome]):=by
 refine vc88_ok ?_
 unfold formI vc88
 iterate 12
  refine ITE.intro (fun h=>?_) fun h=>?_
  ·have h:=eq_of_beq h
   subst h
   rfl
  rw[if_neg (fun e=>by rw[e] at h;exact absurd h (by decide))]
 rfl
theorem ri1_calls {w:ByteArray}:PureIs Tryz.prog 90 [nS w] (nB (!(isWord w))):=vc90_ok ⟨_,IsWord_calls,rfl⟩
def idxB {α:Type} (p:α→Bool):List α→Nat→Int
 | [],_ => -1
 |t::l,k=>if p t=true then k else idxB p l (k+1)
theorem idxB_sign {α:Type} {p:α→Bool}:∀(l:List α) (k:Nat),decide (idxB p l k≥0)=l.any p
 | [],_=>rfl
 |t::l,k=>by
  rw[idxB,List.any_cons]
  cases p t
  ·rw[if_neg (by decide),idxB_sign l (k+1)];rfl
  ·rw[if_pos rfl];exact decide_eq_true (Int.natCast_nonneg k)
theorem idxW_calls {l:List ByteArray} (hl:l.length≤1000000000):PureIs Tryz.prog 122 [wsAV l,.clo 90 []] (nI (idxB (fun w=>!(isWord w)) l 0)):=by
 refine vc122_ok ?_
 unfold vc122
 refine LoopP.intro (fun k:Nat=>((l.map nS,(),((l.length:Nat):Int),(k:Int),()),())) (fun k=>k≤l.length∧idxB (fun w=>!(isWord w)) l 0=idxB (fun w=>!(isWord w)) (l.drop k) k) (fun k=>l.length-k) 0 (by rw[List.length_map];rfl) ⟨Nat.zero_le _,by rw[List.drop_zero]⟩ ?_
 intro k ⟨hk,hd⟩ again hag
 dsimp only
 rw[List.length_map]
 refine ITE.intro (fun h=>?_) fun h=>?_
 ·have hlt:k<l.length:=by simpa using h
  refine⟨by omega,by omega,_,getD_map hlt,_,ri1_calls,ITE.intro (fun h1=>?_) fun h1=>?_⟩
  ·rw[hd,List.drop_eq_getElem_cons hlt,idxB,if_pos h1]
  ·rw[wrap_n (by omega)]
   exact hag (k+1) ⟨by omega,by rw[hd,List.drop_eq_getElem_cons hlt,idxB,if_neg (by rw[h1];decide)]⟩ (by omega)
 ·have:l.length≤k:=by simpa using h
  rw[hd,List.drop_eq_nil_of_le this];rfl
theorem conW_calls {l:List ByteArray} (hl:l.length≤1000000000):PureIs Tryz.prog 89 [wsAV l,.clo 90 []] (nB (l.any fun w=>!(isWord w))):=
 vc89_ok ⟨_,idxW_calls hl,by rw[idxB_sign]⟩
theorem ri2T_calls {t:Nd}:PureIs Tryz.prog 93 [ndAV t,.eptr (.clo 70 []) 0] (nB (!(rightT t))):=by
 have h:=RightT_calls _ t (Nat.le_refl _)
 rw[Nd.enc_eq] at h
 exact vc_ri2T_ok ⟨_,h,rfl⟩
theorem ri2M_calls {t:Nd}:PureIs Tryz.prog 93 [ndAV t,.eptr (.clo 72 []) 0] (nB (!(rightM t))):=by
 have h:=RightM_calls _ t (Nat.le_refl _)
 rw[Nd.enc_eq] at h
 exact vc_ri2M_ok ⟨_,h,rfl⟩
theorem idxNT_calls {l:List Nd} (hl:l.length≤1000000000):PureIs Tryz.prog 126 [.sl (l.map Nd.enc),.clo 93 [.eptr (.clo 70 []) 0]] (nI (idxB (fun t=>!(rightT t)) l 0)):=by
 refine vc_idxNT_ok ⟨rfl,?_⟩
 refine LoopP.intro (fun k:Nat=>((l.map Nd.enc,((),()),((l.length:Nat):Int),(k:Int),()),())) (fun k=>k≤l.length∧idxB (fun t=>!(rightT t)) l 0=idxB (fun t=>!(rightT t)) (l.drop k) k) (fun k=>l.length-k) 0 (by rw[List.length_map];rfl) ⟨Nat.zero_le _,by rw[List.drop_zero]⟩ ?_
 intro k ⟨hk,hd⟩ again hag
 dsimp only
 rw[List.length_map]
 refine ITE.intro (fun h=>?_) fun h=>?_
 ·have hlt:k<l.length:=by simpa using h
  refine⟨by omega,by omega,_,_,_,_,Nd.enc_getD hlt,_,ri2T_calls,ITE.intro (fun h1=>?_) fun h1=>⟨rfl,?_⟩⟩
  ·rw[hd,List.drop_eq_getElem_cons hlt,idxB,if_pos h1]
  ·rw[wrap_n (by omega)]
   exact hag (k+1) ⟨by omega,by rw[hd,List.drop_eq_getElem_cons hlt,idxB,if_neg (by rw[h1];decide)]⟩ (by omega)
 ·have:l.length≤k:=by simpa using h
  rw[hd,List.drop_eq_nil_of_le this];rfl
theorem conNT_calls {l:List Nd} (hl:l.length≤1000000000):PureIs Tryz.prog 92 [.sl (l.map Nd.enc),.clo 93 [.eptr (.clo 70 []) 0]] (nB (l.any fun t=>!(rightT t))):=
 vc_conNT_ok ⟨_,idxNT_calls hl,by rw[idxB_sign]⟩
theorem idxNM_calls {l:List Nd} (hl:l.length≤1000000000):PureIs Tryz.prog 126 [.sl (l.map Nd.enc),.clo 93 [.eptr (.clo 72 []) 0]] (nI (idxB (fun t=>!(rightM t)) l 0)):=by
 refine vc_idxNM_ok ⟨rfl,?_⟩
 refine LoopP.intro (fun k:Nat=>((l.map Nd.enc,((),()),((l.length:Nat):Int),(k:Int),()),())) (fun k=>k≤l.length∧idxB (fun t=>!(rightM t)) l 0=idxB (fun t=>!(rightM t)) (l.drop k) k) (fun k=>l.length-k) 0 (by rw[List.length_map];rfl) ⟨Nat.zero_le _,by rw[List.drop_zero]⟩ ?_
 intro k ⟨hk,hd⟩ again hag
 dsimp only
 rw[List.length_map]
 refine ITE.intro (fun h=>?_) fun h=>?_
 ·have hlt:k<l.length:=by simpa using h
  refine⟨by omega,by omega,_,_,_,_,Nd.enc_getD hlt,_,ri2M_calls,ITE.intro (fun h1=>?_) fun h1=>⟨rfl,?_⟩⟩
  ·rw[hd,List.drop_eq_getElem_cons hlt,idxB,if_pos h1]
  ·rw[wrap_n (by omega)]
   exact hag (k+1) ⟨by omega,by rw[hd,List.drop_eq_getElem_cons hlt,idxB,if_neg (by rw[h1];decide)]⟩ (by omega)
 ·have:l.length≤k:=by simpa using h
  rw[hd,List.drop_eq_nil_of_le this];rfl
theorem conNM_calls {l:List Nd} (hl:l.length≤1000000000):PureIs Tryz.prog 92 [.sl (l.map Nd.enc),.clo 93 [.eptr (.clo 72 []) 0]] (nB (l.any fun t=>!(rightM t))):=
 vc_conNM_ok ⟨_,idxNM_calls hl,by rw[idxB_sign]⟩
def cntB (ct:Bool) (num:Int):Bool:=match ct with
 |true=>!(decide (num<0))&&!(decide (num>999999999))
 |false=>!(num != 0)
def nodB (ty:Bool) (l:List Nd):Bool:=match ty with
 |true=>l.any fun t=>!(rightT t)
 |false=>l.any fun t=>!(rightM t)
def rightF (f:Fm) (x:It):Bool:=
 !(decide (((x.words.length:Nat):Int)<f.least))&&(!(decide (((x.words.length:Nat):Int)>f.most))&&(!(((x.nodes.length:Nat):Int) != f.trees) &&
  (cntB f.count x.num&&(!(x.words.any fun w=>!(isWord w))&&!(nodB f.types x.nodes)))))
def rightI (x:It):Bool:=match formI x.kind with|some f=>rightF f x|none=>false
theorem RightItem_calls {x:It} (hw:x.words.length≤1000000000) (hn:x.nodes.length≤1000000000):PureIs Tryz.prog 55 [itAV x] (nB (rightI x)):=by
 refine vc55_ok ⟨_,_,_,_,_,_,_,formOf_calls,?_⟩
 unfold rightI
 cases formI x.kind with
 |none=>exact ITE.pos rfl rfl
 |some f=>
  obtain⟨fw,lo,hi,tr,ty,ct⟩:=f
  refine ITE.neg rfl ?_
  show ITE (decide (((x.words.map nS).length:Int)<lo)) _ _
  rw[List.length_map,List.length_map]
  have fin:∀(h1:decide (((x.words.length:Nat):Int)<lo)=false) (h2:decide (((x.words.length:Nat):Int)>hi)=false) (h3:(((x.nodes.length:Nat):Int) != tr)=false) (h4:cntB ct x.num=true),
    ITE ty (∃b:Bool,PureIs Tryz.prog 89 [wsAV x.words,.clo 90 []] (nB b)∧ITE (!b) (∃b':Bool,PureIs Tryz.prog 92 [.sl (x.nodes.map Nd.enc),.clo 93 [.eptr (.clo 70 []) 0]] (nB b')∧(fun r=>r=nB (rightF ⟨fw,lo,hi,tr,ty,ct⟩ x)) (nB (!b'))) ((fun r=>r=nB (rightF ⟨fw,lo,hi,tr,ty,ct⟩ x)) (nB false)))
     (∃b:Bool,PureIs Tryz.prog 89 [wsAV x.words,.clo 90 []] (nB b)∧ITE (!b) (∃b':Bool,PureIs Tryz.prog 92 [.sl (x.nodes.map Nd.enc),.clo 93 [.eptr (.clo 72 []) 0]] (nB b')∧(fun r=>r=nB (rightF ⟨fw,lo,hi,tr,ty,ct⟩ x)) (nB (!b'))) ((fun r=>r=nB (rightF ⟨fw,lo,hi,tr,ty,ct⟩ x)) (nB false))):=by
   intro h1 h2 h3 h4
   have e:rightF ⟨fw,lo,hi,tr,ty,ct⟩ x=(!(x.words.any fun w=>!(isWord w))&&!(nodB ty x.nodes)):=by
    unfold rightF
    simp only[h1,h2,h3,h4,Bool.not_false,Bool.true_and]
   rw[e]
   cases ty
   ·refine ITE.neg rfl ⟨_,conW_calls hw,ITE.intro (fun h=>⟨_,conNM_calls hn,?_⟩) fun h=>?_⟩
    ·show _=nB _;rw[h];rfl
    ·show _=nB _;rw[h];rfl
   ·refine ITE.pos rfl ⟨_,conW_calls hw,ITE.intro (fun h=>⟨_,conNT_calls hn,?_⟩) fun h=>?_⟩
    ·show _=nB _;rw[h];rfl
    ·show _=nB _;rw[h];rfl
  refine ITE.intro (fun h1=>?_) fun h1=>ITE.intro (fun h2=>?_) fun h2=>ITE.intro (fun h3=>?_) fun h3=>?_
  ·show nB false=nB (rightF _ x);unfold rightF;simp only[h1,Bool.not_true,Bool.not_false,Bool.true_and,Bool.false_and]
  ·have h2:decide (((x.words.length:Nat):Int)>hi)=true:=h2;show nB false=nB (rightF _ x);unfold rightF;simp only[h1,h2,Bool.not_true,Bool.not_false,Bool.true_and,Bool.false_and]
  ·have h2:decide (((x.words.length:Nat):Int)>hi)=false:=h2;have h3:(((x.nodes.length:Nat):Int) != tr)=true:=h3;show nB false=nB (rightF _ x);unfold rightF;simp only[h1,h2,h3,Bool.not_true,Bool.not_false,Bool.true_and,Bool.false_and]
  ·cases ct
   ·refine ITE.neg rfl (ITE.pos rfl (ITE.intro (fun h4=>?_) fun h4=>fin h1 h2 h3 (by show (!(x.num != 0))=true;rw[h4];rfl)))
    have h2:decide (((x.words.length:Nat):Int)>hi)=false:=h2;have h3:(((x.nodes.length:Nat):Int) != tr)=false:=h3;show nB false=nB (rightF _ x);unfold rightF cntB;simp only[h1,h2,h3,h4,Bool.not_true,Bool.not_false,Bool.true_and,Bool.false_and]
   ·refine ITE.pos rfl (ITE.intro (fun h4=>?_) fun h4=>ITE.intro (fun h5=>?_) fun h5=>ITE.neg rfl (fin h1 h2 h3 (by show (!(decide (x.num<0))&&!(decide (x.num>999999999)))=true;rw[h4,h5];rfl)))
    ·have h2:decide (((x.words.length:Nat):Int)>hi)=false:=h2;have h3:(((x.nodes.length:Nat):Int) != tr)=false:=h3;show nB false=nB (rightF _ x);unfold rightF cntB;simp only[h1,h2,h3,h4,Bool.not_true,Bool.not_false,Bool.true_and,Bool.false_and]
    ·have h2:decide (((x.words.length:Nat):Int)>hi)=false:=h2;have h3:(((x.nodes.length:Nat):Int) != tr)=false:=h3;show nB false=nB (rightF _ x);unfold rightF cntB;simp only[h1,h2,h3,h4,h5,Bool.not_true,Bool.not_false,Bool.true_and,Bool.false_and]
end Go.Proofs.YtghnkppcncbddaaGreatDoor
