/- Texts of ours laid together for a claim: VeF. -/
import Derived.Test.YtdcikhleahfknaaGreatDoorQ40
namespace Go.Proofs.YtdcikhleahfknaaGreatDoor
open Go
set_option linter.unusedSimpArgs false
set_option linter.unusedVariables false
set_option maxRecDepth 100000
abbrev agR (a:Int) (b c d:List AV) (e:Int) (g:List AV) (h i:Int) (j:List AV) (R:AV->List af->Prop):Prop :=∃f,pI 95 [.agg [nI a,.sl b,.sl c],.sl [],.agg [.sl g,nI h,nI i,.sl j],.agg [.sl d,nI e]] (nI f) /\R (nB (f==0)) [.box [nI a,.sl b,.sl c],.box [.sl d,nI e]]
theorem VF {w0 w1 w2 f0 f1 al ao az aP R} (h:agR w0 w1 w2 f0 f1 al ao az aP R):bH Tryz.prog 94 [.agg [.sl al,nI ao,nI az,.sl aP],.ptr 0 0,.ptr 1 0] [.box [nI w0,.sl w1,.sl w2],.box [.sl f0,nI f1]] R:=
 y5 2 [] Tryz.func94 (by exact rfl) (by kernel_rfl) (by kernel_rfl) h
abbrev VG (h:Bool) (R:AV->Prop) (i:List AV) (j k:Int) (l:List AV) (m:Int) (n o p:List AV) (q:Int) (r:List AV) (s t:Int) (u:List AV):Prop :=ah h (R (nI 5)) (aV 94 [.agg [.sl i,nI j,nI k,.sl l],.ptr 0 0,.ptr 1 0] [.box [nI m,.sl n,.sl o],.box [.sl p,nI q]] fun v w=>∃a b c d e f,(v=nB f/\w=[.box [nI a,.sl b,.sl c],.box [.sl d,nI e]]) /\ah (!f) (R (nI 5)) (aV 94 [.agg [.sl r,nI s,nI t,.sl u],.ptr 0 0,.ptr 1 0] [.box [nI a,.sl b,.sl c],.box [.sl d,nI e]] fun x y=>∃z B C D E g,(x=nB g/\y=[.box [nI z,.sl B,.sl C],.box [.sl D,nI E]]) /\ah (!g) (R (nI 5)) (R (nI 0))))
abbrev agS (a:Int) (b r c:List AV) (d e:Int) (f i:List AV) (j k:Int) (l g:List AV) (R:AV->Prop):Prop :=∃m,pI 91 [.agg [nI a,.sl b,.sl g]] (nB m) /\ah (!m) (R (nI 1)) (∃n,pI 92 [.agg [.sl c,nI d,nI e,.sl f]] (nB n) /\ah (!n) (R (nI 2)) (∃o,pI 92 [.agg [.sl i,nI j,nI k,.sl l]] (nB o) /\ah (!o) (R (nI 2)) (∃h p q,pI 93 [.agg [nI a,.sl b,.sl g],.sl [],.agg [.sl c,nI d,nI e,.sl f]] (.aL [.agg [.sl h,nI p],nI q]) /\ah (q != 0) (R (nI 5)) (VG (decide (((List.length h:Nat):Int)>0)) R c d e f a b g h p i j k l))))
theorem VH {al ao az bx bz bJ bX fY fZ ga gb gd R} (h:agS al ao az bx bz bJ bX fY fZ ga gb gd R):Pure Tryz.prog 55 [.agg [nI al,.sl ao,.sl az],.agg [.sl bx,nI bz,nI bJ,.sl bX,.sl fY,nI fZ,nI ga,.sl gb,.sl gd]] R:=
 xG [] [(94,.fK [(.v (.c (.b)),[.box [.i .i64,.l,.l],.box [.l,.i .i64]])])] [] [] [] Tryz.func55 (by exact rfl) (by kernel_rfl) (by kernel_rfl) h
abbrev acX (hs:List AV) (b:Int) (R:AV->Prop):Prop :=∃a,pI 113 [.sl hs,nI b] (nB a) /\R (nB (!a))
theorem QV {hs a0 R} (h:acX hs a0 R):Pure Tryz.prog 112 [nI a0,.aS (.sl hs) 0] R:=
 cZ [] Tryz.func112 (by exact rfl) (by kernel_rfl) (by kernel_rfl) h
abbrev uW:Type:=(List AV×(Unit×Unit)×Int×Int×Unit)×(Unit)
abbrev Fl (a c:Int) (b d:List AV) (R:AV->Prop) (g:List AV) (h:uW->Prop):Prop :=ah (decide (a<c)) (0<=a /\a<List.length b /\∃e,List.getD b (Int.toNat a) .top=nI e /\∃f,pI 112 [nI e,.aS (.sl d) 0] (nB f) /\ah f (R (nI a)) ((.aS (.sl d) 0:AV)=.aS (.sl g) 0 /\h ((b,((),()),c,IntKind.wrap .i64 (a+1),()),()))) (R (nI (-1)))
abbrev Fm (c:uW) (b:List AV) (R:AV->Prop):Prop :=av _ c fun a d=>Fl a.1.2.2.2.1 a.1.2.2.1 a.1.1 b R b d
abbrev QW (hs a:List AV) (R:AV->Prop):Prop :=(.aS (.sl hs) 0:AV)=.aS (.sl hs) 0 /\Fm ((a,((),()),((List.length a:Nat):Int),0,()),()) hs R
theorem Fo {hs a0 R} (h:QW hs a0 R):Pure Tryz.prog 163 [.sl a0,.aY 112 [.aS (.sl hs) 0]] R:=
 cZ [{ key:=2,live:=[(0,none),(1,some (.f 112 [.c (.q (.aS (.sl hs) 0))])),(7,none),(8,none)] }] Tryz.func163 (by exact rfl) (by kernel_rfl) (by kernel_rfl) h
abbrev QX (hs b:List AV) (R:AV->Prop):Prop :=∃a,pI 163 [.sl b,.aY 112 [.aS (.sl hs) 0]] (nI a) /\R (nB (decide (a>=0)))
theorem Fp {hs a0 R} (h:QX hs a0 R):Pure Tryz.prog 111 [.sl a0,.aY 112 [.aS (.sl hs) 0]] R:=
 cZ [] Tryz.func111 (by exact rfl) (by kernel_rfl) (by kernel_rfl) h
abbrev Fq:Type:=(List AV×Int×Int×Int×Unit)×(Unit)
abbrev QY (a c:Int) (b:List AV) (d:Int) (R:AV->Prop) (f:Fq->Prop):Prop :=ah (decide (a<c)) (0<=a /\a<List.length b /\∃e,List.getD b (Int.toNat a) .top=nI e /\ah (d==e) (R (nI a)) (f ((b,d,c,IntKind.wrap .i64 (a+1),()),()))) (R (nI (-1)))
abbrev QZ (b:Fq) (R:AV->Prop):Prop :=av _ b fun a c=>QY a.1.2.2.2.1 a.1.2.2.1 a.1.1 a.1.2.1 R c
abbrev acY (a:List AV) (b:Int) (R:AV->Prop):Prop :=QZ ((a,b,((List.length a:Nat):Int),0,()),()) R
theorem Q0 {a0 a1 R} (h:acY a0 a1 R):Pure Tryz.prog 164 [.sl a0,nI a1] R:=
 cZ [la 2 [0,1,7,8]] Tryz.func164 (by exact rfl) (by kernel_rfl) (by kernel_rfl) h
abbrev acZ (b:List AV) (c:Int) (R:AV->Prop):Prop :=∃a,pI 164 [.sl b,nI c] (nI a) /\R (nB (decide (a>=0)))
theorem Q1 {a0 a1 R} (h:acZ a0 a1 R):Pure Tryz.prog 113 [.sl a0,nI a1] R:=
 cZ [] Tryz.func113 (by exact rfl) (by kernel_rfl) (by kernel_rfl) h
abbrev sA:Type:=(Unit×Unit×List AV×Int×Int×Unit×Unit)×((Unit×Unit)×List AV×Unit)
abbrev B4 (d p:Int) (k:List AV) (m:Nat) (n:List AV) (t:sA->Prop) (q:List AV):Prop :=ah (decide (d<p)) (0<=d /\d<List.length k /\∃e f g h,List.getD k (Int.toNat d) .top=.agg [.sl e,nI f,nI g,.sl h] /\pI 144 [.agg [.sl e,nI f,nI g,.sl h]] (.aY 178 [.aS (.agg [.sl e,nI f,nI g,.sl h]) 0]) /\m=List.length n /\nn ((Unit×Unit)×List AV×(List AV×Int×Int×List AV×Unit)×Unit) ((Int×Int×Unit)×(List AV×Int×Int×List AV×Unit)×Unit) (((),()),n,(e,f,g,h,()),()) (fun Ls=>uQ Tryz.prog 178 [.aS (.agg [.sl e,nI f,nI g,.sl h]) 0] [.v (.a [.i .i64,.i .i64]),.v (.a [.l,.i .i64,.i .i64,.l])] Ls) (fun c b r=>ah (c.2.1.2.1==2) (List.length b.2.1=List.length b.2.1 /\bd Dk (List.length (b.2.1++[nI c.2.1.2.2.1])) [] [nI c.2.1.2.2.1] /\List.length (b.2.1++[nI c.2.1.2.2.1])=List.length (b.2.1++[nI c.2.1.2.2.1]) /\r (((),()),b.2.1++[nI c.2.1.2.2.1],(b.2.2.1.1,b.2.2.1.2.1,b.2.2.1.2.2.1,b.2.2.1.2.2.2.1,()),())) (List.length b.2.1=List.length b.2.1 /\r (((),()),b.2.1,(b.2.2.1.1,b.2.2.1.2.1,b.2.2.1.2.2.1,b.2.2.1.2.2.2.1,()),()))) (fun o=>List.length o.2.1=List.length o.2.1 /\t (((),(),k,p,IntKind.wrap .i64 (d+1),(),()),(((),()),o.2.1,())))) (aV 161 [.own 0 m] [.aQ 3 1 n] fun u w=>∃s,(u=.aL []/\w=[.aQ 3 1 s]) /\aV 162 [.own 0 m] [.aQ 3 1 s] fun x y=>∃j,(x=.own 1 (List.length j)/\y=[.dead,.aQ 3 1 j]) /\3=3/\1=1/\j=q/\List.length j=List.length q)
abbrev B5 (b:sA) (c:List AV):Prop :=av _ b fun a d=>B4 a.1.2.2.2.2.1 a.1.2.2.2.1 a.1.2.2.1 (List.length a.2.2.1) a.2.2.1 d c
def LS (a:List AV) (els:List AV):Prop :=0=List.length ([]:List AV) /\B5 (((),(),a,((List.length a:Nat):Int),0,(),()),(((),()),[],())) els
theorem B6 {a0 els} (h:LS a0 els):MY Tryz.prog 110 [.sl a0] 3 1 els:=
 mkq [] [(144,.aY 178),(161,.fK [(.t [],[.aQ 3 1])]),(162,.fK [(.v (.c (.o 1)),[.dead,.aQ 3 1])])] [] [] true none [] [{ key:=3,live:=lv [3,7,8,9,10,17],kl:=[(0,0,3)],mb:=true },{ key:=7,live:=lv [],prm:=[.v (.a [.i .i64,.i .i64]),.v (.a [.l,.i .i64,.i .i64,.l])] }] Tryz.func110 (by exact rfl) (by kernel_rfl) (by kernel_rfl) h
abbrev agT (n:Int) (o p b:List AV) (a c:Int) (d f:List AV) (g h:Int) (i q:List AV) (R:AV->Prop):Prop :=∃e,pI 55 [.agg [nI n,.sl o,.sl p],.agg [.sl b,nI a,nI c,.sl d,.sl f,nI g,nI h,.sl i,.sl q]] (nI e) /\ah (e != 0) (R (nI e)) (ah (a != 1) (R (nI 6)) (∃j,pI 109 [.agg [.sl b,nI a,nI c,.sl d]] (nB j) /\ah (!j) (R (nI 6)) (∃k,pI 110 [.sl [.agg [.sl b,nI a,nI c,.sl d]]] (.sl k) /\∃l,pI 110 [.sl [.agg [.sl f,nI g,nI h,.sl i]]] (.sl l) /\∃m,pI 111 [.sl l,.aY 112 [.aS (.sl k) 0]] (nB m) /\ah m (R (nI 7)) (R (nI 0)))))
theorem VI {al ao az bx bz bJ bX fY fZ ga gb gd R} (h:agT al ao az bx bz bJ bX fY fZ ga gb gd R):Pure Tryz.prog 60 [.agg [nI al,.sl ao,.sl az],.agg [.sl bx,nI bz,nI bJ,.sl bX,.sl fY,nI fZ,nI ga,.sl gb,.sl gd]] R:=
 xG [] [(111,.Xa (.v (.c (.b))))] [] [] [] Tryz.func60 (by exact rfl) (by kernel_rfl) (by kernel_rfl) h
end Go.Proofs.YtdcikhleahfknaaGreatDoor
