/- Lemmas. -/
import Derived.Test.YthnnplohnceogaaGreatDoorQ11
namespace Go.Proofs.YthnnplohnceogaaGreatDoor
open Go
open Go.Proofs.Tryz
open _root_.List renaming length->ab,getD->ae
open _root_.Int renaming toNat->af
open Go.IntKind renaming wrap->ag
open Go.Proofs.Tryz renaming prog->aj
set_option linter.unusedSimpArgs false
set_option linter.unusedVariables false
set_option maxRecDepth 100000
abbrev vc7(j k l m n o p q r s t u v w x y z B:av)(R:AV->Prop):=∃a,pI 24 [.sl j,.sl s] (nB a)/\aA a (∃b,pI 25 [.sl k,.sl t,.bz 22 []] (nB b)/\aA b (∃c,pI 24 [.sl l,.sl u] (nB c)/\aA c (∃d,pI 26 [.sl m,.sl v,.bz 23 []] (nB d)/\aA d (∃e,pI 27 [.sl n,.sl w,.bz 28 []] (nB e)/\aA e (∃f,pI 27 [.sl o,.sl x,.bz 28 []] (nB f)/\aA f (∃g,pI 29 [.sl p,.sl y] (nB g)/\aA g (∃h,pI 30 [.sl q,.sl z] (nB h)/\aA h (∃i,pI 31 [.sl r,.sl B,.bz 32 []] (nB i)/\R (nB i)) (R (nB false))) (R (nB false))) (R (nB false))) (R (nB false))) (R (nB false))) (R (nB false))) (R (nB false))) (R (nB false))
theorem afk{aQ aR bm bS ig km kn ko kp bT bU cA cL kq AN AO AP AQ R}(h:vc7 aQ aR bm bS ig km kn ko kp bT bU cA cL kq AN AO AP AQ R):Pure aj 7 [.agg [.sl aQ,.sl aR,.sl bm,.sl bS,.sl ig,.sl km,.sl kn,.sl ko,.sl kp],.agg [.sl bT,.sl bU,.sl cA,.sl cL,.sl kq,.sl AN,.sl AO,.sl AP,.sl AQ]] R:=gm [] func7 h
abbrev Pk:Type:=(av×Unit×av×Int×Int×Unit)×(Unit)
abbrev Pl(a d:Int)(b c:av)(R:AV->Prop)(l:Pk->Prop):=aA (decide (a<d)) (0<=a/\a<ab b/\∃e f g,ae b (af a) .top=.agg [nS e,.sl f,nI g]/\0<=a/\a<ab c/\∃h i j,ae c (af a) .top=.agg [nS h,.sl i,nI j]/\∃k,pI 22 [.agg [nS e,.sl f,nI g],.agg [nS h,.sl i,nI j]] (nB k)/\aA (!k) (R (nB false)) (l ((c,(),b,d,ag .i64 (a+1),()),()))) (R (nB true))
abbrev abS(b:Pk)(R:AV->Prop):=aI _ b λa c=>Pl a.1.2.2.2.2.1 a.1.2.2.2.1 a.1.2.2.1 a.1.1 R c
abbrev aoB(a b:av)(R:AV->Prop):=aA (((ab a:Nat):Int) != ((ab b:Nat):Int)) (R (nB false)) (abS ((b,(),a,((ab a:Nat):Int),0,()),()) R)
theorem abT{a0 a1 R}(h:aoB a0 a1 R):Pure aj 25 [.sl a0,.sl a1,.bz 22 []] R:=gm [la 4 [1,2,15,16,17]] func25 h
abbrev Pm:Type:=(av×Unit×av×Int×Int×Unit)×(Unit)
abbrev Pn(a d:Int)(b c:av)(R:AV->Prop)(x:Pm->Prop):=aA (decide (a<d)) (0<=a/\a<ab b/\∃e f g h i j k l m,ae b (af a) .top=.agg [nS e,.sl f,nI g,nI h,.sl i,.sl j,nI k,nI l,.sl m]/\0<=a/\a<ab c/\∃n o p q r s t u v,ae c (af a) .top=.agg [nS n,.sl o,nI p,nI q,.sl r,.sl s,nI t,nI u,.sl v]/\∃w,pI 28 [.agg [nS e,.sl f,nI g,nI h,.sl i,.sl j,nI k,nI l,.sl m],.agg [nS n,.sl o,nI p,nI q,.sl r,.sl s,nI t,nI u,.sl v]] (nB w)/\aA (!w) (R (nB false)) (x ((c,(),b,d,ag .i64 (a+1),()),()))) (R (nB true))
abbrev abU(b:Pm)(R:AV->Prop):=aI _ b λa c=>Pn a.1.2.2.2.2.1 a.1.2.2.2.1 a.1.2.2.1 a.1.1 R c
abbrev aoC(a b:av)(R:AV->Prop):=aA (((ab a:Nat):Int) != ((ab b:Nat):Int)) (R (nB false)) (abU ((b,(),a,((ab a:Nat):Int),0,()),()) R)
theorem abV{a0 a1 R}(h:aoC a0 a1 R):Pure aj 27 [.sl a0,.sl a1,.bz 28 []] R:=gm [la 4 [1,2,15,16,17]] func27 h
abbrev Po:Type:=(av×av×Int×Int×Unit)×(Unit)
abbrev Pp(a d:Int)(b c:av)(R:AV->Prop)(i:Po->Prop):=aA (decide (a<d)) (0<=a/\a<ab b/\∃e f,ae b (af a) .top=.agg [nI e,nI f]/\0<=a/\a<ab c/\∃g h,ae c (af a) .top=.agg [nI g,nI h]/\aA (!(e==g&&f==h)) (R (nB false)) (i ((b,c,d,ag .i64 (a+1),()),()))) (R (nB true))
abbrev abW(b:Po)(R:AV->Prop):=aI _ b λa c=>Pp a.1.2.2.2.1 a.1.2.2.1 a.1.1 a.1.2.1 R c
abbrev aoD(a b:av)(R:AV->Prop):=aA (((ab a:Nat):Int) != ((ab b:Nat):Int)) (R (nB false)) (abW ((a,b,((ab a:Nat):Int),0,()),()) R)
theorem abX{a0 a1 R}(h:aoD a0 a1 R):Pure aj 29 [.sl a0,.sl a1] R:=gm [la 4 [0,1,12,13]] func29 h
abbrev Pq:Type:=(av×av×Int×Int×Unit)×(Unit)
abbrev Pr(a d:Int)(b c:av)(R:AV->Prop)(i:Pq->Prop):=aA (decide (a<d)) (0<=a/\a<ab b/\∃e f,ae b (af a) .top=.agg [nI e,nI f]/\0<=a/\a<ab c/\∃g h,ae c (af a) .top=.agg [nI g,nI h]/\aA (!(e==g&&f==h)) (R (nB false)) (i ((b,c,d,ag .i64 (a+1),()),()))) (R (nB true))
abbrev abY(b:Pq)(R:AV->Prop):=aI _ b λa c=>Pr a.1.2.2.2.1 a.1.2.2.1 a.1.1 a.1.2.1 R c
abbrev aoE(a b:av)(R:AV->Prop):=aA (((ab a:Nat):Int) != ((ab b:Nat):Int)) (R (nB false)) (abY ((a,b,((ab a:Nat):Int),0,()),()) R)
theorem abZ{a0 a1 R}(h:aoE a0 a1 R):Pure aj 30 [.sl a0,.sl a1] R:=gm [la 4 [0,1,12,13]] func30 h
abbrev Ps:Type:=(av×Unit×av×Int×Int×Unit)×(Unit)
abbrev Pt(a d:Int)(b c:av)(R:AV->Prop)(C:Ps->Prop):=aA (decide (a<d)) (0<=a/\a<ab b/\∃e f g h i j k l m n o,ae b (af a) .top=.agg [nI e,nI f,.sl g,nI h,nI i,.sl j,.sl k,nI l,nI m,.sl n,nI o]/\0<=a/\a<ab c/\∃p q r s t u v w x y z,ae c (af a) .top=.agg [nI p,nI q,.sl r,nI s,nI t,.sl u,.sl v,nI w,nI x,.sl y,nI z]/\∃B,pI 32 [.agg [nI e,nI f,.sl g,nI h,nI i,.sl j,.sl k,nI l,nI m,.sl n,nI o],.agg [nI p,nI q,.sl r,nI s,nI t,.sl u,.sl v,nI w,nI x,.sl y,nI z]] (nB B)/\aA (!B) (R (nB false)) (C ((c,(),b,d,ag .i64 (a+1),()),()))) (R (nB true))
abbrev ab0(b:Ps)(R:AV->Prop):=aI _ b λa c=>Pt a.1.2.2.2.2.1 a.1.2.2.2.1 a.1.2.2.1 a.1.1 R c
abbrev aoF(a b:av)(R:AV->Prop):=aA (((ab a:Nat):Int) != ((ab b:Nat):Int)) (R (nB false)) (ab0 ((b,(),a,((ab a:Nat):Int),0,()),()) R)
theorem ab1{a0 a1 R}(h:aoF a0 a1 R):Pure aj 31 [.sl a0,.sl a1,.bz 32 []] R:=gm [la 4 [1,2,15,16,17]] func31 h
end Go.Proofs.YthnnplohnceogaaGreatDoor
