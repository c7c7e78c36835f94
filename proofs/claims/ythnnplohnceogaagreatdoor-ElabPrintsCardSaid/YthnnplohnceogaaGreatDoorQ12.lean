/- Lemmas. -/
import Derived.Test.YthnnplohnceogaaGreatDoorQ11
namespace Go.Proofs.YthnnplohnceogaaGreatDoor
open Go
open Go.Proofs.Tryz
open _root_.List renaming length->ab,getD->ae
open _root_.Int renaming toNat->af
open Go.IntKind renaming wrap->ag
open Go.Proofs.Tryz renaming prog->aj
set_option linter.unusedSimpArgs false
set_option linter.unusedVariables false
set_option maxRecDepth 100000
abbrev vc7(j k l m n o p q r s t u v w x y z B:av)(R:AV->Prop):=∃a,pI 24 [.sl j,.sl s] (nB a)/\aA a (∃b,pI 25 [.sl k,.sl t,.bw 22 []] (nB b)/\aA b (∃c,pI 24 [.sl l,.sl u] (nB c)/\aA c (∃d,pI 26 [.sl m,.sl v,.bw 23 []] (nB d)/\aA d (∃e,pI 27 [.sl n,.sl w,.bw 28 []] (nB e)/\aA e (∃f,pI 27 [.sl o,.sl x,.bw 28 []] (nB f)/\aA f (∃g,pI 29 [.sl p,.sl y] (nB g)/\aA g (∃h,pI 30 [.sl q,.sl z] (nB h)/\aA h (∃i,pI 31 [.sl r,.sl B,.bw 32 []] (nB i)/\R (nB i)) (R (nB false))) (R (nB false))) (R (nB false))) (R (nB false))) (R (nB false))) (R (nB false))) (R (nB false))) (R (nB false))
theorem afr{aS aT bl bQ ij kn ko kp kq bR bS cA cL kr AR AU AW AX R}(h:vc7 aS aT bl bQ ij kn ko kp kq bR bS cA cL kr AR AU AW AX R):Pure aj 7 [.agg [.sl aS,.sl aT,.sl bl,.sl bQ,.sl ij,.sl kn,.sl ko,.sl kp,.sl kq],.agg [.sl bR,.sl bS,.sl cA,.sl cL,.sl kr,.sl AR,.sl AU,.sl AW,.sl AX]] R:=gq [] func7 h
abbrev Pp:Type:=(av×Unit×av×Int×Int×Unit)×(Unit)
abbrev Pq(a d:Int)(b c:av)(R:AV->Prop)(l:Pp->Prop):=aA (decide (a<d)) (0<=a/\a<ab b/\∃e f g,ae b (af a) .top=.agg [nS e,.sl f,nI g]/\0<=a/\a<ab c/\∃h i j,ae c (af a) .top=.agg [nS h,.sl i,nI j]/\∃k,pI 22 [.agg [nS e,.sl f,nI g],.agg [nS h,.sl i,nI j]] (nB k)/\aA (!k) (R (nB false)) (l ((c,(),b,d,ag .i64 (a+1),()),()))) (R (nB true))
abbrev ab2(b:Pp)(R:AV->Prop):=aI _ b λa c=>Pq a.1.2.2.2.2.1 a.1.2.2.2.1 a.1.2.2.1 a.1.1 R c
abbrev aoE(a b:av)(R:AV->Prop):=aA (((ab a:Nat):Int) != ((ab b:Nat):Int)) (R (nB false)) (ab2 ((b,(),a,((ab a:Nat):Int),0,()),()) R)
theorem ab3{a0 a1 R}(h:aoE a0 a1 R):Pure aj 25 [.sl a0,.sl a1,.bw 22 []] R:=gq [la 4 [1,2,15,16,17]] func25 h
abbrev Pr:Type:=(av×Unit×av×Int×Int×Unit)×(Unit)
abbrev Ps(a d:Int)(b c:av)(R:AV->Prop)(x:Pr->Prop):=aA (decide (a<d)) (0<=a/\a<ab b/\∃e f g h i j k l m,ae b (af a) .top=.agg [nS e,.sl f,nI g,nI h,.sl i,.sl j,nI k,nI l,.sl m]/\0<=a/\a<ab c/\∃n o p q r s t u v,ae c (af a) .top=.agg [nS n,.sl o,nI p,nI q,.sl r,.sl s,nI t,nI u,.sl v]/\∃w,pI 28 [.agg [nS e,.sl f,nI g,nI h,.sl i,.sl j,nI k,nI l,.sl m],.agg [nS n,.sl o,nI p,nI q,.sl r,.sl s,nI t,nI u,.sl v]] (nB w)/\aA (!w) (R (nB false)) (x ((c,(),b,d,ag .i64 (a+1),()),()))) (R (nB true))
abbrev ab4(b:Pr)(R:AV->Prop):=aI _ b λa c=>Ps a.1.2.2.2.2.1 a.1.2.2.2.1 a.1.2.2.1 a.1.1 R c
abbrev aoF(a b:av)(R:AV->Prop):=aA (((ab a:Nat):Int) != ((ab b:Nat):Int)) (R (nB false)) (ab4 ((b,(),a,((ab a:Nat):Int),0,()),()) R)
theorem ab5{a0 a1 R}(h:aoF a0 a1 R):Pure aj 27 [.sl a0,.sl a1,.bw 28 []] R:=gq [la 4 [1,2,15,16,17]] func27 h
abbrev Pt:Type:=(av×av×Int×Int×Unit)×(Unit)
abbrev Pu(a d:Int)(b c:av)(R:AV->Prop)(i:Pt->Prop):=aA (decide (a<d)) (0<=a/\a<ab b/\∃e f,ae b (af a) .top=.agg [nI e,nI f]/\0<=a/\a<ab c/\∃g h,ae c (af a) .top=.agg [nI g,nI h]/\aA (!(e==g&&f==h)) (R (nB false)) (i ((b,c,d,ag .i64 (a+1),()),()))) (R (nB true))
abbrev ab6(b:Pt)(R:AV->Prop):=aI _ b λa c=>Pu a.1.2.2.2.1 a.1.2.2.1 a.1.1 a.1.2.1 R c
abbrev aoG(a b:av)(R:AV->Prop):=aA (((ab a:Nat):Int) != ((ab b:Nat):Int)) (R (nB false)) (ab6 ((a,b,((ab a:Nat):Int),0,()),()) R)
theorem ab7{a0 a1 R}(h:aoG a0 a1 R):Pure aj 29 [.sl a0,.sl a1] R:=gq [la 4 [0,1,12,13]] func29 h
abbrev Pv:Type:=(av×av×Int×Int×Unit)×(Unit)
abbrev Pw(a d:Int)(b c:av)(R:AV->Prop)(i:Pv->Prop):=aA (decide (a<d)) (0<=a/\a<ab b/\∃e f,ae b (af a) .top=.agg [nI e,nI f]/\0<=a/\a<ab c/\∃g h,ae c (af a) .top=.agg [nI g,nI h]/\aA (!(e==g&&f==h)) (R (nB false)) (i ((b,c,d,ag .i64 (a+1),()),()))) (R (nB true))
abbrev ab8(b:Pv)(R:AV->Prop):=aI _ b λa c=>Pw a.1.2.2.2.1 a.1.2.2.1 a.1.1 a.1.2.1 R c
abbrev aoH(a b:av)(R:AV->Prop):=aA (((ab a:Nat):Int) != ((ab b:Nat):Int)) (R (nB false)) (ab8 ((a,b,((ab a:Nat):Int),0,()),()) R)
theorem ab9{a0 a1 R}(h:aoH a0 a1 R):Pure aj 30 [.sl a0,.sl a1] R:=gq [la 4 [0,1,12,13]] func30 h
abbrev Px:Type:=(av×Unit×av×Int×Int×Unit)×(Unit)
abbrev Py(a d:Int)(b c:av)(R:AV->Prop)(C:Px->Prop):=aA (decide (a<d)) (0<=a/\a<ab b/\∃e f g h i j k l m n o,ae b (af a) .top=.agg [nI e,nI f,.sl g,nI h,nI i,.sl j,.sl k,nI l,nI m,.sl n,nI o]/\0<=a/\a<ab c/\∃p q r s t u v w x y z,ae c (af a) .top=.agg [nI p,nI q,.sl r,nI s,nI t,.sl u,.sl v,nI w,nI x,.sl y,nI z]/\∃B,pI 32 [.agg [nI e,nI f,.sl g,nI h,nI i,.sl j,.sl k,nI l,nI m,.sl n,nI o],.agg [nI p,nI q,.sl r,nI s,nI t,.sl u,.sl v,nI w,nI x,.sl y,nI z]] (nB B)/\aA (!B) (R (nB false)) (C ((c,(),b,d,ag .i64 (a+1),()),()))) (R (nB true))
abbrev aca(b:Px)(R:AV->Prop):=aI _ b λa c=>Py a.1.2.2.2.2.1 a.1.2.2.2.1 a.1.2.2.1 a.1.1 R c
abbrev aoI(a b:av)(R:AV->Prop):=aA (((ab a:Nat):Int) != ((ab b:Nat):Int)) (R (nB false)) (aca ((b,(),a,((ab a:Nat):Int),0,()),()) R)
theorem acb{a0 a1 R}(h:aoI a0 a1 R):Pure aj 31 [.sl a0,.sl a1,.bw 32 []] R:=gq [la 4 [1,2,15,16,17]] func31 h
end Go.Proofs.YthnnplohnceogaaGreatDoor
