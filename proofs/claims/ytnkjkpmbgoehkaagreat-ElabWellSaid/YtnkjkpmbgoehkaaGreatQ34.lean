/- Lemmas. -/
import Derived.Test.YtnkjkpmbgoehkaaGreatQ33
namespace Go.Proofs.YtnkjkpmbgoehkaaGreat
open Go
open _root_.List renaming length->ab,getD->ae
open _root_.Int renaming toNat->af
open Go.IntKind renaming wrap->ag
open _root_.ByteArray renaming size->ah
open Go.Proofs.Tryz renaming prog->aj
open _root_.Option renaming getD->ak,none->ar,some->au
set_option linter.unusedSimpArgs false
set_option linter.unusedVariables false
set_option maxRecDepth 100000
def af9 (b:av) (a c:Int) (d:av) (R:AV->Prop):Prop :=R (nB (a==2))
theorem SD {aT aU bq cf R} (h:af9 aT aU bq cf R):Pure aj 269 [.agg [.sl aT,nI aU,nI bq,.sl cf]] R:=
 hO [] Tryz.func269 h
def SE (f:(Unit×Unit×av×Int×Int×Unit)×((av×Int×Unit)×(Unit×Int×Unit)×(Unit×Int×Unit)×av×Unit)) (R:AV->Prop):Prop :=aI _ f fun a g=>az (decide (a.1.2.2.2.2.1<a.1.2.2.2.1)) (0<=a.1.2.2.2.2.1 /\a.1.2.2.2.2.1<ab a.1.2.2.1 /\∃(d:av) (e:Int),ae a.1.2.2.1 (af a.1.2.2.2.2.1) .top=.agg [.sl d,nI e] /\∃(b:av) (c:Int),ay aj 105 [.agg [.sl d,nI e]] (.agg [.sl b,nI c]) /\ab a.2.2.2.2.1=ab a.2.2.2.2.1 /\bw sA (ab (a.2.2.2.2.1++[.agg [.sl b,nI c]])) [] [.agg [.sl b,nI c]] /\ab (a.2.2.2.2.1++[.agg [.sl b,nI c]])=ab (a.2.2.2.2.1++[.agg [.sl b,nI c]]) /\g (((),(),a.1.2.2.1,a.1.2.2.2.1,ag .i64 (a.1.2.2.2.2.1+1),()),((a.2.1.1,a.2.1.2.1,()),((),a.2.2.1.2.1,()),((),a.2.2.2.1.2.1,()),a.2.2.2.2.1++[.agg [.sl b,nI c]],()))) (ab a.2.2.2.2.1=ab a.2.2.2.2.1 /\R (.agg [.sl a.2.2.2.2.1,nI a.2.2.2.1.2.1]))
def aga (a:av) (b:Int) (R:AV->Prop):Prop :=0=ab ([]:av) /\SE (((),(),a,((ab a:Nat):Int),0,()),((a,b,()),((),0,()),((),b,()),[],())) R
theorem SF {aT aU R} (h:aga aT aU R):Pure aj 105 [.agg [.sl aT,nI aU]] R:=
 hO [{ key:=3,live:=lv [2,3,10,11,12],mq:=[(2,0,66)] }] Tryz.func105 h
def akS (d:av) (e:Int) (f:av) (R:AV->Prop):Prop :=∃(a:av),ay aj 57 [.sl [.sl f,.sl d]] (.sl a) /\∃(b:av) (c:Int),ay aj 105 [.agg [.sl a,nI e]] (.agg [.sl b,nI c]) /\R (.agg [.sl b,nI c])
theorem Yk {aT aU a1 R} (h:akS aT aU a1 R):Pure aj 55 [.agg [.sl aT,nI aU],.sl a1] R:=
 hO [] Tryz.func55 h
def agb (a:av) (R:AV->Prop):Prop :=∀b:Bool,(a≠[]->b=!true)->az b (R (.sl [])) (((a:av)=[]->([]:av)=[]) /\bw td3 (ab (([]:av)++a)) ([]:av) a /\ab (([]:av)++a)=ab (([]:av)++a) /\R (.sl (([]:av)++a)))
theorem SG {a0 R} (h:agb a0 R):Pure aj 271 [.sl a0] R:=
 hO [] Tryz.func271 h
def agc (a:av) (R:AV->List aw->Prop):Prop :=(0<=(0:Int)/\(0:Int)<=((ab a:Nat):Int)/\((ab a:Nat):Int)=((ab a:Nat):Int)/\((ab a:Nat):Int)<=ab a/\(∀y:AV,y∈a->ab (AV.cells y)=1)) /\R (.clip (List.drop (af 0) (List.take (af ((ab a:Nat):Int)) a))) []
theorem SH {a0 R} (h:agc a0 R):aY aj 272 [.sl a0] [] R:=
 rR 0 [] Tryz.func272 h
def Yl (g:(av×Unit×av×Int×Int×Unit)×(Unit)) (R:AV->Prop):Prop :=aI _ g fun a h=>az (decide (a.1.2.2.2.2.1<a.1.2.2.2.1)) (0<=a.1.2.2.2.2.1 /\a.1.2.2.2.2.1<ab a.1.2.2.1 /\∃(b:av) (c:Int),ae a.1.2.2.1 (af a.1.2.2.2.2.1) .top=.agg [.sl b,nI c] /\0<=a.1.2.2.2.2.1 /\a.1.2.2.2.2.1<ab a.1.1 /\∃(d:av) (e:Int),ae a.1.1 (af a.1.2.2.2.2.1) .top=.agg [.sl d,nI e] /\∃(f:Bool),ay aj 45 [.agg [.sl b,nI c],.agg [.sl d,nI e]] (nB f) /\az (!f) (R (nB false)) (h ((a.1.1,(),a.1.2.2.1,a.1.2.2.2.1,ag .i64 (a.1.2.2.2.2.1+1),()),()))) (R (nB true))
def akT (a b:av) (R:AV->Prop):Prop :=az (((ab a:Nat):Int) != ((ab b:Nat):Int)) (R (nB false)) (Yl ((b,(),a,((ab a:Nat):Int),0,()),()) R)
theorem Ym {a0 a1 R} (h:akT a0 a1 R):Pure aj 48 [.sl a0,.sl a1,.bz 45 []] R:=
 hO [la 4 [1,2,15,16,17]] Tryz.func48 h
def akU (b:av) (c:Int) (d:av) (e:Int) (R:AV->Prop):Prop :=az (c==e) (∃(a:Bool),ay aj 48 [.sl b,.sl d,.bz 45 []] (nB a) /\R (nB a)) (R (nB false))
theorem Yn {aT aU cS cU R} (h:akU aT aU cS cU R):Pure aj 45 [.agg [.sl aT,nI aU],.agg [.sl cS,nI cU]] R:=
 hO [] Tryz.func45 h
def zR (k:(Unit×Unit×Int×Unit×av×Int×Int×Unit)×((av×Int×Int×av×Unit)×(Int×Int×Unit)×(Int×Int×Unit)×Unit)) (R:AV->Prop):Prop :=aI _ k fun a l=>az (decide (a.1.2.2.2.2.2.2.1<a.1.2.2.2.2.2.1)) (0<=a.1.2.2.2.2.2.2.1 /\a.1.2.2.2.2.2.2.1<ab a.1.2.2.2.2.1 /\∃(b:av) (c d:Int) (e:av),ae a.1.2.2.2.2.1 (af a.1.2.2.2.2.2.2.1) .top=.agg [.sl b,nI c,nI d,.sl e] /\∃(f g:Int) (h:Bool),ay aj 283 [.agg [.sl b,nI c,nI d,.sl e]] (.aK [.agg [nI f,nI g],nB h]) /\az (!h) (R (.aK [.agg [nI 0,nI 0],nB false])) (az (!(f==0&&g==(ag .i64 ((ag .i64 (a.1.2.2.1-1))-a.1.2.2.2.2.2.2.1)))) (R (.aK [.agg [nI 0,nI 0],nB false])) (0<=a.1.2.2.2.2.2.2.1 /\a.1.2.2.2.2.2.2.1<ab a.2.1.1 /\∃(i:av) (m:Int),ae a.2.1.1 (af a.1.2.2.2.2.2.2.1) .top=.agg [.sl i,nI m] /\∃(j:Bool),ay aj 48 [.sl b,.sl i,.bz 45 []] (nB j) /\az (!j) (R (.aK [.agg [nI 0,nI 0],nB false])) (l (((),(),a.1.2.2.1,(),a.1.2.2.2.2.1,a.1.2.2.2.2.2.1,ag .i64 (a.1.2.2.2.2.2.2.1+1),()),((a.2.1.1,a.2.1.2.1,a.2.1.2.2.1,a.2.1.2.2.2.1,()),(a.2.2.1.1,a.2.2.1.2.1,()),(a.2.2.2.1.1,a.2.2.2.1.2.1,()),())))))) (az (a.2.2.2.1.1==0) (R (.aK [.agg [nI a.2.2.2.1.1,nI (ag .i64 (a.2.2.2.1.2.1-a.1.2.2.1))],nB true])) (R (.aK [.agg [nI a.2.2.2.1.1,nI a.2.2.2.1.2.1],nB true])))
def agd (b:av) (c d:Int) (a:av) (R:AV->Prop):Prop :=az (((ab a:Nat):Int) != ((ab b:Nat):Int)) (R (.aK [.agg [nI 0,nI 0],nB false])) (az (c==0) (az (decide (d<((ab b:Nat):Int))) (R (.aK [.agg [nI 0,nI 0],nB false])) (zR (((),(),((ab b:Nat):Int),(),a,((ab a:Nat):Int),0,()),((b,c,d,a,()),(0,0,()),(c,d,()),())) R)) (zR (((),(),((ab b:Nat):Int),(),a,((ab a:Nat):Int),0,()),((b,c,d,a,()),(0,0,()),(c,d,()),())) R))
theorem SI {aT aU bq cf R} (h:agd aT aU bq cf R):Pure aj 283 [.agg [.sl aT,nI aU,nI bq,.sl cf]] R:=
 hO [la 6 [1,2,4,5,33,34,35]] Tryz.func283 h
def G4 (i:(Int×Unit×Unit×av×Int×Int×Unit)×((av×Int×Int×av×Unit)×(List (Int×Value))×av×Unit)) (R:AV->Prop):Prop :=aI _ i fun a j=>az (decide (a.1.2.2.2.2.2.1<a.1.2.2.2.2.1)) (0<=a.1.2.2.2.2.2.1 /\a.1.2.2.2.2.2.1<ab a.1.2.2.2.1 /\∃(c:av) (d e:Int) (f:av),ae a.1.2.2.2.1 (af a.1.2.2.2.2.2.1) .top=.agg [.sl c,nI d,nI e,.sl f] /\∃(g b:Int) (h:Bool),ay aj 283 [.agg [.sl c,nI d,nI e,.sl f]] (.aK [.agg [nI g,nI b],nB h]) /\az (!h) (R (.aK [.sl [],nI 6])) (az (g != 0) (R (.aK [.sl [],nI 6])) (az (decide (b>=a.1.1)) (R (.aK [.sl [],nI 6])) (ak (aL a.2.2.1 b) (.bool false)=.bool (qN (ak (aL a.2.2.1 b) (.bool false))) /\az (qN (ak (aL a.2.2.1 b) (.bool false))) (R (.aK [.sl [],nI 6])) (ab a.2.2.2.1=ab a.2.2.2.1 /\bw td3 (ab (a.2.2.2.1++[nI b])) [] [nI b] /\ab (a.2.2.2.1++[nI b])=ab (a.2.2.2.1++[nI b]) /\j ((a.1.1,(),(),a.1.2.2.2.1,a.1.2.2.2.2.1,ag .i64 (a.1.2.2.2.2.2.1+1),()),((a.2.1.1,a.2.1.2.1,a.2.1.2.2.1,a.2.1.2.2.2.1,()),cH a.2.2.1 b (.bool true),a.2.2.2.1++[nI b],()))))))) (ab a.2.2.2.1=ab a.2.2.2.1 /\R (.aK [.sl a.2.2.2.1,nI 0]))
def age (b:av) (c d:Int) (a:av) (e:Int) (R:AV->Prop):Prop :=∃(f:Bool),ay aj 269 [.agg [.sl b,nI c,nI d,.sl a]] (nB f) /\az (!f) (R (.aK [.sl [],nI 1])) (az (decide (e<0)) (R (.aK [.sl [],nI 1])) (0=ab ([]:av) /\G4 ((e,(),(),a,((ab a:Nat):Int),0,()),((b,c,d,a,()),[],[],())) R))
theorem SJ {aT aU bq cf a1 R} (h:age aT aU bq cf a1 R):Pure aj 270 [.agg [.sl aT,nI aU,nI bq,.sl cf],nI a1] R:=
 hO [la 6 [1,6,7,21,22,23] [(7,3)]] Tryz.func270 h
def G5 (k:(Unit×av×av×av×Int×Int×Unit)×(av×(av×Int×Int×av×Unit)×Unit)) (R:AV->List aw->Prop):Prop :=aI _ k fun a l=>az (decide (a.1.2.2.2.2.2.1<a.1.2.2.2.2.1)) (0<=a.1.2.2.2.2.2.1 /\a.1.2.2.2.2.2.1<ab a.1.2.2.2.1 /\∃(f:av) (g h:Int) (i:av),ae a.1.2.2.2.1 (af a.1.2.2.2.2.2.1) .top=.agg [.sl f,nI g,nI h,.sl i] /\∃(b:av),ay aj 272 [.sl a.1.2.2.1] (.clip b) /\(([nI a.1.2.2.2.2.2.1]:av)=[]->(b:av)=[]) /\bw td3 (ab (b++[nI a.1.2.2.2.2.2.1])) b [nI a.1.2.2.2.2.2.1] /\ab (b++[nI a.1.2.2.2.2.2.1])=ab (b++[nI a.1.2.2.2.2.2.1]) /\∃(S58:AV->List aw->Prop),aY aj 256 [.own 0 (ab a.2.1),.agg [.sl f,nI g,nI h,.sl i],.sl a.1.2.1,.sl (b++[nI a.1.2.2.2.2.2.1])] [.row 416 4 a.2.1] S58 /\∀(d:AV) (e:List aw),S58 d e->(∃(c:av),(d=.aK [.own 0 (ab c),nI 0]/\e=[.row 416 4 c]) /\ab c=ab c /\l (((),a.1.2.1,a.1.2.2.1,a.1.2.2.2.1,a.1.2.2.2.2.1,ag .i64 (a.1.2.2.2.2.2.1+1),()),(c,(a.2.2.1.1,a.2.2.1.2.1,a.2.2.1.2.2.1,a.2.2.1.2.2.2.1,()),())))\/∃(j:av),(d=.aK [.ax (.slice ar 0 0),nI 6]/\e=[.row 416 4 j]) /\R (.aK [.ax (.slice ar 0 0),nI 6]) [.row 416 4 j]) (R (.aK [.own 0 (ab a.2.1),nI 0]) [.row 416 4 a.2.1])
def agh (us f:av) (h a:Int) (b l j:av) (R:AV->List aw->Prop):Prop :=∃(g:av),ay aj 57 [.sl [.sl l,.sl f]] (.sl g) /\∃(k:Bool),ay aj 269 [.agg [.sl f,nI h,nI a,.sl b]] (nB k) /\az k (∃(c:av) (i:Int),ay aj 270 [.agg [.sl f,nI h,nI a,.sl b],nI ((ab g:Nat):Int)] (.aK [.sl c,nI i]) /\az (i != 0) (R (.aK [.ax (.slice ar 0 0),nI i]) [.row 416 4 us]) (∃(d:av) (m:Int),ay aj 55 [.agg [.sl [],nI 0],.sl g] (.agg [.sl d,nI m]) /\∃(e:av),ay aj 271 [.sl j] (.sl e) /\ab us=ab us /\bw aa5 (ab (us++[.agg [nI a,.sl c,.sl d,.sl e]])) [] [.agg [nI a,.sl c,.sl d,.sl e]] /\R (.aK [.own 0 (ab (us++[.agg [nI a,.sl c,.sl d,.sl e]])),nI 0]) [.row 416 4 (us++[.agg [nI a,.sl c,.sl d,.sl e]])])) (ab us=ab us /\G5 (((),g,j,b,((ab b:Nat):Int),0,()),(us,(f,h,a,b,()),())) R)
theorem SK {us cS cU dU ej a2 a3 R} (h:agh us cS cU dU ej a2 a3 R):aY aj 256 [.own 0 (ab us),.agg [.sl cS,nI cU,nI dU,.sl ej],.sl a2,.sl a3] [.row 416 4 us] R:=
 fq [(11,[ar,ar,ar,ar,ar,ar,ar,au [],ar,ar,ar,ar,ar,ar],[ar,au [],ar,ar,ar,ar,ar,ar,ar,ar,ar,ar,ar,ar])] [(256,.heap 1 [(.t [.c (.o 0),.c (.k (.ax (.int .i64 (0))))],[.row 416 4]),(.t [.c (.k (.ax (.slice ar 0 0))),.c (.k (.ax (.int .i64 (6))))],[.row 416 4])])] [(11,[256])] [] 1 [la 8 [0,2,3,47,48,49]] Tryz.func256 h
def agi (d:av) (e f:Int) (g:av) (R:AV->Prop):Prop :=∃(S3:AV->Prop),Pure aj 256 [.ax (.slice ar 0 0),.agg [.sl d,nI e,nI f,.sl g],.ax (.slice ar 0 0),.ax (.slice ar 0 0)] S3 /\∀(a:AV),S3 a->∃(b:av) (c:Int),a=.aK [.sl b,nI c] /\R (.aK [.sl b,nI c])
theorem SL {aT aU bq cf R} (h:agi aT aU bq cf R):Pure aj 221 [.agg [.sl aT,nI aU,nI bq,.sl cf]] R:=
 BB [] [(256,.raw [.t [.c (.l),.c (.i .i64)]])] [] [] [] Tryz.func221 h
def agj (b:av) (c d:Int) (e:av) (R:AV->Prop):Prop :=∃(f:av) (a:Int),ay aj 221 [.agg [.sl b,nI c,nI d,.sl e]] (.aK [.sl f,nI a]) /\R (nB (a==0))
theorem SM {aT aU bq cf R} (h:agj aT aU bq cf R):Pure aj 153 [.agg [.sl aT,nI aU,nI bq,.sl cf]] R:=
 hO [] Tryz.func153 h
def uJ (j:(Int×Unit×Unit×Unit×av×Int×Int×Unit)×((av×Int×Int×av×Unit)×(Unit×Int×Int×Unit×Unit)×(av×Int×Int×Unit×Unit)×av×Unit)) (R:AV->Prop):Prop :=aI _ j fun a k=>az (decide (a.1.2.2.2.2.2.2.1<a.1.2.2.2.2.2.1)) (0<=a.1.2.2.2.2.2.2.1 /\a.1.2.2.2.2.2.2.1<ab a.1.2.2.2.2.1 /\∃(f:av) (g h:Int) (i:av),ae a.1.2.2.2.2.1 (af a.1.2.2.2.2.2.2.1) .top=.agg [.sl f,nI g,nI h,.sl i] /\∃(b:av) (c d:Int) (e:av),ay aj 131 [.agg [.sl f,nI g,nI h,.sl i],nI a.1.1,.bz 132 []] (.agg [.sl b,nI c,nI d,.sl e]) /\ab a.2.2.2.2.1=ab a.2.2.2.2.1 /\bw G2 (ab (a.2.2.2.2.1++[.agg [.sl b,nI c,nI d,.sl e]])) [] [.agg [.sl b,nI c,nI d,.sl e]] /\ab (a.2.2.2.2.1++[.agg [.sl b,nI c,nI d,.sl e]])=ab (a.2.2.2.2.1++[.agg [.sl b,nI c,nI d,.sl e]]) /\k ((a.1.1,(),(),(),a.1.2.2.2.2.1,a.1.2.2.2.2.2.1,ag .i64 (a.1.2.2.2.2.2.2.1+1),()),((a.2.1.1,a.2.1.2.1,a.2.1.2.2.1,a.2.1.2.2.2.1,()),((),a.2.2.1.2.1,a.2.2.1.2.2.1,(),()),(a.2.2.2.1.1,a.2.2.2.1.2.1,a.2.2.2.1.2.2.1,(),()),a.2.2.2.2.1++[.agg [.sl b,nI c,nI d,.sl e]],()))) (ab a.2.2.2.2.1=ab a.2.2.2.2.1 /\R (.agg [.sl a.2.2.2.1.1,nI a.2.2.2.1.2.1,nI a.2.2.2.1.2.2.1,.sl a.2.2.2.2.1]))
def agk (a:av) (c d:Int) (b:av) (e:Int) (R:AV->Prop):Prop :=∃(f:av) (h:Int),ay aj 55 [.agg [.sl [],nI 0],.sl a] (.agg [.sl f,nI h]) /\az (c==0) (az (decide (d>=(ag .i64 (e+((ab a:Nat):Int))))) (∃(g:Int),ay aj 132 [nI (ag .i64 (d-(ag .i64 (e+((ab a:Nat):Int)))))] (nI g) /\0=ab ([]:av) /\uJ ((ag .i64 (e+((ab a:Nat):Int)),(),(),(),b,((ab b:Nat):Int),0,()),((a,c,d,b,()),((),0,0,(),()),(f,c,ag .i64 ((ag .i64 (e+((ab a:Nat):Int)))+g),(),()),[],())) R) (0=ab ([]:av) /\uJ ((ag .i64 (e+((ab a:Nat):Int)),(),(),(),b,((ab b:Nat):Int),0,()),((a,c,d,b,()),((),0,0,(),()),(f,c,d,(),()),[],())) R)) (0=ab ([]:av) /\uJ ((ag .i64 (e+((ab a:Nat):Int)),(),(),(),b,((ab b:Nat):Int),0,()),((a,c,d,b,()),((),0,0,(),()),(f,c,d,(),()),[],())) R)
theorem SN {aT aU bq cf a1 R} (h:agk aT aU bq cf a1 R):Pure aj 131 [.agg [.sl aT,nI aU,nI bq,.sl cf],nI a1,.bz 132 []] R:=
 BB [(2,[ar,ar,ar,ar,ar,ar,ar,ar,au [],ar],[ar,ar,au [],au [],ar,ar,au [],ar,ar,ar])] [] [] [] [{ key:=6,live:=lv [1,2,6,7,46,47,48],mq:=[(2,3,73)] }] Tryz.func131 h
def agl (a:Int) (R:AV->Prop):Prop :=R (nI a)
theorem SP {a0 R} (h:agl a0 R):Pure aj 132 [nI a0] R:=
 hO [] Tryz.func132 h
def akV (e:av) (f g:Int) (h:av) (R:AV->Prop):Prop :=∃(a:av) (b c:Int) (d:av),ay aj 131 [.agg [.sl e,nI f,nI g,.sl h],nI 0,.bz 132 []] (.agg [.sl a,nI b,nI c,.sl d]) /\R (.agg [.sl a,nI b,nI c,.sl d])
theorem Yo {aT aU bq cf R} (h:akV aT aU bq cf R):Pure aj 79 [.agg [.sl aT,nI aU,nI bq,.sl cf]] R:=
 hO [] Tryz.func79 h
def q6 (h:(Unit×Int×Unit×av×Int×Int×Unit)×((Int×Int×Unit)×(av×Int×Unit)×(Unit×Int×Int×Unit×Unit)×(av×Int×Int×Unit×Unit)×av×Unit)) (R:AV->Prop):Prop :=aI _ h fun a i=>az (decide (a.1.2.2.2.2.2.1<a.1.2.2.2.2.1)) (0<=a.1.2.2.2.2.2.1 /\a.1.2.2.2.2.2.1<ab a.1.2.2.2.1 /\∃(f:av) (g:Int),ae a.1.2.2.2.1 (af a.1.2.2.2.2.2.1) .top=.agg [.sl f,nI g] /\∃(b:av) (c d:Int) (e:av),ay aj 233 [.agg [nI 0,nI (ag .i64 ((ag .i64 (a.1.2.1-1))-a.1.2.2.2.2.2.1))],.agg [.sl f,nI g]] (.agg [.sl b,nI c,nI d,.sl e]) /\ab a.2.2.2.2.2.1=ab a.2.2.2.2.2.1 /\bw G2 (ab (a.2.2.2.2.2.1++[.agg [.sl b,nI c,nI d,.sl e]])) [] [.agg [.sl b,nI c,nI d,.sl e]] /\ab (a.2.2.2.2.2.1++[.agg [.sl b,nI c,nI d,.sl e]])=ab (a.2.2.2.2.2.1++[.agg [.sl b,nI c,nI d,.sl e]]) /\i (((),a.1.2.1,(),a.1.2.2.2.1,a.1.2.2.2.2.1,ag .i64 (a.1.2.2.2.2.2.1+1),()),((a.2.1.1,a.2.1.2.1,()),(a.2.2.1.1,a.2.2.1.2.1,()),((),a.2.2.2.1.2.1,a.2.2.2.1.2.2.1,(),()),(a.2.2.2.2.1.1,a.2.2.2.2.1.2.1,a.2.2.2.2.1.2.2.1,(),()),a.2.2.2.2.2.1++[.agg [.sl b,nI c,nI d,.sl e]],()))) (ab a.2.2.2.2.2.1=ab a.2.2.2.2.2.1 /\R (.agg [.sl a.2.2.2.2.1.1,nI a.2.2.2.2.1.2.1,nI a.2.2.2.2.1.2.2.1,.sl a.2.2.2.2.2.1]))
def agm (b c:Int) (a:av) (d:Int) (R:AV->Prop):Prop :=az (b==0) (az (decide (c<0)) (R (.agg [.sl [],nI 0,nI 0,.sl []])) (az (decide (c>1000)) (R (.agg [.sl [],nI 0,nI 0,.sl []])) (∃(e:av) (g:Int),ay aj 55 [.agg [.sl a,nI d],.sl []] (.agg [.sl e,nI g]) /\az (b==0) (0=ab ([]:av) /\q6 (((),((ab a:Nat):Int),(),a,((ab a:Nat):Int),0,()),((b,c,()),(a,d,()),((),0,0,(),()),(e,b,ag .i64 (c+((ab a:Nat):Int)),(),()),[],())) R) (0=ab ([]:av) /\q6 (((),((ab a:Nat):Int),(),a,((ab a:Nat):Int),0,()),((b,c,()),(a,d,()),((),0,0,(),()),(e,b,c,(),()),[],())) R)))) (∃(f:av) (h:Int),ay aj 55 [.agg [.sl a,nI d],.sl []] (.agg [.sl f,nI h]) /\az (b==0) (0=ab ([]:av) /\q6 (((),((ab a:Nat):Int),(),a,((ab a:Nat):Int),0,()),((b,c,()),(a,d,()),((),0,0,(),()),(f,b,ag .i64 (c+((ab a:Nat):Int)),(),()),[],())) R) (0=ab ([]:av) /\q6 (((),((ab a:Nat):Int),(),a,((ab a:Nat):Int),0,()),((b,c,()),(a,d,()),((),0,0,(),()),(f,b,c,(),()),[],())) R))
theorem SQ {aT aU cS cU R} (h:agm aT aU cS cU R):Pure aj 233 [.agg [nI aT,nI aU],.agg [.sl cS,nI cU]] R:=
 BB [(4,[ar,ar,ar,ar,ar,au [],ar],[au [],au [],ar,au [],ar,ar,ar])] [] [] [] [{ key:=8,live:=lv [4,5,6,42,43,44],mq:=[(3,3,73)] }] Tryz.func233 h
abbrev MT:Type:=(av×Int×av×Int×Int×Unit)×(Unit)
abbrev MU:Type:=(Unit×av×Int×Int×Unit)×(av×Unit)
abbrev G6 (c e:Int) (d:av) (f:Nat) (a:av) (g:MU->Prop) (R:AV->Prop):Prop :=az (decide (c<e)) (0<=c /\c<ab d /\∃b,ae d (af c) .top=.sl b /\f=ab a /\bw sA (ab (a++b)) [] b /\(ab (a++b))=ab (a++b) /\g (((),d,e,ag .i64 (c+1),()),((a++b),()))) (f=ab a /\R (.sl a))
abbrev zS (b:MU) (R:AV->Prop):Prop :=aI _ b fun a c=>G6 a.1.2.2.2.1 a.1.2.2.1 a.1.2.1 (ab a.2.1) a.2.1 c R
abbrev MV (a g:Int) (d:av) (e:Int) (j:MT->Prop) (b:av) (R:AV->Prop):Prop :=az (decide (a<g)) (0<=a /\a<ab d /\∃f,ae d (af a) .top=.sl f /\az (decide ((ag .i64 (e+((ab f:Nat):Int)))<0)) (False) (j ((b,ag .i64 (e+((ab f:Nat):Int)),d,g,ag .i64 (a+1),()),()))) (aF 107 [.ax (.slice ar 0 0),nI e] [] fun h i=>(∃c,(h=.own 0 (ab c)/\i=[.row 66 2 c]) /\(ab c)=ab c /\zS (((),b,((ab b:Nat):Int),0,()),(c,())) R)\/(h=.ax (.slice ar 0 0)/\i=[]) /\0=ab ([]:av) /\zS (((),b,((ab b:Nat):Int),0,()),([],())) R)
abbrev Yp (b:MT) (R:AV->Prop):Prop :=aI _ b fun a c=>MV a.1.2.2.2.2.1 a.1.2.2.2.1 a.1.2.2.1 a.1.2.1 c a.1.1 R
abbrev akW (a:av) (R:AV->Prop):Prop :=Yp ((a,0,a,((ab a:Nat):Int),0,()),()) R
theorem Yq {a0 R} (h:akW a0 R):Pure aj 57 [.sl a0] R:=
 BB [] [(107,.fX [(.v (.c (.o 0)),[.row 66 2]),(.v (.c (.k (.ax (.slice ar 0 0)))),[])])] [] [] [la 3 [0,3,9,10,11],la 11 [6,25,26,27] [(6,66)]] Tryz.func57 h
abbrev agn (a:Int) (R:AV->List aw->Prop):Prop :=az (decide (a<0)) (False) (az (decide ((ag .i64 (a-(ag .i64 (0-((ab ([]:av):Nat):Int)))))>0)) ((0<(ag .i64 (a-(ag .i64 (0-((ab ([]:av):Nat):Int)))))/\af (ag .i64 (a-(ag .i64 (0-((ab ([]:av):Nat):Int)))))<=maxLen/\af (ag .i64 (a-(ag .i64 (0-((ab ([]:av):Nat):Int)))))*TD.bytes sA<=140737488355328) /\R (.own 0 0) [.row 66 2 []]) (R (.ax (.slice ar 0 0)) []))
theorem SR {a1 R} (h:agn a1 R):aY aj 107 [.ax (.slice ar 0 0),nI a1] [] R:=
 hkq [] [] [] [] false ar [(5,5)] 1 [] Tryz.func107 h
def zT (h:(Unit×Unit×Int×Unit×Int×Unit)×((Int×Int×Unit)×(av×Int×Unit)×(Unit×Int×Int×Unit×Unit)×(av×Int×Int×Unit×Unit)×av×Unit)) (R:AV->Prop):Prop :=aI _ h fun a i=>az (decide (a.1.2.2.2.2.1<a.1.2.2.1)) (0<=a.1.2.2.2.2.1 /\a.1.2.2.2.2.1<ab a.2.2.1.1 /\∃(f:av) (g:Int),ae a.2.2.1.1 (af a.1.2.2.2.2.1) .top=.agg [.sl f,nI g] /\∃(b:av) (c d:Int) (e:av),ay aj 257 [.agg [nI 0,nI (ag .i64 ((ag .i64 (a.1.2.2.1-1))-a.1.2.2.2.2.1))],.agg [.sl f,nI g]] (.agg [.sl b,nI c,nI d,.sl e]) /\ab a.2.2.2.2.2.1=ab a.2.2.2.2.2.1 /\bw aeW (ab (a.2.2.2.2.2.1++[.agg [.sl b,nI c,nI d,.sl e]])) [] [.agg [.sl b,nI c,nI d,.sl e]] /\ab (a.2.2.2.2.2.1++[.agg [.sl b,nI c,nI d,.sl e]])=ab (a.2.2.2.2.2.1++[.agg [.sl b,nI c,nI d,.sl e]]) /\i (((),(),a.1.2.2.1,(),ag .i64 (a.1.2.2.2.2.1+1),()),((a.2.1.1,a.2.1.2.1,()),(a.2.2.1.1,a.2.2.1.2.1,()),((),a.2.2.2.1.2.1,a.2.2.2.1.2.2.1,(),()),(a.2.2.2.2.1.1,a.2.2.2.2.1.2.1,a.2.2.2.2.1.2.2.1,(),()),a.2.2.2.2.2.1++[.agg [.sl b,nI c,nI d,.sl e]],()))) (ab a.2.2.2.2.2.1=ab a.2.2.2.2.2.1 /\R (.agg [.sl a.2.2.2.2.1.1,nI a.2.2.2.2.1.2.1,nI a.2.2.2.2.1.2.2.1,.sl a.2.2.2.2.2.1]))
def ago (b c:Int) (a:av) (d:Int) (R:AV->Prop):Prop :=az (b==0) (0=ab ([]:av) /\zT (((),(),((ab a:Nat):Int),(),0,()),((b,c,()),(a,d,()),((),0,0,(),()),(a,b,ag .i64 (c+((ab a:Nat):Int)),(),()),[],())) R) (0=ab ([]:av) /\zT (((),(),((ab a:Nat):Int),(),0,()),((b,c,()),(a,d,()),((),0,0,(),()),(a,b,c,(),()),[],())) R)
theorem SS {aT aU cS cU R} (h:ago aT aU cS cU R):Pure aj 257 [.agg [nI aT,nI aU],.agg [.sl cS,nI cU]] R:=
 hO [{ key:=6,live:=lv [3,4,5,6,7],mq:=[(3,3,95)] }] Tryz.func257 h
def akX (c:Int) (d:av) (R:AV->Prop):Prop :=∃(a:av) (b:Int),ay aj 105 [.agg [.sl d,nI c]] (.agg [.sl a,nI b]) /\R (.agg [.sl a,nI b])
theorem MW {a0 a1 R} (h:akX a0 a1 R):Pure aj 37 [nI a0,.sl a1] R:=
 hO [] Tryz.func37 h
def agp (a:ByteArray) (R:AV->Prop):Prop :=az (!(ib a (⟨#[]⟩:ByteArray))) (az (decide (((ah a:Nat):Int)<=30)) ((0<=(0:Int)/\(0:Int)<ah a) /\∃(b:Bool),ay aj 251 [.ax (.int .u8 (dT a (0:Int)))] (nB b) /\az b (∃(c:Int),ay aj 252 [nS a,.bz 253 []] (nI c) /\R (nB (c==((ah a:Nat):Int)))) (R (nB false))) (R (nB false))) (R (nB false))
theorem SU {a0 R} (h:agp a0 R):Pure aj 234 [nS a0] R:=
 hO [] Tryz.func234 h
def agq (a:Int) (R:AV->Prop):Prop :=az (decide (a>=97)) (az (decide (a<=122)) (R (nB true)) (az (decide (a>=65)) (R (nB (decide (a<=90)))) (R (nB false)))) (az (decide (a>=65)) (R (nB (decide (a<=90)))) (R (nB false)))
theorem SV {a0 R} (h:agq a0 R):Pure aj 251 [.ax (.int .u8 a0)] R:=
 hO [] Tryz.func251 h
def agr (a:Int) (R:AV->Prop):Prop :=az (decide (a>=48)) (R (nB (decide (a<=57)))) (R (nB false))
theorem SW {a0 R} (h:agr a0 R):Pure aj 254 [.ax (.int .u8 a0)] R:=
 hO [] Tryz.func254 h
def ags (a:Int) (R:AV->Prop):Prop :=∃(b:Bool),ay aj 251 [.ax (.int .u8 a)] (nB b) /\az b (R (nB true)) (∃(c:Bool),ay aj 254 [.ax (.int .u8 a)] (nB c) /\az c (R (nB true)) (az (a==95) (R (nB true)) (R (nB (a==39)))))
theorem SX {a0 R} (h:ags a0 R):Pure aj 253 [.ax (.int .u8 a0)] R:=
 hO [] Tryz.func253 h
def G7 (c:(ByteArray×Unit×Int×Unit)×(Unit)) (R:AV->Prop):Prop :=aI _ c fun a d=>az (decide (a.1.2.2.1<((ah a.1.1:Nat):Int))) ((0<=a.1.2.2.1/\a.1.2.2.1<ah a.1.1) /\∃(b:Bool),ay aj 253 [.ax (.int .u8 (dT a.1.1 a.1.2.2.1))] (nB b) /\az b (d ((a.1.1,(),ag .i64 (a.1.2.2.1+1),()),())) (R (nI a.1.2.2.1))) (R (nI a.1.2.2.1))
def aa8 (a:ByteArray) (R:AV->Prop):Prop :=G7 ((a,(),0,()),()) R
theorem SY {a0 R} (h:aa8 a0 R):Pure aj 252 [nS a0,.bz 253 []] R:=
 hO [la 2 [0,1,5]] Tryz.func252 h
abbrev yu:Type:=(av×Int×Unit×Unit×Unit)×((List (Int×Value))×((Nat×List Int))×Unit)
abbrev MX:Type:=(av×Int×Unit×Unit×Int×av×Int×Int×Unit)×((List (Int×Value))×((Nat×List Int))×Unit)
abbrev Yr (c h:Int) (f:av) (i:Int) (a:Nat) (k:MX->Prop) (j:av) (g:Int) (d:List (Int×Value)) (e:List Int) (R:AV->Prop) (m:yu->Prop):Prop :=az (decide (c<h)) (0<=c /\c<ab f /\∃l b,ae f (af c) .top=.agg [nI l,nI b] /\az (l != i) (a=a /\k ((j,g,(),(),i,f,h,ag .i64 (c+1),()),(d,(a,e),()))) (az (b==g) (R (nB true)) (ak (aL d b) (.bool false)=.bool (qN (ak (aL d b) (.bool false))) /\az (!(qN (ak (aL d b) (.bool false)))) (a=a /\((ab e+ab ([b]:List Int))<=maxLen/\(ab e+ab ([b]:List Int))*TD.bytes td3<=140737488355328) /\(a+1)=(a+1) /\k ((j,g,(),(),i,f,h,ag .i64 (c+1),()),((cH d b (.bool true)),((a+1),(e++[b])),()))) (a=a /\k ((j,g,(),(),i,f,h,ag .i64 (c+1),()),(d,(a,e),())))))) (a=a /\m ((j,g,(),(),()),(d,(a,e),())))
abbrev Ys (b:MX) (R:AV->Prop) (c:yu->Prop):Prop :=aI _ b fun a d=>Yr a.1.2.2.2.2.2.2.2.1 a.1.2.2.2.2.2.2.1 a.1.2.2.2.2.2.1 a.1.2.2.2.2.1 a.2.2.1.1 d a.1.1 a.1.2.1 a.2.1 a.2.2.1.2 R c
abbrev Yt (a:Nat) (b:List Int) (c:av) (d:Int) (e:List (Int×Value)) (R:AV->Prop) (f:yu->Prop):Prop :=a=a /\az (decide (((ab b:Nat):Int)>0)) (a=a /\(0<=(0:Int)/\(0:Int)<((ab b:Nat):Int)) /\a=a /\af 0<ab b /\a=a /\(0<=(1:Int)/\(1:Int)<=((ab b:Nat):Int)) /\a+1=a+1 /\Ys ((c,d,(),(),ae b (af 0) 0,c,((ab c:Nat):Int),0,()),(e,(a+1,List.drop (af 1) b),())) R f) (R (nB false))
abbrev Yu (b:yu) (R:AV->Prop):Prop :=aI _ b fun a c=>Yt a.2.2.1.1 a.2.2.1.2 a.1.1 a.1.2.1 a.2.1 R c
abbrev akY (a:av) (b c:Int) (R:AV->Prop):Prop :=0=0 /\Yu ((a,c,(),(),()),([],(0,[b]),())) R
theorem Yv {a0 a1 a2 R} (h:akY a0 a1 a2 R):Pure aj 13 [.sl a0,nI a1,nI a2] R:=
 pkq [] [] [] [] false (au [14]) [] [la 3 [0,2,7,8] [(8,3)],la 7 [0,2,7,8,9,23,24,25] [(8,3)]] Tryz.func13 h
abbrev G8:Type:=(ByteArray×Int×Unit)×(Unit)
abbrev SZ (a:Int) (b:ByteArray) (d:G8->Prop) (R:AV->Prop):Prop :=az (decide (a<((ah b:Nat):Int))) (az (decide (a<10)) ((0<=(0:Int)/\(0:Int)<=(ag .i64 (a+1))/\(ag .i64 (a+1))<=ah b) /\∃c,pI 234 [nS (ByteArray.extract b (af 0) (af (ag .i64 (a+1))))] (nB c) /\az c (d ((b,ag .i64 (a+1),()),())) ((0<=(0:Int)/\(0:Int)<=a/\a<=ah b) /\R (nS (ByteArray.extract b (af 0) (af a))))) ((0<=(0:Int)/\(0:Int)<=a/\a<=ah b) /\R (nS (ByteArray.extract b (af 0) (af a))))) ((0<=(0:Int)/\(0:Int)<=a/\a<=ah b) /\R (nS (ByteArray.extract b (af 0) (af a))))
abbrev S0 (b:G8) (R:AV->Prop):Prop :=aI _ b fun a c=>SZ a.1.2.1 a.1.1 c R
abbrev agt (a:ByteArray) (R:AV->Prop):Prop :=(0<=(0:Int)/\(0:Int)<=(1:Int)/\(1:Int)<=ah a) /\∃b,pI 234 [nS (ByteArray.extract a (af 0) (af 1))] (nB b) /\az b (S0 ((a,1,()),()) R) ((0<=(0:Int)/\(0:Int)<=(1:Int)/\(1:Int)<=ah a) /\R (nS (ByteArray.extract a (af 0) (af 1))))
theorem S1 {a0 R} (h:agt a0 R):Pure aj 235 [nS a0] R:=
 hO [la 3 [0,3]] Tryz.func235 h
abbrev MY:Type:=(Unit×Unit×Unit×av×Int×Int×Unit)×((av×av×av×av×av×av×av×av×av×Unit)×(Int×Unit×Unit×Unit)×(Int×Unit×Unit×Unit)×av×Unit)
abbrev MZ:Type:=(Unit×Unit×av×Int×Int×Unit)×((av×av×av×av×av×av×av×av×av×Unit)×(Int×Unit×Unit×Unit)×(Int×Unit×Unit×Unit)×av×av×Unit)
abbrev M0 (d g:Int) (f:av) (h:Nat) (a:av) (i:Nat) (e:av) (m:MZ->Prop) (n o p q r s t u v:av) (w j:Int) (R:AV->Prop):Prop :=az (decide (d<g)) (0<=d /\d<ab f /\∃k l,ae f (af d) .top=.agg [.sl k,nI l] /\∃b c,pI 55 [.agg [.sl k,nI l],.sl []] (.agg [.sl b,nI c]) /\h=ab a /\bw sA (ab (a++[.agg [.sl b,nI c]])) [] [.agg [.sl b,nI c]] /\i=ab e /\ab (a++[.agg [.sl b,nI c]])=ab (a++[.agg [.sl b,nI c]]) /\m (((),(),f,g,ag .i64 (d+1),()),((n,o,p,q,r,s,t,u,v,()),(w,(),(),()),(j,(),(),()),e,a++[.agg [.sl b,nI c]],()))) (i=ab e /\h=ab a /\R (.agg [nI j,.sl e,.sl a]))
abbrev Yw (b:MZ) (R:AV->Prop):Prop :=aI _ b fun a c=>M0 a.1.2.2.2.2.1 a.1.2.2.2.1 a.1.2.2.1 (ab a.2.2.2.2.2.1) a.2.2.2.2.2.1 (ab a.2.2.2.2.1) a.2.2.2.2.1 c a.2.1.1 a.2.1.2.1 a.2.1.2.2.1 a.2.1.2.2.2.1 a.2.1.2.2.2.2.1 a.2.1.2.2.2.2.2.1 a.2.1.2.2.2.2.2.2.1 a.2.1.2.2.2.2.2.2.2.1 a.2.1.2.2.2.2.2.2.2.2.1 a.2.2.1.1 a.2.2.2.1.1 R
abbrev M1 (d g:Int) (f:av) (h:Nat) (a:av) (u:MY->Prop) (i j k e l m n o p:av) (q r:Int) (R:AV->Prop):Prop :=az (decide (d<g)) (0<=d /\d<ab f /\∃v s t,ae f (af d) .top=.agg [nS v,.sl s,nI t] /\∃b c,pI 55 [.agg [.sl s,nI t],.sl []] (.agg [.sl b,nI c]) /\h=ab a /\bw sA (ab (a++[.agg [.sl b,nI c]])) [] [.agg [.sl b,nI c]] /\ab (a++[.agg [.sl b,nI c]])=ab (a++[.agg [.sl b,nI c]]) /\u (((),(),(),f,g,ag .i64 (d+1),()),((i,j,k,e,l,m,n,o,p,()),(q,(),(),()),(r,(),(),()),a++[.agg [.sl b,nI c]],()))) (h=ab a /\0=ab ([]:av) /\Yw (((),(),e,((ab e:Nat):Int),0,()),((i,j,k,e,l,m,n,o,p,()),(q,(),(),()),(r,(),(),()),a,[],())) R)
abbrev Yx (b:MY) (R:AV->Prop):Prop :=aI _ b fun a c=>M1 a.1.2.2.2.2.2.1 a.1.2.2.2.2.1 a.1.2.2.2.1 (ab a.2.2.2.2.1) a.2.2.2.2.1 c a.2.1.1 a.2.1.2.1 a.2.1.2.2.1 a.2.1.2.2.2.1 a.2.1.2.2.2.2.1 a.2.1.2.2.2.2.2.1 a.2.1.2.2.2.2.2.2.1 a.2.1.2.2.2.2.2.2.2.1 a.2.1.2.2.2.2.2.2.2.2.1 a.2.2.1.1 a.2.2.2.1.1 R
abbrev akZ (b a c d e f g h i:av) (R:AV->Prop):Prop :=0=ab ([]:av) /\Yx (((),(),(),a,((ab a:Nat):Int),0,()),((b,a,c,d,e,f,g,h,i,()),(0,(),(),()),(((ab b:Nat):Int),(),(),()),[],())) R
theorem Yy {aT aU bq cf il zU zV zW zX R} (h:akZ aT aU bq cf il zU zV zW zX R):Pure aj 16 [.agg [.sl aT,.sl aU,.sl bq,.sl cf,.sl il,.sl zU,.sl zV,.sl zW,.sl zX]] R:=
 hO [{ key:=3,live:=lv [1,2,3,15,16,17],mq:=[(2,1,66)] },{ key:=8,live:=lv [2,3,31,32,33],mq:=[(2,2,66)] }] Tryz.func16 h
abbrev vc9 (R:AV->Prop):Prop :=∃c d e f b g h i a j C D E,pI 7 [nS (⟨#[115,111,114,116,32,97,59,32,99,111,110,115,116,32,102,58,32,97,32,45,62,32,97,59,32,118,97,114,32,88,58,32,97,59,32,101,113,32,101,58,32,102,32,88,32,61,32,88,59,32,110,111,114,109,97,108,32,53,58,32,102,59]⟩:ByteArray)] (.aK [.agg [.sl c,.sl d,.sl e,.sl f,.sl b,.sl g,.sl h,.sl i,.sl a],.agg [nI j,nI C,nI D,nS E]]) /\∃F G H I J K M N O k l m n,pI 7 [nS (⟨#[115,111,114,116,32,97,59,32,99,111,110,115,116,32,102,58,32,97,59,32,99,111,110,115,116,32,102,58,32,97,59]⟩:ByteArray)] (.aK [.agg [.sl F,.sl G,.sl H,.sl I,.sl J,.sl K,.sl M,.sl N,.sl O],.agg [nI k,nI l,nI m,nS n]]) /\az (j==0) (az (((ab b:Nat):Int)==1) (az (((ab a:Nat):Int)==1) (0<=(0:Int) /\(0:Int)<ab a /\∃Q S o T U V W X Y Z a0,ae a (af 0) .top=.agg [nI Q,nI S,.sl o,nI T,nI U,.sl V,.sl W,nI X,nI Y,.sl Z,nI a0] /\az (((ab o:Nat):Int)==1) (∃p q r,pI 16 [.agg [.sl c,.sl d,.sl e,.sl f,.sl b,.sl g,.sl h,.sl i,.sl a]] (.agg [nI p,.sl q,.sl r]) /\0<=(0:Int) /\(0:Int)<ab a /\∃a1 a2 s t u v a3 a4 a5 a6 a7,ae a (af 0) .top=.agg [nI a1,nI a2,.sl s,nI t,nI u,.sl v,.sl a3,nI a4,nI a5,.sl a6,nI a7] /\∃w x,pI 37 [nI 0,.sl []] (.agg [.sl w,nI x]) /\∃y z,pI 37 [nI 0,.sl [.agg [.sl w,nI x]]] (.agg [.sl y,nI z]) /\∃B,pI 19 [.agg [nI p,.sl q,.sl r],.sl [],.agg [.sl s,nI t,nI u,.sl v],.agg [.sl y,nI z]] (nI B) /\az (B==0) (R (nB (k==4&&((l==1&&m==21)&&ByteArray.toList n==ByteArray.toList (⟨#[99,111,110,115,116]⟩:ByteArray))))) (R (nB false))) (R (nB false))) (R (nB false))) (R (nB false))) (R (nB false))
theorem acP {R} (h:vc9 R):Pure aj 9 [] R:=
 hO [] Tryz.func9 h
abbrev yw:Nat×kj:=(85,.fX [(.v (.a [.i .i64,.s,.i .i64]),[.box [.l,.s,.i .i64]])])
abbrev q7:Type:=(Unit×Unit×Unit×Unit×(Unit×Unit×Unit)×(Unit×Unit×Unit×Unit)×Unit)×((ByteArray×Unit)×(Int×Int×Int×ByteArray×Unit)×(Unit×Unit)×(Int×Unit)×av×Unit)
abbrev r7 (w:Bool) (a c:Int) (d:ByteArray) (e f g:Int) (h:ByteArray) (i:Nat) (j:av) (R:AV->Prop) (x:Int) (y:q7->Prop):Prop :=az w ((0<=a/\a<=(ag .i64 (a+c))/\(ag .i64 (a+c))<=ah d) /\∃k,pI 215 [nS (ByteArray.extract d (af a) (af (ag .i64 (a+c))))] (nS k) /\aF 209 [nI 2,nS k,.ptr 0 0,.ptr 3 0] (CQ d e f g h i a j) fun z B=>∃l C D E F G H m n o p,(z=.aK [.ax (.slice ar 0 0),.agg [nI m,nI n,nI o,nS p]]/\B=(CQ C D E F G (ab l) H l)) /\R (.aK [.sl [],.agg [nI m,nI n,nI o,nS p]])) (aF 211 [nI x,nI c,.ptr 2 0,.ptr 0 0,.ptr 3 0] (CQ d e f g h i a j) fun I J=>∃b q r s t u v,(I=.aK []/\J=(CQ q r s t u (ab b) v b)) /\ab b=ab b /\y (((),(),(),(),((),(),()),((),(),(),()),()),((q,()),(r,s,t,u,()),((),()),(v,()),b,())))
abbrev Pm (m:Bool) (d b:Int) (e:ByteArray) (f g h:Int) (i:ByteArray) (j:Nat) (k:av) (R:AV->Prop) (c:Int) (l:q7->Prop):Prop :=az m (r7 m d b e f g h i j k R c l) (az (c==2) (r7 (decide (b>9)) d b e f g h i j k R c l) (aF 211 [nI c,nI b,.ptr 2 0,.ptr 0 0,.ptr 3 0] (CQ e f g h i j d k) fun t u=>∃a n o p q r s,(t=.aK []/\u=(CQ n o p q r (ab a) s a)) /\ab a=ab a /\l (((),(),(),(),((),(),()),((),(),(),()),()),((n,()),(o,p,q,r,()),((),()),(s,()),a,()))))
abbrev KE (b c d:Int) (e:ByteArray) (f g h:Int) (i:ByteArray) (j:Nat) (k:av) (R:AV->Prop) (l:q7->Prop):Prop :=az (b==2) (r7 (decide (c>9)) d c e f g h i j k R b l) (aF 211 [nI b,nI c,.ptr 2 0,.ptr 0 0,.ptr 3 0] (CQ e f g h i j d k) fun s t=>∃a m n o p q r,(s=.aK []/\t=(CQ m n o p q (ab a) r a)) /\ab a=ab a /\l (((),(),(),(),((),(),()),((),(),(),()),()),((m,()),(n,o,p,q,()),((),()),(r,()),a,())))
abbrev S2 (b:Int) (a:ByteArray) (f:Nat) (d:av) (R:AV->Prop) (h i j:Int) (k:ByteArray) (l:q7->Prop):Prop :=(0<=b/\b<=((ah a:Nat):Int)/\((ah a:Nat):Int)<=ah a) /\∃c,pI 212 [nS (ByteArray.extract a (af b) (af ((ah a:Nat):Int)))] (nI c) /\az ((ag .i64 (b+c))==((ah a:Nat):Int)) (f=ab d /\R (.aK [.sl d,.agg [nI 0,nI 0,nI 0,nS ⟨#[]⟩]])) ((0<=(ag .i64 (b+c))/\(ag .i64 (b+c))<=((ah a:Nat):Int)/\((ah a:Nat):Int)<=ah a) /\∃g e,pI 213 [nS (ByteArray.extract a (af (ag .i64 (b+c))) (af ((ah a:Nat):Int)))] (.aK [nI g,nI e]) /\az (e==0) ((0<=(ag .i64 (b+c))/\(ag .i64 (b+c))<ah a) /\∃m,pI 214 [.ax (.int .u8 (dT a (ag .i64 (b+c))))] (nS m) /\aF 209 [nI 3,nS m,.ptr 0 0,.ptr 3 0] (CQ a h i j k f (ag .i64 (b+c)) d) fun s t=>∃n u v w x y z o p q r,(s=.aK [.ax (.slice ar 0 0),.agg [nI o,nI p,nI q,nS r]]/\t=(CQ u v w x y (ab n) z n)) /\R (.aK [.sl [],.agg [nI o,nI p,nI q,nS r]])) (az (g==1) (Pm (decide (e>30)) (ag .i64 (b+c)) e a h i j k f d R g l) (KE g e (ag .i64 (b+c)) a h i j k f d R l)))
abbrev S5 (b:q7) (R:AV->Prop):Prop :=aI _ b fun a c=>S2 a.2.2.2.2.1.1 a.2.1.1 (ab a.2.2.2.2.2.1) a.2.2.2.2.2.1 R a.2.2.1.1 a.2.2.1.2.1 a.2.2.1.2.2.1 a.2.2.1.2.2.2.1 c
abbrev agu (a:ByteArray) (R:AV->Prop):Prop :=az (decide (((ah a:Nat):Int)>20000)) (R (.aK [.sl [],.agg [nI 2,nI 1,nI 1,nS ⟨#[]⟩]])) (0=ab ([]:av) /\S5 (((),(),(),(),((),(),()),((),(),(),()),()),((a,()),(0,0,0,⟨#[]⟩,()),((),()),(0,()),[],())) R)
theorem S6 {a0 R} (h:agu a0 R):Pure aj 136 [nS a0] R:=
 BB [] [(209,.heap 5 [(.t [.c (.k (.ax (.slice ar 0 0))),.a [.i .i64,.i .i64,.i .i64,.s]],[.box [.s],.box [.i .i64,.i .i64,.i .i64,.s],.box [.o 4],.box [.i .i64],.row 196 3])]),(211,.heap 5 [(.t [],[.box [.s],.box [.i .i64,.i .i64,.i .i64,.s],.box [.o 4],.box [.i .i64],.row 196 3])])] [] [] [{ key:=7,live:=lv [1,3,4,5,6,7],mq:=[(2,0,196)] }] Tryz.func136 h
abbrev agv (a:ByteArray) (fc fl fm:Int) (fw:ByteArray) (us:av) (ha d:Int) (e:ByteArray) (R:AV->List aw->Prop):Prop :=∃b c f,pI 210 [nS a,nI ha] (.aK [.agg [nI b,nI c],nI f]) /\R (.aK [.ax (.slice ar 0 0),.agg [nI d,nI b,nI c,nS e]]) (CQ a fc fl fm fw (ab us) ha us)
theorem S8 {s0 fc fl fm fw us ha a0 a1 R} (h:agv s0 fc fl fm fw us ha a0 a1 R):aY aj 209 [nI a0,nS a1,.ptr 0 0,.ptr 3 0] (CQ s0 fc fl fm fw (ab us) ha us) R:=
 rR 5 [] Tryz.func209 h
abbrev aa9 (b:ByteArray) (fc fl fm:Int) (fw:ByteArray) (us:av) (ha c a:Int) (R:AV->List aw->Prop):Prop :=(0<=ha/\ha<=(ag .i64 (ha+a))/\(ag .i64 (ha+a))<=ah b) /\ab us=ab us /\bw Sy (ab (us++[.agg [nI c,nS (ByteArray.extract b (af ha) (af (ag .i64 (ha+a)))),nI ha]])) [] [.agg [nI c,nS (ByteArray.extract b (af ha) (af (ag .i64 (ha+a)))),nI ha]] /\R (.aK []) (CQ b fc fl fm fw (ab (us++[.agg [nI c,nS (ByteArray.extract b (af ha) (af (ag .i64 (ha+a)))),nI ha]])) (ag .i64 (ha+a)) (us++[.agg [nI c,nS (ByteArray.extract b (af ha) (af (ag .i64 (ha+a)))),nI ha]]))
theorem S9 {s0 fc fl fm fw us ha a0 a1 R} (h:aa9 s0 fc fl fm fw us ha a0 a1 R):aY aj 211 [nI a0,nI a1,.ptr 2 0,.ptr 0 0,.ptr 3 0] (CQ s0 fc fl fm fw (ab us) ha us) R:=
 rR 5 [] Tryz.func211 h
abbrev G9:Type:=(ByteArray×Int×Unit)×(Unit)
abbrev Ta (b:Int) (a:ByteArray) (c:G9->Prop) (R:AV->Prop):Prop :=az (decide (b<((ah a:Nat):Int))) ((0<=b/\b<ah a) /\az ((dT a b)==32) (az ((dT a b)==32) (c ((a,ag .i64 (b+1),()),())) (az ((dT a b)==35) ((0<=b/\b<=((ah a:Nat):Int)/\((ah a:Nat):Int)<=ah a) /\∃d,pI 250 [nS (ByteArray.extract a (af b) (af ((ah a:Nat):Int))),.ax (.int .u8 10)] (nI d) /\az (decide (d<0)) (R (nI ((ah a:Nat):Int))) (c ((a,ag .i64 (b+d),()),()))) (R (nI b)))) (az ((dT a b)==9) (az ((dT a b)==9) (c ((a,ag .i64 (b+1),()),())) (az ((dT a b)==35) ((0<=b/\b<=((ah a:Nat):Int)/\((ah a:Nat):Int)<=ah a) /\∃e,pI 250 [nS (ByteArray.extract a (af b) (af ((ah a:Nat):Int))),.ax (.int .u8 10)] (nI e) /\az (decide (e<0)) (R (nI ((ah a:Nat):Int))) (c ((a,ag .i64 (b+e),()),()))) (R (nI b)))) (az ((dT a b)==10) (az ((dT a b)==10) (c ((a,ag .i64 (b+1),()),())) (az ((dT a b)==35) ((0<=b/\b<=((ah a:Nat):Int)/\((ah a:Nat):Int)<=ah a) /\∃f,pI 250 [nS (ByteArray.extract a (af b) (af ((ah a:Nat):Int))),.ax (.int .u8 10)] (nI f) /\az (decide (f<0)) (R (nI ((ah a:Nat):Int))) (c ((a,ag .i64 (b+f),()),()))) (R (nI b)))) (az ((dT a b)==13) (c ((a,ag .i64 (b+1),()),())) (az ((dT a b)==35) ((0<=b/\b<=((ah a:Nat):Int)/\((ah a:Nat):Int)<=ah a) /\∃g,pI 250 [nS (ByteArray.extract a (af b) (af ((ah a:Nat):Int))),.ax (.int .u8 10)] (nI g) /\az (decide (g<0)) (R (nI ((ah a:Nat):Int))) (c ((a,ag .i64 (b+g),()),()))) (R (nI b))))))) (R (nI b))
abbrev Tb (b:G9) (R:AV->Prop):Prop :=aI _ b fun a c=>Ta a.1.2.1 a.1.1 c R
abbrev agw (a:ByteArray) (R:AV->Prop):Prop :=Tb ((a,0,()),()) R
theorem Tc {a0 R} (h:agw a0 R):Pure aj 212 [nS a0] R:=
 hO [la 2 [0,3]] Tryz.func212 h
abbrev agx (a:ByteArray) (R:AV->Prop):Prop :=(0<=(0:Int)/\(0:Int)<ah a) /\∃b,pI 251 [.ax (.int .u8 (dT a (0:Int)))] (nB b) /\az b (∃c,pI 252 [nS a,.bz 253 []] (nI c) /\R (.aK [nI 1,nI c])) ((0<=(0:Int)/\(0:Int)<ah a) /\∃d,pI 254 [.ax (.int .u8 (dT a (0:Int)))] (nB d) /\az d (∃e,pI 252 [nS a,.bz 254 []] (nI e) /\R (.aK [nI 2,nI e])) (∃f,pI 255 [nS a] (nI f) /\R (.aK [nI 3,nI f])))
theorem Td {a0 R} (h:agx a0 R):Pure aj 213 [nS a0] R:=
 hO [] Tryz.func213 h
abbrev agy (a:Int) (R:AV->Prop):Prop :=az (decide (a<33)) (R (nS (⟨#[]⟩:ByteArray))) (az (decide (a>126)) (R (nS (⟨#[]⟩:ByteArray))) (R (nS (strOfNums [a]))))
theorem Te {a0 R} (h:agy a0 R):Pure aj 214 [.ax (.int .u8 a0)] R:=
 hO [] Tryz.func214 h
abbrev agz (a:ByteArray) (R:AV->Prop):Prop :=(0<=(0:Int)/\(0:Int)<=(if 10<((ah a:Nat):Int) then 10 else((ah a:Nat):Int))/\(if 10<((ah a:Nat):Int) then 10 else((ah a:Nat):Int))<=ah a) /\R (nS (ByteArray.extract a (af 0) (af (if 10<((ah a:Nat):Int) then 10 else((ah a:Nat):Int)))))
theorem Tf {a0 R} (h:agz a0 R):Pure aj 215 [nS a0] R:=
 hO [] Tryz.func215 h
abbrev agA (a:ByteArray) (R:AV->Prop):Prop :=∃b,pI 268 [nS a,nS (⟨#[45,62]⟩:ByteArray)] (nB b) /\az b (R (nI 2)) (az (!(ib a (⟨#[]⟩:ByteArray))) ((0<=(0:Int)/\(0:Int)<ah a) /\∃c,pI 250 [nS (⟨#[40,41,92,46,44,59,58,61,62,60,91,93,123,125,33,63,64]⟩:ByteArray),.ax (.int .u8 (dT a (0:Int)))] (nI c) /\az (decide (c>=0)) (R (nI 1)) (R (nI 0))) (R (nI 0)))
theorem Tg {a0 R} (h:agA a0 R):Pure aj 255 [nS a0] R:=
 hO [] Tryz.func255 h
abbrev zY:Type:=(ByteArray×Unit×Int×Unit)×(Unit)
abbrev KF (a:Int) (b:ByteArray) (d:zY->Prop) (R:AV->Prop):Prop :=az (decide (a<((ah b:Nat):Int))) ((0<=a/\a<ah b) /\∃c,pI 254 [.ax (.int .u8 (dT b a))] (nB c) /\az c (d ((b,(),ag .i64 (a+1),()),())) (R (nI a))) (R (nI a))
abbrev KH (b:zY) (R:AV->Prop):Prop :=aI _ b fun a c=>KF a.1.2.2.1 a.1.1 c R
abbrev Yz (a:ByteArray) (R:AV->Prop):Prop :=KH ((a,(),0,()),()) R
theorem KI {a0 R} (h:Yz a0 R):Pure aj 252 [nS a0,.bz 254 []] R:=
 hO [la 2 [0,1,5]] Tryz.func252 h
abbrev agB (b:av) (c:ByteArray) (R:AV->List aw->Prop):Prop :=∃a,pI 216 [.sl b] (.sl a) /\R (.ptr 0 0) (iP a c 0)
theorem Th {a0 a1 R} (h:agB a0 a1 R):aY aj 137 [.sl a0,nS a1] [] R:=
 rR 1 [] Tryz.func137 h
abbrev ak0 (rl:av) (rs:ByteArray) (ra a:Int) (R:AV->List aw->Prop):Prop :=az (decide (a<0)) (R (.agg [nI 4,nS ⟨#[]⟩,nI ((ah rs:Nat):Int)]) (iP rl rs ra)) (az (decide (a>=(ag .i64 (((ab rl:Nat):Int)-ra)))) (R (.agg [nI 4,nS ⟨#[]⟩,nI ((ah rs:Nat):Int)]) (iP rl rs ra)) (0<=(ag .i64 (ra+a)) /\(ag .i64 (ra+a))<ab rl /\∃b c d,ae rl (af (ag .i64 (ra+a))) .top=.agg [nI b,nS c,nI d] /\R (.agg [nI b,nS c,nI d]) (iP rl rs ra)))
theorem YA {rl rs ra a1 R} (h:ak0 rl rs ra a1 R):aY aj 85 [.ptr 0 0,nI a1] (iP rl rs ra) R:=
 rR 1 [] Tryz.func85 h
abbrev agC (rl:av) (rs:ByteArray) (ra:Int) (R:AV->List aw->Prop):Prop :=aF 85 [.ptr 0 0,nI 0] (iP rl rs ra) fun g h=>∃a c b d e f,(g=.agg [nI d,nS e,nI f]/\h=(iP a c b)) /\az (decide (b<((ab a:Nat):Int))) (R (.agg [nI d,nS e,nI f]) (iP a c (ag .i64 (b+1)))) (R (.agg [nI d,nS e,nI f]) (iP a c b))
theorem Ti {rl rs ra R} (h:agC rl rs ra R):aY aj 140 [.ptr 0 0] (iP rl rs ra) R:=
 fq [] [yw] [] [] 1 [] Tryz.func140 h
abbrev Ha:Type:=(Unit×av×av×Int×Int×Unit)×((av×ByteArray×Int×Unit)×Unit)
abbrev Tj (a f:Int) (e k:av) (l:ByteArray) (m:Int) (R:AV->List aw->Prop) (n:Ha->Prop) (g:av):Prop :=az (decide (a<f)) (0<=a /\a<ab e /\∃h,ae e (af a) .top=nS h /\aF 85 [.ptr 0 0,nI a] (iP k l m) fun o p=>∃b c d i j q,(o=.agg [nI i,nS j,nI q]/\p=(iP b c d)) /\az (i != 1) (az (i != 3) (R (nB false) (iP b c d)) (az (!(ib j h)) (R (nB false) (iP b c d)) (n (((),g,e,f,ag .i64 (a+1),()),((b,c,d,()),()))))) (az (!(ib j h)) (R (nB false) (iP b c d)) (n (((),g,e,f,ag .i64 (a+1),()),((b,c,d,()),()))))) (R (nB true) (iP k l (ag .i64 (m+((ab g:Nat):Int)))))
abbrev Tl (b:Ha) (R:AV->List aw->Prop):Prop :=aI _ b fun a c=>Tj a.1.2.2.2.2.1 a.1.2.2.2.1 a.1.2.2.1 a.2.1.1 a.2.1.2.1 a.2.1.2.2.1 R c a.1.2.1
abbrev agD (rl:av) (rs:ByteArray) (ra:Int) (a:av) (R:AV->List aw->Prop):Prop :=Tl (((),a,a,((ab a:Nat):Int),0,()),((rl,rs,ra,()),())) R
theorem Tn {rl rs ra a1 R} (h:agD rl rs ra a1 R):aY aj 220 [.ptr 0 0,.sl a1] (iP rl rs ra) R:=
 fq [] [yw] [] [] 1 [la 2 [0,1,8,9,10]] Tryz.func220 h
abbrev uK (i:av) (d:ByteArray) (j:Int) (R:AV->List aw->Prop):Prop :=aF 85 [.ptr 0 0,nI 0] (iP i d j) fun k l=>∃a b c m n e,(k=.agg [nI m,nS n,nI e]/\l=(iP a b c)) /\∃f g h,pI 210 [nS d,nI e] (.aK [.agg [nI f,nI g],nI h]) /\az (h==0) (R (.agg [nI f,nI g]) (iP a b c)) (R (.agg [nI 1,nI 1]) (iP a b c))
abbrev Pn (a:av) (b:ByteArray) (c:Int) (R:AV->List aw->Prop):Prop :=(uK a b c R) /\(uK a b c R)
abbrev tn (h:av) (i:ByteArray) (j:Int) (R:AV->List aw->Prop):Prop :=aF 85 [.ptr 0 0,nI 0] (iP h i j) fun k l=>∃b a c m n d,(k=.agg [nI m,nS n,nI d]/\l=(iP b a c)) /\∃e f g,pI 210 [nS a,nI d] (.aK [.agg [nI e,nI f],nI g]) /\az (g==0) (R (.agg [nI e,nI f]) (iP b a c)) (R (.agg [nI 1,nI 1]) (iP b a c))
abbrev Hb (a:av) (b:ByteArray) (c:Int) (R:AV->List aw->Prop):Prop :=(uK a b c R) /\(tn a b c R)
abbrev agE (rl:av) (rs:ByteArray) (ra:Int) (R:AV->List aw->Prop):Prop :=(Pn rl rs ra R) /\((tn rl rs ra R) /\(Hb rl rs ra R))
theorem Tp {rl rs ra R} (h:agE rl rs ra R):aY aj 217 [.ptr 0 0] (iP rl rs ra) R:=
 fq [(2,[ar,ar,ar,ar,ar,au [0],ar,ar,ar,ar,ar,au [],ar,ar],[ar,ar,ar,au [],ar,au [],ar,au [],ar,ar,ar,ar,ar,ar])] [yw] [(2,[85])] [(2,(.val 0 (.val 1 (.val 2 (.val 4 (.three 3 (.two 5 (.val 6 (.val 7 (.val 8 (.val 9 (.val 10 (.dQ 11 (.dQ 12 (.val 13 .done)))))))) 11 (.dQ 5 (.val 6 (.val 7 (.val 8 (.val 9 (.val 10 (.dQ 12 (.val 13 .done))))))))) 5 (.val 3 (.val 6 (.val 7 (.val 8 (.val 9 (.val 10 (.dQ 11 (.dQ 12 (.val 13 .done))))))))) 11 (.two 3 (.dQ 5 (.val 6 (.val 7 (.val 8 (.val 9 (.val 10 (.dQ 12 (.val 13 .done)))))))) 5 (.val 3 (.val 6 (.val 7 (.val 8 (.val 9 (.val 10 (.dQ 12 (.val 13 .done)))))))))))))))] 1 [] Tryz.func217 h
abbrev agF (rl:av) (rs:ByteArray) (ra k:Int) (R:AV->List aw->Prop):Prop :=aF 217 [.ptr 0 0] (iP rl rs ra) fun l m=>∃a b c d e,(l=.agg [nI d,nI e]/\m=(iP a b c)) /\aF 85 [.ptr 0 0,nI 0] (iP a b c) fun n o=>∃f g h p i q,(n=.agg [nI p,nS i,nI q]/\o=(iP f g h)) /\∃j,pI 215 [nS i] (nS j) /\R (.agg [nI k,nI d,nI e,nS j]) (iP f g h)
theorem Tq {rl rs ra a1 R} (h:agF rl rs ra a1 R):aY aj 138 [.ptr 0 0,nI a1] (iP rl rs ra) R:=
 fq [] [yw,(217,.fX [(.v (.a [.i .i64,.i .i64]),[.box [.l,.s,.i .i64]])])] [] [] 1 [] Tryz.func138 h
abbrev agG (a:av) (R:AV->Prop):Prop :=∀b:Bool,(a≠[]->b=!true)->az b (R (.sl [])) (((a:av)=[]->([]:av)=[]) /\bw Sy (ab (([]:av)++a)) ([]:av) a /\ab (([]:av)++a)=ab (([]:av)++a) /\R (.sl (([]:av)++a)))
theorem Tr {a0 R} (h:agG a0 R):Pure aj 216 [.sl a0] R:=
 hO [] Tryz.func216 h
abbrev Ts (e:Bool) (R:AV->Prop) (b:ByteArray) (f:Int):Prop :=az e (R (.aK [.agg [nI 0,nI 0],nI 1])) (pI 249 [nS b] (.bz 266 [.aW (nS b) 0]) /\iD ((Int×Unit)×(Int×Int×Unit)×(Int×Unit)×(Int×Unit)×Unit) (Int×ByteArray×Unit) ((f,()),(0,0,()),(0,()),(0,()),()) (fun Ls=>ng aj 266 [.aW (nS b) 0] [.v (.c (.i .i64)),.v (.c (.s))] Ls) (fun d a g=>az (decide (a.1.1<=(ag .i64 (d.1+((ah d.2.1:Nat):Int))))) (R (.aK [.agg [nI (ag .i64 (a.2.2.2.1.1+1)),nI (ag .i64 ((ag .i64 (a.1.1-d.1))+1))],nI 0])) (g ((a.1.1,()),(a.2.1.1,a.2.1.2.1,()),(a.2.2.1.1,()),(ag .i64 (a.2.2.2.1.1+1),()),()))) (fun h=>R (.aK [.agg [nI 0,nI 0],nI 1])))
abbrev agH (b:ByteArray) (a:Int) (R:AV->Prop):Prop :=az (decide (a<0)) (R (.aK [.agg [nI 0,nI 0],nI 1])) (Ts (decide (a>((ah b:Nat):Int))) R b a)
theorem Tt {a0 a1 R} (h:agH a0 a1 R):Pure aj 210 [nS a0,nI a1] R:=
 BB [] [(249,.bz 266)] [] [] [{ key:=7,live:=lv [],prm:=[.v (.c (.i .i64)),.v (.c (.s))] }] Tryz.func210 h
abbrev agI (a:ByteArray) (R:AV->Prop):Prop :=R (.bz 266 [.aW (nS a) 0])
theorem Tu {a0 R} (h:agI a0 R):Pure aj 249 [nS a0] R:=
 BB [] [(266,.y false)] [] [] [] Tryz.func249 h
abbrev Hc:Type:=((Value×Unit×Int×Unit)×(Unit))×Gh
abbrev Tv (a:Int) (b:ByteArray) (d g:Value) (h:Gh) (R:Bool->Gh->Prop) (j:ByteArray) (k:Hc->Prop):Prop :=(0<=a/\a<=((ah b:Nat):Int)/\((ah b:Nat):Int)<=ah b) /\∃c,pI 250 [nS (ByteArray.extract b (af a) (af ((ah b:Nat):Int))),.ax (.int .u8 10)] (nI c) /\az (decide (c<0)) ((0<=a/\a<=((ah b:Nat):Int)/\((ah b:Nat):Int)<=ah b) /\d=g /\∃(i:List av),h=au ([nI a,nS (ByteArray.extract b (af a) (af ((ah b:Nat):Int)))]::i) /\∀l:Bool,R true (gT l i)) ((0<=a/\a<=(ag .i64 (a+c))/\(ag .i64 (a+c))<=ah b) /\d=g /\∃(e:List av),h=au ([nI a,nS (ByteArray.extract b (af a) (af (ag .i64 (a+c))))]::e) /\∀f:Bool,az (!f) (R true (gT f e)) ((.aW (nS b) 0:AV)=.aW (nS j) 0 /\k (((d,(),ag .i64 (a+(ag .i64 (c+1))),()),()),gT f e)))
abbrev Tw (c:Hc) (b:ByteArray) (d:Value) (R:Bool->Gh->Prop):Prop :=aI _ c fun a e=>Tv a.1.1.2.2.1 b a.1.1.1 d a.2 R b e
def agJ (a:ByteArray) (yv:Value) (g:Gh) (R:Bool->Gh->Prop):Prop :=(.aW (nS a) 0:AV)=.aW (nS a) 0 /\Tw (((yv,(),0,()),()),g) a yv R
theorem Tx {s0:ByteArray} {L:List av} (h:∀(yv:Value) (more:List av),agJ s0 yv (au (L++more)) (RY false more)):vE aj 266 (fun v=>[v,.aW (nS s0) 0]) L false:=
 yk0 [{ key:=1,live:=[(0,ar),(1,au (.v (.c (.q (.aW (nS s0) 0))))),(3,ar)] }] Tryz.func266 (by exact rfl) (by kernel_rfl) (fun _=>by rfl) (fun yv more=>of_eq (by kernel_rfl) (h yv more))
abbrev agK (b c:ByteArray) (R:AV->Prop):Prop :=∃a,pI 282 [nS b,nS c] (nB a) /\R (nB a)
theorem Tz {a0 a1 R} (h:agK a0 a1 R):Pure aj 268 [nS a0,nS a1] R:=
 hO [] Tryz.func268 h
abbrev agL (b a:ByteArray) (R:AV->Prop):Prop :=az (decide (((ah b:Nat):Int)>=((ah a:Nat):Int))) ((0<=(0:Int)/\(0:Int)<=((ah a:Nat):Int)/\((ah a:Nat):Int)<=ah b) /\R (nB (ib (ByteArray.extract b (af 0) (af ((ah a:Nat):Int))) a))) (R (nB false))
theorem TB {a0 a1 R} (h:agL a0 a1 R):Pure aj 282 [nS a0,nS a1] R:=
 hO [] Tryz.func282 h
abbrev Hd:Type:=(Int×av×Int×Int×Unit)×((Int×ByteArray×Int×Unit)×Unit)
abbrev TC (a c:Int) (b:av) (f:Hd->Prop) (d g:Int) (h:ByteArray) (i:Int) (R:AV->Prop):Prop :=az (decide (a<c)) (0<=a /\a<ab b /\∃e,ae b (af a) .top=.ax (.int .u8 e) /\f ((ag .i64 ((ag .i64 (10*d))+(ag .i64 (ag .u8 (e-48)))),b,c,ag .i64 (a+1),()),((g,h,i,()),()))) (R (.aK [nI d,nI 0]))
abbrev TE (b:Hd) (R:AV->Prop):Prop :=aI _ b fun a c=>TC a.1.2.2.2.1 a.1.2.2.1 a.1.2.1 c a.1.1 a.2.1.1 a.2.1.2.1 a.2.1.2.2.1 R
abbrev agM (b:Int) (a:ByteArray) (d:Int) (R:AV->Prop):Prop :=az (b != 2) (R (.aK [nI 0,nI 1])) (az (ib a (⟨#[]⟩:ByteArray)) (R (.aK [nI 0,nI 1])) (az (decide (((ah a:Nat):Int)>9)) (R (.aK [nI 0,nI 1])) (∃c,pI 252 [nS a,.bz 254 []] (nI c) /\az (c != ((ah a:Nat):Int)) (R (.aK [nI 0,nI 1])) (ah a<=140737488355328 /\TE ((0,jB a,((ab (jB a):Nat):Int),0,()),((b,a,d,()),())) R))))
theorem TG {aT aU bq R} (h:agM aT aU bq R):Pure aj 219 [.agg [nI aT,nS aU,nI bq]] R:=
 hO [la 5 [4,32,33,34]] Tryz.func219 h
end Go.Proofs.YtnkjkpmbgoehkaaGreat
