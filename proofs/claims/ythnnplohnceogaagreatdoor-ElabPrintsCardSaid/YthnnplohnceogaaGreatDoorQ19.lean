/- Lemmas. -/
import Derived.Tactics
import Derived.Tactics2
import Derived.Defers
import Derived.Laws.Pointers
import Derived.Laws.LoneSync
import Derived.RegionTactic
import Derived.RegionCalls
import Derived.ChangeAlike
import Derived.TacticsInMore
import Derived.RegionIn
import Derived.LoopNIn
import Derived.RecoverIn
import Derived.Test.YthnnplohnceogaaGreatDoorChecked
import Derived.Deep.LoopGhost
import Derived.Deep.OwnRows
import Derived.Deep.Light
import Derived.BigGuard
import Derived.Deep.RegionHeld3
import Derived.Deep.AppendLies
import Derived.Deep.DrawnRows
import Derived.Shelf.Small.Strs
import Derived.Test.YthnnplohnceogaaGreatDoorQ18
namespace Go.Proofs.YthnnplohnceogaaGreatDoor
open Go
open Go.Proofs.Tryz
open _root_.List renaming length->ab,getD->ae
open _root_.Int renaming toNat->af
open Go.IntKind renaming wrap->ag
open _root_.ByteArray renaming size->ah
open _root_.True renaming intro->ai
open Go.Proofs.Tryz renaming prog->aj
set_option linter.unusedSimpArgs false
set_option linter.unusedVariables false
set_option maxRecDepth 100000
open Go Go.RowKit
set_option maxRecDepth 1000000
open Go Go.Shelf
@[simp] theorem alr (f:FuncId):Fence.wide.fn f=True:=rfl
@[simp] theorem afz:Fence.wide.depth=none:=rfl
set_option maxHeartbeats 1600000
theorem vd(w:World):(callFunc 252 #[]).run aj w=.ok (.value (.tuple #[])) w:=run_call_mark0 func252 (by kernel_rfl) (by kernel_rfl) (by kernel_rfl) .disable (by kernel_rfl) w
theorem xR(w:World):(callFunc 254 #[]).run aj w=.ok (.value (.tuple #[])) w:=run_call_mark0 func254 (by kernel_rfl) (by kernel_rfl) (by kernel_rfl) .enable (by kernel_rfl) w
theorem F6(a:Addr)(w:World):(callFunc 255 #[.pointer (some a)]).run aj w=.ok (.value (.tuple #[])) w:=run_call_marked func255 (by kernel_rfl) (by kernel_rfl) (by kernel_rfl) .acquire (by kernel_rfl) a w
theorem F7(a:Addr)(w:World):(callFunc 257 #[.pointer (some a)]).run aj w=.ok (.value (.tuple #[])) w:=run_call_marked func257 (by kernel_rfl) (by kernel_rfl) (by kernel_rfl) .releaseMerge (by kernel_rfl) a w
theorem Bt(a:Addr)(x:Value)(u:FrameMode)(w:World)(hc:w.cell? a=some x)(hz:w.frozen? a=false): CallsDIn Fence.wide 0 aj 241 #[.pointer (some a),.bool true] u w λe u' w'=>u'=u/\(e=.returned (.tuple #[])/\w'=w.drew.setCell a (.int .u32 1)):=by (have ND:w.drew.cell? a=some x:=by go_simp);(have SA:w.drew.frozen? a=false:=by go_simp);have tV:=run_call_store (P:=aj) func246 (by kernel_rfl) (by kernel_rfl) (by kernel_rfl) (by kernel_rfl) (k:=.u32) (y:=1) ND SA;gi_enter_d func241,Tryz.ntmps241;gi_wp2;gi_region;all_goals (go_end0;exact⟨rfl,rfl⟩)
theorem MW(a:Addr)(w:World)(hc:w.cell? a=some (.int .i32 0))(hz:w.frozen? a=false): CallsIn Fence.wide 0 aj 250 #[.pointer (some a)] w λe w'=>e=.returned (.tuple #[])/\w'=w.setCell a (.int .i32 1):=by have hd:=vd;have he:=xR;have ha:=F6;have asv:=run_call_cas_hit (P:=aj) func253 (by kernel_rfl) (by kernel_rfl) (by kernel_rfl) .i32 (by kernel_rfl) (y:=1) hc hz;have ND:(w.setCell a (.int .i32 1)).cell? a=some (.int .i32 1):=World.cell?_setCell_same w a _ hc;have YD:=run_convert_to_unsafe (P:=aj) (src:=356) (dst:=266) Tryz.underlying356 Tryz.underlying266 (by kernel_rfl) ND;gi_enter func250,Tryz.ntmps250;gi_wp2;(first|go_end0|(simp only[Exit.inBlock,Exit.then];refine bodyPost_ret (results_none rfl _ _ _) rfl ?_)|refine bodyPost_ret (results_none rfl _ _ _) rfl ?_);all_goals (first|exact⟨rfl,rfl⟩|(gi_wp2;go_end0;exact⟨rfl,rfl⟩))
theorem Rr(a:Addr)(w:World)(hc:w.cell? a=some (.int .i32 0))(hz:w.frozen? a=false): CallsIn Fence.wide 0 aj 248 #[.pointer (some a)] w λe w'=>e=.returned (.tuple #[])/\w'=w.setCell a (.int .i32 1):=by gi_enter func248,Tryz.ntmps248;gi_wp2_with (gi_at_call 250;refine(MW a _ hc hz).mono ?_;rintro e w' ⟨rfl,rfl⟩);go_end0;exact⟨rfl,rfl⟩
theorem F8(a:Addr)(w:World)(hc:w.cell? a=some (.int .i32 1))(hz:w.frozen? a=false): CallsIn Fence.wide 0 aj 251 #[.pointer (some a)] w λe w'=>e=.returned (.tuple #[])/\w'=w.setCell a (.int .i32 0):=by have hd:=vd;have he:=xR;have hr:=F7;have asw:=run_call_add (P:=aj) func258 (by kernel_rfl) (by kernel_rfl) (by kernel_rfl) .i32 (by kernel_rfl) (y := -1) (s:=0) hc hz (by simp[go_sem];rfl);have YD:=run_convert_to_unsafe (P:=aj) (src:=356) (dst:=266) Tryz.underlying356 Tryz.underlying266 (by kernel_rfl) hc;gi_enter func251,Tryz.ntmps251;gi_wp2;all_goals (first|exact⟨rfl,rfl⟩|(go_end0;exact⟨rfl,rfl⟩))
theorem yI(a:Addr)(u:FrameMode)(w:World)(hc:w.cell? a=some (.int .i32 1))(hz:w.frozen? a=false): CallsDIn Fence.wide 0 aj 249 #[.pointer (some a)] u w λe u' w'=>u'=u/\(e=.returned (.tuple #[])/\w'=w.setCell a (.int .i32 0)):=by gi_enter_d func249,Tryz.ntmps249;gi_wp2_with (gi_at_call 251;refine(F8 a _ hc hz).mono ?_;rintro e w' ⟨rfl,rfl⟩);go_end0;exact⟨rfl,rfl⟩
theorem Rs(a:Addr)(x:Value)(w:World)(hc:w.cell? a=some x)(hz:w.frozen? a=false): CallsIn Fence.wide 0 aj 241 #[.pointer (some a),.bool true] w λe w'=>e=.returned (.tuple #[])/\w'=w.drew.setCell a (.int .u32 1):=by (have ND:w.drew.cell? a=some x:=by go_simp);(have SA:w.drew.frozen? a=false:=by go_simp);have tV:=run_call_store (P:=aj) func246 (by kernel_rfl) (by kernel_rfl) (by kernel_rfl) (by kernel_rfl) (k:=.u32) (y:=1) ND SA;gi_enter func241,Tryz.ntmps241;gi_wp2;gi_region;all_goals (go_end0;exact⟨rfl,rfl⟩)
theorem Xv(b off:Nat)(pl:Addr)(x5:Value)(w:World)(hp:w.cell? pl=some (.pointer (some ⟨b,off,none⟩)))(h5:w.cell? ⟨b,off+5,none⟩=some x5)(f5:w.frozen? ⟨b,off+5,none⟩=false): CallsIn Fence.wide 0 aj 240 #[.pointer (some pl)] w λe w'=>e=.returned (.tuple #[])/\w'=w.drew.setCell ⟨b,off+5,none⟩ (.int .u32 1):=by gi_enter func240,Tryz.ntmps240;gi_wp2_with (gi_at_call 241;refine(Rs ⟨b,off+5,none⟩ x5 _ h5 f5).mono ?_;rintro e w' ⟨rfl,rfl⟩);go_end0;exact⟨rfl,rfl⟩
theorem wF(a:Addr)(d:Int)(w:World)(hc:w.cell? a=some (.int .u32 d)): CallsIn Fence.wide 0 aj 236 #[.pointer (some a)] w λe w'=>e=.returned (.bool (d != 0))/\w'=w:=by have hl:=run_call_load (P:=aj) func242 (by kernel_rfl) (by kernel_rfl) (by kernel_rfl) .u32 (by kernel_rfl) hc;gi_enter func236,Tryz.ntmps236;gi_wp2;go_ret;exact⟨rfl,rfl⟩
theorem Xw(b off:Nat)(pl:Addr)(hpb:¬b=pl.block)(x5:Value)(w:World)(hp:w.cell? pl=some (.pointer (some ⟨b,off,none⟩)))(h2:w.cell? ⟨b,off+2,none⟩=some (.int .u32 0))(h3:w.cell? ⟨b,off+3,none⟩=some (.int .i32 0))(h5:w.cell? ⟨b,off+5,none⟩=some x5)(f2:w.frozen? ⟨b,off+2,none⟩=false)(f3:w.frozen? ⟨b,off+3,none⟩=false)(f5:w.frozen? ⟨b,off+5,none⟩=false): CallsIn Fence.wide 0 aj 245 #[.pointer (some ⟨b,off+2,none⟩),.func (.func 240) #[] #[.pointer (some pl)]] w λe w'=>e=.returned (.tuple #[])/\ w'=(((w.setCell ⟨b,off+3,none⟩ (.int .i32 1)).drew.setCell ⟨b,off+5,none⟩ (.int .u32 1)).drew.setCell ⟨b,off+2,none⟩ (.int .u32 1)).setCell ⟨b,off+3,none⟩ (.int .i32 0):=by (have h21:(w.setCell ⟨b,off+3,none⟩ (.int .i32 1)).cell? ⟨b,off+2,none⟩=some (.int .u32 0):=((World.cell?_setCell_other _ ⟨b,off+3,none⟩ ⟨b,off+2,none⟩ _ (by simp)).trans h2);have jW:(w.setCell ⟨b,off+3,none⟩ (.int .i32 1)).cell? pl=some (.pointer (some ⟨b,off,none⟩)):=(World.cell?_setCell_other _ ⟨b,off+3,none⟩ pl _ (λh=>hpb (by rw[<-h]))).trans hp;have h51:(w.setCell ⟨b,off+3,none⟩ (.int .i32 1)).cell? ⟨b,off+5,none⟩=some x5:=(World.cell?_setCell_other _ ⟨b,off+3,none⟩ ⟨b,off+5,none⟩ _ (by simp)).trans h5;have f51:(w.setCell ⟨b,off+3,none⟩ (.int .i32 1)).frozen? ⟨b,off+5,none⟩=false:=by simp[f5]);have akd:∀(x:Bool)(w:World),(Op.unary .not (.bool x)).run aj w=.ok (.bool (!x)) w:=λ_ _=>rfl;gi_enter_defers func245,Tryz.ntmps245;gi_wp2_with (first|(gi_at_call 236;refine(wF ⟨b,off+2,none⟩ 0 _ h21).mono ?_;rintro e w' ⟨rfl,rfl⟩)|(gi_at_call 248;refine(Rr ⟨b,off+3,none⟩ _ (by go_simp) (by go_simp)).mono ?_;rintro e w' ⟨rfl,rfl⟩)|(gi_at_call 240;refine(Xv b off pl x5 _ jW h51 f51).mono ?_;rintro e w' ⟨rfl,rfl⟩));refine leavesIn_cons (f:=241) (args:=#[.pointer (some ⟨b,off+2,none⟩),.bool true]) (by simp) (by simp) (by simp[go_sem]) (by simp[Target.leads]) ?_;refine(Bt ⟨b,off+2,none⟩ (.int .u32 0) .returning _ ?_ (by simp[f2])).mono ?_;rw[World.cell?_drew];exact(World.cell?_setCell_other _ ⟨b,off+5,none⟩ ⟨b,off+2,none⟩ _ (by simp)).trans ((World.cell?_setCell_other _ ⟨b,off+3,none⟩ ⟨b,off+2,none⟩ _ (by simp)).trans h2);rintro e u' w'' ⟨rfl,rfl,rfl⟩;refine leavesIn_cons (f:=249) (args:=#[.pointer (some ⟨b,off+3,none⟩)]) (by simp[settle]) (by simp) (by simp[go_sem]) (by simp[Target.leads]) ?_;refine(yI ⟨b,off+3,none⟩ _ _ ?_ (by simp[f3])).mono ?_;refine(World.cell?_setCell_other _ ⟨b,off+2,none⟩ ⟨b,off+3,none⟩ _ (by simp)).trans ?_;rw[World.cell?_drew,World.cell?_drew];refine(World.cell?_setCell_other _ ⟨b,off+5,none⟩ ⟨b,off+3,none⟩ _ (by simp)).trans ?_;exact World.cell?_setCell_same w _ _ h3;rintro e u' w'' ⟨rfl,rfl,rfl⟩;simp[LeavesIn,settle,results,Tryz.results245];go_simp
set_option maxRecDepth 100000 in
set_option maxHeartbeats 1600000 in
theorem MX(b off:Nat)(pl:Addr)(hpb:¬b=pl.block)(x5:Value)(w:World)(hp:w.cell? pl=some (.pointer (some ⟨b,off,none⟩)))(h2:w.cell? ⟨b,off+2,none⟩=some (.int .u32 0))(h3:w.cell? ⟨b,off+3,none⟩=some (.int .i32 0))(h5:w.cell? ⟨b,off+5,none⟩=some x5)(f2:w.frozen? ⟨b,off+2,none⟩=false)(f3:w.frozen? ⟨b,off+3,none⟩=false)(f5:w.frozen? ⟨b,off+5,none⟩=false): CallsIn Fence.wide 0 aj 239 #[.pointer (some ⟨b,off+2,none⟩),.func (.func 240) #[] #[.pointer (some pl)]] w λe w'=>e=.returned (.tuple #[])/\ w'=(((w.setCell ⟨b,off+3,none⟩ (.int .i32 1)).drew.setCell ⟨b,off+5,none⟩ (.int .u32 1)).drew.setCell ⟨b,off+2,none⟩ (.int .u32 1)).setCell ⟨b,off+3,none⟩ (.int .i32 0):=by have akd:∀(x:Bool)(w:World),(Op.unary .not (.bool x)).run aj w=.ok (.bool (!x)) w:=λ_ _=>rfl;gi_enter func239,Tryz.ntmps239;gi_wp2_with (first|(gi_at_call 236;refine(wF ⟨b,off+2,none⟩ 0 _ h2).mono ?_;rintro e w' ⟨rfl,rfl⟩)|(gi_at_call 245;refine(Xw b off pl hpb x5 _ hp h2 h3 h5 f2 f3 f5).mono ?_;rintro e w' ⟨rfl,rfl⟩));go_end0;exact⟨rfl,rfl⟩
theorem MY(a:Addr)(d:Int)(hd:¬d=0)(fv:Value)(w:World)(h0:w.cell? a=some (.int .u32 d)): CallsIn Fence.wide 0 aj 239 #[.pointer (some a),fv] w λe w'=>e=.returned (.tuple #[])/\w'=w:=by (have akd:∀(x:Bool)(w:World),(Op.unary .not (.bool x)).run aj w=.ok (.bool (!x)) w:=λ_ _=>rfl;have eJ:(d != 0)=true:=by simp[hd]);gi_enter func239,Tryz.ntmps239;gi_wp2_with (gi_at_call 236;refine(wF a d _ h0).mono ?_;rintro e w' ⟨rfl,rfl⟩);go_end0;exact⟨rfl,rfl⟩
section
set_option maxHeartbeats 1600000
variable {w w' w1 w2:World} {F:Nat->Nat->Prop} {η bh oS yT:List Value} {hp hp' jW yp:List ax} {r r1 r2:AV} {v v1 v2:Value}
theorem ji{u v:Value}(h:bo w F η hp (.ay u) v):v=u:=by cases h;rfl
end
theorem Rt{w w':World}{F:Nat->Nat->Prop}{e z:Nat}{els gX cs eL:List AV}{v0:Value}{b:Nat}(bz:qI w F [v0,.pointer (some ⟨b,0,none⟩)] [.aW e z els,.box cs])(hlen:gX.length=els.length)(hk:cy (λk=>da v0=some k\/k=b) w w')(oW:Ext w F [v0,.pointer (some ⟨b,0,none⟩)] [.aW e z els,.box cs] w' (dh F w [v0,.pointer (some ⟨b,0,none⟩)] [.aW e z els,.box cs] w' [v0,.pointer (some ⟨b,0,none⟩)] [.aW e z gX,.box eL]) [v0,.pointer (some ⟨b,0,none⟩)] [.aW e z gX,.box eL]-> (∀k o,w.heap.size<=k->k<w'.heap.size->dh F w [v0,.pointer (some ⟨b,0,none⟩)] [.aW e z els,.box cs] w' [v0,.pointer (some ⟨b,0,none⟩)] [.aW e z gX,.box eL] k o)-> iO w' (dh F w [v0,.pointer (some ⟨b,0,none⟩)] [.aW e z els,.box cs] w' [v0,.pointer (some ⟨b,0,none⟩)] [.aW e z gX,.box eL]) [v0,.pointer (some ⟨b,0,none⟩)] [.aW e z gX,.box eL] (.aW e z gX) v0/\ iO w' (dh F w [v0,.pointer (some ⟨b,0,none⟩)] [.aW e z els,.box cs] w' [v0,.pointer (some ⟨b,0,none⟩)] [.aW e z gX,.box eL]) [v0,.pointer (some ⟨b,0,none⟩)] [.aW e z gX,.box eL] (.box eL) (.pointer (some ⟨b,0,none⟩))): ma w F [v0,.pointer (some ⟨b,0,none⟩)] [.aW e z els,.box cs] w' [v0,.pointer (some ⟨b,0,none⟩)] [.aW e z gX,.box eL] (.aG []) (.tuple #[]):=by (have Xx:∀k,da v0=some k->aU [v0,.pointer (some ⟨b,0,none⟩)] [.aW e z els,.box cs] k:=λk h=>⟨0,_,_,rfl,ai,rfl,h⟩;have mg:aU [v0,.pointer (some ⟨b,0,none⟩)] [.aW e z els,.box cs] b:=⟨1,_,_,rfl,ai,rfl,rfl⟩;have lt0:∀k,da v0=some k->k<w.heap.size:=λk h=>bz.live k (Xx k h);have NP:b<w.heap.size:=bz.live b mg;have aE:∀k o,F k o->k<w.heap.size/\¬(da v0=some k\/k=b):=λk o hf=>⟨(bz.bC k o hf).1,λh=>h.elim (λh=>(bz.bC k o hf).2 0 _ rfl h) λh=>(bz.bC k o hf).2 1 _ rfl (by rw[h];rfl)⟩;have Xy:∀k o,(da v0=some k->False)->(k=b->False)->ke [v0,.pointer (some ⟨b,0,none⟩)] [.aW e z gX,.box eL] k o:=λk o h0 h1 r u e1 e2=>by match r,e1 with|0,e1=>cases e1;exact(h0 e2).elim|1,e1=>cases e1;exact(h1 (by simp only[da,aug]at e2;exact e2.symm)).elim);have iP:∀k o,F k o->dh F w [v0,.pointer (some ⟨b,0,none⟩)] [.aW e z els,.box cs] w' [v0,.pointer (some ⟨b,0,none⟩)] [.aW e z gX,.box eL] k o:=λk o hf=> ⟨.inl hf,auK (aE k o hf).1 hk.size,Xy k o (λh=>(aE k o hf).2 (.inl h)) λh=>(aE k o hf).2 (.inr h)⟩;have sv:∀k o,w.heap.size<=k->k<w'.heap.size->dh F w [v0,.pointer (some ⟨b,0,none⟩)] [.aW e z els,.box cs] w' [v0,.pointer (some ⟨b,0,none⟩)] [.aW e z gX,.box eL] k o:=λk o h1 h2=> ⟨.inr (.inl h1),h2,Xy k o (λh=>by have:=lt0 k h;omega) λh=>by omega⟩;(have eD:Ext w F [v0,.pointer (some ⟨b,0,none⟩)] [.aW e z els,.box cs] w' (dh F w [v0,.pointer (some ⟨b,0,none⟩)] [.aW e z els,.box cs] w' [v0,.pointer (some ⟨b,0,none⟩)] [.aW e z gX,.box eL]) [v0,.pointer (some ⟨b,0,none⟩)] [.aW e z gX,.box eL]:=by refine⟨λk o u hf hc=>?_,λk es c hf hc=>?_,iP,λr a h=>h,λr a h=>h,λr n u h=>?_⟩;simp only[World.cell?]at hc ⊢;rw[hk.block k (aE k o hf).1 (aE k o hf).2];exact hc;rw[hk.block k (aE k 0 hf).1 (aE k 0 hf).2];exact hc;match r,h with|0,h=>unfold bk at h ⊢;simp only[au4]at h ⊢;rw[hlen];exact h|1,h=>exact h.elim|r+2,h=>exact h.elim);obtain⟨o0,o1⟩:=oW eD sv;refine⟨⟨hk.os,hk.tape,hk.output,hk.size,λk h1 h2=>hk.block k h1 λh=>h2 (h.elim (Xx k) λh=>h▸mg)⟩,eD,⟨rfl,λr o u h1 h2=>?_,λr r' o o' u u' k bV h1 h2 l1 l2 e1 e2 hb=>?_⟩,λk ⟨r,o,u,h1,h2,h3,h4⟩=>?_,.aG [] #[] rfl λj y u hy _=>by cases hy⟩;(match r,h1,h2 with|0,h1,h2=>cases h1;cases h2;exact o0|1,h1,h2=>cases h1;cases h2;exact o1);have:=λe1 e2=>bz.heap.sep 0 1 (.aW e z els) (.box cs) v0 (.pointer (some ⟨b,0,none⟩)) k (by decide) rfl rfl ai ai rfl rfl e1 e2;(match r,r',h1,h2 with|0,0,_,_=>exact(bV rfl).elim|1,1,_,_=>exact(bV rfl).elim|0,1,_,_=>cases e1;cases e2;exact λh=>this hb h|1,0,_,_=>cases e1;cases e2;exact λh=>this h hb);match r,h1,h3 with|0,_,h3=>cases h3;exact .inr (Xx k h4)|1,_,h3=>cases h3;simp only[da,aug]at h4;exact .inr (h4▸mg)
section
set_option maxHeartbeats 3200000
attribute [local go_sem ↓] Go.wp_at_zero Go.wp_at_succ
structure fU(w0 w:World)(b g:Nat)(vs:Array Value)(T:TypeId)(cur:Array Value)(T2:TypeId):Prop where
 os:w.os=w0.os
 tape:w.tape=w0.tape
 output:w.output=w0.output
 size:w0.heap.size<=w.heap.size
 Xy:∀k,k<w0.heap.size->k≠b->k≠g->w.heap[k]?=w0.heap[k]?
 box:w.heap[b]?=some (.cells vs T (0,0))
 row:w.heap[g]?=some (.cells cur T2 (0,0))
theorem iD{w:World}{k:Nat}{o:Obj}(h:w.heap[k]?=some o):k<w.heap.size:=(auW.1 h).1
section
variable {w0 w w':World} {b g:Nat} {vs cur:Array Value} {T T2:TypeId}
theorem fU.start(hb:w.heap[b]?=some (.cells vs T (0,0)))(hg:w.heap[g]?=some (.cells cur T2 (0,0))):fU w w b g vs T cur T2:=⟨rfl,rfl,rfl,aum _,λ_ _ _ _=>rfl,hb,hg⟩
theorem fU.since(h:fU w0 w b g vs T cur T2)(hs:w.Since w.heap.size w'):fU w0 w' b g vs T cur T2:=⟨hs.os.trans h.os,hs.tape.trans h.tape,hs.output.trans h.output,auM h.size hs.size,λk h1 h2 h3=>(hs.block k (auK h1 h.size)).trans (h.Xy k h1 h2 h3),(hs.block b (iD h.box)).trans h.box,(hs.block g (iD h.row)).trans h.row⟩
theorem fU.alloc(h:fU w0 w b g vs T cur T2)(o:Obj):fU w0 (w.alloc o) b g vs T cur T2:=h.since ((World.Since.refl _ _).alloc (aum _) _)
theorem fU.drew(h:fU w0 w b g vs T cur T2):fU w0 w.drew b g vs T cur T2:=h.since (World.Since.refl _ _).drew
theorem fx{w:World}{k:Nat}{cs:Array Value}{U:TypeId}(hb:w.heap[k]?=some (.cells cs U (0,0)))(j:Nat)(v:Value):(w.setCell ⟨k,j,none⟩ v).heap[k]?=some (.cells (cs.setIfInBounds j v) U (0,0)):=heap_setCell_same w k j cs U v hb
theorem fU.nM(h:fU w0 w b g vs T cur T2){k:Nat}(hb:k≠b)(hg:k≠g)(hk:w0.heap.size<=k)(j:Nat)(v:Value):fU w0 (w.setCell ⟨k,j,none⟩ v) b g vs T cur T2:=⟨h.os,h.tape,h.output,by simpa using h.size,λi h1 h2 h3=>(heap_setCell_other _ _ _ _ (show i≠k by omega)).trans (h.Xy i h1 h2 h3),(heap_setCell_other _ _ _ _ (avU hb)).trans h.box,(heap_setCell_other _ _ _ _ (avU hg)).trans h.row⟩
theorem fU.afA(h:fU w0 w b g vs T cur T2)(bV:b≠g)(j:Nat)(v:Value):fU w0 (w.setCell ⟨b,j,none⟩ v) b g (vs.setIfInBounds j v) T cur T2:=⟨h.os,h.tape,h.output,by simpa using h.size,λi h1 h2 h3=>(heap_setCell_other _ _ _ _ h2).trans (h.Xy i h1 h2 h3),fx h.box j v,(heap_setCell_other _ _ _ _ (avU bV)).trans h.row⟩
theorem fU.setRow(h:fU w0 w b g vs T cur T2)(bV:b≠g)(j:Nat)(v:Value):fU w0 (w.setCell ⟨g,j,none⟩ v) b g vs T (cur.setIfInBounds j v) T2:=⟨h.os,h.tape,h.output,by simpa using h.size,λi h1 h2 h3=>(heap_setCell_other _ _ _ _ h3).trans (h.Xy i h1 h2 h3),(heap_setCell_other _ _ _ _ bV).trans h.box,fx h.row j v⟩
theorem cell_of{w:World}{k j:Nat}{cs:Array Value}{U:TypeId}{v:Value}(hb:w.heap[k]?=some (.cells cs U (0,0)))(hv:cs[j]?=some v):w.cell? ⟨k,j,none⟩=some v:=by simp[World.cell?,hb,hv]
theorem tv{w:World}{k j:Nat}{cs:Array Value}{U:TypeId}(hb:w.heap[k]?=some (.cells cs U (0,0))):w.frozen? ⟨k,j,none⟩=false:=by simp[World.frozen?,hb]
end
def nN(N0:Nat)(w:World)(v:Value)(k:Nat):Prop:=(k=0/\∃a,v=.slice a 0 0)\/∃N cap cs,v=.slice (some ⟨N,0,none⟩) k cap/\N0<=N/\w.heap[N]?=some (.cells cs 119 (0,0))/\0<k/\k<=cap/\cap<=maxLen/\cs.size=cap*4/\∀u∈cs.toList.take (k*4),u.oneCell'=true
def MZ(v:Value)(k:Nat):Option Nat:=if k=0 then none else v.ownBlock
theorem Ru:(aj.info? 119).map (λi=>(i.zero,i.size,i.bytes))=some (some (.agg #[.int .i64 0,.string ⟨#[]⟩,.int .i64 0,.slice none 0 0]),4,56):=by kernel_rfl
theorem Rv{N0 k B:Nat}{w:World}{v:Value}{ty:TypeId}{c0 c1 c2 c3:Value}{fr:Nat×Nat}(h:nN N0 w v k)(hk:k<=1000)(hN:N0<=w.heap.size)(hB:w.heap[B]?=some (.cells #[c0,c1,c2,c3] 119 fr))(h1:c0.oneCell'=true/\c1.oneCell'=true/\c2.oneCell'=true/\c3.oneCell'=true): ∃N cap w',(Builtin.append_ #[45,45] ty #[v,.slice (some ⟨B,0,none⟩) 1 1]).run aj w=.ok (.slice (some ⟨N,0,none⟩) (k+1) cap) w'/\nN N0 w' (.slice (some ⟨N,0,none⟩) (k+1) cap) (k+1)/\w.grownBy w' (MZ v k)/\N<w'.heap.size/\(MZ v k=some N\/w.heap.size<=N):=by (obtain⟨i0,Cq,Si,Zl,Hz⟩:=info_parts Ru;have qz:=World.news_of_block hB;have tW:∀u∈[c0,c1,c2,c3],u.oneCell'=true:=λu hu=>by simp only[auJ,avz,or_false]at hu;rcases hu with rfl|rfl|rfl|rfl<;>first|exact h1.1|exact h1.2.1|exact h1.2.2.1|exact h1.2.2.2);have new:∀o:Obj,w.grownBy (w.drew.alloc o) none:=λo=>⟨rfl,rfl,rfl,by simp,λj hj _=>by rw[heap_alloc_old _ _ (by simpa using hj)];rfl⟩;rcases h with⟨rfl,a,rfl⟩|⟨N,cap,cs,rfl,hN0,hg,w7,hkc,hm,gK,ho⟩;have fh:=λnX=>grownCap_ge w 1 nX 119;have hle:=λnX=>grownCap_le_maxLen w 1 nX 119 (by simp only[maxLen];omega);have fin:∀(nX:Nat)(cs:Array Value),cs.size=grownCap w 1 nX 119*4->cs.toList.take 4=[c0,c1,c2,c3]->nN N0 (w.drew.alloc (.cells cs 119)) (.slice (some ⟨w.heap.size,0,none⟩) 1 (grownCap w 1 nX 119)) 1/\w.grownBy (w.drew.alloc (.cells cs 119)) (MZ (.slice a 0 0) 0)/\w.heap.size<(w.drew.alloc (.cells cs 119)).heap.size/\(MZ (.slice a 0 0) 0=some w.heap.size\/w.heap.size<=w.heap.size):= λnX cs gK ht=>⟨.inr ⟨w.heap.size,_,cs,rfl,hN,heap_alloc_new w.drew _,by omega,fh nX,hle nX,gK,λu hu=>tW u (by rw[Nat.one_mul,ht]at hu;exact hu)⟩,new _,by simp,.inr (aum _)⟩;(have hz4:∀n:Nat,([c0,c1,c2,c3].toArray++Builtin.zeroCells (Value.agg #[.int .i64 0,.string ⟨#[]⟩,.int .i64 0,.slice none 0 0]).cells (grownCap w 1 n 119-1)).size=grownCap w 1 n 119*4:=λn=>by have:=fh n;simp only[Array.size_append,avO,size_zeroCells,Value.cells,aur,auV];omega);(cases a with|none=>have:=run_append_nil (P:=aj) w 45 ty 119 i0 _ (Tryz.underlying45) Cq Si ⟨B,0,none⟩ 1 1 [c0,c1,c2,c3] (by rw[Zl];rfl) qz (by omega) (by omega) (by rw[Hz];omega);exact⟨_,_,_,this,fin 0 _ (hz4 0) (by rw[Array.toList_append];rfl)⟩|some ad=>have:=run_append_grow (P:=aj) w 45 ty 119 i0 _ (Tryz.underlying45) Cq Si ad 0 0 [] (by simp) (λj u hj=>by simp at hj) ⟨B,0,none⟩ 1 1 [c0,c1,c2,c3] (by rw[Zl];rfl) qz (by omega) (by omega) (growslice_fits (by omega) (by rw[Hz];omega));rw[show ([]:List Value).toArray++[c0,c1,c2,c3].toArray=[c0,c1,c2,c3].toArray from rfl]at this;exact⟨_,_,_,this,fin 0 _ (hz4 0) (by rw[Array.toList_append];rfl)⟩);obtain⟨g,ake,w',e1,e2,e3,e4,e5⟩:=run_append_lies (P:=aj) w 45 ty N0 119 i0 _ 4 56 (Tryz.underlying45) Cq Si Zl Hz rfl (by omega) (.slice (some ⟨N,0,none⟩) k cap) k (cs.toList.take (k*4)) ⟨by rw[au0,auX,gK];exact avV (by omega),.inr ⟨N,cap,cs,rfl,hN0,hg,hkc,hm,gK,rfl⟩⟩ ⟨B,0,none⟩ 1 1 [c0,c1,c2,c3] rfl qz tW (by omega) (by simp only[maxLen];omega) (by omega) hN w.heap.size rfl;(have hkn:¬k=0:=by omega);refine⟨g,ake,w',e1,.inr ?_,by rw[MZ,if_neg hkn];exact e3,e5,by rw[MZ,if_neg hkn];exact e4.imp id (λh=>by omega)⟩;rcases e2.2 with⟨h0,_⟩|⟨g2,c2',cs2,e6,e7,e8,e9,e10,e11,e12⟩;cases h0;cases e6;exact⟨_,_,cs2,rfl,e7,e8,by omega,e9,e10,e11,λu hu=>by rw[e12]at hu;exact(auQ.1 hu).elim (ho u) (tW u)⟩
theorem Bu{N0 k B:Nat}{w:World}{v:Value}{c0 c1 c2 c3:Value}{fr:Nat×Nat}{ops:Array Oper}{o:Oper}{a:Act}{K:Act->World->Prop}{Q:Exit->Act->World->Prop}{E:Prop}(hgd:o.guard=none)(s x:Operand)(ho:o.op=.call { callee:=.builtin .append,args:=#[s,x],argTypes:=#[45,45] })(hs:a.eval s=v)(hx:a.eval x=.slice (some ⟨B,0,none⟩) 1 1)(hn:nN N0 w v k)(hk:k<=1000)(hN:N0<=w.heap.size)(hB:w.heap[B]?=some (.cells #[c0,c1,c2,c3] 119 fr))(h1:c0.oneCell'=true/\c1.oneCell'=true/\c2.oneCell'=true/\c3.oneCell'=true)(h:∀N cap w',nN N0 w' (.slice (some ⟨N,0,none⟩) (k+1) cap) (k+1)->w.grownBy w' (MZ v k)->N<w'.heap.size->(MZ v k=some N\/w.heap.size<=N)->K (a.put o.dst (.slice (some ⟨N,0,none⟩) (k+1) cap)) w'): if Region.wanted o (yielded ops a.tmps)=true then Oper.wp aj o a w K Q else E:=by (have hw:Region.wanted o (yielded ops a.tmps)=true:=by simp[Region.wanted,hgd]);rw[if_pos hw];obtain⟨N,cap,w',hr,h2,h3,h4,h5⟩:=Rv (ty:=o.type) hn hk hN hB h1;unfold Oper.wp execOp;simp only[ho,resolve,invoke,builtin,Sem.run_bind,Sem.run_pure,Result.andThen_ok,avE,auL,auY,hs,hx,hr];exact h N cap w' h2 h3 h4 h5
def ndC(w:World)(N i:Nat):Value:=(w.cell? ⟨N,i,none⟩).getD undef
theorem afB{N0 k N cap:Nat}{w:World}(h:nN N0 w (.slice (some ⟨N,0,none⟩) (k+1) cap) (k+1)):∃cs,w.heap[N]?=some (.cells cs 119 (0,0))/\N0<=N/\k+1<=cap/\cap<=maxLen/\cs.size=cap*4:=by rcases h with⟨h0,_⟩|⟨N',ake,cs,e,h1,h2,h3,h4,h5,h6,_⟩;omega;cases e;exact⟨cs,h2,h1,h4,h5,h6⟩
theorem kz{N0 k N cap:Nat}{w:World}(h:nN N0 w (.slice (some ⟨N,0,none⟩) (k+1) cap) (k+1))(j:Nat)(hj:j<(k+1)*4):w.cell? ⟨N,j,none⟩=some (ndC w N j)/\w.frozen? ⟨N,j,none⟩=false:=by (obtain⟨cs,h1,_,h2,_,h3⟩:=afB h;have aE:j<cs.size:=by omega);have:=cell_of h1 (ava aE);exact⟨by rw[ndC,this];rfl,tv h1⟩
theorem wG{N0 k:Nat}{w:World}{v u:Value}(h:nN N0 w v k)(b i:Nat)(hu:u.oneCell'=true):nN N0 (w.setCell ⟨b,i,none⟩ u) v k:=by
 rcases h with h|⟨N,cap,cs,e,h1,h2,h3,h4,h5,h6,h7⟩;exact .inl h
 ·by_cases hb:N=b
  ·subst hb;exact .inr ⟨N,cap,_,e,h1,fx h2 i u,h3,h4,h5,by rw[avY];exact h6,λx hx=>by rw[Array.toList_setIfInBounds,List.take_set]at hx;rcases List.mem_or_eq_of_mem_set hx with hx|rfl;exact h7 x hx;·exact hu⟩
  exact .inr ⟨N,cap,cs,e,h1,(heap_setCell_other _ _ _ _ hb).trans h2,h3,h4,h5,h6,h7⟩
theorem PH{w1 w2:World}{M:Nat}{row:Option Nat}{v0 v1 v2 v3:Value}(hg:w1.grownBy w2 row)(hr:some M≠row)(h:w1.cell? ⟨M,0,none⟩=some v0/\w1.cell? ⟨M,1,none⟩=some v1/\w1.cell? ⟨M,2,none⟩=some v2/\w1.cell? ⟨M,3,none⟩=some v3): w2.cell? ⟨M,0,none⟩=some v0/\w2.cell? ⟨M,1,none⟩=some v1/\w2.cell? ⟨M,2,none⟩=some v2/\w2.cell? ⟨M,3,none⟩=some v3:=⟨hg.cell h.1 hr,hg.cell h.2.1 hr,hg.cell h.2.2.1 hr,hg.cell h.2.2.2 hr⟩
theorem JK{w1 w2:World}(hg:w1.grownBy w2 none):w1.Since w1.heap.size w2:=⟨hg.os,hg.tape,hg.output,hg.size,λk hk=>hg.block k hk (by simp)⟩
def ve(b:Nat)(e:Int)(w:World):World:=if e=0 then w else w.setCell ⟨b,4,none⟩ (.int .i64 1)
theorem DX(b:Nat)(e c:Int)(w:World)(h4:w.cell? ⟨b,4,none⟩=some (.int .i64 c))(f4:w.frozen? ⟨b,4,none⟩=false): Calls aj 52 #[.pointer (some ⟨b,0,none⟩),.int .i64 e] w λr w'=>r=.returned (.tuple #[])/\w'=ve b e w:=by go_enter func52,Tryz.ntmps52;by_cases h:e=0;subst h;go_wp2;go_end0;exact⟨rfl,rfl⟩;go_wp2;go_end0;exact⟨rfl,(if_neg h).symm⟩
theorem Xz{w1 w2:World}{b m:Nat}{s0 s1 s2 ta tb:Value}(hs:w1.Since w1.heap.size w2)(h:w1.cell? ⟨b,0,none⟩=some s0/\w1.cell? ⟨b,1,none⟩=some s1/\w1.cell? ⟨b,2,none⟩=some s2/\w1.cell? ⟨m,0,none⟩=some ta/\w1.cell? ⟨m,1,none⟩=some tb): w2.cell? ⟨b,0,none⟩=some s0/\w2.cell? ⟨b,1,none⟩=some s1/\w2.cell? ⟨b,2,none⟩=some s2/\w2.cell? ⟨m,0,none⟩=some ta/\w2.cell? ⟨m,1,none⟩=some tb:=by obtain⟨k0,k1,k2,k3,k4⟩:=h;exact⟨(hs.cell (World.block_lt_of_cell? _ _ k0)).trans k0,(hs.cell (World.block_lt_of_cell? _ _ k1)).trans k1,(hs.cell (World.block_lt_of_cell? _ _ k2)).trans k2,(hs.cell (World.block_lt_of_cell? _ _ k3)).trans k3,(hs.cell (World.block_lt_of_cell? _ _ k4)).trans k4⟩
theorem akf{w1:World}{o o':Obj}{b m:Nat}{s0 s1 s2 ta tb:Value}(hb:b<w1.heap.size)(hm:m<w1.heap.size)(h:(w1.alloc o).cell? ⟨b,0,none⟩=some s0/\(w1.alloc o).cell? ⟨b,1,none⟩=some s1/\(w1.alloc o).cell? ⟨b,2,none⟩=some s2/\(w1.alloc o).cell? ⟨m,0,none⟩=some ta/\(w1.alloc o).cell? ⟨m,1,none⟩=some tb): (w1.alloc o').cell? ⟨b,0,none⟩=some s0/\(w1.alloc o').cell? ⟨b,1,none⟩=some s1/\(w1.alloc o').cell? ⟨b,2,none⟩=some s2/\(w1.alloc o').cell? ⟨m,0,none⟩=some ta/\(w1.alloc o').cell? ⟨m,1,none⟩=some tb:=by have e:∀(a:Addr),a.block<w1.heap.size->(w1.alloc o').cell? a=(w1.alloc o).cell? a:=λa ha=>World.cell?_of_block ((heap_alloc_old w1 o' ha).trans (heap_alloc_old w1 o ha).symm);rwa [e ⟨b,0,none⟩ hb,e ⟨b,1,none⟩ hb,e ⟨b,2,none⟩ hb,e ⟨m,0,none⟩ hm,e ⟨m,1,none⟩ hm]
theorem afC{w1 w':World}{cs:Array Value}{t:TypeId}{N:Nat}(hN:w1.heap.size=N)(hs:(w1.alloc (.cells cs t)).Since (w1.alloc (.cells cs t)).heap.size w'):w'.heap[N]?=some (.cells cs t (0,0)):=by subst hN;exact(hs.block _ (by simp)).trans (heap_alloc_new _ _)
theorem akg{w1 w':World}{x0 x1 x2 x3:Value}{t:TypeId}{N:Nat}(hN:w1.heap.size=N)(hs:(w1.alloc (.cells #[x0,x1,x2,x3] t)).Since (w1.alloc (.cells #[x0,x1,x2,x3] t)).heap.size w'): (w'.cell? ⟨N,0,none⟩=some x0/\w'.cell? ⟨N,1,none⟩=some x1/\w'.cell? ⟨N,2,none⟩=some x2/\w'.cell? ⟨N,3,none⟩=some x3)/\w'.frozen? ⟨N,0,none⟩=false/\w'.frozen? ⟨N,1,none⟩=false/\w'.frozen? ⟨N,2,none⟩=false/\w'.frozen? ⟨N,3,none⟩=false:=by have h:=afC hN hs;simp[World.cell?,World.frozen?,h]
theorem gI{w w1:World}(h:w.Since w.heap.size w1)(o:Obj):w.Since w.heap.size (w1.alloc o):=h.alloc h.size _
theorem XA(b g m n c:Nat)(s0 s1 s2:Value)(e er:Int)(ta tb:Value)(T T2:TypeId)(cur:Array Value)(v5:Value)(w:World)(bV:b≠g)(hn:n<=1000000)(hm:m=n+1)(hbx:w.heap[b]?=some (.cells #[s0,s1,s2,.slice (some ⟨g,0,none⟩) m c,.int .i64 e] T (0,0)))(hgx:w.heap[g]?=some (.cells cur T2 (0,0)))(h5:cur[n*5+2]?=some v5)(hv5:∃a,v5=.slice a 0 0)(eg:∀w1,w.Since w.heap.size w1->Calls aj 51 #[.agg #[s0,s1,s2],.agg #[ta,tb]] w1 λr w2=>(∃x0 x1 x2 x3 x4 x5,r=.returned (.tuple #[.agg #[.int .i64 x0,.string x1,.int .i64 x2,.slice x3 x4 x5],.int .i64 er]))/\w1.Since w1.heap.size w2): Calls aj 18 #[.pointer (some ⟨b,0,none⟩),.agg #[ta,tb]] w λr w'=>r=.returned (.tuple #[])/\∃N cap,fU w w' b g #[s0,s1,s2,.slice (some ⟨g,0,none⟩) m c,.int .i64 (if er=0 then e else 1)] T (cur.setIfInBounds (n*5+2) (.slice (some ⟨N,0,none⟩) 1 cap)) T2/\nN w.heap.size w' (.slice (some ⟨N,0,none⟩) 1 cap) 1:=by
 obtain⟨a,rfl⟩:=hv5;have h0:w.cell? ⟨b,0,none⟩=some s0:=cell_of hbx rfl;have h1:w.cell? ⟨b,1,none⟩=some s1:=cell_of hbx rfl;have h2:w.cell? ⟨b,2,none⟩=some s2:=cell_of hbx rfl;have hb:b<w.heap.size:=World.block_lt_of_cell? _ _ h0;have hL:=fU.start hbx hgx;have n3:w.heap.size+1≠b:=by omega
 have n4:w.heap.size≠b:=by omega
 have n5:g<w.heap.size:=iD hgx;go_enter func18,Tryz.ntmps18;go_wp2_with fail;go_region_held3 (λw'=>w'.cell? ⟨b,0,none⟩=some s0/\w'.cell? ⟨b,1,none⟩=some s1/\w'.cell? ⟨b,2,none⟩=some s2/\w'.cell? ⟨w.heap.size,0,none⟩=some ta/\w'.cell? ⟨w.heap.size,1,none⟩=some tb)
  (first|go_keep|exact Xz hs ‹_›| exact akf n1 n2 ‹_›)
  (first
   |(go_at_call 51;refine(eg _ (gI (gI (.refl _ _) _).drew _)).mono ?_;rintro r w' ⟨⟨x0,x1,x2,x3,x4,x5,rfl⟩,hs⟩;have hz:=hs.size;simp only[World.size_alloc,World.size_drew]at hz;have n1:b<w'.heap.size:=(by omega);have n2:w.heap.size<w'.heap.size:=(by omega);have c4:=akg (N:=w.heap.size+1) (by simp) hs)
   |(go_at_call 51;refine(eg _ (gI (.refl _ _) _).drew).mono ?_;rintro r w' ⟨⟨x0,x1,x2,x3,x4,x5,rfl⟩,hs⟩;have hz:=hs.size;simp only[World.size_alloc,World.size_drew]at hz;have n1:b<w'.heap.size:=(by omega);have n2:w.heap.size<w'.heap.size:=(by omega)))
 all_goals first
  |(have hc:=c4
    have ZG:=(hL.since (gI (gI (.refl _ _) _).drew _)).since hs;have hW:=(((ZG.nM n3 (by omega) (by omega) 0 (.int .i64 x0)).nM n3 (by omega) (by omega) 1 (.string x1)).nM n3 (by omega) (by omega) 2 (.int .i64 x2)).nM n3 (by omega) (by omega) 3 (.slice x3 x4 x5);have hM:=fx (fx (fx (fx (afC (N:=w.heap.size+1) (by simp) hs) 0 (.int .i64 x0)) 1 (.string x1)) 2 (.int .i64 x2)) 3 (.slice x3 x4 x5);have hMl:w.heap.size<w.heap.size+1:=by omega
    generalize (((w'.setCell ⟨w.heap.size+1,0,none⟩ (.int .i64 x0)).setCell ⟨w.heap.size+1,1,none⟩ (.string x1)).setCell ⟨w.heap.size+1,2,none⟩ (.int .i64 x2)).setCell ⟨w.heap.size+1,3,none⟩ (.slice x3 x4 x5)=W at *;clear hs n1 n2 hz hc c4 ZG;generalize w.heap.size+1=M at *
    have hM:W.heap[M]?=some (.cells #[.int .i64 x0,.string x1,.int .i64 x2,.slice x3 x4 x5] 119 (0,0)):=hM)
  |(have hW:fU w (w'.alloc (.cells #[.int .i64 x0,.string x1,.int .i64 x2,.slice x3 x4 x5] 119)) b g _ T cur T2:=((hL.since (gI (.refl _ _) _).drew).since hs).alloc _
    have hM:(w'.alloc (.cells #[.int .i64 x0,.string x1,.int .i64 x2,.slice x3 x4 x5] 119)).heap[w'.heap.size]?=some (.cells #[.int .i64 x0,.string x1,.int .i64 x2,.slice x3 x4 x5] 119 (0,0)):=heap_alloc_new _ _;have hMl:w.heap.size<w'.heap.size:=n2;clear hs n1 n2 hz;generalize w'.alloc (.cells #[.int .i64 x0,.string x1,.int .i64 x2,.slice x3 x4 x5] 119)=W at *
    generalize w'.heap.size=M at *)
 all_goals
  (clear eg
   have q4:W.cell? ⟨b,4,none⟩=some (.int .i64 e):=cell_of hW.box rfl;have f4:=tv (j:=4) hW.box
   go_wp2_with (go_at_call 52;refine(DX b er e W q4 f4).mono ?_;rintro r w2 ⟨rfl,rfl⟩)
   have YL:fU w (ve b er W) b g #[s0,s1,s2,.slice (some ⟨g,0,none⟩) m c,.int .i64 (if er=0 then e else 1)] T cur T2:=by
    by_cases h:er=0
    ·rw[ve,if_pos h,if_pos h];exact hW
    ·rw[ve,if_neg h,if_neg h];exact hW.afA bV 4 _
   have hM2:(ve b er W).heap[M]?=some (.cells #[.int .i64 x0,.string x1,.int .i64 x2,.slice x3 x4 x5] 119 (0,0)):=by
    by_cases h:er=0
    ·rw[ve,if_pos h];exact hM
    ·rw[ve,if_neg h];exact(heap_setCell_other _ ⟨b,4,none⟩ M _ (show M≠b by omega)).trans hM
   clear hM hW q4 f4;generalize ve b er W=w2 at *;have q3:w2.cell? ⟨b,3,none⟩=some (.slice (some ⟨g,0,none⟩) m c):=cell_of YL.box rfl;have i1:(0:Int)<=(n:Int):=by omega
   have i2:(n:Int)<(m:Int):=by omega
   have i3:IntKind.i64.wrap ((m:Int)-1)=(n:Int):=by rw[IntWalk.i64_in _ (by omega)];omega
   go_big_region
   clear q3 i1 i2 i3;have Hz:=YL.size;have n6:g<w2.heap.size:=iD YL.row;have q5:w2.cell? ⟨g,n*5+2,none⟩=some (.slice a 0 0):=cell_of YL.row h5;have f5:w2.frozen? ⟨g,n*5+2,none⟩=false:=tv YL.row;have q6:∀o,(w2.alloc o).cell? ⟨g,n*5+2,none⟩=some (.slice a 0 0):=λo=>cell_of (YL.alloc o).row h5;have k0:w2.cell? ⟨M,0,none⟩=some (.int .i64 x0):=cell_of hM2 rfl;have k1:w2.cell? ⟨M,1,none⟩=some (.string x1):=cell_of hM2 rfl;have k2:w2.cell? ⟨M,2,none⟩=some (.int .i64 x2):=cell_of hM2 rfl;have k3:w2.cell? ⟨M,3,none⟩=some (.slice x3 x4 x5):=cell_of hM2 rfl;have aoQ:M<w2.heap.size:=iD hM2
   go_wp2_with fail
   go_region_held3 (λw'=>w'.cell? ⟨M,0,none⟩=some (.int .i64 x0)/\w'.cell? ⟨M,1,none⟩=some (.string x1)/\w'.cell? ⟨M,2,none⟩=some (.int .i64 x2)/\w'.cell? ⟨M,3,none⟩=some (.slice x3 x4 x5))
    (first|go_keep|exact PH DY (by simp[MZ]) ‹_›)
    ((refine Bu (N0:=w.heap.size) (k:=0) (by rfl) _ _ (by rfl) (by rfl) (by rfl) (.inl ⟨rfl,a,rfl⟩) (by omega) (by simp;omega) (heap_alloc_new _ _) ⟨rfl,rfl,rfl,rfl⟩ ?_;intro N cap w3 XB DY aE zj;have Zf:w2.heap.size<N:=(auK (by simp) (zj.resolve_left (by simp[MZ])));have YM:=((YL.alloc _).drew.drew).since (JK DY);have c5:=cell_of YM.row h5;have g5:=tv (j:=n*5+2) YM.row;have e0:=kz XB 0 (by omega);have e1:=kz XB 1 (by omega);have e2:=kz XB 2 (by omega);have e3:=kz XB 3 (by omega);have d1:N≠g:=(by omega);have d2:N≠M:=(by omega);have d3:g≠M:=(by omega)))
   all_goals
    (have d4:N≠b:=by omega
     have d5:w.heap.size<=N:=by omega
     go_end0
     refine⟨rfl,N,cap,?_,?_⟩
     ·iterate 5 (first|refine fU.nM ?_ d4 d1 d5 _ _|refine fU.setRow ?_ bV _ _)
      exact YM
     ·iterate 5 (refine wG ?_ _ _ rfl)
      exact XB))
end
section
set_option maxHeartbeats 3200000
attribute [local go_sem ↓] Go.wp_at_zero Go.wp_at_succ
section
variable {w0 w w1 w2:World} {b g m:Nat} {vs cur:Array Value} {T T2:TypeId} {s0 s1 s2 t0 t1 t2 t3:Value}
theorem XC(hs:w1.Since w1.heap.size w2)(h:w1.cell? ⟨b,0,none⟩=some s0/\w1.cell? ⟨b,1,none⟩=some s1/\w1.cell? ⟨b,2,none⟩=some s2/\w1.cell? ⟨m,0,none⟩=some t0/\w1.cell? ⟨m,1,none⟩=some t1/\w1.cell? ⟨m,2,none⟩=some t2/\w1.cell? ⟨m,3,none⟩=some t3):w2.cell? ⟨b,0,none⟩=some s0/\w2.cell? ⟨b,1,none⟩=some s1/\w2.cell? ⟨b,2,none⟩=some s2/\w2.cell? ⟨m,0,none⟩=some t0/\w2.cell? ⟨m,1,none⟩=some t1/\w2.cell? ⟨m,2,none⟩=some t2/\w2.cell? ⟨m,3,none⟩=some t3:=by obtain⟨k0,k1,k2,k3,k4,k5,k6⟩:=h;have e:=λ{a:Addr}{v:Value}(k:w1.cell? a=some v)=>(hs.cell (World.block_lt_of_cell? _ _ k)).trans k;exact⟨e k0,e k1,e k2,e k3,e k4,e k5,e k6⟩
theorem aki{o o':Obj}(hb:b<w1.heap.size)(hm:m<w1.heap.size)(h:(w1.alloc o).cell? ⟨b,0,none⟩=some s0/\(w1.alloc o).cell? ⟨b,1,none⟩=some s1/\(w1.alloc o).cell? ⟨b,2,none⟩=some s2/\(w1.alloc o).cell? ⟨m,0,none⟩=some t0/\(w1.alloc o).cell? ⟨m,1,none⟩=some t1/\(w1.alloc o).cell? ⟨m,2,none⟩=some t2/\(w1.alloc o).cell? ⟨m,3,none⟩=some t3):(w1.alloc o').cell? ⟨b,0,none⟩=some s0/\(w1.alloc o').cell? ⟨b,1,none⟩=some s1/\(w1.alloc o').cell? ⟨b,2,none⟩=some s2/\(w1.alloc o').cell? ⟨m,0,none⟩=some t0/\(w1.alloc o').cell? ⟨m,1,none⟩=some t1/\(w1.alloc o').cell? ⟨m,2,none⟩=some t2/\(w1.alloc o').cell? ⟨m,3,none⟩=some t3:=by have e:∀(a:Addr),a.block<w1.heap.size->(w1.alloc o').cell? a=(w1.alloc o).cell? a:=λa ha=>World.cell?_of_block ((heap_alloc_old w1 o' ha).trans (heap_alloc_old w1 o ha).symm);rwa [e ⟨b,0,none⟩ hb,e ⟨b,1,none⟩ hb,e ⟨b,2,none⟩ hb,e ⟨m,0,none⟩ hm,e ⟨m,1,none⟩ hm,e ⟨m,2,none⟩ hm,e ⟨m,3,none⟩ hm]
theorem fU.grown(h:fU w0 w b g vs T cur T2){row:Option Nat}(hg:w.grownBy w1 row)(hr:∀k,row=some k->w0.heap.size<=k)(hb:b<w0.heap.size)(hg0:g<w0.heap.size):fU w0 w1 b g vs T cur T2:=by (have bV:∀k,k<w0.heap.size->some k≠row:=λk hk e=>by have:=hr k e.symm;omega);exact⟨hg.os.trans h.os,hg.tape.trans h.tape,hg.output.trans h.output,auM h.size hg.size,λk k1 k2 k3=>(hg.block k (auK k1 h.size) (bV k k1)).trans (h.Xy k k1 k2 k3),(hg.block b (iD h.box) (bV b hb)).trans h.box,(hg.block g (iD h.row) (bV g hg0)).trans h.row⟩
theorem fU.keeps(h:fU w0 w b g vs T cur T2):cy (λk=>k=b\/k=g) w0 w:=⟨h.os,h.tape,h.output,h.size,λk k1 k2=>h.Xy k k1 (λe=>k2 (.inl e)) λe=>k2 (.inr e)⟩
end
theorem oI{N0 k:Nat}{w w':World}{v:Value}(h:nN N0 w v k)(hs:w.Since w.heap.size w'):nN N0 w' v k:=by rcases h with h|⟨N,cap,cs,e,h1,h2,h3⟩;exact .inl h;exact .inr ⟨N,cap,cs,e,h1,(hs.block N (iD h2)).trans h2,h3⟩
theorem acp{N0 k:Nat}{w:World}{v:Value}(h:nN N0 w v k):∃p c,v=.slice p k c/\∀j,MZ v k=some j->N0<=j/\j<w.heap.size:=by rcases h with⟨rfl,a,rfl⟩|⟨N,cap,cs,rfl,h1,h2,h3,_⟩;exact⟨a,0,rfl,λj hj=>by cases hj⟩;refine⟨_,_,rfl,λj hj=>?_⟩;rw[MZ,if_neg (by omega)]at hj;cases hj;exact⟨h1,iD h2⟩
theorem JL{N0 k B:Nat}{w:World}{v:Value}{c0 c1 c2 c3:Value}{fr:Nat×Nat}{ops:Array Oper}{o:Oper}{a:Act}{K:Act->World->Prop}{Q:Exit->Act->World->Prop}{E:Prop}(hgd:o.guard=none)(s x:Operand)(ho:o.op=.call { callee:=.builtin .append,args:=#[s,x],argTypes:=#[45,45] })(hs:a.eval s=v)(hx:a.eval x=.slice (some ⟨B,0,none⟩) 1 1)(hn:nN N0 w v k)(hk:k<=1000)(hN:N0<=w.heap.size)(hB:w.heap[B]?=some (.cells #[c0,c1,c2,c3] 119 fr))(h1:c0.oneCell'=true/\c1.oneCell'=true/\c2.oneCell'=true/\c3.oneCell'=true)(h:∀N cap k1 w',Aside (k1=k+1)->(k:Int)<(k1:Int)->nN N0 w' (.slice (some ⟨N,0,none⟩) k1 cap) k1->w.grownBy w' (MZ v k)->N<w'.heap.size->(MZ v k=some N\/w.heap.size<=N)->K (a.put o.dst (.slice (some ⟨N,0,none⟩) k1 cap)) w'): if Region.wanted o (yielded ops a.tmps)=true then Oper.wp aj o a w K Q else E:=Bu hgd s x ho hs hx hn hk hN hB h1 λN cap w' e1 e2 e3 e4=>h N cap (k+1) w' rfl (by omega) e1 e2 e3 e4
theorem acq(cur:Array Value)(i:Nat)(u v:Value):(cur.setIfInBounds i u).setIfInBounds i v=cur.setIfInBounds i v:=by simp
theorem XD(cur:Array Value){i:Nat}{u:Value}(h:cur[i]?=some u):cur.setIfInBounds i u=cur:=by apply Array.ext_getElem?;intro j;rw[avt];split;rename_i e;subst e;rw[if_pos (auW.1 h).1,h];rfl
theorem M0(b g m n c len tb to tc:Nat)(s0 s1 s2:Value)(e:Int)(tA:Option Addr)(pb pa:Nat->Option Addr)(lb cb la ca:Nat->Nat)(ki ii:Nat->Int)(T T2:TypeId)(cur:Array Value)(a:Option Addr)(w:World)(bV:b≠g)(hn:n<=1000000)(hm:m=n+1)(hlen:len<=1000)(hbx:w.heap[b]?=some (.cells #[s0,s1,s2,.slice (some ⟨g,0,none⟩) m c,.int .i64 e] T (0,0)))(hgx:w.heap[g]?=some (.cells cur T2 (0,0)))(h5:cur[n*5+2]?=some (.slice a 0 0))(hA:0<len->tA=some ⟨tb,to,none⟩)(htv:∀i,i<len->w.cell? ⟨tb,to+i*4,none⟩=some (.slice (pb i) (lb i) (cb i))/\w.cell? ⟨tb,to+i*4+1,none⟩=some (.int .i64 (ki i))/\w.cell? ⟨tb,to+i*4+2,none⟩=some (.int .i64 (ii i))/\w.cell? ⟨tb,to+i*4+3,none⟩=some (.slice (pa i) (la i) (ca i)))(htb:0<len->tb≠b/\tb≠g)(eg:∀i,i<len->∀w1,cy (λk=>k=b\/k=g) w w1->Calls aj 53 #[.agg #[s0,s1,s2],.agg #[.slice (pb i) (lb i) (cb i),.int .i64 (ki i),.int .i64 (ii i),.slice (pa i) (la i) (ca i)]] w1 λr w2=>(∃x0 x1 x2 x3 x4 x5,r=.returned (.tuple #[.agg #[.int .i64 x0,.string x1,.int .i64 x2,.slice x3 x4 x5],.int .i64 0]))/\w1.Since w1.heap.size w2): Calls aj 19 #[.pointer (some ⟨b,0,none⟩),.slice tA len tc] w λr w'=>r=.returned (.tuple #[])/\∃v,fU w w' b g #[s0,s1,s2,.slice (some ⟨g,0,none⟩) m c,.int .i64 e] T (cur.setIfInBounds (n*5+2) v) T2/\nN w.heap.size w' v len:=by
 have hL:=fU.start hbx hgx;have U2:=iD hbx;have hgl:=iD hgx;have q3:w.cell? ⟨b,3,none⟩=some (.slice (some ⟨g,0,none⟩) m c):=cell_of hbx rfl;have i1:(0:Int)<=(n:Int):=by omega
 have i2:(n:Int)<(m:Int):=by omega
 have i3:IntKind.i64.wrap ((m:Int)-1)=(n:Int):=by rw[IntWalk.i64_in _ (by omega)];omega
 go_enter func19,Tryz.ntmps19;go_wp2_with fail;go_big_region;clear q3 i1 i2 i3;go_wp2_with fail;go_loopg [22] len (λk s22 wr=>∃(r:Nat)(v:Value),r<=len/\k=len-r/\s22=.int .i64 r/\fU w wr b g #[s0,s1,s2,.slice (some ⟨g,0,none⟩) m c,.int .i64 e] T (cur.setIfInBounds (n*5+2) v) T2/\nN w.heap.size wr v r);case atStart=> refine⟨0,.slice a 0 0,aus _,rfl,rfl,?_,.inl ⟨rfl,a,rfl⟩⟩;rw[XD cur h5];exact hL.drew
 case round=>
  obtain⟨r,v,hr,rfl,rfl,Rx,hNr⟩:=hrel
  by_cases hrn:r<len
  ·obtain rfl:=hA (by omega);obtain⟨g1,g2⟩:=htb (by omega);have hrz:(r:Int)<(len:Int):=by omega
   have hr0:(0:Int)<=(r:Int):=by omega
   obtain⟨z0,z1,z2,z3⟩:=htv r hrn;have hcr:=eg r hrn;have XE:=λ{j:Nat}{u:Value}(k:w.cell? ⟨tb,j,none⟩=some u)=>(World.cell?_of_block (a:=⟨tb,j,none⟩) (Rx.Xy tb (World.block_lt_of_cell? _ _ k) g1 g2)).trans k;have y0:=XE z0;have y1:=XE z1;have y2:=XE z2;have y3:=XE z3;clear htv eg XE z0 z1 z2 z3 hL;generalize pb r=xp0,lb r=xp1,cb r=xp2,ki r=xk,ii r=xi,pa r=xq0,la r=xq1,ca r=xq2 at *;have n0:wr.cell? ⟨b,0,none⟩=some s0:=cell_of Rx.box rfl;have n1:wr.cell? ⟨b,1,none⟩=some s1:=cell_of Rx.box rfl;have n2:wr.cell? ⟨b,2,none⟩=some s2:=cell_of Rx.box rfl;have Ll:=iD Rx.box;have ZH:=iD Rx.row;have hzr:=Rx.size;have n3:wr.heap.size+1≠b:=by omega
   have n4:wr.heap.size≠b:=by omega
   go_wp2_with fail
   go_region_held3 (λw'=>w'.cell? ⟨b,0,none⟩=some s0/\w'.cell? ⟨b,1,none⟩=some s1/\w'.cell? ⟨b,2,none⟩=some s2/\w'.cell? ⟨wr.heap.size,0,none⟩=some (.slice xp0 xp1 xp2)/\w'.cell? ⟨wr.heap.size,1,none⟩=some (.int .i64 xk)/\w'.cell? ⟨wr.heap.size,2,none⟩=some (.int .i64 xi)/\w'.cell? ⟨wr.heap.size,3,none⟩=some (.slice xq0 xq1 xq2))
    (first|go_keep|exact XC hs ‹_›| exact aki m1 m2 ‹_›)
    (first
     |(go_at_call 53;refine(hcr _ (((Rx.alloc _).drew).alloc _).keeps).mono ?_;rintro q w' ⟨⟨x0,x1,x2,x3,x4,x5,rfl⟩,hs⟩;have hz:=hs.size;simp only[World.size_alloc,World.size_drew]at hz;have m1:b<w'.heap.size:=(by omega);have m2:wr.heap.size<w'.heap.size:=(by omega);have c4:=akg (N:=wr.heap.size+1) (by simp) hs)
     |(go_at_call 53;refine(hcr _ ((Rx.alloc _).drew).keeps).mono ?_;rintro q w' ⟨⟨x0,x1,x2,x3,x4,x5,rfl⟩,hs⟩;have hz:=hs.size;simp only[World.size_alloc,World.size_drew]at hz;have m1:b<w'.heap.size:=(by omega);have m2:wr.heap.size<w'.heap.size:=(by omega)))
   all_goals first
    |(have hc:=c4
      have ZG:=(((Rx.alloc _).drew).alloc _).since hs;have hN1:=oI (oI hNr (gI (gI (.refl _ _) _).drew _)) hs;have n5:wr.heap.size+1≠g:=by omega
      have hW:=(((ZG.nM n3 n5 (by omega) 0 (.int .i64 x0)).nM n3 n5 (by omega) 1 (.string x1)).nM n3 n5 (by omega) 2 (.int .i64 x2)).nM n3 n5 (by omega) 3 (.slice x3 x4 x5);have hV:=wG (wG (wG (wG (u:=.int .i64 x0) hN1 (wr.heap.size+1) 0 rfl) (u:=.string x1) (wr.heap.size+1) 1 rfl) (u:=.int .i64 x2) (wr.heap.size+1) 2 rfl) (u:=.slice x3 x4 x5) (wr.heap.size+1) 3 rfl;have hM:=fx (fx (fx (fx (afC (N:=wr.heap.size+1) (by simp) hs) 0 (.int .i64 x0)) 1 (.string x1)) 2 (.int .i64 x2)) 3 (.slice x3 x4 x5);have hMl:wr.heap.size<wr.heap.size+1:=by omega
      generalize (((w'.setCell ⟨wr.heap.size+1,0,none⟩ (.int .i64 x0)).setCell ⟨wr.heap.size+1,1,none⟩ (.string x1)).setCell ⟨wr.heap.size+1,2,none⟩ (.int .i64 x2)).setCell ⟨wr.heap.size+1,3,none⟩ (.slice x3 x4 x5)=W at *;clear hs m1 m2 hz hc c4 ZG hN1 n5;generalize wr.heap.size+1=M at *
      have hM:W.heap[M]?=some (.cells #[.int .i64 x0,.string x1,.int .i64 x2,.slice x3 x4 x5] 119 (0,0)):=hM)
    |(have hW:=(((Rx.alloc _).drew).since hs).alloc (.cells #[.int .i64 x0,.string x1,.int .i64 x2,.slice x3 x4 x5] 119)
      have hV:=oI (oI (oI hNr (gI (.refl _ _) _).drew) hs) (gI (.refl _ _) (.cells #[.int .i64 x0,.string x1,.int .i64 x2,.slice x3 x4 x5] 119));have hM:(w'.alloc (.cells #[.int .i64 x0,.string x1,.int .i64 x2,.slice x3 x4 x5] 119)).heap[w'.heap.size]?=some (.cells #[.int .i64 x0,.string x1,.int .i64 x2,.slice x3 x4 x5] 119 (0,0)):=heap_alloc_new _ _;have hMl:wr.heap.size<w'.heap.size:=m2;clear hs m1 m2 hz;generalize w'.alloc (.cells #[.int .i64 x0,.string x1,.int .i64 x2,.slice x3 x4 x5] 119)=W at *
      generalize w'.heap.size=M at *)
   all_goals
    (clear hcr
     have q4:W.cell? ⟨b,4,none⟩=some (.int .i64 e):=cell_of hW.box rfl;have f4:=tv (j:=4) hW.box;have nY:ve b 0 W=W:=if_pos rfl
     go_wp2_with (go_at_call 52;refine(DX b 0 e W q4 f4).mono ?_;rintro q w2 ⟨rfl,YK⟩;have hw3:w2=W:=(YK.trans nY);clear YK;subst w2)
     clear nY q4 f4;obtain⟨p,cp,rfl,hnb⟩:=acp hNr;have YN:n*5+2<cur.size:=(auW.1 h5).1;have Hz:=hW.size;have n6:g<W.heap.size:=iD hW.row;have YD:∀u:Value,(cur.setIfInBounds (n*5+2) u)[n*5+2]?=some u:=λu=>by rw[Array.getElem?_setIfInBounds_self_of_lt YN]
     have q5:W.cell? ⟨g,n*5+2,none⟩=some (.slice p r cp):=cell_of hW.row (YD _);have f5:W.frozen? ⟨g,n*5+2,none⟩=false:=tv hW.row;have q6:∀o,(W.alloc o).cell? ⟨g,n*5+2,none⟩=some (.slice p r cp):=λo=>cell_of (hW.alloc o).row (YD _);have k0:W.cell? ⟨M,0,none⟩=some (.int .i64 x0):=cell_of hM rfl;have k1:W.cell? ⟨M,1,none⟩=some (.string x1):=cell_of hM rfl;have k2:W.cell? ⟨M,2,none⟩=some (.int .i64 x2):=cell_of hM rfl;have k3:W.cell? ⟨M,3,none⟩=some (.slice x3 x4 x5):=cell_of hM rfl;have aoQ:M<W.heap.size:=iD hM;have hMb:some M≠MZ (.slice p r cp) r:=λe=>by have:=(hnb M e.symm).2;omega
     go_wp2_with fail
     go_region_held3 (λw'=>w'.cell? ⟨M,0,none⟩=some (.int .i64 x0)/\w'.cell? ⟨M,1,none⟩=some (.string x1)/\w'.cell? ⟨M,2,none⟩=some (.int .i64 x2)/\w'.cell? ⟨M,3,none⟩=some (.slice x3 x4 x5))
      (first|go_keep|exact PH DY hMb ‹_›)
      ((refine JL (N0:=w.heap.size) (k:=r) (by rfl) _ _ (by rfl) (by rfl) (by rfl) (oI hV (gI (.refl _ _) _).drew) (by omega) (by simp;omega) (heap_alloc_new _ _) ⟨rfl,rfl,rfl,rfl⟩ ?_;intro N cap r1 w3 Ct NI XB DY aE zj;have hN5:w.heap.size<=N/\N≠M:=(by rcases zj with zj|zj;(exact⟨(hnb N zj).1,λe=>by have:=(hnb N zj).2;omega⟩);(simp at zj;omega));have YM:=((hW.alloc _).drew).grown DY (λj hj=>(hnb j hj).1) U2 hgl;have c5:=cell_of YM.row (YD _);have g5:=tv (j:=n*5+2) YM.row;have hN4:nN w.heap.size w3 (.slice (some ⟨N,0,none⟩) (r+1) cap) (r+1):=(Ct.out▸XB);have e0:=kz hN4 (r*4) (by omega);have e1:=kz hN4 (r*4+1) (by omega);have e2:=kz hN4 (r*4+2) (by omega);have e3:=kz hN4 (r*4+3) (by omega);clear hN4;have d1:N≠g:=(by omega);have d2:N≠M:=hN5.2;have d3:g≠M:=(by omega)))
     all_goals
      (have d4:N≠b:=by omega
       have d5:=hN5.1;have H:Aside (fU w w3 b g #[s0,s1,s2,.slice (some ⟨g,0,none⟩) m c,.int .i64 e] T (cur.setIfInBounds (n*5+2) (.slice p r cp)) T2/\nN w.heap.size w3 (.slice (some ⟨N,0,none⟩) r1 cap) r1):=⟨YM,XB⟩;clear YM XB e0 e1 e2 e3 c5 g5 DY aE zj k0 k1 k2 k3 q5 f5 q6 YD hnb hMb hV hW hM hNr Rx hbx hgx
       go_wp2
       go_roundg (len-(r+1))
       case measure=>go_light;omega
       case rel=>
        go_light
        obtain⟨YM,XB⟩:=H.out;have ot:=Ct.out;subst r1;refine⟨r+1,.slice (some ⟨N,0,none⟩) (r+1) cap,by omega,rfl,by simp,?_,?_⟩
        ·rw[<-acq cur (n*5+2) (.slice p r cp)]
         iterate 5 (first|refine fU.nM ?_ d4 d1 d5 _ _|refine fU.setRow ?_ bV _ _)
         exact YM
        ·iterate 5 (refine wG ?_ _ _ rfl)
         exact XB))
  ·have hrz:¬((r:Int)<(len:Int)):=by omega
   obtain rfl:r=len:=by omega
   go_wp2
   go_end0
   subst hm;exact⟨rfl,v,Rx,hNr⟩
end
section
section
variable {w w1 w':World} {F F':Nat->Nat->Prop} {η:List Value} {hp:List ax}
theorem zl{l:List AV}{v:Value}(h:bo w F η hp (.sl l) v):bo w F [] [] (.sl l) v:=by cases h with|mR a=>exact .mR a|sl size els b o c f hc hm hl aR hr=>exact .sl size l b o c f hc hm hl aR hr
theorem rz{l:List AV}{v:Value}(h:bo w F η hp (.sl l) v):∃p n c,v=.slice p n c:=by cases h with|mR a=>exact⟨_,_,_,rfl⟩|sl size els b o c f hc hm hl aR hr=>exact⟨_,_,_,rfl⟩
theorem XF{cs:List AV}{v:Value}(h:bo w F η hp (.agg cs) v)(hd:∀x∈cs,∀u,bo w F η hp x u->bo w F [] [] x u):bo w F [] [] (.agg cs) v:=by cases h with|agg _ vs hl h1 hr=>exact .agg cs vs hl h1 λj x u hx hu=>hd x (auq hx) u (hr j x u hx hu)
theorem Ry{u v:Value}(h:bo w F η hp (.ay u) v):bo w F [] [] (.ay u) v:=by cases h;exact .ay _
theorem DZ{f:FuncId}{args:List AV}{n:Nd}{er:Int}{vals:List Value}{X:Nat->Prop}(h:az aj f args (.aG [ee n,nI er]))(hF:∀b o,F b o->b<w.heap.size)(hg:oU w)(hv:cC w F [] [] args vals)(hk:cy X w w1)(hX:∀b o,F b o->¬X b)(hXg:∀b,lU b->¬X b): Calls aj f vals.toArray w1 λr w2=>(∃x0 x1 x2 x3 x4 x5,r=.returned (.tuple #[.agg #[.int .i64 x0,.string x1,.int .i64 x2,.slice x3 x4 x5],.int .i64 er]))/\w1.Since w1.heap.size w2:=by have hb:∀b o,F b o->w1.heap[b]?=w.heap[b]?:=λb o hf=>hk.block b (hF b o hf) (hX b o hf);have e:Ext w F [] [] w1 F [] []:=⟨λb o v hf hc=>by simp only[World.cell?]at hc ⊢;rw[hb b o hf];exact hc,λb es c hf hc=>by rw[hb b 0 hf];exact hc,λ_ _ hf=>hf,λ_ _ h=>h,λ_ _ h=>h,λ_ _ _ h=>h⟩;refine callsIn_wide.1 ((h.2 w1 F vals (λb o hf=>auK (hF b o hf) hk.size) (hg.keeps hk hXg) (hv.ext e)).mono ?_);rintro q w2 ⟨v,r,rfl,rfl,hs,hr⟩;refine⟨?_,hs.os,hs.tape,hs.output,hs.size,hs.block⟩;cases hr with|aG _ vs hl hr=>match vs,hl with|⟨[u0,u1]⟩,_=>have r0:=hr 0 _ u0 rfl rfl;have r1:=ji (hr 1 _ u1 rfl rfl);subst r1;cases r0 with|agg _ us rN _ ot=>match us,rN with|⟨[a0,a1,a2,a3]⟩,_=>have p0:=ji (ot 0 _ a0 rfl rfl);have p1:=ji (ot 1 _ a1 rfl rfl);have p2:=ji (ot 2 _ a2 rfl rfl);obtain⟨p,k,c,rfl⟩:=rz (ot 3 _ a3 rfl rfl);subst p0;subst p1;subst p2;exact⟨_,_,_,_,_,_,rfl⟩
end
abbrev nO(k:Int)(ws:List AV)(x:AV)(m a:Int):AV:=.agg [nI k,.sl ws,x,nI m,nI a]
theorem JM{w:World}{F:Nat->Nat->Prop}{η:List Value}{li n0 n1 n2 ws:List AV}{k m a le:Int}(bz:qI w F η (fF (li++[nO k ws (.clip []) m a]) n0 n1 n2 le)): ∃b g c T cur x0 x1 x2 ad,η=[.slice (some ⟨g,0,none⟩) (li.length+1) c,.pointer (some ⟨b,0,none⟩)]/\b≠g/\0<c/\li.length+1<=c/\c<=maxLen/\cur.size=c*5/\ w.heap[b]?=some (.cells #[x0,x1,x2,.slice (some ⟨g,0,none⟩) (li.length+1) c,.int .i64 le] T (0,0))/\w.heap[g]?=some (.cells cur 47 (0,0))/\cur[li.length*5+2]?=some (.slice ad 0 0)/\ (bo w F [] [] (.sl n0) x0/\bo w F [] [] (.sl n1) x1/\bo w F [] [] (.sl n2) x2)/\ (∀(i:Nat)(el:AV)(j:Nat)(x:AV),(li++[nO k ws (.clip []) m a])[i]?=some el->el.cells.length=5/\(el.cells[j]?=some x->∃u,cur[i*5+j]?=some u/\bo w F [] [] x u/\u.oneCell'=true))/\ (∀j o,F j o->¬(j=b\/j=g))/\(∀j,lU j->¬(j=b\/j=g)):=by have hln:=bz.heap.len;match η,hln with| [v0,v1],_=>(obtain⟨b,vs,T,rfl,hb,cP,gK⟩:=bz.heap.obj 1 _ v1 rfl rfl;obtain⟨_,xs,⟨hxl,eH⟩,fD⟩:=bz.heap.obj 0 _ v0 rfl rfl;have yU:(li++[nO k ws (.clip []) m a]).length=li.length+1:=by simp);rcases eH with⟨h0,_⟩|⟨g,c,cur,rfl,Hd,⟨hi,Cq,hg⟩,hn,hm,hcz,htk⟩;omega;(obtain rfl:hi=0:=by omega);match vs,cP with|⟨[x0,x1,x2,x3,x4]⟩,_=>have r0:=(gK 0 _ x0 rfl rfl).1;have r1:=(gK 1 _ x1 rfl rfl).1;have r2:=(gK 2 _ x2 rfl rfl).1;have r3:=(gK 3 _ x3 rfl rfl).1;have r4:=ji (gK 4 _ x4 rfl rfl).1;subst r4;cases r3 with|own _ _ _ _ ho=>(have e3:=ho.2 rfl;simp only[au4,aug]at e3;subst e3;have qw:∀(i:Nat)(el:AV)(j:Nat)(x:AV),(li++[nO k ws (.clip []) m a])[i]?=some el->el.cells.length=5/\(el.cells[j]?=some x->∃u,cur[i*5+j]?=some u/\bo w F [] [] x u/\u.oneCell'=true):=λi el j x hi=>by obtain⟨q1,q2⟩:=fD i el hi;refine⟨q1,λhx=>?_⟩;obtain⟨u,g1,g2⟩:=q2 j x hx;have YN:=(auh.1 hi).1;have Li:=(auh.1 hx).1;rw[<-htk,auC,if_pos (by omega),avA]at g1;exact⟨u,g1,g2⟩);(obtain⟨u,u1,u2,_⟩:=(qw li.length (nO k ws (.clip []) m a) 2 (.clip []) (by rw[auN (aum _)];simp)).2 rfl;have jv:da (.slice (some ⟨g,0,none⟩) (li++[nO k ws (.clip []) m a]).length c)=some g:=by simp[da];omega);(have hL0:aU [.slice (some ⟨g,0,none⟩) (li++[nO k ws (.clip []) m a]).length c,.pointer (some ⟨b,0,none⟩)] (fF (li++[nO k ws (.clip []) m a]) n0 n1 n2 le) g:=⟨0,_,_,rfl,ai,rfl,jv⟩;have ZG:aU [.slice (some ⟨g,0,none⟩) (li++[nO k ws (.clip []) m a]).length c,.pointer (some ⟨b,0,none⟩)] (fF (li++[nO k ws (.clip []) m a]) n0 n1 n2 le) b:=⟨1,_,_,rfl,ai,rfl,rfl⟩;have bV:b≠g:=λe=>bz.heap.sep 0 1 _ _ _ _ g (by decide) rfl rfl ai ai rfl rfl jv (by rw[e];rfl);have hu:∃ad,u=.slice ad 0 0:=by cases u2 with|jy a=>exact⟨_,rfl⟩|clip size els b o f hm hl aR hr=>exact⟨_,rfl⟩);obtain⟨ad,rfl⟩:=hu;refine⟨b,g,c,T,cur,x0,x1,x2,ad,by rw[yU],bV,Hd,by omega,hm,hcz,by rw[<-yU];exact hb,hg,u1,⟨zl r0,zl r1,zl r2⟩,qw,λj o hf hj=>?_,λj hj hx=>?_⟩;rcases hj with rfl|rfl;exact(bz.bC _ o hf).2 1 _ rfl rfl;exact(bz.bC _ o hf).2 0 _ rfl jv;rcases hx with rfl|rfl;exact bz.gx _ hj ZG;exact bz.gx _ hj hL0
theorem D1{w:World}{F:Nat->Nat->Prop}{n0 n1 n2:List AV}{x0 x1 x2:Value}(hr:bo w F [] [] (.sl n0) x0/\bo w F [] [] (.sl n1) x1/\bo w F [] [] (.sl n2) x2):bo w F [] [] (.agg [.sl n0,.sl n1,.sl n2]) (.agg #[x0,x1,x2]):=by obtain⟨p0,q0,c0,e0⟩:=rz hr.1;obtain⟨p1,q1,c1,e1⟩:=rz hr.2.1;obtain⟨p2,q2,c2,e2⟩:=rz hr.2.2;refine .agg _ _ rfl (λv hv=>?_) λj x v hx hv=>?_;simp only[List.mem_toArray,auJ,avz,or_false]at hv;rcases hv with rfl|rfl|rfl;rw[e0];rfl;rw[e1];rfl;rw[e2];rfl;match j,hx,hv with|0,hx,hv=>cases hx;cases hv;exact hr.1|1,hx,hv=>cases hx;cases hv;exact hr.2.1|2,hx,hv=>cases hx;cases hv;exact hr.2.2
abbrev PI:Tm:=.mk [] 0 0 []
abbrev G8:AV:=.agg [.top,.top,.top,.top]
theorem afD{N0 k:Nat}{w:World}{F:Nat->Nat->Prop}{v:Value}(h:nN N0 w v k)(hF:∀j o,N0<=j->j<w.heap.size->F j o):bo w F [] [] (.sl (List.replicate k G8)) v/\v.oneCell'=true:=by
 rcases h with⟨rfl,a,rfl⟩|⟨N,cap,cs,rfl,h1,h2,h3,h4,h5,h6,h7⟩;exact⟨.mR a,rfl⟩
 ·(have hl:(List.replicate k G8).length=k:=List.length_replicate;have qw:∀(i:Nat)(e:AV),(List.replicate k G8)[i]?=some e->i<k/\e=G8:=λi e h=>by have hi:=(auh.1 h).1;rw[hl]at hi;rw[List.getElem?_replicate,if_pos hi]at h;exact⟨hi,(auj h).symm⟩);have top:∀(j:Nat)(x:AV),G8.cells[j]?=some x->j<4/\x=.top:=λj x h=>by match j,h with|0,h=>cases h;exact⟨by omega,rfl⟩|1,h=>cases h;exact⟨by omega,rfl⟩|2,h=>cases h;exact⟨by omega,rfl⟩|3,h=>cases h;exact⟨by omega,rfl⟩
  have:=bo.sl (w:=w) (F:=F) (η:=[]) (hp:=[]) 4 (List.replicate k G8) N 0 cap (λi j=>cs.getD (i*4+j) undef) (by rw[hl];exact h4) h5 (λi e h=>by rw[(qw i e h).2];rfl) (λi e j x h hx=>by
   (obtain⟨hi,rfl⟩:=qw i e h;obtain⟨hj,rfl⟩:=top j x hx;have aE:i*4+j<cs.size:=by omega);(have hg:=ava aE;have hd:cs.getD (i*4+j) undef=cs[i*4+j]:=by rw[au2,hg];rfl);refine⟨?_,hF _ _ h1 (cf h2),h7 _ ?_⟩;rw[hd];exact cell_of h2 (by rw[show 0+i*4+j=i*4+j by omega];exact hg)
   ·rw[hd];refine auq (i:=i*4+j) ?_;rw[auC,if_pos (by omega),avA];exact hg) (λi e j x h hx=>by
   obtain⟨hi,rfl⟩:=qw i e h;obtain⟨hj,rfl⟩:=top j x hx;exact .top _)
  rw[hl]at this;exact⟨this,rfl⟩
theorem D3{w w':World}{F:Nat->Nat->Prop}{li n0 n1 n2 ws:List AV}{k m a le le':Int}{b g c kk:Nat}{T:TypeId}{cur:Array Value}{x0 x1 x2 v:Value}(bz:qI w F [.slice (some ⟨g,0,none⟩) (li.length+1) c,.pointer (some ⟨b,0,none⟩)] (fF (li++[nO k ws (.clip []) m a]) n0 n1 n2 le))(Hd:0<c)(NH:li.length+1<=c)(hm:c<=maxLen)(hcz:cur.size=c*5)(hr:bo w F [] [] (.sl n0) x0/\bo w F [] [] (.sl n1) x1/\bo w F [] [] (.sl n2) x2)(qw:∀(i:Nat)(el:AV)(j:Nat)(x:AV),(li++[nO k ws (.clip []) m a])[i]?=some el->el.cells.length=5/\(el.cells[j]?=some x->∃u,cur[i*5+j]?=some u/\bo w F [] [] x u/\u.oneCell'=true))(hL:fU w w' b g #[x0,x1,x2,.slice (some ⟨g,0,none⟩) (li.length+1) c,.int .i64 le'] T (cur.setIfInBounds (li.length*5+2) v) 47)(hN:nN w.heap.size w' v kk): ma w F [.slice (some ⟨g,0,none⟩) (li.length+1) c,.pointer (some ⟨b,0,none⟩)] (fF (li++[nO k ws (.clip []) m a]) n0 n1 n2 le) w' [.slice (some ⟨g,0,none⟩) (li.length+1) c,.pointer (some ⟨b,0,none⟩)] (fF (li++[nO k ws (.sl (List.replicate kk G8)) m a]) n0 n1 n2 le') (.aG []) (.tuple #[]):=by (have yU:∀y:AV,(li++[y]).length=li.length+1:=λy=>by simp);(have jv:da (.slice (some ⟨g,0,none⟩) (li.length+1) c)=some g:=by simp[da];omega);refine Rt bz (by rw[yU,yU]) ⟨hL.os,hL.tape,hL.output,hL.size,λj h1 h2=>hL.Xy j h1 (λe=>h2 (.inr e)) λe=>h2 (.inl (by rw[jv,e]))⟩ λeD sv=>⟨⟨by omega,_,⟨?_,.inr ⟨g,c,_,by rw[yU],Hd,⟨0,aum _,hL.row⟩,by rw[yU];exact NH,hm,by rw[avY];exact hcz,rfl⟩⟩,λi el hi=>?_⟩,b,_,T,rfl,hL.box,rfl,λj x u hx hu=>?_⟩;(have hz:(cur.setIfInBounds (li.length*5+2) v).toList.length=c*5:=by rw[auX,avY];exact hcz);rw[au0,yU,hz];exact avV (au6 _ NH);(have YN:=(auh.1 hi).1;rw[yU]at YN;have back:∀(el2:AV)(j:Nat)(x:AV),(li++[nO k ws (.clip []) m a])[i]?=some el2->el2.cells[j]?=some x->j<5->i*5+j≠li.length*5+2->∃u,((cur.setIfInBounds (li.length*5+2) v).toList.take ((li++[nO k ws (.sl (List.replicate kk G8)) m a]).length*5))[i*5+j]?=some u/\bo w' _ [] [] x u/\u.oneCell'=true:=λel2 j x h1 h2 hj bV=>by obtain⟨u,u1,u2,u3⟩:=(qw i el2 j x h1).2 h2;refine⟨u,?_,u2.ext eD.nv.ext,u3⟩;rw[auC,if_pos (by rw[yU];omega),avA,avN (avU bV)];exact u1);by_cases eG:i<li.length;(rw[aup eG]at hi;have h1:(li++[nO k ws (.clip []) m a])[i]?=some el:=by rw[aup eG];exact hi);have h5:=(qw i el 0 .top h1).1;exact⟨h5,λj x hx=>back el j x h1 hx (by have:=(auh.1 hx).1;omega) (by have:=(auh.1 hx).1;omega)⟩;(obtain rfl:i=li.length:=by omega);(rw[auN (aum _),avH]at hi;obtain rfl:=auj hi;have h1:(li++[nO k ws (.clip []) m a])[li.length]?=some (nO k ws (.clip []) m a):=by rw[auN (aum _),avH];rfl);refine⟨rfl,λj x hx=>?_⟩;(match j,hx with|0,hx=>exact back _ 0 x h1 hx (by omega) (by omega)|1,hx=>exact back _ 1 x h1 hx (by omega) (by omega)|3,hx=>exact back _ 3 x h1 hx (by omega) (by omega)|4,hx=>exact back _ 4 x h1 hx (by omega) (by omega)|2,hx=>cases hx;obtain⟨r1,r2⟩:=afD hN λj o h1 h2=>sv j o h1 h2;refine⟨v,?_,r1,r2⟩;rw[auC,if_pos (by rw[yU];omega),avA,Array.getElem?_setIfInBounds_self_of_lt (by omega)]);obtain⟨p0,q0,c0,e0⟩:=rz hr.1;obtain⟨p1,q1,c1,e1⟩:=rz hr.2.1;obtain⟨p2,q2,c2,e2⟩:=rz hr.2.2;match j,hx,hu with|0,hx,hu=>cases hx;cases hu;exact⟨(hr.1.ext eD.nv.ext).lift,by rw[e0];rfl⟩|1,hx,hu=>cases hx;cases hu;exact⟨(hr.2.1.ext eD.nv.ext).lift,by rw[e1];rfl⟩|2,hx,hu=>cases hx;cases hu;exact⟨(hr.2.2.ext eD.nv.ext).lift,by rw[e2];rfl⟩|3,hx,hu=>cases hx;cases hu;exact⟨.own _ _ _ rfl ⟨aum _,λ_=>rfl⟩,rfl⟩|4,hx,hu=>cases hx;cases hu;exact⟨.ay _,rfl⟩
theorem vf{li n0 n1 n2 ws aas:List AV}{k m a le base er:Int}{n:Nd}(hl:li.length<=1000000)(hOf:az aj 51 [.agg [.sl n0,.sl n1,.sl n2],.agg [.sl aas,nI base]] (.aG [ee n,nI er])): aZ aj 18 [.ptr 1 0,.agg [.sl aas,nI base]] (fF (li++[nO k ws (.clip []) m a]) n0 n1 n2 le) (λr q=>r=.aG []/\q=fF (li++[nO k ws (.sl [G8]) m a]) n0 n1 n2 (if er=0 then le else 1)):=by refine⟨⟨_,func18,by kernel_rfl,by kernel_rfl⟩,λw F η vals bz hv=>?_⟩;obtain⟨b,g,c,T,cur,x0,x1,x2,ad,rfl,bV,Hd,NH,hm,hcz,hb,hg,h5,hr,qw,hX,hXg⟩:=JM bz;match vals,hv with| [p,ta],⟨r0,r1,_⟩=>(obtain rfl:p=.pointer (some ⟨b,0,none⟩):=by cases r0 with|ptr _ _ b' h1=>cases h1;rfl);(have d1:=XF r1 λx hx u hu=>by simp only[auJ,avz,or_false]at hx;rcases hx with rfl|rfl;exact zl hu;exact Ry hu);cases r1 with|agg _ vs rN h1 ot=>match vs,rN with|⟨[y0,y1]⟩,_=>refine callsIn_wide.2 ((XA b g (li.length+1) li.length c x0 x1 x2 le er y0 y1 T _ cur _ w bV hl rfl hb hg h5 ⟨ad,rfl⟩ (λw1 hs=>?_)).mono ?_);exact DZ hOf (λj o hf=>(bz.bC j o hf).1) bz.iN (vals:=[.agg #[x0,x1,x2],.agg #[y0,y1]]) ⟨D1 hr,d1,ai⟩ (X:=λj=>j=b\/j=g) ⟨hs.os,hs.tape,hs.output,hs.size,λj h _=>hs.block j h⟩ hX hXg;rintro e w' ⟨rfl,N,cap,hL,hN⟩;exact⟨_,_,_,_,rfl,⟨rfl,rfl⟩,D3 bz Hd NH hm hcz hr qw hL hN⟩
def slP:Value->Option Addr
 | .slice p _ _=>p|_=>none
def slL:Value->Nat
 | .slice _ n _=>n|_=>0
def slC:Value->Nat
 | .slice _ _ c=>c|_=>0
theorem F9{w:World}{F:Nat->Nat->Prop}{η:List Value}{hp:List ax}{l:List AV}{v:Value}(h:bo w F η hp (.sl l) v):v=.slice (slP v) (slL v) (slC v):=by obtain⟨p,n,c,rfl⟩:=rz h;rfl
theorem Bv{li n0 n1 n2 ws:List AV}{k m a le:Int}{ts:List Tm}(hl:li.length<=1000000)(aE:ts.length<=1000)(hOf:∀t∈ts,∃n,az aj 53 [.agg [.sl n0,.sl n1,.sl n2],.agg [.sl (t.binds.map Ty.enc),nI t.kind,nI t.index,.sl (t.args.map Tm.enc)]] (.aG [ee n,nI 0])): aZ aj 19 [.ptr 1 0,.sl (ts.map Tm.enc)] (fF (li++[nO k ws (.clip []) m a]) n0 n1 n2 le) (λr q=>r=.aG []/\q=fF (li++[nO k ws (.sl (List.replicate ts.length G8)) m a]) n0 n1 n2 le):=by
 refine⟨⟨_,func19,by kernel_rfl,by kernel_rfl⟩,λw F η vals bz hv=>?_⟩;obtain⟨b,g,c,T,cur,x0,x1,x2,ad,rfl,bV,Hd,NH,hm,hcz,hb,hg,h5,hr,qw,hX,hXg⟩:=JM bz;match vals,hv with
  | [p,ta],⟨r0,r1,_⟩=>
   obtain rfl:p=.pointer (some ⟨b,0,none⟩):=by cases r0 with|ptr _ _ b' h1=>cases h1;rfl
   obtain⟨tA,tc,tb,to,f,rfl,hA,aR,dW⟩:∃(tA:Option Addr)(tc tb to:Nat)(f:Nat->Nat->Value),ta=.slice tA ts.length tc/\(0<ts.length->tA=some ⟨tb,to,none⟩)/\
     (∀i j x,(h:i<ts.length)->(Tm.enc ts[i]).cells[j]?=some x->w.cell? ⟨tb,to+i*4+j,none⟩=some (f i j)/\F tb (to+i*4+j)/\(f i j).oneCell'=true)/\∀i j x,(h:i<ts.length)->(Tm.enc ts[i]).cells[j]?=some x->bo w F [] [] x (f i j):=by
    generalize hE:ts.map Tm.enc=E at r1;have hlen:E.length=ts.length:=by rw[<-hE,aui]
    have dT:∀i,(h:i<ts.length)->E[i]?=some (Tm.enc ts[i]):=λi h=>by rw[<-hE,auu,aun h];rfl
    cases r1 with
    |mR a=>simp only[auV]at hlen;exact⟨a,0,0,0,λ_ _=>undef,by rw[<-hlen],λh=>by omega,λi j x h=>by omega,λi j x h=>by omega⟩
    |sl size els b' o c' f hc hm rN aR dW=>
     have hs:∀i,(h:i<ts.length)->size=4:=λi h=>by have:=rN i _ (dT i h);rw[Tm.aP]at this;exact this.symm
     exact⟨_,c',b',o,f,by rw[hlen],λ_=>rfl,λi j x h hx=>by have:=aR i _ j x (dT i h) hx;rw[hs i h]at this;exact this,λi j x h hx=>dW i _ j x (dT i h) hx⟩
   have c0:=λi (h:i<ts.length)=>aR i 0 (.sl (ts[i].binds.map Ty.enc)) h (by rw[Tm.aP];rfl);have c1:=λi (h:i<ts.length)=>aR i 1 (nI ts[i].kind) h (by rw[Tm.aP];rfl);have c2:=λi (h:i<ts.length)=>aR i 2 (nI ts[i].index) h (by rw[Tm.aP];rfl);have c3:=λi (h:i<ts.length)=>aR i 3 (.sl (ts[i].args.map Tm.enc)) h (by rw[Tm.aP];rfl);have q0:=λi (h:i<ts.length)=>dW i 0 (.sl (ts[i].binds.map Ty.enc)) h (by rw[Tm.aP];rfl);have q1:=λi (h:i<ts.length)=>dW i 1 (nI ts[i].kind) h (by rw[Tm.aP];rfl);have q2:=λi (h:i<ts.length)=>dW i 2 (nI ts[i].index) h (by rw[Tm.aP];rfl);have q3:=λi (h:i<ts.length)=>dW i 3 (.sl (ts[i].args.map Tm.enc)) h (by rw[Tm.aP];rfl);refine callsIn_wide.2 ((M0 b g (li.length+1) li.length c ts.length tb to tc x0 x1 x2 le tA (λi=>slP (f i 0)) (λi=>slP (f i 3)) (λi=>slL (f i 0)) (λi=>slC (f i 0)) (λi=>slL (f i 3)) (λi=>slC (f i 3)) (λi=>(ts.getD i PI).kind) (λi=>(ts.getD i PI).index) T _ cur ad w bV hl rfl aE hb hg h5 hA (λi h=>?_) (λh=>?_) (λi h w1 hk=>?_)).mono ?_);(have e:ts.getD i PI=ts[i]:=by rw[avc,aun h];rfl);rw[e,<-F9 (q0 i h),<-F9 (q3 i h)];refine⟨(c0 i h).1,?_,?_,(c3 i h).1⟩;have:=(c1 i h).1;rwa [ji (q1 i h)]at this;have:=(c2 i h).1;rwa [ji (q2 i h)]at this;have:=hX tb _ (c0 0 h).2.1;exact⟨λe=>this (.inl e),λe=>this (.inr e)⟩;(have e:ts.getD i PI=ts[i]:=by rw[avc,aun h];rfl);obtain⟨n,hn⟩:=hOf ts[i] (auv h);have:=DZ hn (λj o hf=>(bz.bC j o hf).1) bz.iN (vals:=[.agg #[x0,x1,x2],.agg #[f i 0,f i 1,f i 2,f i 3]]) ⟨D1 hr,.agg _ _ rfl (λv hv=>?_) (λj x v hx hv=>?_),ai⟩ (X:=λj=>j=b\/j=g) hk hX hXg;rw[e,<-F9 (q0 i h),<-F9 (q3 i h),<-ji (q1 i h),<-ji (q2 i h)];exact this;simp only[List.mem_toArray,auJ,avz,or_false]at hv;rcases hv with rfl|rfl|rfl|rfl;exact(c0 i h).2.2;exact(c1 i h).2.2;exact(c2 i h).2.2;exact(c3 i h).2.2;(match j,hx,hv with|0,hx,hv=>cases hx;cases hv;exact q0 i h|1,hx,hv=>cases hx;cases hv;exact q1 i h|2,hx,hv=>cases hx;cases hv;exact q2 i h|3,hx,hv=>cases hx;cases hv;exact q3 i h);rintro e w' ⟨rfl,v,hL,hN⟩;exact⟨_,_,_,_,rfl,⟨rfl,rfl⟩,D3 bz Hd NH hm hcz hr qw hL hN⟩
end
def Rz(s:aw):Nat->Nat->Nat
 |0,n=>n|k+1,n=>if n<s.size/\isWord (s.extract 0 (n+1))=true then Rz s k (n+1)else n
def Ga(s:aw):aw:=s.extract 0 (if isWord (s.extract 0 1)=true then Rz s 9 1 else 1)
theorem Gb{s:aw}(h1:1<=s.size)(h2:s.size<=1000000000):az aj 165 [nS s] (nS (Ga s)):=by refine VG ⟨⟨by decide,by decide,by omega⟩,_,u6,aA.intro (λh=>?_) λh=>⟨⟨by decide,by decide,by omega⟩,?_⟩⟩;have h:isWord (s.extract 0 1)=true:=h;rw[Ga,if_pos h];obtain⟨z,hz⟩:∃z,Rz s 9 1=z:=⟨_,rfl⟩;rw[hz];refine aI.intro (λn:Nat=>((s,(n:Int),()),())) (λn=>1<=n/\n<=10/\n<=s.size/\z=Rz s (10-n) n) (λn=>10-n) 1 rfl ⟨by omega,by omega,h1,hz.symm⟩ ?_;intro n ⟨n1,n10,ns,he⟩ again bP;dsimp only;have last:z=n->(0<=(0:Int)/\(0:Int)<=(n:Int)/\(n:Int)<=ah s)/\nS (ByteArray.extract s (af 0) (af (n:Int)))=nS (s.extract 0 z):=λe=>⟨⟨by decide,by omega,by omega⟩,by rw[e];rfl⟩;refine aA.intro (λh=>aA.intro (λh'=>?_) λh'=>last ?_) λh=>last ?_;(have g1:n<s.size:=by simpa using h);(have g2:n<10:=by have:=of_decide_eq_true h';omega);(rw[bf (by omega)];have e10:10-n=(10-(n+1))+1:=by omega);rw[e10,Rz]at he;refine⟨⟨by decide,by omega,by omega⟩,_,u6,aA.intro (λg=>?_) λg=>last ?_⟩;have g:isWord (s.extract 0 (n+1))=true:=g;rw[if_pos ⟨g1,g⟩]at he;exact bP (n+1) ⟨by omega,by omega,by omega,he⟩ (by omega);have g:isWord (s.extract 0 (n+1))=false:=g;rw[if_neg (λe=>by rw[g]at e;simp at e)]at he;exact he;(have g2:n=10:=by have:=of_decide_eq_false h';omega);subst g2;exact he;(have g1:¬n<s.size:=by simpa using h);rw[he];(cases 10-n with|zero=>rfl|succ k=>rw[Rz,if_neg (λe=>g1 e.1)]);have h:isWord (s.extract 0 1)=false:=h;rw[Ga,if_neg (by rw[h];decide)];rfl
def fG(c:Int)(l:List Int):Nat:=(l.takeWhile (· != c)).length
def JN(c:Int)(l:List Int):Int:=if fG c l=l.length then -1 else(fG c l:Int)
theorem jR(c b:Int)(l:List Int):fG c (b::l)=if b=c then 0 else fG c l+1:=by unfold fG;rw[awb];by_cases h:b=c;simp[h];rw[if_neg h,if_pos (by simpa using h)];rfl
theorem zm(c:Int)(l:List Int):fG c l<=l.length:=by induction l with|nil=>simp[fG]|cons b l ih=>rw[jR,aur];split<;>omega
theorem PJ{c:Int}{l:List Int}{n:Nat}(h:n<=fG c l):∀b∈l.take n,b≠c:=by induction l generalizing n with|nil=>simp|cons b l ih=>rw[jR]at h;cases n with|zero=>simp|succ n=>split at h;omega;rename_i hb;intro x hx;rw[List.take_succ_cons]at hx;rcases auJ.1 hx with rfl|hx;exact hb;exact ih (by omega) x hx
theorem acr{c:Int}{l:List Int}(h:fG c l<l.length):l[fG c l]=c:=by induction l with|nil=>simp at h|cons b l ih=>simp only[jR,aur]at h ⊢;by_cases hb:b=c;simp only[if_pos hb];simpa using hb;simp only[if_neg hb]at h ⊢;simp only[List.getElem_cons_succ];exact ih (by omega)
theorem idx_eq(l:List UInt8)(c:UInt8):Lib.indexByte l c=JN (c.toNat:Int) (l.map λb=>(b.toNat:Int)):=by induction l with|nil=>rfl|cons b l ih=>unfold Lib.indexByte JN;rw[ih,auL,jR,aur];have hle:=zm (c.toNat:Int) (l.map λb=>(b.toNat:Int));by_cases h:b=c;subst h;simp;have h2:¬(b.toNat:Int)=(c.toNat:Int):=λe=>h (UInt8.toNat_inj.1 (by omega));rw[if_neg (by simpa using h),if_neg h2];unfold JN;by_cases hr:fG (c.toNat:Int) (l.map λb=>(b.toNat:Int))=(l.map λb=>(b.toNat:Int)).length;rw[if_pos hr,hr,if_pos rfl];rfl;have bV:((((fG (c.toNat:Int) (l.map λb=>(b.toNat:Int)):Nat):Int)) == -1)=false:=beq_eq_false_iff_ne.2 (by omega);rw[if_neg hr,if_neg (by rw[bV];decide),if_neg (λe=>hr (by omega))];omega
theorem kP{s:aw}{c:Int}(h0:0<=c)(h1:c<=255):az aj 162 [nS s,.ay (.int .u8 c)] (nI (JN c (aF s))):=by refine⟨⟨_,func162,by kernel_rfl,by kernel_rfl⟩,λw F vals hF hg hv=>?_⟩;match vals,hv with| [v0,v1],⟨r0,r1,_⟩=>cases r0;cases r1;refine callsIn_wide.2 ((Any.strings_IndexByte afg s c w).mono ?_);rintro e w' ⟨rfl,rfl⟩;(refine⟨_,_,rfl,rfl,ck.refl _,?_⟩;have:(c.toNat.toUInt8.toNat:Int)=c:=by have:c.toNat.toUInt8.toNat=c.toNat % 256:=rfl;rw[this];omega);rw[idx_eq,this];exact .ay _
def mF(s:aw):Nat->Nat->List (Nat×aw)
 |0,_=>[]|f+1,a=>(a,s.extract a (a+fG 10 ((aF s).drop a)))::(if a+fG 10 ((aF s).drop a)=s.size then[]else mF s f (a+fG 10 ((aF s).drop a)+1))
def acs(p:Nat×aw):Int×aw×Unit:=((p.1:Int),p.2,())
def XG(p:Nat×aw):List AV:=[nI (p.1:Int),nS p.2]
theorem jj{s:aw}{a:Nat}:aF (s.extract a s.size)=(aF s).drop a:=by rw[mD,auA];rw[auR,cG];exact aum _
theorem Gc{s:aw}(hs:s.size<=1000000000):vO aj 179 (λv=>[v,.aV (nS s) 0]) ((mF s (s.size+1) 0).map XG) false:=by have hl:=cG s;refine V1 λyv more=>⟨rfl,?_⟩;refine aI.intro (λp:Nat×Nat=>(((yv,(),(p.2:Int),()),()),some ((mF s p.1 p.2).map XG++more))) (λp=>p.2<=s.size/\s.size+1<=p.1+p.2) (λp=>s.size+1-p.2) (s.size+1,0) rfl ⟨aus _,by dsimp only;omega⟩ ?_;intro ⟨f,a⟩ ⟨ha,hf⟩ again bP;dsimp only at ha hf ⊢;obtain⟨f,rfl⟩:∃g,f=g+1:=⟨f-1,by omega⟩;have hr:=zm 10 ((aF s).drop a);rw[auR,hl]at hr;have Rm:=kP (s:=s.extract a s.size) (c:=10) (by decide) (by decide);rw[jj,JN,auR,hl]at Rm;refine⟨⟨by omega,by omega,by omega⟩,_,Rm,?_⟩;by_cases he:fG 10 ((aF s).drop a)=s.size-a;(rw[if_pos he];refine aA.pos (by decide) ⟨⟨by omega,by omega,by omega⟩,rfl,more,?_,λb=>⟨b,rfl⟩⟩;rw[mF,he,if_pos (by omega)];have:a+(s.size-a)=s.size:=by omega);rw[this];rfl;(rw[if_neg he];have w1:ag .i64 ((a:Int)+((fG 10 ((aF s).drop a):Nat):Int))=((a+fG 10 ((aF s).drop a):Nat):Int):=by rw[bb (by omega) (by omega)];omega);(have w2:ag .i64 ((a:Int)+ag .i64 (((fG 10 ((aF s).drop a):Nat):Int)+1))=((a+fG 10 ((aF s).drop a)+1:Nat):Int):=by rw[bf (by omega),bb (by omega) (by omega)];omega);rw[w1,w2];refine aA.neg (decide_eq_false (by omega)) ⟨⟨by omega,by omega,by omega⟩,rfl,(mF s f (a+fG 10 ((aF s).drop a)+1)).map XG++more,?_,λb=>aA.intro (λh=>?_) λh=>?_⟩;rw[mF,if_neg (by omega)];rfl;(have:b=false:=by simpa using h);subst this;exact⟨false,rfl⟩;(have:b=true:=by simpa using h);subst this;exact⟨rfl,bP (f,_) ⟨by dsimp only;omega,by dsimp only;omega⟩ (by dsimp only;omega)⟩
theorem RA{s:aw}(hs:s.size<=1000000000):kU aj 179 [.aV (nS s) 0] [.v (.c (.i .i64)),.v (.c (.s))] ((mF s (s.size+1) 0).map acs):=qZ (prm:=[.v (.c (.i .i64)),.v (.c (.s))]) acs (Gc hs)
theorem wH(m:Int×Int)(a b:List Int):nh m (a++b)=nh (nh m a) b:=by induction a generalizing m with|nil=>rfl|cons c a ih=>exact ih _
theorem JO{l:List Int}(m:Int×Int)(h:∀b∈l,b≠10):nh m l=(m.1,m.2+l.length):=by induction l generalizing m with|nil=>simp[nh]|cons c l ih=>(have hc:(c==10)=false:=by simpa using h c auw);rw[nh,hc,ih _ λb hb=>h b (auz _ hb)];simp;omega
def Bw(s:aw)(i:Nat):AV:=.agg [nI (nh (1,1) ((aF s).take i)).1,nI (nh (1,1) ((aF s).take i)).2]
theorem nP{s:aw}{i:Nat}(hi:i<=s.size)(hs:s.size<=1000000000):az aj 116 [nS s,nI (i:Int)] (.aG [Bw s i,nI 0]):=by have hl:=cG s;refine VX (aA.neg (decide_eq_false (by omega)) (aA.neg (decide_eq_false (by omega)) ⟨VY rfl,?_⟩));refine fO.q7 (λn:Nat=>(((i:Int),()),(0,0,()),(0,()),((n:Int),()),())) acs (mF s (s.size+1) 0) (RA hs) (λrest n=>∃f a,rest=mF s f a/\a<=i/\s.size+1<=f+a/\n<=a/\nh (1,1) ((aF s).take a)=(((n+1:Nat):Int),1)) 0 rfl ⟨_,_,rfl,aus _,aum _,aum _,rfl⟩ (λp rest n hI again bP=>?_) λn hI=>?_;(obtain⟨f,a,he,ha,hf,hna,hm⟩:=hI;obtain⟨f,rfl⟩:∃g,f=g+1:=⟨f-1,by omega⟩;rw[mF]at he;obtain⟨rfl,rfl⟩:=List.cons.inj he;have hr:=zm 10 ((aF s).drop a);rw[auR,hl]at hr;have hz:(s.extract a (a+fG 10 ((aF s).drop a))).size=fG 10 ((aF s).drop a):=by rw[<-cG,mD,au0,auR,hl];omega);(dsimp only[acs];rw[bf (by omega)];have hw:ag .i64 ((a:Int)+(((s.extract a (a+fG 10 ((aF s).drop a))).size:Nat):Int))=(a:Int)+(fG 10 ((aF s).drop a):Nat):=by rw[hz,bb (by omega) (by omega)]);refine aA.intro (λh=>?_) λh=>?_;(have h:i<=a+fG 10 ((aF s).drop a):=by have:=of_decide_eq_true h;rw[hw]at this;omega);(rw[bb (n:=(i:Int)-a) (by omega) (by omega),bb (by omega) (by omega)];have e:(aF s).take i=(aF s).take a++((aF s).drop a).take (i-a):=by rw[<-List.take_add,show a+(i-a)=i by omega]);(have si:nh (1,1) ((aF s).take i)=(((n+1:Nat):Int),1+((i-a:Nat):Int)):=by rw[e,wH,hm,JO _ (PJ (by omega)),au0,auR,hl,avV (by omega)]);(show _=AV.aG [Bw s i,nI 0];rw[Bw,si];have:(1:Int)+((i-a:Nat):Int)=(i:Int)-a+1:=by omega);rw[this];(have h:a+fG 10 ((aF s).drop a)<i:=by have:=of_decide_eq_false h;rw[hw]at this;omega);(refine bP (n+1) ⟨f,a+fG 10 ((aF s).drop a)+1,if_neg (by omega),by omega,by omega,by omega,?_⟩;have aE:a+fG 10 ((aF s).drop a)<(aF s).length:=by omega);(rw[avf aE,List.take_add,auH,wH,hm,wH,JO _ (PJ (aum _))];have hc:(aF s)[a+fG 10 ((aF s).drop a)]=10:=by have:=acr (c:=10) (l:=(aF s).drop a) (by rw[auR];omega);rw[List.getElem_drop]at this;exact this);rw[hc];simp[nh];obtain⟨f,a,he,ha,hf,hna,hm⟩:=hI;obtain⟨f,rfl⟩:∃g,f=g+1:=⟨f-1,by omega⟩;rw[mF]at he;cases he
def jE:Bool->List Int->Nat
 |_,[]=>0|r,c::l=>if r||ly c then jE (c != 10&&(r||c==35)) l+1 else 0
theorem Bx:∀(r:Bool)(l:List Int),jE r l<=l.length
 |_,[]=>aum _|r,c::l=>by rw[jE,aur];split;have:=Bx (c != 10&&(r||c==35)) l;omega;omega
theorem By:∀(l:List Int),jE true l=if fG 10 l=l.length then l.length else fG 10 l+jE false (l.drop (fG 10 l))
 | []=>rfl|c::l=>by rw[jE,jR,aur];by_cases h:c=10;subst h;rw[if_pos rfl,if_neg (Nat.ne_of_lt (Nat.succ_pos _)),avG,jE];simp[ly];(have e:(c != 10&&(true||c==35))=true:=by simpa using h);rw[Bool.true_or,if_pos rfl,e,By l,if_neg h];by_cases h2:fG 10 l=l.length;rw[if_pos h2,if_pos (by omega)];rw[if_neg h2,if_neg (by omega),List.drop_succ_cons];omega
theorem M1(l:List Int):jE false (35::l)=jE true (35::l):=rfl
theorem tw{s:aw}{k:Nat}{c:Int}{l:List Int}(h:(aF s).drop k=c::l):dX s (k:Int)=c/\k<s.size/\(aF s).drop (k+1)=l:=by (have aE:k<(aF s).length:=by rcases Nat.lt_or_ge k (aF s).length with h1|h1;exact h1;rw[auF h1]at h;cases h);rw[aut aE]at h;obtain⟨h1,h2⟩:=List.cons.inj h;exact⟨by rw[uZ aE,h1],by rw[<-cG];exact aE,h2⟩
theorem M3{s:aw}(hs:s.size<=1000000000):az aj 118 [nS s] (nI (jE false (aF s):Nat)):=by
 have hl:=cG s;refine VM ?_;refine aI.intro (λk:Nat=>((s,(k:Int),()),())) (λk=>k<=s.size/\jE false (aF s)=k+jE false ((aF s).drop k)) (λk=>(s.size-k)*2+(if(aF s).drop k=[]then 0 else if((aF s).drop k).head?=some 10 then 0 else 1)) 0 rfl ⟨aus _,by simp⟩ ?_;intro k ⟨hk,hd⟩ again bP;dsimp only;refine aA.intro (λh=>?_) λh=>?_;have aE:k<s.size:=by have:=of_decide_eq_true h;omega
 obtain⟨c,l,dL⟩:∃c l,(aF s).drop k=c::l:=⟨_,_,aut (by omega)⟩;obtain⟨zj,_,rN⟩:=tw dL;refine⟨⟨by omega,by omega⟩,?_⟩;rw[zj];have blank:(ly c=true/\c≠35)->again ((s,ag .i64 ((k:Int)+1),()),()):=fun⟨hb,hc⟩=>by (rw[bf (by omega)];refine bP (k+1) ⟨by omega,?_⟩ (by split<;>split<;>(try split)<;>omega);have e:(c != 10&&(false||c==35))=false:=by simp[hc]);rw[hd,dL,jE,avu,if_pos hb,e,<-rN];omega
 have stop:ly c=false->nI (k:Int)=nI ((jE false (aF s):Nat):Int):=λhb=>by rw[hd,dL,jE,hb];simp
 have hash:c=35->0<=(k:Int)/\(k:Int)<=((s.size:Nat):Int)/\((s.size:Nat):Int)<=s.size:=λ_=>⟨by omega,by omega,by omega⟩;have Rm:=kP (s:=s.extract k s.size) (c:=10) (by decide) (by decide);rw[jj,JN,auR,hl]at Rm;have hr:=zm 10 ((aF s).drop k);rw[auR,hl]at hr;have rem:(c==35)=true->∃i53,pI 162 [nS (ByteArray.extract s (af k) (af ((ah s:Nat):Int))),.ay (.int .u8 10)] (nI i53)/\
   aA (decide (i53<0)) ((λr=>r=nI ((jE false (aF s):Nat):Int)) (nI ((ah s:Nat):Int))) (again ((s,ag .i64 ((k:Int)+i53),()),())):=λhc=>by
  have hc:c=35:=by simpa using hc
  subst hc;refine⟨_,Rm,?_⟩;have e:=By ((aF s).drop k);rw[auR,hl]at e;rw[dL,M1,<-dL,e]at hd
  by_cases h1:fG 10 ((aF s).drop k)=s.size-k
  ·rw[if_pos h1]at hd;rw[if_pos h1];refine aA.pos rfl ?_;show nI _=nI _;rw[hd];congr 1;congr 1;congr 1;omega
  ·rw[if_neg h1]at hd;rw[if_neg h1];refine aA.neg (decide_eq_false (by omega)) ?_;rw[bb (n:=(k:Int)+_) (by omega) (by omega),show (k:Int)+(fG 10 ((aF s).drop k):Nat)=((k+fG 10 ((aF s).drop k):Nat):Int) by omega];have h0:0<fG 10 ((aF s).drop k):=by rw[dL,jR];simp
   refine bP _ ⟨by omega,?_⟩ (by split<;>split<;>(try split)<;>omega);rw[hd,List.drop_drop];omega
 refine aA.intro (λh1=>?_) λh1=>aA.intro (λh2=>?_) λh2=>aA.intro (λh3=>?_) λh3=>aA.intro (λh4=>?_) λh4=>aA.intro (λh5=>?_) λh5=>?_;exact aA.pos h1 (blank ⟨by unfold ly;rw[h1];rfl,λe=>by rw[e]at h1;cases h1⟩);exact aA.pos h2 (blank ⟨by unfold ly;rw[h1,h2];rfl,λe=>by rw[e]at h2;cases h2⟩);exact aA.pos h3 (blank ⟨by unfold ly;rw[h1,h2,h3];rfl,λe=>by rw[e]at h3;cases h3⟩);exact blank ⟨by unfold ly;rw[h1,h2,h3,h4];rfl,λe=>by rw[e]at h4;cases h4⟩;exact⟨hash (by simpa using h5),rem h5⟩;exact stop (by unfold ly;rw[h1,h2,h3,h4,h5];rfl);have:s.size<=k:=by have:=of_decide_eq_false h;omega
 rw[auF (by omega)]at hd;rw[hd];rfl
def rA(l:List Int):Nat:=(l.takeWhile isDigit).length
theorem rZ(c:Int)(l:List Int):rA (c::l)=if isDigit c=true then rA l+1 else 0:=by unfold rA;rw[awb];split<;>simp
theorem acu(l:List Int):rA l<=l.length:=by induction l with|nil=>simp[rA]|cons c l ih=>rw[rZ,aur];split<;>omega
theorem Bz{s:aw}(hs:s.size<=1000000000):az aj 154 [nS s,.bw 163 []] (nI (rA (aF s):Nat)):=by refine Md ?_;have hl:=cG s;refine aI.intro (λk:Nat=>((s,(),(k:Int),()),())) (λk=>k<=s.size/\rA (aF s)=k+rA ((aF s).drop k)) (λk=>s.size-k) 0 rfl ⟨aus _,by simp⟩ ?_;intro k ⟨hk,hm⟩ again bP;dsimp only;refine aA.intro (λh=>?_) λh=>?_;(have aE:k<s.size:=by simpa using h);(have vZ:k<(aF s).length:=by omega);rw[aut vZ]at hm;refine⟨⟨by omega,by omega⟩,_,rb,?_⟩;rw[uZ vZ];refine aA.intro (λh=>?_) λh=>?_;rw[bf (by omega)];refine bP (k+1) ⟨by omega,?_⟩ (by omega);rw[hm,rZ,if_pos h];omega;rw[hm,rZ,if_neg (by rw[h];simp)];rfl;(have:s.size<=k:=by simpa using h);rw[auF (by omega)]at hm;rw[hm];simp[rA]
def JP:List Int:=[40,41,92,46,44,59,58,61,62,60,91,93,123,125,33,63,64]
def D4:List Int->Nat
 | []=>0|c::l=>if c=45/\l.head?=some 62 then 2 else if c∈JP then 1 else 0
def CV:List Int->Nat×Nat
 | []=>(3,0)|c::l=>if il c=true then(1,runN (c::l))else if isDigit c=true then(2,rA (c::l))else(3,D4 (c::l))
theorem yJ{s p:aw}:az aj 181 [nS s,nS p] (nB (decide ((aF s).take p.size=aF p))):=by have hl:=cG s;have hp:=cG p;refine V2 ⟨_,V3 (R:=λr=>r=nB (decide ((aF s).take p.size=aF p))) (aA.intro (λh=>?_) λh=>?_),rfl⟩;(have h:p.size<=s.size:=by have:=of_decide_eq_true h;omega);(refine⟨⟨by decide,by omega,by omega⟩,?_⟩;show nB _=nB _;rw[ej];refine mB ?_;rw[decide_eq_true_iff,decide_eq_true_iff];have e:aF (s.extract (af 0) (af ((p.size:Nat):Int)))=(aF s).take p.size:=by rw[mD];rfl);rw[<-e];exact⟨λh=>by rw[h],mC⟩;(have h:s.size<p.size:=by have:=of_decide_eq_false h;omega);refine(mB ?_).symm;rw[decide_eq_true_iff];refine⟨λe=>?_,λe=>by cases e⟩;have:=congrArg ab e;rw[au0]at this;omega
theorem M4{s:aw}(hs:s.size<=1000000000):az aj 164 [nS s] (nI (D4 (aF s):Nat)):=by refine VQ ⟨_,yJ,?_⟩;have e1:aF (⟨#[45,62]⟩:aw)=[45,62]:=rfl;have e2:(⟨#[45,62]⟩:aw).size=2:=rfl;rw[e1,e2];cases hb:aF s with|nil=>obtain rfl:s=⟨#[]⟩:=mC hb;exact aA.neg rfl (aA.neg (by rw[ej];rfl) rfl)|cons c l=>have zj:dX s ((0:Nat):Int)=c/\0<s.size/\_:=tw (by rw[avG];exact hb);have Rm:=kP (s:=(⟨#[40,41,92,46,44,59,58,61,62,60,91,93,123,125,33,63,64]⟩:aw)) (c:=c) (by have:=u5 s c (by rw[hb];exact auw);omega) (by have:=u5 s c (by rw[hb];exact auw);omega);(rw[<-show dX s (0:Int)=c from zj.1]at Rm;have e3:aF (⟨#[40,41,92,46,44,59,58,61,62,60,91,93,123,125,33,63,64]⟩:aw)=JP:=rfl;rw[e3]at Rm;have aoV:=Rm;have Hd:dX s (0:Int)=c:=zj.1;have hsg:decide (JN c JP>=0)=decide (c∈JP):=by (have key:∀L:List Int,(fG c L=L.length↔c∉L):=by intro L;induction L with|nil=>simp[fG]|cons b L ih=>rw[jR,aur,auJ];by_cases h:b=c;subst h;simp;rw[if_neg h];have h':¬c=b:=λe=>h e.symm;simp only[Nat.add_right_cancel_iff,ih,h',false_or]);unfold JN;by_cases h:c∈JP;rw[if_neg (λe=>(key _).1 e h),decide_eq_true h];exact decide_eq_true (by omega);rw[if_pos ((key _).2 h),decide_eq_false h];rfl);(have h2:decide ((c::l).take 2=[45,62])=decide (c=45/\l.head?=some 62):=by cases l with|nil=>simp|cons d l=>simp);rw[h2];refine aA.intro (λh=>?_) λh=>aA.pos (by rw[ej,decide_eq_false];rfl;intro e;rw[e]at hb;cases hb) ⟨⟨by decide,by have:=zj.2.1;omega⟩,_,aoV,?_⟩;rw[D4,if_pos (of_decide_eq_true h)];rfl;rw[Hd,hsg];refine aA.intro (λh3=>?_) λh3=>?_;rw[D4,if_neg (of_decide_eq_false h),if_pos (of_decide_eq_true h3)];rfl;rw[D4,if_neg (of_decide_eq_false h),if_neg (of_decide_eq_false h3)];rfl
theorem JQ{s:aw}(hs:s.size<=1000000000)(bV:aF s≠[]):az aj 119 [nS s] (.aG [nI ((CV (aF s)).1:Nat),nI ((CV (aF s)).2:Nat)]):=by cases hb:aF s with|nil=>exact(bV hb).elim|cons c l=>have zj:dX s ((0:Nat):Int)=c/\0<s.size/\_:=tw (by rw[avG];exact hb);have Hd:dX s (0:Int)=c:=zj.1;have hz:=zj.2.1;refine VN ⟨⟨by decide,by omega⟩,_,pJ,?_⟩;rw[Hd];refine aA.intro (λh=>⟨_,DM hs,?_⟩) λh=>⟨⟨by decide,by omega⟩,_,rb,aA.intro (λh2=>⟨_,Bz hs,?_⟩) λh2=>⟨_,M4 hs,?_⟩⟩;rw[CV,if_pos h,hb];rfl;rw[CV,if_neg (by rw[h];decide),if_pos h2,hb];rfl;rw[CV,if_neg (by rw[h];decide),if_neg (by rw[h2];decide),hb];rfl
def XH(c:Int):aw:=if c<33\/c>126 then⟨#[]⟩ else strOfNums [c]
theorem CW{c:Int}:az aj 120 [.ay (.int .u8 c)] (nS (XH c)):=by refine VO (aA.intro (λh=>?_) λh=>aA.intro (λh2=>?_) λh2=>?_);rw[XH,if_pos (.inl (of_decide_eq_true h))];rw[XH,if_pos (.inr (of_decide_eq_true h2))];rw[XH,if_neg (by have:=of_decide_eq_false h;have:=of_decide_eq_false h2;omega)]
def D5(s:aw):aw:=s.extract 0 (if 10<s.size then 10 else s.size)
theorem xS{s:aw}:az aj 121 [nS s] (nS (D5 s)):=by refine VP ⟨⟨by decide,by split<;>omega,by split<;>omega⟩,?_⟩;rw[D5];by_cases h:10<s.size;rw[if_pos h,if_pos (by omega)];rfl;rw[if_neg h,if_neg (by omega)];rfl
abbrev Fa:=Int×Int×Int×aw
abbrev M5(f:Fa):List AV:=[nI f.1,nI f.2.1,nI f.2.2.1,nS f.2.2.2]
def pU:Fa:=(0,0,0,⟨#[]⟩)
def M6(s:aw)(code:Int)(i:Nat)(w:aw):Fa:=(code,(nh (1,1) ((aF s).take i)).1,(nh (1,1) ((aF s).take i)).2,w)
def iK(s:aw)(i:Nat):Nat:=i+jE false ((aF s).drop i)
def sC(s:aw)(i:Nat):Nat×Nat:=CV ((aF s).drop i)
def Gd(s:aw):Nat->Nat->List Tk->List Tk×Int×Nat×aw
 |0,_,acc=>(acc,0,0,⟨#[]⟩)|f+1,i,acc=>if iK s i=s.size then(acc,0,0,⟨#[]⟩)
  else if(sC s (iK s i)).2=0 then([],3,iK s i,XH (dX s (iK s i)))
  else if((sC s (iK s i)).1=1/\30<(sC s (iK s i)).2)\/((sC s (iK s i)).1=2/\9<(sC s (iK s i)).2)then([],2,iK s i,D5 (s.extract (iK s i) (iK s i+(sC s (iK s i)).2)))
  else Gd s f (iK s i+(sC s (iK s i)).2) (acc++[((((sC s (iK s i)).1:Nat):Int),s.extract (iK s i) (iK s i+(sC s (iK s i)).2),((iK s i:Nat):Int))])
def XI(s:aw)(r:List Tk×Int×Nat×aw):List Tk×Fa:=if r.2.1=0 then(r.1,pU)else([],M6 s r.2.1 r.2.2.1 r.2.2.2)
def di(s:aw):List Tk×Fa:=if s.size>20000 then([],(2,1,1,⟨#[]⟩))else XI s (Gd s (s.size+1) 0 [])
theorem PK:∀l:List Int,(CV l).2<=l.length
 | []=>aum _|c::l=>by have h1:=ace (c::l);have h2:=acu (c::l);rw[CV];split;exact h1;split;exact h2;rw[D4];split;rename_i h;obtain⟨d,hd⟩:∃d,l.head?=some d:=⟨_,h.2⟩;(cases l with|nil=>cases hd|cons d l=>simp);split<;>simp
theorem qn{s w:aw}{f:Fa}{us:List AV}{i:Nat}{c:Int}(hi:i<=s.size)(hs:s.size<=1000000000):aZ aj 115 [nI c,nS w,.ptr 0 0,.ptr 3 0] (DF s f.1 f.2.1 f.2.2.1 f.2.2.2 us.length (i:Int) us) (λr hp'=>r=.aG [.ay (.slice none 0 0),.agg (M5 (M6 s c i w))]/\hp'=DF s f.1 f.2.1 f.2.2.1 f.2.2.2 us.length (i:Int) us):=VI ⟨_,_,_,nP hi hs,rfl,rfl⟩
theorem BA{s:aw}{f:Fa}{us:List Tk}{i n:Nat}{k:Int}(hi:i+n<=s.size)(hs:s.size<=1000000000)(hu:us.length<=1000000000):aZ aj 117 [nI k,nI (n:Int),.ptr 2 0,.ptr 0 0,.ptr 3 0] (DF s f.1 f.2.1 f.2.2.1 f.2.2.2 (us.map cQ).length (i:Int) (us.map cQ)) (λr hp'=>r=.aG []/\hp'=DF s f.1 f.2.1 f.2.2.1 f.2.2.2 ((us++[(k,s.extract i (i+n),(i:Int))]).map cQ).length ((i+n:Nat):Int) ((us++[(k,s.extract i (i+n),(i:Int))]).map cQ)):=by (refine VJ ?_;have w:ag .i64 ((i:Int)+(n:Int))=((i+n:Nat):Int):=by rw[bb (by omega) (by omega)];omega);unfold adJ;rw[w];have e:=acf us (k,s.extract i (i+n),(i:Int));refine⟨⟨by omega,by omega,by omega⟩,rfl,bG rfl (by simp;omega) (by decide),rfl,?_⟩;rw[<-e];rfl
theorem BB{s:aw}(hs:s.size<=1000000000):az aj 58 [nS s] (.aG [.sl ((di s).1.map cQ),.agg (M5 (di s).2)]):=by
 have hl:=cG s;refine aa1 ?_;refine aA.intro (λh=>?_) λh=>?_;have h:s.size>20000:=by have:=of_decide_eq_true h;omega
 rw[di,if_pos h];rfl;refine⟨rfl,?_⟩;have cP:¬s.size>20000:=by have:=of_decide_eq_false h;omega
 have hsp:di s=XI s (Gd s (s.size+1) 0 []):=if_neg cP;refine aI.intro (λp:Nat×Nat×List Tk=>(((),(),(),(),((),(),()),((),(),(),()),()),((s,()),(0,0,0,⟨#[]⟩,()),((),()),((p.2.1:Int),()),p.2.2.map cQ,()))) (λp=>p.2.1<=s.size/\s.size+1<=p.1+p.2.1/\p.2.2.length<=p.2.1/\di s=XI s (Gd s p.1 p.2.1 p.2.2)) (λp=>s.size-p.2.1) (s.size+1,0,[]) rfl ⟨aus _,by dsimp only;omega,aum _,hsp⟩ ?_;intro ⟨f,i,acc⟩ ⟨hi,hf,hac,hd⟩ again bP;dsimp only at hi hf hac hd ⊢;obtain⟨f,rfl⟩:∃g,f=g+1:=⟨f-1,by omega⟩;have Xl:=M3 (s:=s.extract i s.size) (by rw[avM];omega);rw[jj]at Xl;have hle:=Bx false ((aF s).drop i);rw[auR,hl]at hle;have w1:ag .i64 ((i:Int)+((jE false ((aF s).drop i):Nat):Int))=((iK s i:Nat):Int):=by rw[bb (by omega) (by omega),iK];omega
 have ha:iK s i<=s.size:=by rw[iK];omega
 have hai:i<=iK s i:=by rw[iK];omega
 refine⟨⟨by omega,by omega,by omega⟩,_,Xl,?_⟩;rw[w1];rw[Gd]at hd;clear w1 Xl hle;generalize hA:iK s i=a at ha hai hd ⊢;refine aA.intro (λh1=>⟨rfl,?_⟩) λh1=>?_;have h1:a=s.size:=by have:=eq_of_beq h1;omega
 rw[if_pos h1]at hd;rw[hd];rfl;have h1:¬a=s.size:=λe=>by rw[e]at h1;simp at h1
 rw[if_neg h1]at hd;have hfi:=JQ (s:=s.extract a s.size) (by rw[avM];omega) (by rw[jj];intro e;have:=congrArg ab e;rw[auR,hl]at this;simp at this;omega);rw[jj]at hfi;have HU:=PK ((aF s).drop a);rw[auR,hl]at HU;change az _ _ _ (.aG [nI ((sC s a).1:Nat),nI ((sC s a).2:Nat)])at hfi;change (sC s a).2<=_ at HU;refine⟨⟨by omega,by omega,by omega⟩,_,_,hfi,?_⟩;generalize hT:sC s a=t at HU hd ⊢;obtain⟨k,n⟩:=t;dsimp only at HU hd ⊢;have afE:(k=1/\30<n\/k=2/\9<n)->¬n=0->nI (0:Int)=nI 0->AV.aG [.sl [],.agg (M5 (M6 s 2 a (D5 (s.extract a (a+n)))))]=AV.aG [.sl ((di s).1.map cQ),.agg (M5 (di s).2)]:=λh h0 _=>by rw[if_neg h0,if_pos h]at hd;rw[hd];rfl
 have w2:ag .i64 ((a:Int)+(n:Int))=((a+n:Nat):Int):=by rw[bb (by omega) (by omega)];omega
 have cut:¬(k=1/\30<n\/k=2/\9<n)->¬n=0->aH 117 [nI (k:Int),nI (n:Int),.ptr 2 0,.ptr 0 0,.ptr 3 0] (DF s 0 0 0 ⟨#[]⟩ (acc.map cQ).length (a:Int) (acc.map cQ)) λr q=>∃l s2 i1 i2 i3 w i,(r=.aG []/\q=DF s2 i1 i2 i3 w (ab l) i l)/\ab l=ab l/\
   again (((),(),(),(),((),(),()),((),(),(),()),()),((s2,()),(i1,i2,i3,w,()),((),()),(i,()),l,())):=λh h0=>by
  rw[if_neg h0,if_neg h]at hd;exact⟨_,BA (f:=pU) (by omega) hs (by omega),λr q ⟨e1,e2⟩=>⟨_,_,_,_,_,_,_,⟨e1,e2⟩,rfl,bP (f,a+n,acc++[((k:Int),s.extract a (a+n),(a:Int))]) ⟨by dsimp only;omega,by dsimp only;omega,by simp;omega,hd⟩ (by dsimp only;omega)⟩⟩
 have rest:∀b:Bool,(b=true->(k=1/\30<n\/k=2/\9<n))->(b=false->¬(k=1/\30<n\/k=2/\9<n))->¬n=0->
   uL b (a:Int) (n:Int) s 0 0 0 ⟨#[]⟩ (acc.map cQ).length (acc.map cQ) (λr=>r=.aG [.sl ((di s).1.map cQ),.agg (M5 (di s).2)]) (k:Int) again:=λb xo hb2 h0=>by
  refine aA.intro (λh=>?_) λh=>cut (hb2 h) h0;rw[w2];exact⟨⟨by omega,by omega,by omega⟩,_,xS,_,qn (f:=pU) (by omega) hs,λr q ⟨e1,e2⟩=>⟨_,_,_,_,_,_,_,_,_,_,_,⟨e1,e2⟩,afE (xo h) h0 rfl⟩⟩
 refine aA.intro (λh2=>?_) λh2=>?_;have h2:n=0:=by have:=eq_of_beq h2;omega
 rw[if_pos h2]at hd;refine⟨⟨by omega,by omega⟩,_,CW,_,qn (f:=pU) (by omega) hs,λr q ⟨e1,e2⟩=>⟨_,_,_,_,_,_,_,_,_,_,_,⟨e1,e2⟩,?_⟩⟩;rw[hd];rfl;have h0:¬n=0:=λe=>by subst e;cases h2
 refine aA.intro (λh3=>aA.intro (λh4=>?_) λh4=>aA.intro (λh5=>?_) λh5=>?_) λh3=>aA.intro (λh5=>?_) λh5=>?_;have h3:k=1:=by have:=eq_of_beq h3;omega
 have h4':30<n:=by have:=of_decide_eq_true h4;omega
 rw[h4];exact rest _ (λ_=>.inl ⟨h3,h4'⟩) (λh=>by cases h) h0;have h3:k=1:=by have:=eq_of_beq h3;omega
 have h5:k=2:=by have:=eq_of_beq h5;omega
 omega;have h3:k=1:=by have:=eq_of_beq h3;omega
 have h4:¬30<n:=by have:=of_decide_eq_false h4;omega
 exact cut (by omega) h0;have h5:k=2:=by have:=eq_of_beq h5;omega
 exact rest _ (λh=>.inr ⟨h5,by have:=of_decide_eq_true h;omega⟩) (λh=>by have:=of_decide_eq_false h;omega) h0;have h3:¬k=1:=λe=>by subst e;cases h3
 have h5:¬k=2:=λe=>by subst e;cases h5
 exact cut (by omega) h0
section
abbrev St:=Nat×Fa
structure PE(L:List Tk)(s:aw):Prop where
 len:L.length<=1000000
 size:s.size<=1000000000
 at_:∀t∈L,0<=t.2.2/\t.2.2<(s.size:Int)
 kind:∀t∈L,t.1≠4
abbrev RO(L:List Tk)(s:aw)(i:Nat):List ax:=iC (L.map cQ) s (i:Int)
abbrev PO(L:List Tk)(s:aw)(o:Int)(st:St):List ax:=bm (L.map cQ) s (st.1:Int) o st.2.1 st.2.2.1 st.2.2.2.1 st.2.2.2.2
abbrev PQ(L:List Tk)(s:aw)(o:Int)(st:St):List ax:=uE (L.map cQ) s (st.1:Int) o st.2.1 st.2.2.1 st.2.2.2.1 st.2.2.2.2
def acv(s:aw):Tk:=(4,⟨#[]⟩,(s.size:Int))
def pk(L:List Tk)(s:aw)(i:Nat):Tk:=L.getD i (acv s)
def ju(st:St):Bool:=st.2.1==0
def jk(L:List Tk)(s:aw)(c:Int)(st:St):St:=if ju st=true then(st.1,M6 s c (pk L s st.1).2.2.toNat (D5 (pk L s st.1).2.1))else st
def G9(w:aw)(t:Tk):Bool:=(t.1==1||t.1==3)&&decide (t.2.1=w)
def dE(L:List Tk)(s w:aw)(st:St):Bool×St:=if(ju st&&G9 w (pk L s st.1))=true then(true,(st.1+1,st.2))else(false,st)
def dF(L:List Tk)(s w:aw)(st:St):St:=if ju st=true then(if G9 w (pk L s st.1)=true then(st.1+1,st.2)else jk L s 3 st)else st
def lA(L:List Tk)(s:aw)(k:Int)(st:St):Tk×St:=if ju st=true then(if(pk L s st.1).1=k then(pk L s st.1,(st.1+1,st.2))else((0,⟨#[]⟩,0),jk L s 3 st))else((0,⟨#[]⟩,0),st)
variable {L:List Tk} {s w:aw} {o:Int} {st:St} {i n:Nat}
theorem XJ(h:i<L.length):pk L s i=L[i]:=by simp[pk,ae,h]
theorem PL(h:L.length<=i):pk L s i=acv s:=by simp[pk,ae,h]
theorem akp(h:PE L s):0<=(pk L s i).2.2/\(pk L s i).2.2<=(s.size:Int):=by rcases Nat.lt_or_ge i L.length with h1|h1;rw[XJ h1];exact(h.at_ _ (auv h1)).imp id Int.le_of_lt;rw[PL h1];exact⟨by simp[acv],Int.le_refl _⟩
theorem vg(h:PE L s)(hk:(pk L s i).1≠4):i<L.length:=by rcases Nat.lt_or_ge i L.length with h1|h1;exact h1;rw[PL h1]at hk;exact(hk rfl).elim
theorem Ge(h:G9 w (pk L s i)=true):i<L.length:=by rcases Nat.lt_or_ge i L.length with h1|h1;exact h1;rw[PL h1]at h;simp[G9,acv]at h
def nQ(L:List Tk)(st st':St):Prop:=st.1<=st'.1/\(st.1<=L.length->st'.1<=L.length)
theorem nQ.refl:nQ L st st:=⟨aum _,id⟩
theorem nQ.trans{a b c:St}(h1:nQ L a b)(h2:nQ L b c):nQ L a c:=⟨auM h1.1 h2.1,λh=>h2.2 (h1.2 h)⟩
theorem nQ.succ(h:st.1<L.length){f:Fa}:nQ L st (st.1+1,f):=⟨by simp,λ_=>by simp;omega⟩
theorem oJ{c:Int}:nQ L st (jk L s c st):=by unfold jk;split;exact⟨aum _,id⟩;exact nQ.refl
theorem ga:nQ L st (dE L s w st).2:=by unfold dE;split;rename_i h;rw[aul]at h;exact nQ.succ (Ge h.2);exact nQ.refl
theorem dB:nQ L st (dF L s w st):=by unfold dF;split;split;rename_i h;exact nQ.succ (Ge h);exact oJ;exact nQ.refl
theorem BC(h:PE L s){k:Int}(hk:k≠4):nQ L st (lA L s k st).2:=by unfold lA;split;split;rename_i h1;exact nQ.succ (vg h (by rw[h1];exact hk));exact oJ;exact nQ.refl
theorem dC(h:PE L s)(hi:i<=L.length):aZ aj 37 [.ptr 0 0,nI 0] (RO L s i) (λr q=>r=cQ (pk L s i)/\q=RO L s i):=by (have:=h.len;have hw:ag .i64 (((L.length:Nat):Int)-(i:Int))=(L.length:Int)-i:=bb (by omega) (by omega);have YK:ag .i64 ((i:Int)+0)=(i:Int):=by rw[Int.add_zero,bb (by omega) (by omega)]);refine aa4 (aA.neg rfl ?_);rw[aui];refine aA.intro (λh1=>?_) λh1=>?_;have h1:=of_decide_eq_true h1;rw[hw]at h1;rw[PL (by omega)];exact⟨rfl,rfl⟩;(have h1:=of_decide_eq_false h1;rw[hw]at h1;have aE:i<L.length:=by omega);rw[YK];exact⟨by omega,by omega,_,_,_,getD_map aE,by rw[XJ aE];rfl,rfl⟩
theorem xT(h:PE L s)(hi:i<=L.length):aZ aj 62 [.ptr 0 0] (RO L s i) (λr q=>r=cQ (pk L s i)/\q=RO L s (if i<L.length then i+1 else i)):=by have:=h.len;refine aa5 ⟨_,dC h hi,λr q ⟨e1,e2⟩=>⟨_,_,_,_,_,_,⟨e1,e2⟩,?_⟩⟩;rw[aui];refine aA.intro (λh1=>⟨rfl,?_⟩) λh1=>⟨rfl,?_⟩;rw[if_pos (by have:=of_decide_eq_true h1;omega),bf (by omega)];rw[if_neg (by have:=of_decide_eq_false h1;omega)]
theorem BD(h:PE L s)(hi:i<=L.length):aZ aj 133 [.ptr 0 0,.clip [nS w]] (RO L s i) (λr q=>r=nB (G9 w (pk L s i))/\q=RO L s (if G9 w (pk L s i)=true then i+1 else i)):=by have:=h.len;refine aZ.xw (ys:=[.ptr 0 0,.sl [nS w]]) ⟨aY.refl _,fY _,ai⟩ ?_;refine VT ?_;refine aI.intro (λk:Nat=>(((),[nS w],[nS w],1,(k:Int),()),((L.map cQ,s,(i:Int),()),()))) (λk=>k=0\/k=1/\G9 w (pk L s i)=true) (λk=>1-k) 0 rfl (.inl rfl) ?_;intro k hk again bP;dsimp only;rcases hk with rfl|⟨rfl,hk⟩;(refine aA.pos rfl ⟨by decide,by show (0:Int)<1;decide,_,rfl,_,dC h hi,λr q ⟨e1,e2⟩=>⟨_,_,_,_,_,_,⟨e1,e2⟩,?_⟩⟩;rw[ej];have fin:(pk L s i).1=1\/(pk L s i).1=3->aA (!(decide ((pk L s i).2.1=w))) (nB false=nB (G9 w (pk L s i))/\RO L s i=RO L s (if G9 w (pk L s i)=true then i+1 else i)) (again (((),[nS w],[nS w],1,ag .i64 (((0:Nat):Int)+1),()),((L.map cQ,s,(i:Int),()),()))):=λhk=>by (have hk:((pk L s i).1==1||(pk L s i).1==3)=true:=by simpa using hk);refine aA.intro (λh1=>?_) λh1=>?_;(have:G9 w (pk L s i)=false:=by rw[G9,hk];simpa using h1);rw[this];exact⟨rfl,rfl⟩;refine bP 1 (.inr ⟨rfl,?_⟩) (by decide);rw[G9,hk];simpa using h1);(refine aA.intro (λh1=>aA.intro (λh2=>?_) λh2=>fin (.inr (by simpa using h2))) λh1=>fin (.inl (by simpa using h1));have:G9 w (pk L s i)=false:=by (have h1:¬(pk L s i).1=1:=by simpa using h1);(have h2:¬(pk L s i).1=3:=by simpa using h2);simp[G9,h1,h2]);rw[this];exact⟨rfl,rfl⟩;refine aA.neg rfl ⟨by rw[hk],?_⟩;have e:ag .i64 ((i:Int)+1)=((i+1:Nat):Int):=bf (by omega);show iC _ _ (ag .i64 ((i:Int)+1))=_;rw[if_pos hk,e]
theorem Gf(h:PE L s)(hi:i<=L.length):aZ aj 123 [.ptr 0 0] (RO L s i) (λr q=>r=Bw s (pk L s i).2.2.toNat/\q=RO L s i):=by (have ha:=akp (i:=i) h;have hp:az aj 116 [nS s,nI (pk L s i).2.2] (.aG [Bw s (pk L s i).2.2.toNat,nI 0]):=by have:=nP (s:=s) (i:=(pk L s i).2.2.toNat) (by omega) h.size;rwa [show (((pk L s i).2.2.toNat:Nat):Int)=(pk L s i).2.2 by omega]at this);have key:uM (L.map cQ) s (i:Int) (λr q=>r=Bw s (pk L s i).2.2.toNat/\q=RO L s i):= ⟨_,dC h hi,λr q ⟨e1,e2⟩=>⟨_,_,_,_,_,_,⟨e1,e2⟩,_,_,_,hp,aA.pos rfl ⟨rfl,rfl⟩⟩⟩;have akq:tj (L.map cQ) s (i:Int) (λr q=>r=Bw s (pk L s i).2.2.toNat/\q=RO L s i):= ⟨_,dC h hi,λr q ⟨e1,e2⟩=>⟨_,_,_,_,_,_,⟨e1,e2⟩,_,_,_,hp,aA.pos rfl ⟨rfl,rfl⟩⟩⟩;exact VU ⟨⟨key,key⟩,akq,key,akq⟩
theorem JR(h:PE L s)(hi:i<=L.length){c:Int}:aZ aj 60 [.ptr 0 0,nI c] (RO L s i) (λr q=>r=.agg (M5 (M6 s c (pk L s i).2.2.toNat (D5 (pk L s i).2.1)))/\q=RO L s i):=aa6 ⟨_,Gf h hi,λr q ⟨e1,e2⟩=>⟨_,_,_,_,_,⟨e1,e2⟩,_,dC h hi,λr q ⟨e1,e2⟩=>⟨_,_,_,_,_,_,⟨e1,e2⟩,_,xS,rfl,rfl⟩⟩⟩
theorem cx:aZ aj 36 [.ptr 1 0] (PO L s o st) (λr q=>r=nB (ju st)/\q=PO L s o st):=aa8 ⟨rfl,rfl⟩
theorem fK(h:PE L s)(hi:st.1<=L.length){c:Int}:aZ aj 38 [.ptr 1 0,nI c] (PO L s o st) (λr q=>r=.aG []/\q=PO L s o (jk L s c st)):=by refine aa7 ⟨_,cx,λr q ⟨e1,e2⟩=>⟨_,_,_,_,_,_,_,_,_,⟨e1,e2⟩,aA.intro (λh1=>⟨_,JR h hi,λr q ⟨e1,e2⟩=>⟨_,_,_,_,_,_,_,⟨e1,e2⟩,rfl,?_⟩⟩) λh1=>⟨rfl,?_⟩⟩⟩;rw[jk,if_pos h1];rw[jk,if_neg (by rw[h1];decide)]
theorem kA(h:PE L s)(hi:st.1<=L.length):aZ aj 127 [.ptr 1 0,nS w] (PO L s o st) (λr q=>r=nB (dE L s w st).1/\q=PO L s o (dE L s w st).2):=by refine V7 ⟨_,cx,λr q ⟨e1,e2⟩=>⟨_,_,_,_,_,_,_,_,_,⟨e1,e2⟩,aA.intro (λh1=>⟨_,BD h hi,λr q ⟨e1,e2⟩=>⟨_,_,_,_,⟨e1,e2⟩,?_,?_⟩⟩) λh1=>⟨?_,?_⟩⟩⟩;rw[dE,h1,au5];split<;>simp_all;rw[dE,h1,au5];split<;>rfl;rw[dE,h1];rfl;rw[dE,h1];rfl
theorem eU(h:PE L s)(hi:st.1<=L.length):aZ aj 72 [.ptr 1 0,nS w] (PO L s o st) (λr q=>r=.aG []/\q=PO L s o (dF L s w st)):=by refine aa9 ⟨_,cx,λr q ⟨e1,e2⟩=>⟨_,_,_,_,_,_,_,_,_,⟨e1,e2⟩,aA.intro (λh1=>⟨_,BD h hi,λr q ⟨e1,e2⟩=>⟨_,_,_,_,⟨e1,e2⟩,?_⟩⟩) λh1=>⟨rfl,?_⟩⟩⟩;cases ht:G9 w (pk L s st.1);refine aA.pos rfl ⟨_,fK (st:=st) h hi,λr q ⟨e1,e2⟩=>⟨_,_,_,_,_,_,_,_,⟨e1,e2⟩,rfl,?_⟩⟩;rw[dF,if_pos h1,ht];rfl;refine aA.neg rfl ⟨rfl,?_⟩;rw[dF,if_pos h1,ht];rfl;rw[dF,if_neg (by rw[h1];decide)]
theorem rB{c:Int}(hc:c≠0)(h:ju st=true):ju (jk L s c st)=false:=by rw[jk,if_pos h];simp[ju,M6,hc]
theorem pV(h:PE L s)(hi:st.1<=L.length){k:Int}(hk:k≠4):aZ aj 128 [.ptr 1 0,nI k] (PO L s o st) (λr q=>r=cQ (lA L s k st).1/\q=PO L s o (lA L s k st).2):=by have bad:∀(R:AV->List ax->Prop){st1:St},ju st1=false->R (.agg [nI 0,nS ⟨#[]⟩,nI 0]) (PO L s o st1)->A0 (L.map cQ) s (st1.1:Int) o st1.2.1 st1.2.2.1 st1.2.2.2.1 st1.2.2.2.2 R:=λR _ h1 hR=> ⟨_,cx,λr q ⟨e1,e2⟩=>⟨_,_,_,_,_,_,_,_,_,⟨e1,e2⟩,aA.pos (by rw[h1];rfl) hR⟩⟩;refine V9 ⟨_,cx,λr q ⟨e1,e2⟩=>⟨_,_,_,_,_,_,_,_,_,⟨e1,e2⟩,aA.intro (λh1=>⟨_,dC h hi,λr q ⟨e1,e2⟩=>⟨_,_,_,_,_,_,⟨e1,e2⟩,aA.intro (λh2=>?_) λh2=>?_⟩⟩) λh1=>?_⟩⟩;(have h2:¬(pk L s st.1).1=k:=by simpa using h2);refine⟨_,fK (st:=st) h hi,λr q ⟨e1,e2⟩=>⟨_,_,_,_,_,_,_,_,⟨e1,e2⟩,bad (λr q=>r=cQ (lA L s k st).1/\q=PO L s o (lA L s k st).2) (st1:=jk L s 3 st) (rB (by decide) h1) ?_⟩⟩;rw[lA,if_pos h1,if_neg h2];exact⟨rfl,rfl⟩;(have h2:(pk L s st.1).1=k:=by simpa using h2);have aE:=vg (L:=L) (s:=s) (i:=st.1) h (by rw[h2];exact hk);refine⟨_,cx (st:=st),λr q ⟨e1,e2⟩=>⟨_,_,_,_,_,_,_,_,_,⟨e1,e2⟩,aA.neg (by rw[h1];rfl) ⟨_,xT h hi,λr q ⟨e1,e2⟩=>⟨_,_,_,_,_,_,⟨e1,e2⟩,?_,?_⟩⟩⟩⟩;rw[lA,if_pos h1,if_pos h2];rfl;rw[lA,if_pos h1,if_pos h2,if_pos aE];refine bad _ (st1:=st) h1 ?_;rw[lA,if_neg (by rw[h1];decide)];exact⟨rfl,rfl⟩
def bL(L:List Tk)(s:aw)(st:St):aw×St:=((lA L s 1 st).1.2.1,(lA L s 1 st).2)
theorem cX(h:PE L s):nQ L st (bL L s st).2:=BC h (by decide)
theorem dN(h:PE L s)(hi:st.1<=L.length):aZ aj 68 [.ptr 1 0] (PO L s o st) (λr q=>r=nS (bL L s st).1/\q=PO L s o (bL L s st).2):=aba ⟨_,pV h hi (by decide),λr q ⟨e1,e2⟩=>⟨_,_,_,_,_,_,_,_,_,_,_,⟨e1,e2⟩,rfl,rfl⟩⟩
def RB:Int->List Int->Int
 |n,[]=>n|n,c::l=>RB (10*n+(c-48)) l
def XK(t:Tk):Int:=if t.1=2/\t.2.1.size≠0/\t.2.1.size<=9/\rA (aF t.2.1)=t.2.1.size then RB 0 (aF t.2.1)else 0
theorem XL(s:aw):jA s=(aF s).map λc=>.ay (.int .u8 c):=by simp[jA,aF]
theorem XM{l:List Int}(h:rA l=l.length):∀c∈l,48<=c/\c<=57:=by induction l with|nil=>simp|cons c l ih=>rw[rZ,aur]at h;split at h;rename_i hc;intro d hd;rcases auJ.1 hd with rfl|hd;simpa [isDigit]using hc;exact ih (by omega) d hd;omega
theorem JS{t:Tk}:az aj 132 [cQ t] (.aG [nI (XK t),nI (if t.1=2/\t.2.1.size≠0/\t.2.1.size<=9/\rA (aF t.2.1)=t.2.1.size then 0 else 1)]):=by (have hl:=cG t.2.1;have no:¬(t.1=2/\t.2.1.size≠0/\t.2.1.size<=9/\rA (aF t.2.1)=t.2.1.size)->AV.aG [nI 0,nI 1]=.aG [nI (XK t),nI (if t.1=2/\t.2.1.size≠0/\t.2.1.size<=9/\rA (aF t.2.1)=t.2.1.size then 0 else 1)]:=λh=>by rw[XK,if_neg h,if_neg h]);refine V6 (aA.intro (λh1=>no λc=>?_) λh1=>aA.intro (λh2=>no λc=>?_) λh2=>aA.intro (λh3=>no λc=>?_) λh3=>?_);rw[c.1]at h1;cases h1;rw[Bf]at h2;exact c.2.1 (of_decide_eq_true h2);have:=of_decide_eq_true h3;omega;(have h1:t.1=2:=by simpa using h1);(have h2:¬t.2.1.size=0:=by rw[Bf]at h2;exact of_decide_eq_false h2);(have h3:t.2.1.size<=9:=by have:=of_decide_eq_false h3;omega);refine⟨_,Bz (by omega),aA.intro (λh4=>no λc=>?_) λh4=>⟨by omega,?_⟩⟩;rw[c.2.2.2]at h4;simp at h4;(have h4:rA (aF t.2.1)=t.2.1.size:=by (have:((rA (aF t.2.1):Nat):Int)=(t.2.1.size:Int):=by simpa using h4);omega);have Zb:=XM (by rw[hl];exact h4);rw[XL,aui,hl];refine aI.intro (λp:Nat×Int=>((p.2,(aF t.2.1).map (λc=>.ay (.int .u8 c)),((t.2.1.size:Nat):Int),(p.1:Int),()),((t.1,t.2.1,t.2.2,()),()))) (λp=>p.1<=t.2.1.size/\RB 0 (aF t.2.1)=RB p.2 ((aF t.2.1).drop p.1)/\0<=p.2/\p.2<(10 ^ p.1:Nat)) (λp=>t.2.1.size-p.1) (0,0) rfl ⟨aus _,rfl,Int.le_refl _,by decide⟩ ?_;intro ⟨k,n⟩ ⟨hk,hd,nY,Zm⟩ again bP;dsimp only at hk hd nY Zm ⊢;refine aA.intro (λh=>?_) λh=>?_;(have aE:k<t.2.1.size:=by have:=of_decide_eq_true h;omega);(have vZ:k<(aF t.2.1).length:=by omega);(have hc:=Zb _ (auv vZ);rw[aut vZ,RB]at hd;have hp:(10 ^ k:Nat)<=10 ^ 8:=Nat.pow_le_pow_right (by decide) (by omega);have hp9:(10 ^ 8:Nat)=100000000:=by decide);(have hw:ag .u8 ((aF t.2.1)[k]-48)=(aF t.2.1)[k]-48:=by (have key:∀d:Fin 10,ag .u8 ((d.val:Nat):Int)=((d.val:Nat):Int):=by decide);have:=key ⟨((aF t.2.1)[k]-48).toNat,by omega⟩;rwa [show ((((aF t.2.1)[k]-48).toNat:Nat):Int)=(aF t.2.1)[k]-48 by omega]at this);(refine⟨by omega,by rw[aui];omega,_,getD_map vZ,?_⟩;rw[hw,bb (n:=10*n) (by omega) (by omega),bb (n:=(aF t.2.1)[k]-48) (by omega) (by omega),bb (by omega) (by omega),bf (by omega)];refine bP (k+1,_) ⟨by dsimp only;omega,hd,by dsimp only;omega,?_⟩ (by dsimp only;omega);dsimp only;have:(10 ^ (k+1):Nat)=10*10 ^ k:=by rw[Nat.pow_succ];omega);rw[this];omega;(have fh:t.2.1.size<=k:=by have:=of_decide_eq_false h;omega);rw[auF (by omega),RB]at hd;rw[XK,if_pos ⟨h1,h2,h3,h4⟩,if_pos ⟨h1,h2,h3,h4⟩,hd]
def BE(L:List Tk)(s:aw)(st:St):Int×St:=(XK (lA L s 2 st).1,(lA L s 2 st).2)
theorem BF(h:PE L s):nQ L st (BE L s st).2:=BC h (by decide)
theorem BH(h:PE L s)(hi:st.1<=L.length):aZ aj 71 [.ptr 1 0] (PO L s o st) (λr q=>r=nI (BE L s st).1/\q=PO L s o (BE L s st).2):=abe ⟨_,pV h hi (by decide),λr q ⟨e1,e2⟩=>⟨_,_,_,_,_,_,_,_,_,_,_,⟨e1,e2⟩,_,_,JS,rfl,rfl⟩⟩
def xU(L:List Tk)(s:aw)(st:St):Bool:=ju st&&((pk L s st.1).1==1||((pk L s st.1).1==3&&decide ((pk L s st.1).2.1=(⟨#[40]⟩:aw))))
theorem JU(h:PE L s)(hi:st.1<=L.length):aZ aj 131 [.ptr 1 0] (PO L s o st) (λr q=>r=nB (xU L s st)/\q=PO L s o st):=by refine Wf ⟨_,dC h hi,λr q ⟨e1,e2⟩=>⟨_,_,_,_,_,_,⟨e1,e2⟩,_,cx (st:=st),λr q ⟨e1,e2⟩=>⟨_,_,_,_,_,_,_,_,_,⟨e1,e2⟩,aA.intro (λh1=>aA.intro (λh2=>⟨?_,rfl⟩) λh2=>aA.intro (λh3=>⟨?_,rfl⟩) λh3=>⟨?_,rfl⟩) λh1=>⟨?_,rfl⟩⟩⟩⟩;rw[xU,h1,h2];rfl;rw[xU,h1,h2,h3,ej];rfl;rw[xU,h1,h2,h3];rfl;rw[xU,h1];rfl
end
section
abbrev M7:aw:=⟨#[40]⟩
abbrev rpW:aw:=⟨#[41]⟩
abbrev arW:aw:=⟨#[45,62]⟩
abbrev bsW:aw:=⟨#[92]⟩
abbrev YO:aw:=⟨#[58]⟩
abbrev doW:aw:=⟨#[46]⟩
section
variable (L:List Tk) (s:aw)
def cH(f:St->Nd×St)(st:St):Nd×St:=
 match dE L s M7 st with
 |(true,st1)=>((f st1).1,dF L s rpW (f st1).2)
 |(false,st1)=>(.mk 1 (lA L s 1 st1).1.2.1 (lA L s 1 st1).1.2.2 [],(lA L s 1 st1).2)
def RC(f:St->Nd×St)(st:St):Nd×St:=
 match dE L s arW (cH L s f st).2 with
 |(true,st2)=>(.mk 2 ⟨#[]⟩ (cH L s f st).1.at_ [(cH L s f st).1,(f st2).1],(f st2).2)
 |(false,st2)=>((cH L s f st).1,st2)
def gU(full:Bool)(f:St->Nd×St)(st:St):Nd×St:=if ju st=true then(if full=true then(xN,jk L s 2 st)else f st)else(xN,st)
def rC:Nat->St->Nd×St
 |0=>gU L s true λst=>(xN,st)|n+1=>gU L s false (RC L s (rC n))
def XN(f g:St->Nd×St)(a:Int)(st:St):Nd×St:=(.mk 3 (bL L s st).1 a [(f (dF L s YO (bL L s st).2)).1,(g (dF L s doW (f (dF L s YO (bL L s st).2)).2)).1],(g (dF L s doW (f (dF L s YO (bL L s st).2)).2)).2)
def mG(g:St->Nd×St):Nat->Nd->St->Nd×St
 |0,a,st=>(a,st)|n+1,a,st=>if xU L s st=true then mG g n (.mk 4 ⟨#[]⟩ a.at_ [a,(cH L s g st).1]) (cH L s g st).2 else(a,st)
def D6(f g:St->Nd×St)(st:St):Nd×St:=
 match dE L s bsW st with
 |(true,st1)=>XN L s f g (pk L s st.1).2.2 st1
 |(false,st1)=>mG L s g (L.length+1) (cH L s g st1).1 (cH L s g st1).2
def jl:Nat->St->Nd×St
 |0=>gU L s true λst=>(xN,st)|n+1=>gU L s false (D6 L s (rC L s n) (jl n))
end
variable {L:List Tk} {s w:aw} {o:Int} {st:St} {i n:Nat}
def BI(L:List Tk)(f:St->Nd×St):Prop:=∀st,nQ L st (f st).2
theorem lP(h:PE L s){f:St->Nd×St}(hf:BI L f):BI L (cH L s f):=by intro st;have h1:=ga (L:=L) (s:=s) (w:=M7) (st:=st);unfold cH;rcases hx:dE L s M7 st with⟨b,st1⟩;rw[hx]at h1;cases b;exact h1.trans (BC h (by decide));exact h1.trans ((hf st1).trans dB)
theorem r5{f:St->Nd×St}{b:Bool}(hf:BI L f):BI L (gU L s b f):=by intro st;unfold gU;split;split;exact oJ;exact hf st;exact nQ.refl
theorem XO(h:PE L s){f:St->Nd×St}(hf:BI L f):BI L (RC L s f):=by intro st;have h0:=lP h hf st;have h1:=ga (L:=L) (s:=s) (w:=arW) (st:=(cH L s f st).2);unfold RC;rcases hx:dE L s arW (cH L s f st).2 with⟨b,st1⟩;rw[hx]at h1;cases b;exact h0.trans h1;exact h0.trans (h1.trans (hf st1))
theorem rD(h:PE L s):∀n,BI L (rC L s n)
 |0=>r5 λ_=>nQ.refl|n+1=>r5 (XO h (rD h n))
theorem XP(h:PE L s){f g:St->Nd×St}(hf:BI L f)(hg:BI L g){a:Int}:BI L (XN L s f g a):=λst=>
 (cX h).trans (dB.trans ((hf _).trans (dB.trans (hg _))))
theorem D7(h:PE L s){g:St->Nd×St}(hg:BI L g):∀(n:Nat)(a:Nd),BI L (mG L s g n a)
 |0,a,st=>nQ.refl|n+1,a,st=>by rw[mG];split;exact(lP h hg st).trans (D7 h hg n _ _);exact nQ.refl
theorem RD(h:PE L s){f g:St->Nd×St}(hf:BI L f)(hg:BI L g):BI L (D6 L s f g):=by intro st;have h1:=ga (L:=L) (s:=s) (w:=bsW) (st:=st);unfold D6;rcases hx:dE L s bsW st with⟨b,st1⟩;rw[hx]at h1;cases b;exact h1.trans ((lP h hg st1).trans (D7 h hg _ _ _));exact h1.trans (XP h hf hg st1)
theorem lQ(h:PE L s):∀n,BI L (jl L s n)
 |0=>r5 λ_=>nQ.refl|n+1=>r5 (RD h (rD h n) (lQ h n))
def XQ(x:AV)(H:List ax):AV->List ax->Prop:=λr q=>aY r x/\q=H
theorem aZ.M8{P:Program}{f:FuncId}{args:List AV}{hp H:List ax}{x:AV}(h:aZ P f args hp (XQ x H)):aZ P f args hp (λr q=>r=x/\q=H):=h.res λr q ⟨h1,h2⟩=>⟨_,h1,rfl,h2⟩
theorem ndW{a b c x y:AV}(h:aY x y):aY (.agg [a,b,c,x]) (.agg [a,b,c,y]):=aY.agg ⟨aY.refl _,aY.refl _,aY.refl _,h,ai⟩
theorem XR(a b:Nd):[ee a,ee b]=[a,b].map Nd.enc:=by simp[Nd.aP]
theorem akr{k a:Int}{w:aw}{x y:Nd}:aY (.agg [nI k,nS w,nI a,.clip [ee x,ee y]]) (ee (.mk k w a [x,y])):=by (have:ee (.mk k w a [x,y])=.agg [nI k,nS w,nI a,.sl [ee x,ee y]]:=by rw[XR];rfl);rw[this];exact ndW (fY _)
theorem wI{k a:Int}{w:aw}:aY (.agg [nI k,nS w,nI a,.ay (.slice none 0 0)]) (ee (.mk k w a [])):=ndW bX
def RE(L:List Tk)(s:aw)(f:Nat)(o:Int)(F:St->Nd×St):Prop:=∀st:St,st.1<=L.length->aZ aj f [.ptr 1 0] (PO L s o st) (λr q=>r=ee (F st).1/\q=PO L s o (F st).2)
def NdQ(L:List Tk)(s:aw)(f:Nat)(o:Int)(F:St->Nd×St):Prop:=∀st:St,st.1<=L.length->aZ aj f [.ptr 2 0] (PQ L s o st) (λr q=>r=ee (F st).1/\q=PQ L s o (F st).2)
theorem JV(h:PE L s){F:St->Nd×St}(hF:RE L s 65 o F)(ha:BI L F)(hi:st.1<=L.length): aZ aj 126 [.ptr 1 0,.dt 65 [.ptr 1 0]] (PO L s o st) (λr q=>r=ee (cH L s F st).1/\q=PO L s o (cH L s F st).2):=by have hn:=kA (o:=o) (w:=M7) h hi;have h1:=ga (L:=L) (s:=s) (w:=M7) (st:=st);unfold cH;rcases hx:dE L s M7 st with⟨b,st1⟩;rw[hx]at hn h1;have jz:=h1.2 hi;refine aZ.M8 (IW ⟨_,hn,λr q ⟨e1,e2⟩=>⟨_,_,_,_,_,_,_,_,_,⟨e1,e2⟩,?_⟩⟩);cases b;exact aA.neg rfl ⟨_,pV h jz (by decide),λr q ⟨e1,e2⟩=>⟨_,_,_,_,_,_,_,_,_,_,_,⟨e1,e2⟩,wI,rfl⟩⟩;exact aA.pos rfl ⟨_,hF st1 jz,λr q ⟨e1,e2⟩=>⟨_,_,_,_,_,_,_,_,_,_,_,_,⟨e1,e2⟩,_,eU h ((ha st1).2 jz),λr q ⟨e1,e2⟩=>⟨_,_,_,_,_,_,_,_,⟨e1,e2⟩,aY.refl _,rfl⟩⟩⟩
theorem CX(h:PE L s){F:St->Nd×St}(ho:0<=o/\o<=60)(hF:o≠60->NdQ L s 125 (o+1) F)(hi:st.1<=L.length): aZ aj 124 [.ptr 1 0,.bw 125 [.ptr 2 0]] (PQ L s o st) (λr q=>r=ee (gU L s (o==60) F st).1/\q=PQ L s o (gU L s (o==60) F st).2):=by refine aZ.M8 (CL ⟨_,cx (st:=st),λr q ⟨e1,e2⟩=>⟨_,_,_,_,_,_,_,_,_,⟨e1,e2⟩,aA.intro (λh1=>aA.intro (λh2=>?_) λh2=>?_) λh1=>?_⟩⟩);refine⟨_,fK (st:=st) h hi,λr q ⟨e1,e2⟩=>⟨_,_,_,_,_,_,_,_,⟨e1,e2⟩,_,cx (st:=jk L s 2 st),λr q ⟨e1,e2⟩=>⟨_,_,_,_,_,_,_,_,_,⟨e1,e2⟩,aA.pos (by rw[rB (by decide) h1];rfl) ?_⟩⟩⟩;rw[gU,if_pos h1,if_pos h2];exact⟨wI,rfl⟩;(have h3:o≠60:=by simpa using h2);have hb:=hF h3 st hi;rw[gU,if_pos h1,if_neg (by rw[h2];decide)];refine⟨_,cx (st:=st),λr q ⟨e1,e2⟩=>⟨_,_,_,_,_,_,_,_,_,⟨e1,e2⟩,aA.neg (by rw[h1];rfl) ?_⟩⟩;rw[bb (n:=o+1) (by omega) (by omega)];refine⟨_,hb,λr q ⟨e1,e2⟩=>⟨_,_,_,_,_,_,_,_,_,_,_,_,⟨e1,e2⟩,aY.refl _,?_⟩⟩;rw[bb (n:=o+1-1) (by omega) (by omega),Int.add_sub_cancel];rw[gU,if_neg (by rw[h1];decide)];exact⟨_,cx (st:=st),λr q ⟨e1,e2⟩=>⟨_,_,_,_,_,_,_,_,_,⟨e1,e2⟩,aA.pos (by rw[h1];rfl) ⟨wI,rfl⟩⟩⟩
theorem xV(h:PE L s){F:St->Nd×St}(ho:0<=o/\o<=60)(hF:o≠60->NdQ L s 125 (o+1) F):RE L s 65 o (gU L s (o==60) F):=λst hi=>
 abf ⟨_,CX h ho hF hi,λr q ⟨e1,e2⟩=>⟨_,_,_,_,_,_,_,_,_,_,_,_,⟨e1,e2⟩,rfl,rfl⟩⟩
theorem xW(h:PE L s){F:St->Nd×St}(hF:RE L s 70 o F)(ha:BI L F)(hi:st.1<=L.length): aZ aj 126 [.ptr 1 0,.dt 70 [.ptr 1 0]] (PO L s o st) (λr q=>r=ee (cH L s F st).1/\q=PO L s o (cH L s F st).2):=by have hn:=kA (o:=o) (w:=M7) h hi;have h1:=ga (L:=L) (s:=s) (w:=M7) (st:=st);unfold cH;rcases hx:dE L s M7 st with⟨b,st1⟩;rw[hx]at hn h1;have jz:=h1.2 hi;refine aZ.M8 (IX ⟨_,hn,λr q ⟨e1,e2⟩=>⟨_,_,_,_,_,_,_,_,_,⟨e1,e2⟩,?_⟩⟩);cases b;exact aA.neg rfl ⟨_,pV h jz (by decide),λr q ⟨e1,e2⟩=>⟨_,_,_,_,_,_,_,_,_,_,_,⟨e1,e2⟩,wI,rfl⟩⟩;exact aA.pos rfl ⟨_,hF st1 jz,λr q ⟨e1,e2⟩=>⟨_,_,_,_,_,_,_,_,_,_,_,_,⟨e1,e2⟩,_,eU h ((ha st1).2 jz),λr q ⟨e1,e2⟩=>⟨_,_,_,_,_,_,_,_,⟨e1,e2⟩,aY.refl _,rfl⟩⟩⟩
theorem CY(h:PE L s){F:St->Nd×St}(ho:0<=o/\o<=60)(hF:o≠60->NdQ L s 129 (o+1) F)(hi:st.1<=L.length): aZ aj 124 [.ptr 1 0,.bw 129 [.ptr 2 0]] (PQ L s o st) (λr q=>r=ee (gU L s (o==60) F st).1/\q=PQ L s o (gU L s (o==60) F st).2):=by refine aZ.M8 (CN ⟨_,cx (st:=st),λr q ⟨e1,e2⟩=>⟨_,_,_,_,_,_,_,_,_,⟨e1,e2⟩,aA.intro (λh1=>aA.intro (λh2=>?_) λh2=>?_) λh1=>?_⟩⟩);refine⟨_,fK (st:=st) h hi,λr q ⟨e1,e2⟩=>⟨_,_,_,_,_,_,_,_,⟨e1,e2⟩,_,cx (st:=jk L s 2 st),λr q ⟨e1,e2⟩=>⟨_,_,_,_,_,_,_,_,_,⟨e1,e2⟩,aA.pos (by rw[rB (by decide) h1];rfl) ?_⟩⟩⟩;rw[gU,if_pos h1,if_pos h2];exact⟨wI,rfl⟩;(have h3:o≠60:=by simpa using h2);have hb:=hF h3 st hi;rw[gU,if_pos h1,if_neg (by rw[h2];decide)];refine⟨_,cx (st:=st),λr q ⟨e1,e2⟩=>⟨_,_,_,_,_,_,_,_,_,⟨e1,e2⟩,aA.neg (by rw[h1];rfl) ?_⟩⟩;rw[bb (n:=o+1) (by omega) (by omega)];refine⟨_,hb,λr q ⟨e1,e2⟩=>⟨_,_,_,_,_,_,_,_,_,_,_,_,⟨e1,e2⟩,aY.refl _,?_⟩⟩;rw[bb (n:=o+1-1) (by omega) (by omega),Int.add_sub_cancel];rw[gU,if_neg (by rw[h1];decide)];exact⟨_,cx (st:=st),λr q ⟨e1,e2⟩=>⟨_,_,_,_,_,_,_,_,_,⟨e1,e2⟩,aA.pos (by rw[h1];rfl) ⟨wI,rfl⟩⟩⟩
theorem vh(h:PE L s){F:St->Nd×St}(ho:0<=o/\o<=60)(hF:o≠60->NdQ L s 129 (o+1) F):RE L s 70 o (gU L s (o==60) F):=λst hi=>
 abg ⟨_,CY h ho hF hi,λr q ⟨e1,e2⟩=>⟨_,_,_,_,_,_,_,_,_,_,_,_,⟨e1,e2⟩,rfl,rfl⟩⟩
theorem M9(h:PE L s){F:St->Nd×St}(hF:RE L s 65 o F)(ha:BI L F):NdQ L s 125 o (RC L s F):=by intro st hi;have h0:=lP h ha st;have hn:=kA (o:=o) (w:=arW) (st:=(cH L s F st).2) h (h0.2 hi);have h1:=ga (L:=L) (s:=s) (w:=arW) (st:=(cH L s F st).2);unfold RC;rcases hx:dE L s arW (cH L s F st).2 with⟨b,st1⟩;rw[hx]at hn h1;have jz:=h1.2 (h0.2 hi);refine aZ.M8 (Wd ⟨_,JV h hF ha hi,λr q ⟨e1,e2⟩=>⟨_,_,_,_,_,_,_,_,_,_,_,_,⟨e1,e2⟩,_,hn,λr q ⟨e1,e2⟩=>⟨_,_,_,_,_,_,_,_,_,⟨e1,e2⟩,?_⟩⟩⟩);cases b;exact aA.pos rfl ⟨aY.refl _,rfl⟩;have key:A1 (L.map cQ) s (st1.1:Int) o st1.2.1 st1.2.2.1 st1.2.2.2.1 st1.2.2.2.2 (XQ (ee (.mk 2 ⟨#[]⟩ (cH L s F st).1.at_ [(cH L s F st).1,(F st1).1])) (PQ L s o (F st1).2)) (cH L s F st).1.at_ (cH L s F st).1.kind (cH L s F st).1.word ((cH L s F st).1.kids.map Nd.enc):= ⟨_,hF st1 jz,λr q ⟨e1,e2⟩=>⟨_,_,_,_,_,_,_,_,_,_,_,_,⟨e1,e2⟩,akr,rfl⟩⟩;exact aA.neg rfl ⟨key,key⟩
theorem tx(h:PE L s):∀n:Nat,n<=60->RE L s 65 ((60:Int)-n) (rC L s n)
 |0,_=>xV (o:=(60:Int)-(0:Nat)) h (by omega) λh=>(h rfl).elim|n+1,hn=>by have:=xV (o:=(60:Int)-((n+1:Nat):Int)) h (by omega) λ_=>M9 (F:=rC L s n) h (by rw[show (60:Int)-((n+1:Nat):Int)+1=(60:Int)-(n:Nat) by omega];exact tx h n (by omega)) (rD h n);rw[show ((60:Int)-((n+1:Nat):Int)==60)=false from beq_eq_false_iff_ne.2 (by omega)]at this;exact this
theorem RF(h:PE L s){F G:St->Nd×St}(hF:RE L s 65 o F)(ha:BI L F)(hG:RE L s 70 o G)(hi:st.1<=L.length){a:Int}: aZ aj 130 [.ptr 1 0,nI a] (PO L s o st) (λr q=>r=ee (XN L s F G a st).1/\q=PO L s o (XN L s F G a st).2):=by have i1:=(cX (s:=s) h).2 hi;have i2:=(dB (L:=L) (s:=s) (w:=YO) (st:=(bL L s st).2)).2 i1;have i3:=(ha (dF L s YO (bL L s st).2)).2 i2;have i4:=(dB (L:=L) (s:=s) (w:=doW) (st:=(F (dF L s YO (bL L s st).2)).2)).2 i3;exact aZ.M8 (We ⟨_,dN h hi,λr q ⟨e1,e2⟩=>⟨_,_,_,_,_,_,_,_,_,⟨e1,e2⟩,_,eU h i1,λr q ⟨e1,e2⟩=>⟨_,_,_,_,_,_,_,_,⟨e1,e2⟩,_,hF _ i2,λr q ⟨e1,e2⟩=> ⟨_,_,_,_,_,_,_,_,_,_,_,_,⟨e1,e2⟩,_,eU h i3,λr q ⟨e1,e2⟩=>⟨_,_,_,_,_,_,_,_,⟨e1,e2⟩,_,hG _ i4,λr q ⟨e1,e2⟩=>⟨_,_,_,_,_,_,_,_,_,_,_,_,⟨e1,e2⟩,akr,rfl⟩⟩⟩⟩⟩⟩)
theorem XS(h:PE L s){g:St->Nd×St}(hg:BI L g)(hp:xU L s st=true):st.1<(cH L s g st).2.1/\st.1<L.length:=by (simp only[xU,aul,avh,beq_iff_eq,decide_eq_true_eq]at hp;obtain⟨h1,h2⟩:=hp;have aE:st.1<L.length:=by refine vg (L:=L) (s:=s) h ?_;rcases h2 with h2|⟨h2,_⟩<;>rw[h2]<;>decide);refine⟨?_,aE⟩;unfold cH;rcases h2 with h2|⟨h2,h3⟩;cases ht:G9 M7 (pk L s st.1);(have:dE L s M7 st=(false,st):=by rw[dE,h1,ht];rfl);rw[this];dsimp only;rw[lA,if_pos h1,if_pos h2];exact avF _;(have:dE L s M7 st=(true,(st.1+1,st.2)):=by rw[dE,h1,ht];rfl);rw[this];exact auK (avF _) ((hg (st.1+1,st.2)).trans (dB (L:=L) (s:=s) (w:=rpW))).1;(have ht:G9 M7 (pk L s st.1)=true:=by simp[G9,h2,h3]);(have:dE L s M7 st=(true,(st.1+1,st.2)):=by rw[dE,h1,ht];rfl);rw[this];exact auK (avF _) ((hg (st.1+1,st.2)).trans (dB (L:=L) (s:=s) (w:=rpW))).1
theorem JW(h:PE L s){F G:St->Nd×St}(hF:RE L s 65 o F)(ha:BI L F)(hG:RE L s 70 o G)(hb:BI L G):NdQ L s 129 o (D6 L s F G):=by intro st hi;have hn:=kA (o:=o) (w:=bsW) h hi;have h1:=ga (L:=L) (s:=s) (w:=bsW) (st:=st);unfold D6;rcases hx:dE L s bsW st with⟨b,st1⟩;rw[hx]at hn h1;have jz:=h1.2 hi;refine aZ.M8 (Wi ⟨_,dC h hi,λr q ⟨e1,e2⟩=>⟨_,_,_,_,_,_,⟨e1,e2⟩,_,hn,λr q ⟨e1,e2⟩=>⟨_,_,_,_,_,_,_,_,_,⟨e1,e2⟩,?_⟩⟩⟩);cases b;refine aA.neg rfl ⟨_,xW h hG hb jz,λr q ⟨e1,e2⟩=>⟨_,_,_,_,_,_,_,_,_,_,_,_,⟨e1,e2⟩,?_⟩⟩;clear e1 e2;have qv:=(lP h hb st1).2 jz;dsimp only;generalize hX:mG L s G (L.length+1) (cH L s G st1).1 (cH L s G st1).2=X;refine aI.intro (λp:Nd×St=>(((),(),(),()),((L.map cQ,s,(p.2.1:Int),()),((),o,p.2.2.1,p.2.2.2.1,p.2.2.2.2.1,p.2.2.2.2.2,()),((),()),(0,⟨#[]⟩,0,(),()),(p.1.kind,p.1.word,p.1.at_,p.1.kids.map Nd.enc,()),()))) (λp=>p.2.1<=L.length/\∃n,L.length+1<=n+p.2.1/\X=mG L s G n p.1 p.2) (λp=>L.length-p.2.1) (cH L s G st1) rfl ⟨qv,_,by omega,hX.symm⟩ ?_;intro ⟨a,u⟩ ⟨hu,n,Zm,hn2⟩ again bP;dsimp only at hu Zm hn2 ⊢;obtain⟨n,rfl⟩:∃m,n=m+1:=⟨n-1,by omega⟩;rw[mG]at hn2;refine⟨_,JU (st:=u) h hu,λr q ⟨e1,e2⟩=>⟨_,_,_,_,_,_,_,_,_,⟨e1,e2⟩,aA.intro (λh2=>?_) λh2=>?_⟩⟩;(rw[if_pos h2]at hn2;have aE:=XS h hb h2;have CC:=(lP h hb u).2 hu;have key:A3 (L.map cQ) s (u.1:Int) o u.2.1 u.2.2.1 u.2.2.2.1 u.2.2.2.2 again 0 ⟨#[]⟩ 0 a.at_ a.kind a.word (a.kids.map Nd.enc):=by refine⟨_,xW h hG hb hu,λr q ⟨e1,e2⟩=>⟨_,_,_,_,_,_,_,_,_,_,_,_,⟨e1,e2⟩,?_⟩⟩;have e:[ee a,ee (cH L s G u).1]=[a,(cH L s G u).1].map Nd.enc:=XR _ _;rw[e];exact bP (.mk 4 ⟨#[]⟩ a.at_ [a,(cH L s G u).1],(cH L s G u).2) ⟨CC,n,by dsimp only;omega,hn2⟩ (by dsimp only;omega));exact⟨key,key⟩;rw[if_neg (by rw[h2];decide)]at hn2;rw[hn2];exact⟨aY.refl _,rfl⟩;exact aA.pos rfl ⟨_,RF h hF ha hG jz,λr q ⟨e1,e2⟩=>⟨_,_,_,_,_,_,_,_,_,_,_,_,⟨e1,e2⟩,aY.refl _,rfl⟩⟩
theorem xX(h:PE L s):∀n:Nat,n<=60->RE L s 70 ((60:Int)-n) (jl L s n)
 |0,_=>vh (o:=(60:Int)-(0:Nat)) h (by omega) λh=>(h rfl).elim|n+1,hn=>by (have e:(60:Int)-((n+1:Nat):Int)+1=(60:Int)-(n:Nat):=by omega);have:=vh (o:=(60:Int)-((n+1:Nat):Int)) h (by omega) λ_=>JW (F:=rC L s n) (G:=jl L s n) h (by rw[e];exact tx h n (by omega)) (rD h n) (by rw[e];exact xX h n (by omega)) (lQ h n);rw[show ((60:Int)-((n+1:Nat):Int)==60)=false from beq_eq_false_iff_ne.2 (by omega)]at this;exact this
end
structure It where
 kind:Int
 words:List aw
 nodes:List Nd
 num:Int
 at_:Int
abbrev itC(x:It):List AV:=[nI x.kind,nK x.words,.sl (x.nodes.map Nd.enc),nI x.num,nI x.at_]
abbrev iL(x:It):AV:=.agg (itC x)
section
abbrev scW:aw:=⟨#[59]⟩
abbrev CZ:aw:=⟨#[62]⟩
abbrev eqW:aw:=⟨#[61]⟩
def aoZ:It:=⟨0,[],[],0,0⟩
def BJ:List aw:=[⟨#[115,111,114,116]⟩,⟨#[99,111,110,115,116]⟩,⟨#[118,97,114]⟩,⟨#[101,113]⟩,⟨#[114,117,108,101]⟩,⟨#[112,114,101,99]⟩,⟨#[115,116,97,116,117,115]⟩,⟨#[99,111,109,112,108,101,116,101]⟩,⟨#[110,111,114,109,97,108]⟩,⟨#[100,101,99,105,100,101]⟩,⟨#[99,111,110,102,108,117,101,110,116]⟩,⟨#[99,101,114,116,105,102,121]⟩]
def sD(w:aw):List aw->Nat->Int
 | [],_ => -1|x::l,k=>if w=x then(k:Int)else sD w l (k+1)
def vi(w:aw):Int:=sD w BJ 0+1
section
variable (L:List Tk) (s:aw)
def Ha:Nat->List aw->St->List aw×St
 |0,l,st=>(l,st)|n+1,l,st=>if(ju st&&(pk L s st.1).1==1)=true then Ha n (l++[(bL L s st).1]) (bL L s st).2 else(l,st)
def pW(st:St):List aw×St:=Ha L s (L.length+1) [(bL L s st).1] (bL L s st).2
def PM:Nat->List aw->St->List aw×St
 |0,l,st=>(l,st)|n+1,l,st=>if(dE L s CZ st).1=true then PM n (l++[(bL L s (dE L s CZ st).2).1]) (bL L s (dE L s CZ st).2).2 else(l,(dE L s CZ st).2)
def rE(st:St):List aw×St:=PM L s (L.length+1) [(bL L s st).1,(bL L s (dF L s CZ (bL L s st).2)).1] (bL L s (dF L s CZ (bL L s st).2)).2
def fP(w:aw)(st:St):List Nd×St:=([(jl L s 60 st).1,(jl L s 60 (dF L s w (jl L s 60 st).2)).1],(jl L s 60 (dF L s w (jl L s 60 st).2)).2)
def eN(st:St):List aw×St:=([(bL L s st).1],dF L s YO (bL L s st).2)
def dY(st:St):Int×St:=((BE L s st).1,dF L s YO (BE L s st).2)
def acw(f:St->Nd×St)(st:St):List Nd×St:=([(f st).1],(f st).2)
def cY(k:Int)(st:St):(List aw×List Nd×Int)×St:=
 if k=1 then(((pW L s st).1,[],0),(pW L s st).2)
 else if k=2\/k=3 then(((eN L s st).1,(acw (rC L s 60) (eN L s st).2).1,0),(acw (rC L s 60) (eN L s st).2).2)
 else if k=4 then(((eN L s st).1,(fP L s eqW (eN L s st).2).1,0),(fP L s eqW (eN L s st).2).2)
 else if k=5 then(((eN L s st).1,(fP L s CZ (eN L s st).2).1,0),(fP L s CZ (eN L s st).2).2)
 else if k=6 then(((rE L s st).1,[],0),(rE L s st).2)
 else if k=7 then(([(bL L s st).1,(bL L s (bL L s st).2).1],[],0),(bL L s (bL L s st).2).2)
 else if k=9 then(([],(acw (jl L s 60) (dY L s st).2).1,(dY L s st).1),(acw (jl L s 60) (dY L s st).2).2)
 else if k=10 then(([],(fP L s eqW (dY L s st).2).1,(dY L s st).1),(fP L s eqW (dY L s st).2).2)
 else if k=12 then(([(bL L s st).1],[],0),(bL L s st).2)
 else(([],[],(BE L s st).1),(BE L s st).2)
def fV(st:St):It×St:=
 if(pk L s st.1).1=1/\vi (pk L s st.1).2.1≠0 then
  (⟨vi (pk L s st.1).2.1,(cY L s (vi (pk L s st.1).2.1) (st.1+1,st.2)).1.1,(cY L s (vi (pk L s st.1).2.1) (st.1+1,st.2)).1.2.1,(cY L s (vi (pk L s st.1).2.1) (st.1+1,st.2)).1.2.2,(pk L s st.1).2.2⟩,dF L s scW (cY L s (vi (pk L s st.1).2.1) (st.1+1,st.2)).2)
 else(aoZ,jk L s 3 st)
def oK:Nat->List It->St->List It×St
 |0,l,st=>(l,st)|n+1,l,st=>if(ju st&&(pk L s st.1).1 != 4)=true then(if l.length=1000 then(l,jk L s 2 st)else oK n (l++[(fV L s st).1]) (fV L s st).2)else(l,st)
def tz(st:St):St:=if(pk L s st.1).1=4 then st else jk L s 3 st
end
def dO(s:aw):List It×Fa:=
 if(di s).2.1=0 then
  (if ju (tz (di s).1 s (oK (di s).1 s ((di s).1.length+2) [] (0,pU)).2)=true then((oK (di s).1 s ((di s).1.length+2) [] (0,pU)).1,pU)
   else([],(tz (di s).1 s (oK (di s).1 s ((di s).1.length+2) [] (0,pU)).2).2))
 else([],(di s).2)
variable {L:List Tk} {s w:aw} {o:Int} {st:St} {i n:Nat}
theorem PN(h:PE L s):∀(n:Nat)(l:List aw)(st:St),nQ L st (Ha L s n l st).2
 |0,_,_=>nQ.refl|n+1,l,st=>by rw[Ha];split;exact(cX h).trans (PN h n _ _);exact nQ.refl
theorem Na(h:PE L s):nQ L st (pW L s st).2:=(cX h).trans (PN h _ _ _)
theorem PR(h:PE L s):∀(n:Nat)(l:List aw)(st:St),nQ L st (PM L s n l st).2
 |0,_,_=>nQ.refl|n+1,l,st=>by rw[PM];split;exact ga.trans ((cX h).trans (PR h n _ _));exact ga
theorem Nb(h:PE L s):nQ L st (rE L s st).2:=(cX h).trans (dB.trans ((cX h).trans (PR h _ _ _)))
theorem tB(h:PE L s):nQ L st (fP L s w st).2:=(lQ h 60 st).trans (dB.trans (lQ h 60 _))
theorem jS(h:PE L s):nQ L st (eN L s st).2:=(cX h).trans dB
theorem lB(h:PE L s):nQ L st (dY L s st).2:=(BF h).trans dB
theorem wJ(h:PE L s){k:Int}:nQ L st (cY L s k st).2:=by unfold cY;split;exact Na h;split;exact(jS h).trans (rD h 60 _);split;exact(jS h).trans (tB h);split;exact(jS h).trans (tB h);split;exact Nb h;split;exact(cX h).trans (cX h);split;exact(lB h).trans (lQ h 60 _);split;exact(lB h).trans (tB h);split;exact cX h;exact BF h
theorem D8(h:PE L s):nQ L st (fV L s st).2:=by unfold fV;split;rename_i hk;have aE:=vg (L:=L) (s:=s) (i:=st.1) h (by rw[hk.1];decide);exact(nQ.succ aE).trans ((wJ h).trans dB);exact oJ
theorem XT(h:PE L s)(ho:ju st=true):st.1<(fV L s st).2.1\/ju (fV L s st).2=false:=by unfold fV;split;exact .inl (auK (avF _) ((wJ (st:=(st.1+1,st.2)) h).trans dB).1);exact .inr (rB (by decide) ho)
theorem vj{l:List aw}(hl:l.length<=1000000):az aj 87 [nK l,nS w] (nI (sD w l 0)):=by refine abC ?_;refine aI.intro (λk:Nat=>((l.map nS,w,((l.length:Nat):Int),(k:Int),()),())) (λk=>k<=l.length/\sD w l 0=sD w (l.drop k) k) (λk=>l.length-k) 0 (by rw[aui];rfl) ⟨aus _,rfl⟩ ?_;intro k ⟨hk,hd⟩ again bP;dsimp only;refine aA.intro (λh=>?_) λh=>?_;(have aE:k<l.length:=by have:=of_decide_eq_true h;omega);rw[aut aE,sD]at hd;refine⟨by omega,by rw[aui];omega,_,getD_map aE,?_⟩;rw[ej];refine aA.intro (λh1=>?_) λh1=>?_;rw[hd,if_pos (of_decide_eq_true h1)];rw[bf (by omega)];exact bP (k+1) ⟨by omega,by rw[hd,if_neg (of_decide_eq_false h1)]⟩ (by omega);(have fh:l.length<=k:=by have:=of_decide_eq_false h;omega);rw[hd,auF fh];rfl
theorem Gg:∀(l:List aw)(k:Nat),-1<=sD w l k/\sD w l k<=k+l.length
 | [],k=>by rw[sD];simp|x::l,k=>by have:=Gg l (k+1);rw[sD,aur];split<;>omega
theorem Gi:az aj 61 [nS w] (nI (vi w)):=by have hb:=Gg (w:=w) BJ 0;have:BJ.length=12:=rfl;refine abn ⟨_,vj (l:=BJ) (by decide),?_⟩;rw[bb (by omega) (by omega)];rfl
theorem aks{x:aw}{l:List aw}:l.map nS++[nS x]=(l++[x]).map nS:=by simp
theorem Gj(h:PE L s)(hi:st.1<=L.length):aZ aj 63 [.ptr 1 0] (PO L s o st) (λr q=>r=nK (pW L s st).1/\q=PO L s o (pW L s st).2):=by
 have hlen:=h.len;have i1:=(cX (s:=s) h).2 hi;generalize hX:pW L s st=X;rw[pW]at hX;have loop:∀(l:List aw)(u:St)(m:Nat),u.1<=L.length->L.length<=m+u.1->l.length<=u.1+2->Ha L s m l u=X->
   O3 (((),(),()),((L.map cQ,s,(u.1:Int),()),((),o,u.2.1,u.2.2.1,u.2.2.2.1,u.2.2.2.2,()),l.map nS,())) (XQ (nK X.1) (PO L s o X.2)):=by
  intro l u m hu hm hl he;refine aI.intro (λp:Nat×List aw×St=>(((),(),()),((L.map cQ,s,(p.2.2.1:Int),()),((),o,p.2.2.2.1,p.2.2.2.2.1,p.2.2.2.2.2.1,p.2.2.2.2.2.2,()),p.2.1.map nS,())))
   (λp=>p.2.2.1<=L.length/\L.length<=p.1+p.2.2.1/\p.2.1.length<=p.2.2.1+2/\Ha L s p.1 p.2.1 p.2.2=X) (λp=>L.length-p.2.2.1) (m,l,u) rfl ⟨hu,hm,hl,he⟩ ?_
  intro ⟨m,l,u⟩ ⟨hu,hm,hl,he⟩ again bP;dsimp only at hu hm hl he ⊢;have stop:(ju u&&(pk L s u.1).1==1)=false->(l.map nS).length=(l.map nS).length/\XQ (nK X.1) (PO L s o X.2) (.sl (l.map nS)) (PO L s o u):=λh1=>by
   have:Ha L s m l u=(l,u):=by
    cases m with
    |zero=>rfl
    |succ m=>rw[Ha,if_neg (by rw[h1];decide)]
   rw[<-he,this];exact⟨rfl,aY.refl _,rfl⟩
  refine⟨_,cx (st:=u),λr q ⟨e1,e2⟩=>⟨_,_,_,_,_,_,_,_,_,⟨e1,e2⟩,aA.intro (λh1=>⟨_,dC h hu,λr q ⟨e1,e2⟩=>⟨_,_,_,_,_,_,⟨e1,e2⟩,aA.intro (λh2=>?_) λh2=>stop (by rw[h1,h2];rfl)⟩⟩) λh1=>stop (by rw[h1];rfl)⟩⟩;have hk:(pk L s u.1).1=1:=by simpa using h2
  have aE:=vg (L:=L) (s:=s) (i:=u.1) h (by rw[hk];decide);have hw:(bL L s u).2.1=u.1+1:=by rw[bL,lA,if_pos h1,if_pos hk]
  obtain⟨m,rfl⟩:∃j,m=j+1:=⟨m-1,by omega⟩;rw[Ha,if_pos (by rw[h1,h2];rfl)]at he;refine⟨_,dN (st:=u) h hu,λr q ⟨e1,e2⟩=>⟨_,_,_,_,_,_,_,_,_,⟨e1,e2⟩,rfl,bG rfl (by simp;omega) (by decide),rfl,?_⟩⟩;rw[aks];exact bP (m,l++[(bL L s u).1],(bL L s u).2) ⟨by dsimp only;omega,by dsimp only;omega,by simp;omega,he⟩ (by dsimp only;omega)
 refine aZ.M8 (abd ⟨_,dN h hi,λr q ⟨e1,e2⟩=>⟨_,_,_,_,_,_,_,_,_,⟨e1,e2⟩,?_⟩⟩);clear e1 e2;generalize hu:(bL L s st).2=u at i1 hX;generalize (bL L s st).1=x0 at hX;have stop:(ju u&&(pk L s u.1).1==1)=false->XQ (nK X.1) (PO L s o X.2) (.clip [nS x0]) (PO L s o u):=λh1=>by rw[Ha,if_neg (by rw[h1];decide)]at hX;rw[<-hX];exact⟨fY _,rfl⟩
 refine⟨_,cx (st:=u),λr q ⟨e1,e2⟩=>⟨_,_,_,_,_,_,_,_,_,⟨e1,e2⟩,aA.intro (λh1=>⟨_,dC h i1,λr q ⟨e1,e2⟩=>⟨_,_,_,_,_,_,⟨e1,e2⟩,aA.intro (λh2=>?_) λh2=>stop (by rw[h1,h2];rfl)⟩⟩) λh1=>stop (by rw[h1];rfl)⟩⟩;have hk:(pk L s u.1).1=1:=by simpa using h2
 have aE:=vg (L:=L) (s:=s) (i:=u.1) h (by rw[hk];decide);have hw:(bL L s u).2.1=u.1+1:=by rw[bL,lA,if_pos h1,if_pos hk]
 rw[Ha,if_pos (by rw[h1,h2];rfl)]at hX;refine⟨_,dN (st:=u) h i1,λr q ⟨e1,e2⟩=>⟨_,_,_,_,_,_,_,_,_,⟨e1,e2⟩,(λe=>by cases e),kx (λx hx=>by rw[auy.1 hx];rfl) (λx hx=>by rw[auy.1 hx];rfl) (by show 2<=4000000000;decide) (by decide),rfl,?_⟩⟩;exact loop ([x0]++[(bL L s u).1]) (bL L s u).2 L.length (by omega) (by omega) (by show 2<=_;omega) hX
theorem Gk(h:PE L s)(hi:st.1<=L.length):aZ aj 67 [.ptr 1 0] (PO L s o st) (λr q=>r=nK (rE L s st).1/\q=PO L s o (rE L s st).2):=by have hlen:=h.len;have i1:=(cX (s:=s) h).2 hi;have i2:=(dB (L:=L) (s:=s) (w:=CZ) (st:=(bL L s st).2)).2 i1;have i3:=(cX (st:=dF L s CZ (bL L s st).2) (s:=s) h).2 i2;refine abm ⟨_,dN h hi,λr q ⟨e1,e2⟩=>⟨_,_,_,_,_,_,_,_,_,⟨e1,e2⟩,_,eU h i1,λr q ⟨e1,e2⟩=>⟨_,_,_,_,_,_,_,_,⟨e1,e2⟩,_,dN h i2,λr q ⟨e1,e2⟩=>⟨_,_,_,_,_,_,_,_,_,⟨e1,e2⟩,(λe=>by cases e), kx (λx hx=>by rw[auy.1 hx];rfl) (λx hx=>by rw[auy.1 hx];rfl) (by show 2<=4000000000;decide) (by decide),rfl,?_⟩⟩⟩⟩;clear e1 e2;rw[rE];generalize hX:PM L s (L.length+1) [(bL L s st).1,(bL L s (dF L s CZ (bL L s st).2)).1] (bL L s (dF L s CZ (bL L s st).2)).2=X;refine aI.intro (λp:Nat×List aw×St=>(((),(),()),((L.map cQ,s,(p.2.2.1:Int),()),((),o,p.2.2.2.1,p.2.2.2.2.1,p.2.2.2.2.2.1,p.2.2.2.2.2.2,()),p.2.1.map nS,()))) (λp=>p.2.2.1<=L.length/\L.length+1<=p.1+p.2.2.1/\p.2.1.length<=p.2.2.1+2/\PM L s p.1 p.2.1 p.2.2=X) (λp=>L.length-p.2.2.1) (L.length+1,[(bL L s st).1,(bL L s (dF L s CZ (bL L s st).2)).1],(bL L s (dF L s CZ (bL L s st).2)).2) rfl ⟨i3,by dsimp only;omega,by show 2<=_;omega,hX⟩ ?_;intro ⟨m,l,u⟩ ⟨hu,hm,hl,he⟩ again bP;dsimp only at hu hm hl he ⊢;obtain⟨m,rfl⟩:∃j,m=j+1:=⟨m-1,by omega⟩;rw[PM]at he;have hn:=ga (L:=L) (s:=s) (w:=CZ) (st:=u);have SV:=hn.2 hu;refine⟨_,kA h hu,λr q ⟨e1,e2⟩=>⟨_,_,_,_,_,_,_,_,_,⟨e1,e2⟩,aA.intro (λh1=>?_) λh1=>?_⟩⟩;(rw[if_pos h1]at he;have aE:u.1<(dE L s CZ u).2.1:=by unfold dE at h1 ⊢;split;exact avF _;rename_i hc;rw[if_neg hc]at h1;cases h1);have hwa:=cX (st:=(dE L s CZ u).2) (s:=s) h;refine⟨_,dN h SV,λr q ⟨e1,e2⟩=>⟨_,_,_,_,_,_,_,_,_,⟨e1,e2⟩,rfl,bG rfl (by simp;omega) (by decide),rfl,?_⟩⟩;rw[aks];have h3:=hwa.1;have h4:=hwa.2 SV;exact bP (m,l++[(bL L s (dE L s CZ u).2).1],(bL L s (dE L s CZ u).2).2) ⟨h4,by dsimp only;omega,by simp;omega,he⟩ (by dsimp only;omega);rw[if_neg (by rw[h1];decide)]at he;rw[<-he];exact⟨rfl,rfl,rfl⟩
theorem nR(h:PE L s):RE L s 70 0 (jl L s 60):=xX h 60 (aum _)
theorem Gl(h:PE L s):RE L s 65 0 (rC L s 60):=tx h 60 (aum _)
theorem pX(h:PE L s)(hi:st.1<=L.length):aZ aj 66 [.ptr 1 0,nS w] (PO L s 0 st) (λr q=>r=.sl ((fP L s w st).1.map Nd.enc)/\q=PO L s 0 (fP L s w st).2):=by have i1:=(lQ h 60 st).2 hi;have i2:=(dB (L:=L) (s:=s) (w:=w) (st:=(jl L s 60 st).2)).2 i1;refine aZ.M8 (abh ⟨_,nR h _ hi,λr q ⟨e1,e2⟩=>⟨_,_,_,_,_,_,_,_,_,_,_,_,⟨e1,e2⟩,_,eU h i1,λr q ⟨e1,e2⟩=>⟨_,_,_,_,_,_,_,_,⟨e1,e2⟩,_,nR h _ i2,λr q ⟨e1,e2⟩=>⟨_,_,_,_,_,_,_,_,_,_,_,_,⟨e1,e2⟩,?_,rfl⟩⟩⟩⟩);rw[fP,<-XR];exact fY _
theorem pY(h:PE L s)(hi:st.1<=L.length):aZ aj 64 [.ptr 1 0] (PO L s o st) (λr q=>r=nK (eN L s st).1/\q=PO L s o (eN L s st).2):=aZ.M8 (abi ⟨_,dN h hi,λr q ⟨e1,e2⟩=>⟨_,_,_,_,_,_,_,_,_,⟨e1,e2⟩,_,eU h ((cX h).2 hi),λr q ⟨e1,e2⟩=>⟨_,_,_,_,_,_,_,_,⟨e1,e2⟩,fY _,rfl⟩⟩⟩)
theorem rF(h:PE L s)(hi:st.1<=L.length):aZ aj 69 [.ptr 1 0] (PO L s o st) (λr q=>r=nI (dY L s st).1/\q=PO L s o (dY L s st).2):=abj ⟨_,BH h hi,λr q ⟨e1,e2⟩=>⟨_,_,_,_,_,_,_,_,_,⟨e1,e2⟩,_,eU h ((BF h).2 hi),λr q ⟨e1,e2⟩=>⟨_,_,_,_,_,_,_,_,⟨e1,e2⟩,rfl,rfl⟩⟩⟩
end
section
variable {L:List Tk} {s w:aw} {o:Int} {st:St} {i n:Nat}
theorem afI{k n a:Int}{x y:AV}{t:It}(hx:aY x (nK t.words))(hy:aY y (.sl (t.nodes.map Nd.enc)))(h1:k=t.kind)(h2:n=t.num)(h3:a=t.at_):aY (.agg [nI k,x,y,nI n,nI a]) (iL t):=by subst h1 h2 h3;exact aY.agg ⟨aY.refl _,hx,hy,aY.refl _,aY.refl _,ai⟩
theorem ao0{w:aw}:aY (.clip [nS w]) (nK [w]):=fY _
theorem akt(t:Nd):aY (.clip [ee t]) (.sl ([t].map Nd.enc)):=by (have:[t].map Nd.enc=[ee t]:=by simp[Nd.aP]);rw[this];exact fY _
theorem JX(h:PE L s)(hi:st.1<=L.length):aZ aj 39 [.ptr 1 0] (PO L s 0 st) (λr q=>r=iL (fV L s st).1/\q=PO L s 0 (fV L s st).2):=by
 have hlen:=h.len;refine aZ.M8 (abp ⟨_,dC h hi,λr q ⟨e1,e2⟩=>⟨_,_,_,_,_,_,⟨e1,e2⟩,_,Gi,aA.intro (λh1=>?_) λh1=>aA.intro (λh2=>?_) λh2=>?_⟩⟩);have h1:¬(pk L s st.1).1=1:=by simpa using h1
 rw[fV,if_neg λc=>h1 c.1];exact⟨_,fK (st:=st) h hi,λr q ⟨e1,e2⟩=>⟨_,_,_,_,_,_,_,_,⟨e1,e2⟩,afI bX bX rfl rfl rfl,rfl⟩⟩;have h2:vi (pk L s st.1).2.1=0:=by simpa using h2
 rw[fV,if_neg λc=>c.2 h2];exact⟨_,fK (st:=st) h hi,λr q ⟨e1,e2⟩=>⟨_,_,_,_,_,_,_,_,⟨e1,e2⟩,afI bX bX rfl rfl rfl,rfl⟩⟩;have h1:(pk L s st.1).1=1:=by simpa using h1
 have h2:vi (pk L s st.1).2.1≠0:=by simpa using h2
 have aE:=vg (L:=L) (s:=s) (i:=st.1) h (by rw[h1];decide);rw[fV,if_pos ⟨h1,h2⟩];refine⟨_,xT h hi,λr q ⟨e1,e2⟩=>⟨_,_,_,_,_,_,⟨e1,by rw[if_pos aE]at e2;exact e2⟩,?_⟩⟩;clear e1 e2;generalize vi (pk L s st.1).2.1=k at h2 ⊢;generalize (pk L s st.1).2.2=a;have jz:st.1+1<=L.length:=aE;have hu:((st.1+1,st.2):St).1<=L.length:=jz;generalize hU:((st.1+1,st.2):St)=u at hu ⊢;have eu1:((st.1+1:Nat):Int)=(u.1:Int):=by rw[<-hU]
 have eu2:st.2=u.2:=by rw[<-hU]
 rw[eu1,eu2];clear hU eu1 eu2 jz aE h1 hi;have fin:∀{B:(List aw×List Nd×Int)×St}{x y:AV}{m:Int},cY L s k u=B->aY x (nK B.1.1)->aY y (.sl (B.1.2.1.map Nd.enc))->m=B.1.2.2->
   aH 72 [.ptr 1 0,nS scW] (PO L s 0 B.2) λr q=>∃l s2 i1 i2 i3 i4 i5 w,(r=.aG []/\q=bm l s2 i1 i2 i3 i4 i5 w)/\
    XQ (iL ⟨k,(cY L s k u).1.1,(cY L s k u).1.2.1,(cY L s k u).1.2.2,a⟩) (PO L s 0 (dF L s scW (cY L s k u).2)) (.agg [nI k,x,y,nI m,nI a]) (bm l s2 i1 i2 i3 i4 i5 w):=by
  intro B x y m hB hx hy hm;subst hB;exact⟨_,eU h ((wJ h).2 hu),λr q ⟨e1,e2⟩=>⟨_,_,_,_,_,_,_,_,⟨e1,e2⟩,afI hx hy rfl hm rfl,rfl⟩⟩
 have r12:=fun(hk:k≠1/\¬(k=2\/k=3)/\k≠4/\k≠5/\k≠6/\k≠7/\k≠9/\k≠10)=>(show IY (k==12) (L.map cQ) s (u.1:Int) 0 u.2.1 u.2.2.1 u.2.2.2.1 u.2.2.2.2 (XQ (iL ⟨k,(cY L s k u).1.1,(cY L s k u).1.2.1,(cY L s k u).1.2.2,a⟩) (PO L s 0 (dF L s scW (cY L s k u).2))) k a from by
  obtain⟨g1,g2,g4,g5,g6,g7,g9,g10⟩:=hk;refine aA.intro (λc=>⟨_,dN (st:=u) h hu,λr q ⟨e1,e2⟩=>⟨_,_,_,_,_,_,_,_,_,⟨e1,e2⟩,?_⟩⟩) λc=>⟨_,BH (st:=u) h hu,λr q ⟨e1,e2⟩=>⟨_,_,_,_,_,_,_,_,_,⟨e1,e2⟩,?_⟩⟩;(have c:k=12:=by simpa using c);exact fin (by rw[cY,if_neg g1,if_neg g2,if_neg g4,if_neg g5,if_neg g6,if_neg g7,if_neg g9,if_neg g10,if_pos c]) ao0 bX rfl
  ·(have c:¬k=12:=by simpa using c);exact fin (by rw[cY,if_neg g1,if_neg g2,if_neg g4,if_neg g5,if_neg g6,if_neg g7,if_neg g9,if_neg g10,if_neg c]) bX bX rfl)
 have r9:=fun(hk:k≠1/\¬(k=2\/k=3)/\k≠4/\k≠5/\k≠6/\k≠7)=>(show IZ (k==9) (L.map cQ) s (u.1:Int) 0 u.2.1 u.2.2.1 u.2.2.2.1 u.2.2.2.2 (XQ (iL ⟨k,(cY L s k u).1.1,(cY L s k u).1.2.1,(cY L s k u).1.2.2,a⟩) (PO L s 0 (dF L s scW (cY L s k u).2))) k a from by obtain⟨g1,g2,g4,g5,g6,g7⟩:=hk;refine aA.intro (λc=>⟨_,rF (st:=u) h hu,λr q ⟨e1,e2⟩=>⟨_,_,_,_,_,_,_,_,_,⟨e1,e2⟩,_,nR h _ ((lB h).2 hu),λr q ⟨e1,e2⟩=>⟨_,_,_,_,_,_,_,_,_,_,_,_,⟨e1,e2⟩,?_⟩⟩⟩) λc=> aA.intro (λc2=>⟨_,rF (st:=u) h hu,λr q ⟨e1,e2⟩=>⟨_,_,_,_,_,_,_,_,_,⟨e1,e2⟩,_,pX h ((lB h).2 hu),λr q ⟨e1,e2⟩=>⟨_,_,_,_,_,_,_,_,_,⟨e1,e2⟩,?_⟩⟩⟩) λc2=>?_;(have c:k=9:=by simpa using c);exact fin (by rw[cY,if_neg g1,if_neg g2,if_neg g4,if_neg g5,if_neg g6,if_neg g7,if_pos c]) bX (akt _) rfl;(have c:¬k=9:=by simpa using c);(have c2:k=10:=by simpa using c2);exact fin (by rw[cY,if_neg g1,if_neg g2,if_neg g4,if_neg g5,if_neg g6,if_neg g7,if_neg c,if_pos c2]) bX (aY.refl _) rfl;·exact r12 ⟨g1,g2,g4,g5,g6,g7,by simpa using c,by simpa using c2⟩);have r4:=fun(hk:k≠1/\¬(k=2\/k=3))=>(show A5 (k==4) (L.map cQ) s (u.1:Int) 0 u.2.1 u.2.2.1 u.2.2.2.1 u.2.2.2.2 (XQ (iL ⟨k,(cY L s k u).1.1,(cY L s k u).1.2.1,(cY L s k u).1.2.2,a⟩) (PO L s 0 (dF L s scW (cY L s k u).2))) k a from by
  obtain⟨g1,g2⟩:=hk;refine aA.intro (λc=>⟨_,pY (st:=u) h hu,λr q ⟨e1,e2⟩=>⟨_,_,_,_,_,_,_,_,_,⟨e1,e2⟩,_,pX h ((jS h).2 hu),λr q ⟨e1,e2⟩=>⟨_,_,_,_,_,_,_,_,_,⟨e1,e2⟩,?_⟩⟩⟩) λc4=>
   aA.intro (λc=>⟨_,pY (st:=u) h hu,λr q ⟨e1,e2⟩=>⟨_,_,_,_,_,_,_,_,_,⟨e1,e2⟩,_,pX h ((jS h).2 hu),λr q ⟨e1,e2⟩=>⟨_,_,_,_,_,_,_,_,_,⟨e1,e2⟩,?_⟩⟩⟩) λc5=>
   aA.intro (λc=>⟨_,Gk (st:=u) h hu,λr q ⟨e1,e2⟩=>⟨_,_,_,_,_,_,_,_,_,⟨e1,e2⟩,?_⟩⟩) λc6=>
   aA.intro (λc=>⟨_,dN (st:=u) h hu,λr q ⟨e1,e2⟩=>⟨_,_,_,_,_,_,_,_,_,⟨e1,e2⟩,_,dN h ((cX h).2 hu),λr q ⟨e1,e2⟩=>⟨_,_,_,_,_,_,_,_,_,⟨e1,e2⟩,?_⟩⟩⟩) λc7=>?_
  (have c:k=4:=by simpa using c);exact fin (by rw[cY,if_neg g1,if_neg g2,if_pos c]) (aY.refl _) (aY.refl _) rfl;(have c4:¬k=4:=by simpa using c4);(have c:k=5:=by simpa using c);exact fin (by rw[cY,if_neg g1,if_neg g2,if_neg c4,if_pos c]) (aY.refl _) (aY.refl _) rfl;(have c4:¬k=4:=by simpa using c4);(have c5:¬k=5:=by simpa using c5);(have c:k=6:=by simpa using c);exact fin (by rw[cY,if_neg g1,if_neg g2,if_neg c4,if_neg c5,if_pos c]) (aY.refl _) bX rfl;(have c4:¬k=4:=by simpa using c4);(have c5:¬k=5:=by simpa using c5);(have c6:¬k=6:=by simpa using c6);(have c:k=7:=by simpa using c);exact fin (by rw[cY,if_neg g1,if_neg g2,if_neg c4,if_neg c5,if_neg c6,if_pos c]) (fY _) bX rfl
  ·exact r9 ⟨g1,g2,by simpa using c4,by simpa using c5,by simpa using c6,by simpa using c7⟩)
 have t23:k≠1->(k=2\/k=3)->aH 64 [.ptr 1 0] (PO L s 0 u) λr q=>∃l s2 i1 i2 i3 i4 i5 w l2,(r=.sl l2/\q=bm l s2 i1 i2 i3 i4 i5 w)/\
   A4 l s2 i1 i2 i3 i4 i5 w (XQ (iL ⟨k,(cY L s k u).1.1,(cY L s k u).1.2.1,(cY L s k u).1.2.2,a⟩) (PO L s 0 (dF L s scW (cY L s k u).2))) k l2 a:=λg1 g2=>
  ⟨_,pY (st:=u) h hu,λr q ⟨e1,e2⟩=>⟨_,_,_,_,_,_,_,_,_,⟨e1,e2⟩,_,Gl h _ ((jS h).2 hu),λr q ⟨e1,e2⟩=>⟨_,_,_,_,_,_,_,_,_,_,_,_,⟨e1,e2⟩,fin (by rw[cY,if_neg g1,if_pos g2]) (aY.refl _) (akt _) rfl⟩⟩⟩
 refine aA.intro (λc=>⟨_,Gj (st:=u) h hu,λr q ⟨e1,e2⟩=>⟨_,_,_,_,_,_,_,_,_,⟨e1,e2⟩,?_⟩⟩) λc1=>aA.intro (λc2=>aA.pos c2 (t23 (by simpa using c1) (.inl (by simpa using c2)))) λc2=>aA.intro (λc3=>t23 (by simpa using c1) (.inr (by simpa using c3))) λc3=>r4 ⟨by simpa using c1,?_⟩;have c:k=1:=by simpa using c
 exact fin (by rw[cY,if_pos c]) (aY.refl _) bX rfl;have c2:¬k=2:=by simpa using c2
 have c3:¬k=3:=by simpa using c3
 omega
theorem Gm(h:PE L s)(hi:st.1<=L.length):aZ aj 35 [.ptr 1 0] (PO L s 0 st) (λr q=>r=.sl ((oK L s (L.length+2) [] st).1.map iL)/\q=PO L s 0 (oK L s (L.length+2) [] st).2):=by have hlen:=h.len;generalize hX:oK L s (L.length+2) [] st=X;refine abw ⟨rfl,?_⟩;refine aI.intro (λp:Nat×List It×St=>(((),(),()),((L.map cQ,s,(p.2.2.1:Int),()),((),0,p.2.2.2.1,p.2.2.2.2.1,p.2.2.2.2.2.1,p.2.2.2.2.2.2,()),p.2.1.map iL,()))) (λp=>p.2.2.1<=L.length/\L.length+1+(if ju p.2.2=true then 1 else 0)<=p.1+p.2.2.1/\p.2.1.length<=1000/\oK L s p.1 p.2.1 p.2.2=X) (λp=>2*(L.length-p.2.2.1)+(if ju p.2.2=true then 1 else 0)) (L.length+2,[],st) rfl ⟨hi,by dsimp only;split<;>omega,aus _,hX⟩ ?_;(intro ⟨m,l,u⟩ ⟨hu,hm,hl,he⟩ again bP;dsimp only at hu hm hl he ⊢;obtain⟨m,rfl⟩:∃j,m=j+1:=⟨m-1,by split at hm<;>omega⟩;have stop:(ju u&&(pk L s u.1).1 != 4)=false->(l.map iL).length=(l.map iL).length/\(AV.sl (l.map iL)=.sl (X.1.map iL)/\PO L s 0 u=PO L s 0 X.2):=λh1=>by rw[oK,if_neg (by rw[h1];decide)]at he;rw[<-he];exact⟨rfl,rfl,rfl⟩);refine⟨_,cx (st:=u),λr q ⟨e1,e2⟩=>⟨_,_,_,_,_,_,_,_,_,⟨e1,e2⟩,aA.intro (λh1=>⟨_,dC h hu,λr q ⟨e1,e2⟩=>⟨_,_,_,_,_,_,⟨e1,e2⟩,aA.intro (λh2=>⟨rfl,?_⟩) λh2=>stop (by rw[h1,h2];rfl)⟩⟩) λh1=>stop (by rw[h1];rfl)⟩⟩;rw[oK,if_pos (by rw[h1,h2];rfl)]at he;rw[if_pos h1]at hm;rw[aui];refine aA.intro (λh3=>⟨_,fK (st:=u) h hu,λr q ⟨e1,e2⟩=>⟨_,_,_,_,_,_,_,_,⟨e1,e2⟩,?_⟩⟩) λh3=>⟨_,JX (st:=u) h hu,λr q ⟨e1,e2⟩=>⟨_,_,_,_,_,_,_,_,_,_,_,_,_,⟨e1,e2⟩,?_⟩⟩;(have h3:l.length=1000:=by have:=eq_of_beq h3;omega);rw[if_pos h3]at he;rw[<-he];exact⟨rfl,rfl,rfl⟩;(have h3:¬l.length=1000:=λe=>by rw[e]at h3;cases h3);(rw[if_neg h3]at he;have ha:=D8 (st:=u) h;have hon:=XT (st:=u) h h1;have h4:=ha.1;have h5:=ha.2 hu;refine⟨rfl,bG rfl (by simp;omega) (by decide),rfl,?_⟩;have e:l.map iL++[iL (fV L s u).1]=(l++[(fV L s u).1]).map iL:=by simp);rw[e];refine bP (m,l++[(fV L s u).1],(fV L s u).2) ⟨h5,?_,by simp;omega,he⟩ ?_;dsimp only;rcases hon with h6|h6;split<;>omega;rw[if_neg (by rw[h6];decide)];omega;dsimp only;rw[if_pos h1];rcases hon with h6|h6;split<;>omega;rw[if_neg (by rw[h6];decide)];omega
theorem Gp{s:aw}:∀(f i:Nat)(acc:List Tk),i<=s.size->acc.length<=i->(∀t∈acc,(0<=t.2.2/\t.2.2<(s.size:Int))/\t.1≠4)-> (Gd s f i acc).1.length<=s.size/\∀t∈(Gd s f i acc).1,(0<=t.2.2/\t.2.2<(s.size:Int))/\t.1≠4
 |0,i,acc,hi,ha,h=>⟨by rw[Gd];dsimp only;omega,h⟩|f+1,i,acc,hi,ha,h=>by (have hl:=cG s;have hle:=Bx false ((aF s).drop i);rw[auR,hl]at hle;have hA:i<=iK s i/\iK s i<=s.size:=by rw[iK];omega);rw[Gd];generalize iK s i=a at hA;split;exact⟨by dsimp only;omega,h⟩;split;exact⟨aus _,λt ht=>by cases ht⟩;split;exact⟨aus _,λt ht=>by cases ht⟩;(rename_i bV h0 _;have HU:=PK ((aF s).drop a);rw[auR,hl]at HU;have hk:∀l:List Int,(CV l).1<=3:=λl=>by cases l with|nil=>decide|cons c l=>rw[CV];split;show 1<=3;decide;split;show 2<=3;decide;show 3<=3;decide);have hk:=hk ((aF s).drop a);change (sC s a).2<=_ at HU;change (sC s a).1<=_ at hk;refine Gp f _ _ (by omega) (by simp;omega) λt ht=>?_;rcases auQ.1 ht with ht|ht;exact h t ht;obtain rfl:=auy.1 ht;exact⟨⟨by simp,by simp;omega⟩,by show ¬(((sC s a).1:Nat):Int)=4;omega⟩
theorem JY{s:aw}:PE (di s).1 s\/20000<s.size/\di s=([],(2,1,1,⟨#[]⟩)):=by by_cases h:s.size>20000;exact .inr ⟨h,if_pos h⟩;(refine .inl ?_;have hp:=Gp (s:=s) (s.size+1) 0 [] (aus _) (aum _) λt ht=>by cases ht);rw[di,if_neg h,XI];split;exact⟨by dsimp only;omega,by omega,λt ht=>(hp.2 t ht).1,λt ht=>(hp.2 t ht).2⟩;exact⟨aus _,by omega,λt ht=>(by cases ht),λt ht=>by cases ht⟩
theorem XU{l:List Tk}(hl:l.length<=1000000):az aj 122 [.sl (l.map cQ)] (.sl (l.map cQ)):=by (refine VV λb hb=>aA.intro (λh=>?_) λh=>⟨λ_=>rfl,kx (λx hx=>by cases hx) (λx hx=>by obtain⟨t,_,rfl⟩:=avg.1 hx;rfl) (by simp;omega) (by decide),rfl,rfl⟩;have:l.map cQ=[]:=Decidable.byContradiction λc=>by have:=hb c;rw[h]at this;cases this);rw[this]
theorem Nc{l:List Tk}(hl:l.length<=1000000):aZ aj 59 [.sl (l.map cQ),nS s] [] (λr q=>r=.ptr 0 0/\q=RO l s 0):=aa3 ⟨_,XU hl,rfl,rfl⟩
theorem Gq{s:aw}(hs:s.size<=1000000000):az aj 34 [nS s,.bw 35 []] (.aG [.sl ((dO s).1.map iL),.agg (M5 (dO s).2)]):=by
 refine abq ⟨_,_,_,_,_,BB hs,aA.intro (λh1=>?_) λh1=>?_⟩;have h1:¬(di s).2.1=0:=by simpa using h1
 rw[dO,if_neg h1];rfl;have h1:(di s).2.1=0:=by simpa using h1
 have hp:PE (di s).1 s:=by rcases JY (s:=s)with h|⟨_,h⟩;exact h;rw[h]at h1;cases h1
 rw[dO,if_pos h1];generalize (di s).1=L at hp ⊢;have ao1:∀(n:Nat)(l:List It)(u:St),nQ L u (oK L s n l u).2:=by intro n;induction n with|zero=>intro l u;exact nQ.refl|succ n ih=>intro l u;rw[oK];split;split;exact oJ;exact(D8 hp).trans (ih _ _);exact nQ.refl
 have jz:=(ao1 (L.length+2) [] (0,pU)).2 (aus _);generalize hX:oK L s (L.length+2) [] (0,pU)=X at jz ⊢;obtain⟨l,st1⟩:=X;have aku:=Gm (st:=(0,pU)) hp (aus _);rw[hX]at aku;have fin:∀u:St,u=tz L s st1->aA (!(ju u)) (AV.aG [.sl [],.agg (M5 u.2)]=.aG [.sl ((if ju (tz L s st1)=true then(l,pU)else([],(tz L s st1).2)).1.map iL),.agg (M5 (if ju (tz L s st1)=true then(l,pU)else([],(tz L s st1).2)).2)])
   (AV.aG [.sl (l.map iL),.agg [nI 0,nI 0,nI 0,nS ⟨#[]⟩]]=.aG [.sl ((if ju (tz L s st1)=true then(l,pU)else([],(tz L s st1).2)).1.map iL),.agg (M5 (if ju (tz L s st1)=true then(l,pU)else([],(tz L s st1).2)).2)]):=by
  intro u hu;subst hu
  cases ho:ju (tz L s st1)
  ·exact aA.pos rfl rfl
  ·exact aA.neg rfl rfl
 refine⟨_,Nc hp.len,λr q ⟨e1,e2⟩=>⟨_,_,_,⟨e1,e2⟩,_,aku,λr q ⟨e1,e2⟩=>⟨_,_,_,_,_,_,_,_,_,⟨e1,e2⟩,_,dC hp jz,λr q ⟨e1,e2⟩=>⟨_,_,_,_,_,_,⟨e1,e2⟩,aA.intro (λh2=>?_) λh2=>?_⟩⟩⟩⟩;have h2:¬(pk L s st1.1).1=4:=by simpa using h2
 exact⟨_,fK (st:=st1) hp jz,λr q ⟨e1,e2⟩=>⟨_,_,_,_,_,_,_,_,⟨e1,e2⟩,_,cx (st:=jk L s 3 st1),λr q ⟨e1,e2⟩=>⟨_,_,_,_,_,_,_,_,_,⟨e1,e2⟩,fin _ (by rw[tz,if_neg h2])⟩⟩⟩;have h2:(pk L s st1.1).1=4:=by simpa using h2
 exact⟨_,cx (st:=st1),λr q ⟨e1,e2⟩=>⟨_,_,_,_,_,_,_,_,_,⟨e1,e2⟩,fin _ (by rw[tz,if_pos h2])⟩⟩
theorem yK{s:aw}(hs:s.size<=1000000000):az aj 10 [nS s] (.aG [.sl ((dO s).1.map iL),.agg (M5 (dO s).2)]):=abr ⟨_,_,_,_,_,Gq hs,rfl⟩
theorem RG{a b:List aw}(ha:a.length<=1000000):az aj 24 [nK a,nK b] (nB (decide (a=b))):=by refine abz (aA.intro (λh=>?_) λh=>?_);(have h:¬a.length=b.length:=λe=>by simp[e]at h);rw[decide_eq_false λe=>h (by rw[e])];(have h:a.length=b.length:=by (have:(((a.map nS).length:Nat):Int)=((b.map nS).length:Nat):=by simpa using h);simp only[aui]at this;omega);refine aI.intro (λk:Nat=>((a.map nS,b.map nS,((a.length:Nat):Int),(k:Int),()),())) (λk=>k<=a.length/\a.take k=b.take k) (λk=>a.length-k) 0 (by rw[aui];rfl) ⟨aus _,rfl⟩ ?_;intro k ⟨hk,hd⟩ again bP;dsimp only;refine aA.intro (λh1=>?_) λh1=>?_;(have aE:k<a.length:=by have:=of_decide_eq_true h1;omega);(have acx:k<b.length:=by omega);refine⟨by omega,by rw[aui];omega,_,getD_map aE,by omega,by rw[aui];omega,_,getD_map acx,?_⟩;rw[ej];refine aA.intro (λh2=>?_) λh2=>?_;(have h2:¬a[k]=b[k]:=by simpa using h2);rw[decide_eq_false λe=>h2 (by subst e;rfl)];(have h2:a[k]=b[k]:=by simpa using h2);rw[bf (by omega)];exact bP (k+1) ⟨by omega,by rw[avf aE,avf acx,hd,h2]⟩ (by omega);(have fh:a.length<=k:=by have:=of_decide_eq_false h1;omega);rw[auA fh,auA (by omega)]at hd;rw[decide_eq_true hd]
end
def yL(l u d m s y:Int):Array Value:=#[.int .i64 l,.int .i64 u,.int .u32 d,.int .i32 m,.int .u32 s,.int .u32 y]
theorem aC{w:World}{F:Nat->Nat->Prop}{η:List Value}{hp:List ax}{u v:Value}(h:bo w F η hp (.ay u) v):v=u:=by cases h;rfl
theorem Gr{w:World}{F:Nat->Nat->Prop}{η:List Value}{hp:List ax}{r o:Nat}{v:Value}(h:bo w F η hp (.ptr r o) v):∃b,v=.pointer (some ⟨b,o,none⟩)/\η[r]?=some (.pointer (some ⟨b,0,none⟩)):=by cases h with|ptr _ _ b h1=>exact⟨b,rfl,h1⟩
theorem XV{w:World}{F:Nat->Nat->Prop}{η:List Value}{hp:List ax}{l u d m s y:Int}{b:Nat}(h:iO w F η hp (.box (aX l u d m s y)) (.pointer (some ⟨b,0,none⟩))): ∃T,w.heap[b]?=some (.cells (yL l u d m s y) T (0,0)):=by obtain⟨b',vs,T,e1,e2,e3,e4⟩:=h;cases e1;refine⟨T,?_⟩;rw[e2];congr 2;refine Array.ext (by rw[e3];rfl) λi h1 h2=>?_;have hs:i<6:=h2;have hu:vs[i]?=some vs[i]:=ava h1;match i,hs with|0,_=>exact aC (e4 0 _ _ rfl hu).1|1,_=>exact aC (e4 1 _ _ rfl hu).1|2,_=>exact aC (e4 2 _ _ rfl hu).1|3,_=>exact aC (e4 3 _ _ rfl hu).1|4,_=>exact aC (e4 4 _ _ rfl hu).1|5,_=>exact aC (e4 5 _ _ rfl hu).1
theorem Gs{w:World}{F:Nat->Nat->Prop}{η:List Value}{hp:List ax}{l u d m s y:Int}(j:Nat)(x:AV)(v:Value)(h1:(aX l u d m s y)[j]?=some x)(h2:(yL l u d m s y)[j]?=some v): bo w F η hp x v/\v.oneCell'=true:=by have hs:j<6:=(auh.1 h1).1;match j,hs with|0,_=>cases h1;cases h2;exact⟨.ay _,rfl⟩|1,_=>cases h1;cases h2;exact⟨.ay _,rfl⟩|2,_=>cases h1;cases h2;exact⟨.ay _,rfl⟩|3,_=>cases h1;cases h2;exact⟨.ay _,rfl⟩|4,_=>cases h1;cases h2;exact⟨.ay _,rfl⟩|5,_=>cases h1;cases h2;exact⟨.ay _,rfl⟩
theorem acy(l u d s y:Int):aZ aj 239 [.ptr 0 2,.bw 240 [.ptr 1 0]] [.box (aX l u d 0 s y),.box [.ptr 0 0]] (λr hp'=>r=.aG []/\hp'=[.box (aX l u (if d=0 then 1 else d) 0 s (if d=0 then 1 else y)),.box [.ptr 0 0]]):=by refine⟨⟨_,func239,by kernel_rfl,by kernel_rfl⟩,λw F η vals bz hv=>?_⟩;match vals,hv with| [v0,v1],⟨r0,r1,_⟩=>obtain⟨b,rfl,h0⟩:=Gr r0;cases r1 with|bw _ _ caps hl hc=>(obtain⟨c0,rfl⟩:∃c0,caps=#[c0]:=by match caps,hl with|⟨[c0]⟩,_=>exact⟨c0,rfl⟩);(obtain⟨b1,rfl,h1⟩:=Gr (hc 0 _ _ rfl rfl);obtain⟨T,hb⟩:=XV (bz.heap.obj 0 _ _ rfl h0);obtain⟨b1',vs1,T1,e1,e2,e3,e4⟩:=bz.heap.obj 1 _ _ rfl h1;cases e1;have bV:¬b=b1:=λh=>bz.heap.sep 0 1 _ _ _ _ b (by omega) rfl rfl ai ai h0 h1 rfl (by rw[h];rfl);obtain⟨p0,rfl⟩:∃p0,vs1=#[p0]:=by match vs1,e3 with|⟨[c0]⟩,_=>exact⟨c0,rfl⟩);obtain⟨b',rfl,h0'⟩:=Gr (e4 0 _ _ rfl rfl).1;rw[h0]at h0';cases h0';(have cell:∀(k:Nat)(x:Value),(yL l u d 0 s y)[k]?=some x->w.cell? ⟨b,k,none⟩=some x:=λk x hx=>by simp only[World.cell?,hb];exact hx);(have afJ:∀k,w.frozen? ⟨b,k,none⟩=false:=λk=>by simp[World.frozen?,hb]);by_cases hd:d=0;subst hd;refine(MX b 0 ⟨b1,0,none⟩ bV (.int .u32 y) w (by simp only[World.cell?,e2];rfl) (cell 2 _ rfl) (cell 3 _ rfl) (cell 5 _ rfl) (afJ 2) (afJ 3) (afJ 5)).mono ?_;rintro e w' ⟨rfl,rfl⟩;refine⟨_,.aG [],_,η,rfl,⟨rfl,rfl⟩,?_⟩;have g1:=heap_setCell_same w b 3 _ T (.int .i32 1) hb;have g2:=heap_setCell_same (w.setCell ⟨b,3,none⟩ (.int .i32 1)).drew b 5 _ T (.int .u32 1) g1;have g3:=heap_setCell_same ((w.setCell ⟨b,3,none⟩ (.int .i32 1)).drew.setCell ⟨b,5,none⟩ (.int .u32 1)).drew b 2 _ T (.int .u32 1) g2;have g4:=heap_setCell_same _ b 3 _ T (.int .i32 0) g3;refine DG (q:=0) (b:=b) (vs':=yL l u 1 0 s 1) (T:=T) bz rfl h0 ⟨rfl,rfl,rfl,by simp[World.drew],λk _ hk=>?_⟩ (by simp[World.drew]) g4 rfl Gs (.aG [] #[] rfl λj y u hy _=>by cases hy);rw[heap_setCell_other _ _ _ _ hk,heap_setCell_other _ _ _ _ hk];show ((w.setCell _ _).drew.setCell _ _).heap[k]?=_;rw[heap_setCell_other _ _ _ _ hk];show (w.setCell _ _).heap[k]?=_;rw[heap_setCell_other _ _ _ _ hk];refine(MY ⟨b,2,none⟩ d hd _ w (cell 2 _ rfl)).mono ?_;rintro e w' ⟨rfl,rfl⟩;refine⟨_,.aG [],_,η,rfl,⟨rfl,rfl⟩,?_⟩;simp only[hd,if_false];exact DG (q:=0) (b:=b) (vs':=yL l u d 0 s y) (T:=T) bz rfl h0 ⟨rfl,rfl,rfl,aum _,λ_ _ _=>rfl⟩ rfl hb rfl Gs (.aG [] #[] rfl λj y u hy _=>by cases hy)
section
variable {l u d m s y:Int}
theorem BK:aZ aj 232 [.ptr 0 0] [.box (aX l u d m s y)] (λr hp'=>r=nI l/\hp'=[.box (aX l u d m s y)]):=WC ⟨_,A9 (R:=λr hp'=>r=nI l/\hp'=[.box (aX l u d m s y)]) ⟨rfl,rfl⟩,λr q ⟨e1,e2⟩=>⟨l,u,d,m,s,y,l,⟨e1,e2⟩,rfl,rfl⟩⟩
theorem acz:aZ aj 231 [.ptr 0 0] [.box (aX l u d m s y)] (λr hp'=>r=nB (y != 0)/\hp'=[.box (aX l u d m s y)]):=WD ⟨_,CO (R:=λr hp'=>r=nB (y != 0)/\hp'=[.box (aX l u d m s y)]) ⟨rfl,rfl⟩,λr q ⟨e1,e2⟩=>⟨l,u,d,m,s,y,y != 0,⟨e1,e2⟩,rfl,rfl⟩⟩
def rG(l n:Int):Int:=ag .i64 (l+ag .i64 (0-n))
def vk(u n:Int):Int:=ag .i64 (u+n)
theorem BL(n:Int):aZ aj 233 [.ptr 0 0,nI n] [.box (aX l u d m s y)] (λr hp'=>r=.aG []/\hp'=[.box (aX (rG l n) (vk u n) d m s y)]):=
 WE ⟨_,CP (R:=λr hp'=>r=nI (rG l n)/\hp'=[.box (aX (rG l n) u d m s y)]) ⟨rfl,rfl⟩,λr q ⟨e1,e2⟩=>⟨rG l n,u,d,m,s,y,rG l n,⟨e1,e2⟩,
  _,CQ (R:=λr hp'=>r=nI (vk u n)/\hp'=[.box (aX (rG l n) (vk u n) d m s y)]) ⟨rfl,rfl⟩,λr q ⟨e1,e2⟩=>⟨rG l n,vk u n,d,m,s,y,vk u n,⟨e1,e2⟩,rfl,rfl⟩⟩⟩
theorem D9:aZ aj 234 [.ptr 0 0] [.box (aX l u d 0 s y)] (λr hp'=>r=.aG []/\hp'=[.box (aX l u (if d=0 then 1 else d) 0 s (if d=0 then 1 else y))]):=WG ⟨_,acy l u d s y,λr q ⟨e1,e2⟩=>⟨l,u,_,0,s,_,⟨e1,e2⟩,rfl,rfl⟩⟩
def tC(l u d s y n:Int):List AV:=if y≠0\/n>l then aX (rG l l) (vk u l) (if d=0 then 1 else d) 0 s (if d=0 then 1 else y)else aX (rG l n) (vk u n) d 0 s y
theorem RH(n:Int)(hn:0<=n):aZ aj 229 [.ptr 0 0,nI n] [.box (aX l u d 0 s y)] (λr hp'=>r=nB (decide (¬(y≠0\/n>l)))/\hp'=[.box (tC l u d s y n)]):=by refine WH ?_;unfold adN;rw[show decide (n<0)=false from decide_eq_false (by omega)];refine⟨_,acz,λr q ⟨e1,e2⟩=>⟨l,u,d,0,s,y,y != 0,⟨e1,e2⟩,?_⟩⟩;by_cases hy:y=0;subst hy;refine⟨_,BK,λr q ⟨e1,e2⟩=>⟨l,u,d,0,s,0,l,⟨e1,e2⟩,?_⟩⟩;by_cases h:n>l;rw[show decide (n>l)=true from decide_eq_true h];refine⟨_,BK,λr q ⟨e1,e2⟩=>⟨l,u,d,0,s,0,l,⟨e1,e2⟩,_,BL l,λr q ⟨e1,e2⟩=>⟨_,_,d,0,s,0,⟨e1,e2⟩,_,D9,λr q ⟨e1,e2⟩=>⟨_,_,_,0,s,_,⟨e1,e2⟩,?_⟩⟩⟩⟩;exact⟨by simp[h],by simp only[tC,h,or_true,if_true]⟩;rw[show decide (n>l)=false from decide_eq_false h];refine⟨_,BL n,λr q ⟨e1,e2⟩=>⟨_,_,d,0,s,0,⟨e1,e2⟩,?_⟩⟩;exact⟨by simp[h],by simp only[tC,h,ne_eq,not_true_eq_false,or_self,if_false]⟩;rw[show (y != 0)=true from by simp[hy]];refine⟨_,BK,λr q ⟨e1,e2⟩=>⟨l,u,d,0,s,y,l,⟨e1,e2⟩,_,BL l,λr q ⟨e1,e2⟩=>⟨_,_,d,0,s,y,⟨e1,e2⟩,_,D9,λr q ⟨e1,e2⟩=>⟨_,_,_,0,s,_,⟨e1,e2⟩,?_⟩⟩⟩⟩;exact⟨by simp[hy],by simp only[tC,ne_eq,hy,not_false_eq_true,true_or,if_true]⟩
end
set_option maxHeartbeats 1600000
theorem RI(a:Addr)(x:Value)(n:Int)(w:World)(hc:w.cell? a=some x)(hz:w.frozen? a=false): CallsIn Fence.wide 0 aj 194 #[.pointer (some a),.int .i64 n] w λe w'=>e=.returned (.tuple #[])/\w'=w.setCell a (.int .i64 n):=by have tV:=run_call_store (P:=aj) func208 (by kernel_rfl) (by kernel_rfl) (by kernel_rfl) (by kernel_rfl) (k:=.i64) (y:=n) hc hz;gi_enter func194,Tryz.ntmps194;gi_wp2;go_end0;exact⟨rfl,rfl⟩
theorem XW(n:Int)(w:World): CallsIn Fence.wide 0 aj 174 #[.int .i64 n] w λe w'=>e=.returned (.pointer (some ⟨w.heap.size,0,none⟩))/\ w'=(w.alloc (.cells (yL 0 0 0 0 0 0) 302)).setCell ⟨w.heap.size,0,none⟩ (.int .i64 (if n<0 then 0 else n)):=by (have hc:(w.alloc (.cells (yL 0 0 0 0 0 0) 302)).cell? ⟨w.heap.size,0,none⟩=some (.int .i64 0):=by simp[yL]);(have hz:(w.alloc (.cells (yL 0 0 0 0 0 0) 302)).frozen? ⟨w.heap.size,0,none⟩=false:=by simp);gi_enter func174,Tryz.ntmps174;gi_wp2_with (gi_at_call 194;refine(RI ⟨w.heap.size,0,none⟩ (.int .i64 0) _ _ hc hz).mono ?_;rintro e w' ⟨rfl,rfl⟩);all_goals (go_ret;first|exact⟨rfl,rfl⟩|exact⟨rfl,by congr 4;omega⟩)
theorem acA(n:Int)(hp:List ax):aZ aj 174 [nI n] hp (λr hp'=>r=.ptr hp.length 0/\hp'=hp++[.box (aX (if n<0 then 0 else n) 0 0 0 0 0)]):=by refine⟨⟨_,func174,by kernel_rfl,by kernel_rfl⟩,λw F η vals bz hv=>?_⟩;match vals,hv with| [v0],⟨r0,_⟩=>obtain rfl:=aC r0;refine(XW n w).mono ?_;rintro e w' ⟨rfl,rfl⟩;have g0:(w.alloc (.cells (yL 0 0 0 0 0 0) 302)).heap[w.heap.size]?=some (.cells (yL 0 0 0 0 0 0) 302 (0,0)):=heap_alloc_new w _;have g1:=heap_setCell_same _ w.heap.size 0 _ _ (.int .i64 (if n<0 then 0 else n)) g0;refine⟨_,.ptr hp.length 0,_,_,rfl,⟨rfl,rfl⟩,Q3 (vs:=yL (if n<0 then 0 else n) 0 0 0 0 0) bz ⟨rfl,rfl,rfl,by simp,λk hk _=>?_⟩ (by simp) g1 rfl Gs⟩;rw[heap_setCell_other _ _ _ _ (Nat.ne_of_lt hk)];exact(ck.alloc w _).block k hk
section
variable {l u d s y n:Int}
theorem JZ(h0:0<=n)(h1:n<=l)(h2:l<=9223372036854775807):rG l n=l-n:=by unfold rG;rw[IntWalk.i64_in (0-n) (by omega),IntWalk.i64_in _ (by omega)];omega
theorem J0(h0:0<=n)(h1:0<=u)(h2:u+n<=9223372036854775807):vk u n=u+n:=by unfold vk;rw[IntWalk.i64_in _ (by omega)]
theorem RL(h1:1<=l)(h2:0<=u)(h3:l+u<=9223372036854775807):tC l u 0 s 0 1=aX (l-1) (u+1) 0 0 s 0:=by unfold tC;rw[if_neg (by omega),JZ (by omega) (by omega) (by omega),J0 (by omega) (by omega) (by omega)]
end
theorem J1{c m x:List Ty}{k i:Int}{t:Ty}(h:bt c m x k i=some t):k=0\/k=1\/k=2:=by by_cases h0:k=0;exact .inl h0;by_cases h1:k=1;exact .inr (.inl h1);by_cases h2:k=2;exact .inr (.inr h2);rw[bt,if_neg h0,if_neg h1,if_neg h2]at h;split at h<;>cases h
theorem Rw.RM{r t:Rw}(ht:t∈r.kids):t.depth<r.depth:=by obtain⟨k,hk,rfl⟩:=List.getElem_of_mem ht;exact Rw.Rl hk
theorem J2(n:Int):jt (ag .i64 n):=by unfold jt;rw[IntKind.wrap_i64];omega
mutual
def Rw.Typ(c m:List Ty):List Ty->Rw->Ty->Prop
 |x,.mk k t i l,u=>if k=3 then ∃v:Ty,u=v.arrow [t]/\Rw.XX c m (x++[t]) l [v]else if k=4 then ∃v:Ty,Rw.XX c m x l [.mk (v::u.args) u.base,v]else bt c m x k i=some u/\l=[]
def Rw.XX(c m:List Ty):List Ty->List Rw->List Ty->Prop
 |_,[],[]=>True|x,r::l,u::us=>Rw.Typ c m x r u/\Rw.XX c m x l us|_,_,_=>False
end
mutual
def Rw.mN(S:Nat)(c m:List Ty):List Ty->Rw->Ty->Prop
 |x,.mk k t i l,u=>u.size<=S/\if k=3 then t.size<=S/\∃v:Ty,u=v.arrow [t]/\Rw.oL S c m (x++[t]) l [v]else if k=4 then ∃v:Ty,Rw.oL S c m x l [.mk (v::u.args) u.base,v]else bt c m x k i=some u/\l=[]
def Rw.oL(S:Nat)(c m:List Ty):List Ty->List Rw->List Ty->Prop
 |_,[],[]=>True|x,r::l,u::us=>Rw.mN S c m x r u/\Rw.oL S c m x l us|_,_,_=>False
end
mutual
theorem Rw.mN.typ{S:Nat}{c m:List Ty}:∀{r:Rw}{x:List Ty}{u:Ty},Rw.mN S c m x r u->Rw.Typ c m x r u
 | .mk k t i l,x,u,h=>by rw[Rw.mN]at h;obtain⟨_,h⟩:=h;rw[Rw.Typ];by_cases h3:k=3;rw[if_pos h3]at h ⊢;obtain⟨_,v,hv,hl⟩:=h;exact⟨v,hv,Rw.oL.typ hl⟩;rw[if_neg h3]at h ⊢;by_cases h4:k=4;rw[if_pos h4]at h ⊢;obtain⟨v,hl⟩:=h;exact⟨v,Rw.oL.typ hl⟩;rw[if_neg h4]at h ⊢;exact h
theorem Rw.oL.typ{S:Nat}{c m:List Ty}:∀{l:List Rw}{x us:List Ty},Rw.oL S c m x l us->Rw.XX c m x l us
 | [],x,[],_=>by rw[Rw.XX];exact ai|r::l,x,u::us,h=>⟨h.1.typ,h.2.typ⟩| [],_,_::_,h=>h.elim|_::_,_,[],h=>h.elim
end
theorem r6{S:Nat}{c m x:List Ty}{l:List Rw}{u:Ty}(h:Rw.oL S c m x l [u]):∃r,l=[r]/\Rw.mN S c m x r u:=by match l,h with| [r],h=>exact⟨r,rfl,h.1⟩|r::s::l,h=>exact h.2.elim
theorem r7{S:Nat}{c m x:List Ty}{l:List Rw}{u v:Ty}(h:Rw.oL S c m x l [u,v]):∃r s,l=[r,s]/\Rw.mN S c m x r u/\Rw.mN S c m x s v:=by match l,h with| [r,s],h=>exact⟨r,s,rfl,h.1,h.2.1⟩| [r],h=>exact h.2.elim|r::s::t::l,h=>exact h.2.2.elim
mutual
theorem pZ(b:Int)(c m:List Ty):∀(r:Rw)(x:List Ty)(u:Ty),r.shaped=true->r.infer b c m x=(u,0)->Rw.mN 1000 c m x r u
 | .mk k t i l,x,u,hs,h=>by rw[Rw.shaped,aul,decide_eq_true_eq]at hs;have cP:=Rw.jN b c m (.mk k t i l) x;rw[h]at cP;rw[Rw.infer]at h;rw[Rw.mN];refine⟨cP,?_⟩;by_cases h3:k=3;rw[if_pos h3]at h ⊢;obtain⟨a,ha⟩:=Xj h3 hs.1;split at h;(have hi:Rw.eC b c m (x++[t]) l=[a.infer b c m (x++[t])]:=by rw[ha];rfl);rw[hi,rp]at h;generalize a.infer b c m (x++[t])=p at h hi;split at h;rename_i hp;simp only[auk]at h;exact(hp h.2).elim;rename_i hp;split at h;cases h;simp only[auk,and_true]at h;refine⟨by rw[<-h,Ty.arrow,Ty.size,Ty.cO,Ty.sizes,Ty.sizes]at cP;omega,p.1,h.symm,rH b c m l (x++[t]) [p.1] hs.2 ?_⟩;rw[hi,auL,auY,<-avP.1 hp];cases h;rw[if_neg h3]at h ⊢;by_cases h4:k=4;(rw[if_pos h4]at h ⊢;obtain⟨f,a,ha⟩:=Xk h4 hs.1;have hi:Rw.eC b c m x l=[f.infer b c m x,a.infer b c m x]:=by rw[ha];rfl);rw[hi,pM]at h;generalize f.infer b c m x=p at h hi;generalize a.infer b c m x=q at h hi;split at h;rename_i hp;simp only[auk]at h;exact(hp h.2).elim;rename_i hp;split at h;rename_i hq;simp only[auk]at h;exact(hq h.2).elim;rename_i hq;split at h;cases h;rename_i v vs hv;split at h;rename_i xa;simp only[auk,and_true]at h;refine⟨q.1,rH b c m l x _ hs.2 ?_⟩;have e1:=(Ty.mA _ _).1 xa;rw[hi,<-h,Ty.jf,Ty.FG,<-e1,<-hv,Ty.eta,auL,auL,auY,e1,<-avP.1 hp];congr 1;rw[avP.1 hp,<-avP.1 hq];cases h;rw[if_neg h4]at h ⊢;cases ht:bt c m x k i with|none=>rw[ht]at h;cases h|some v=>rw[ht,ni]at h;split at h;cases h;(simp only[auk,and_true]at h;refine⟨by rw[h],?_⟩;have hk:=J1 ht;have ha:arity k=0:=by unfold arity;rw[if_pos hk]);rw[ha]at hs;exact List.length_eq_zero_iff.1 (by have:=hs.1;omega)
theorem rH(b:Int)(c m:List Ty):∀(l:List Rw)(x us:List Ty),Rw.dI l=true->Rw.eC b c m x l=us.map (λu=>(u,0))->Rw.oL 1000 c m x l us
 | [],x,[],_,_=>by rw[Rw.oL];exact ai| [],x,u::us,_,h=>by cases h|r::l,x,[],_,h=>by cases h|r::l,x,u::us,hs,h=>by rw[Rw.dI,aul]at hs;rw[Rw.eC,auL,List.cons.injEq]at h;exact⟨pZ b c m r x u hs.1 h.1,rH b c m l x us hs.2 h.2⟩
end
theorem Rw.tD{k i:Int}{t:Ty}{l:List Rw}{r:Rw}(h:r∈l):r.depth<(Rw.mk k t i l).depth:=Rw.RM (r:=.mk k t i l) h
mutual
def Tm.nodes:Tm->Nat
 | .mk _ _ _ l=>1+Tm.dU l
def Tm.dU:List Tm->Nat
 | []=>0|t::l=>Tm.nodes t+Tm.dU l
end
theorem Tm.gJ(t:Tm):t.nodes=1+Tm.dU t.args:=by cases t;rfl
theorem Tm.Ea(t:Tm):1<=t.nodes:=by rw[t.gJ];omega
theorem Tm.tE{l:List Tm}{t:Tm}(h:t∈l):t.nodes<=Tm.dU l:=by induction l with|nil=>cases h|cons u l ih=>simp only[Tm.dU];rcases auJ.1 h with rfl|h;omega;have:=ih h;omega
mutual
def Tm.deep:Tm->Nat
 | .mk _ _ _ l=>Tm.Eb 0 l+1
def Tm.Eb:Nat->List Tm->Nat
 |n,[]=>n|n,t::l=>Tm.Eb (if Tm.deep t>n then Tm.deep t else n) l
end
def Tm.bH(t:Tm):Bool:=decide (t.nodes<=5000)&&decide (t.deep<=60)
theorem Ec:∀(l r:List ((Nat×Nat)×Tm))(n:Nat),im n (l++r)=if n+l.length>5000/\0<l.length\/(∃p∈l,p.1.2>60)then false else im (n+l.length) r
 | [],r,n=>by simp|p::l,r,n=>by rw[avx,im,Ec l r (n+1)];by_cases h1:n+1>5000;rw[if_pos h1,if_pos (.inl ⟨by simp;omega,by simp⟩)];rw[if_neg h1];by_cases h2:p.1.2>60;rw[if_pos h2,if_pos (.inr ⟨p,auw,h2⟩)];rw[if_neg h2];by_cases h3:n+1+l.length>5000/\0<l.length\/∃q∈l,q.1.2>60;rw[if_pos h3,if_pos];rcases h3 with h3|⟨q,hq,h3⟩;exact .inl ⟨by simp;omega,by simp⟩;exact .inr ⟨q,auz _ hq,h3⟩;rw[if_neg h3,if_neg];congr 1;simp;omega;rintro(h4|⟨q,hq,h4⟩);have:=h4.1;simp only[aur]at this;by_cases hl:0<l.length;exact h3 (.inl ⟨by omega,hl⟩);omega;rcases auJ.1 hq with rfl|hq;exact h2 h4;exact h3 (.inr ⟨q,hq,h4⟩)
mutual
theorem Tm.pL:∀(t:Tm)(a d:Nat),(t.pre a d).length=t.nodes
 | .mk _ _ _ l,a,d=>by rw[Tm.pre,aur,Tm.nodes,Tm.ri l];omega
theorem Tm.ri:∀(l:List Tm)(a d:Nat),(Tm.gG a d l).length=Tm.dU l
 | [],a,d=>by simp[Tm.gG,Tm.dU]|t::l,a,d=>by rw[Tm.gG,auo,Tm.dU,Tm.pL t,Tm.ri l]
end
theorem Tm.BM{m:Nat}:∀(l:List Tm)(n:Nat),Tm.Eb n l>m↔n>m\/∃t∈l,t.deep>m
 | [],n=>by simp[Tm.Eb]|t::l,n=>by rw[Tm.Eb,Tm.BM l];constructor;rintro(h|⟨u,hu,h⟩);split at h;exact .inr ⟨t,auw,h⟩;exact .inl h;exact .inr ⟨u,auz _ hu,h⟩;rintro(h|⟨u,hu,h⟩);left;split<;>omega;rcases auJ.1 hu with rfl|hu;left;split<;>omega;exact .inr ⟨u,hu,h⟩
mutual
theorem Tm.J3{m:Nat}:∀(t:Tm)(a d:Nat),d<=m+1->((∃p∈t.pre a d,p.1.2>m)↔t.deep+d>m+1)
 | .mk bs k i l,a,d,hd=>by rw[Tm.pre,Tm.deep];have hl:=Tm.Ed (m:=m) l (a+bs.length) (d+1);constructor;rintro⟨p,hp,h⟩;rcases auJ.1 hp with rfl|hp;simp only at h;omega;by_cases hdm:d<=m;have:=(hl (by omega)).1 ⟨p,hp,h⟩;obtain⟨t,ht,h2⟩:=this;have:=(Tm.BM (m:=m-d) l 0).2 (.inr ⟨t,ht,by omega⟩);omega;omega;intro h;by_cases hdm:d<=m;(have h1:Tm.Eb 0 l>m-d:=by omega);rcases (Tm.BM l 0).1 h1 with h2|⟨t,ht,h2⟩;omega;obtain⟨p,hp,h3⟩:=(hl (by omega)).2 ⟨t,ht,by omega⟩;exact⟨p,auz _ hp,h3⟩;exact⟨_,auw,by simp only;omega⟩
theorem Tm.Ed{m:Nat}:∀(l:List Tm)(a d:Nat),d<=m+1->((∃p∈Tm.gG a d l,p.1.2>m)↔∃t∈l,t.deep+d>m+1)
 | [],a,d,hd=>by simp[Tm.gG]|t::l,a,d,hd=>by have i1:=Tm.J3 t a d hd;have i2:=Tm.Ed l a d hd;rw[Tm.gG];constructor;rintro⟨p,hp,h⟩;rcases auQ.1 hp with hp|hp;exact⟨t,auw,i1.1 ⟨p,hp,h⟩⟩;obtain⟨u,hu,h2⟩:=i2.1 ⟨p,hp,h⟩;exact⟨u,auz _ hu,h2⟩;rintro⟨u,hu,h⟩;rcases auJ.1 hu with hu|hu;rw[hu]at h;obtain⟨p,hp,h2⟩:=i1.2 h;exact⟨p,avs _ hp,h2⟩;obtain⟨p,hp,h2⟩:=i2.2 ⟨u,hu,h⟩;exact⟨p,av5 _ hp,h2⟩
end
theorem J4(t:Tm):im 0 (t.pre 0 1)=t.bH:=by have h:=Ec (t.pre 0 1) [] 0;rw[auD,auO,im,Tm.pL]at h;rw[h,Tm.bH];have hd:=Tm.J3 (m:=60) t 0 1 (by omega);have hp:=t.Ea;by_cases h1:t.nodes<=5000;by_cases h2:t.deep<=60;rw[if_neg,decide_eq_true h1,decide_eq_true h2];rfl;rintro(h3|h3);omega;have:=hd.1 h3;omega;rw[if_pos (.inr (hd.2 (by omega))),decide_eq_false h2,Bool.and_false];rw[if_pos (.inl ⟨by omega,by omega⟩),decide_eq_false h1,ave]
mutual
def Tm.lift(b:Nat):Nat->Tm->Tm
 |d,.mk bs k i l=>.mk bs k (if k=0/\((d+bs.length:Nat):Int)<=i then ag .i64 (i+b)else i) (Tm.xY b (d+bs.length) l)
def Tm.xY(b:Nat):Nat->List Tm->List Tm
 |_,[]=>[]|d,t::l=>Tm.lift b d t::Tm.xY b d l
end
theorem Tm.J5(b d:Nat)(l:List Tm):Tm.xY b d l=l.map (Tm.lift b d):=by induction l with|nil=>rfl|cons t l ih=>rw[Tm.xY,ih];rfl
theorem Tm.zn(b d:Nat)(t:Tm):t.lift b d=.mk t.binds t.kind (if t.kind=0/\((d+t.binds.length:Nat):Int)<=t.index then ag .i64 (t.index+b)else t.index) (t.args.map (Tm.lift b (d+t.binds.length))):=by cases t;rw[Tm.lift,Tm.J5];rfl
theorem Tm.Nf(b d:Nat)(t:Tm):(t.lift b d).binds=t.binds:=by rw[Tm.zn];rfl
theorem Tm.RN(b d:Nat)(t:Tm):(t.lift b d).kind=t.kind:=by rw[Tm.zn];rfl
theorem Tm.RP(b d:Nat)(t:Tm):(t.lift b d).args=t.args.map (Tm.lift b (d+t.binds.length)):=by rw[Tm.zn];rfl
mutual
def Tm.Lo(B:Nat):Tm->Prop
 | .mk bs k i l=>(Ty.sizes bs<=B/\l.length<=B)/\(jt k/\jt i)/\Tm.wK B l
def Tm.wK(B:Nat):List Tm->Prop
 | []=>True|t::l=>Tm.Lo B t/\Tm.wK B l
end
theorem Tm.iq{B:Nat}{t:Tm}:t.Lo B↔(Ty.sizes t.binds<=B/\t.args.length<=B)/\(jt t.kind/\jt t.index)/\Tm.wK B t.args:=by cases t;exact av9
theorem Tm.jm{B:Nat}{l:List Tm}:Tm.wK B l↔∀t∈l,t.Lo B:=by induction l with|nil=>exact⟨λ_ t h=>(by cases h),λ_=>ai⟩|cons u l ih=>rw[Tm.wK,ih];exact⟨fun⟨h1,h2⟩ t ht=>(auJ.1 ht).elim (λh=>h▸h1) (h2 t),λh=>⟨h u auw,λt ht=>h t (auz _ ht)⟩⟩
mutual
theorem Tm.Gt{B B':Nat}(h:B<=B'):∀{t:Tm},t.Lo B->t.Lo B'
 | .mk bs k i l,h1=>by obtain⟨⟨h1,h2⟩,h3,h4⟩:=h1;exact⟨⟨by omega,by omega⟩,h3,Tm.J6 h h4⟩
theorem Tm.J6{B B':Nat}(h:B<=B'):∀{l:List Tm},Tm.wK B l->Tm.wK B' l
 | [],_=>ai|t::l,h1=>⟨Tm.Gt h h1.1,Tm.J6 h h1.2⟩
end
mutual
theorem Tm.Gu{B b:Nat}:∀(d:Nat){t:Tm},t.Lo B->(t.lift b d).Lo B
 |d,.mk bs k i l,h1=>by obtain⟨⟨h1,h2⟩,⟨h3,h4⟩,h5⟩:=h1;rw[Tm.lift];refine⟨⟨h1,by rw[Tm.J5,aui];exact h2⟩,⟨h3,?_⟩,Tm.J7 _ h5⟩;split;exact J2 _;exact h4
theorem Tm.J7{B b:Nat}:∀(d:Nat){l:List Tm},Tm.wK B l->Tm.wK B (Tm.xY b d l)
 |_,[],_=>ai|d,t::l,h1=>⟨Tm.Gu d h1.1,Tm.J7 d h1.2⟩
end
mutual
theorem Tm.J8{B:Nat}:∀{t:Tm},t.Lo B->t.Ok
 | .mk bs k i l,h=>⟨h.2.1.1,h.2.1.2,Tm.PS h.2.2⟩
theorem Tm.PS{B:Nat}:∀{l:List Tm},Tm.wK B l->Tm.PA l
 | [],_=>ai|t::l,h=>⟨Tm.J8 h.1,Tm.PS h.2⟩
end
mutual
theorem Tm.zo{B:Nat}:∀{t:Tm},t.Lo B->t.size<=t.nodes*(1+B)
 | .mk bs k i l,h=>by have:=Tm.J9 h.2.2;have h1:Ty.sizes bs<=B:=h.1.1;rw[Tm.size,Tm.nodes,avn];omega
theorem Tm.J9{B:Nat}:∀{l:List Tm},Tm.wK B l->Tm.sizes l<=Tm.dU l*(1+B)
 | [],_=>by simp[Tm.sizes]|t::l,h=>by have h1:=Tm.zo h.1;have h2:=Tm.J9 h.2;rw[Tm.sizes,Tm.dU,avn];omega
end
structure Mt where
 left:Nat
 count:Nat
 err:Int
def Mt.one(m:Mt):Mt×Bool:=if m.err≠0 then(m,false)else if m.count=100000 then(⟨m.left,m.count,2⟩,false)else if m.left=0 then(⟨m.left,m.count,11⟩,false)else(⟨m.left-1,m.count+1,m.err⟩,true)
def Mt.ei:Nat->Mt->Mt×Bool
 |0,m=>(m,decide (m.err=0))|n+1,m=>if m.one.2=true then Mt.ei n m.one.1 else(m.one.1,false)
def dj:Tm:=.mk [] 0 0 []
def cM(g:Mt->Tm->Mt×Tm):Mt->List Tm->Mt×List Tm
 |m,[]=>(m,[])|m,t::l=>((cM g (g m t).1 l).1,(g m t).2::(cM g (g m t).1 l).2)
def dm(b:Mt->Int->Int->List Tm->List Tm->Nat->Nat->Mt×Tm)(us:List Tm)(n d:Nat)(m:Mt)(t:Tm):Mt×Tm:=((b m t.kind t.index t.args us n (d+t.binds.length)).1,.mk t.binds (b m t.kind t.index t.args us n (d+t.binds.length)).2.kind (b m t.kind t.index t.args us n (d+t.binds.length)).2.index (b m t.kind t.index t.args us n (d+t.binds.length)).2.args)
def ct(us:List Tm)(i:Int)(n d:Nat):Tm:=(us.getD (n-1-(i-d).toNat) dj).lift (d+n-us.length) 0
def Ee(b:Mt->Int->Int->List Tm->List Tm->Nat->Nat->Mt×Tm)(r:Mt×List Tm)(k i:Int)(us:List Tm)(n d:Nat):Mt×Tm:=
 if r.1.err≠0 then(r.1,dj)else if ¬k=0\/i<d then(r.1,.mk [] k i r.2)else if(d:Int)+n<=i then(r.1,.mk [] k (i-us.length) r.2)
 else if(i-d).toNat+us.length<n then(r.1,.mk [] k i r.2)
 else if(ct us i n d).binds.length≠r.2.length then(⟨r.1.left,r.1.count,1⟩,dj)
 else b r.1 (ct us i n d).kind (ct us i n d).index (ct us i n d).args r.2 (ct us i n d).binds.length 0
def bM:Nat->Mt->Int->Int->List Tm->List Tm->Nat->Nat->Mt×Tm
 |0,m,_,_,_,_,_,_=>(⟨m.left,m.count,if m.err=0 then 99 else m.err⟩,dj)|f+1,m,k,i,args,us,n,d=>if m.one.2=false then(m.one.1,dj)else Ee (bM f) (cM (dm (bM f) us n d) m.one.1 args) k i us n d
def iE(f:Nat)(m:Mt)(t:Tm)(us:List Tm):Mt×Tm:=
 if m.err≠0 then(m,dj)else if t.binds.length<us.length then(⟨m.left,m.count,1⟩,dj)else
 ((bM f m t.kind t.index t.args us t.binds.length 0).1,.mk (t.binds.drop us.length) (bM f m t.kind t.index t.args us t.binds.length 0).2.kind (bM f m t.kind t.index t.args us t.binds.length 0).2.index (bM f m t.kind t.index t.args us t.binds.length 0).2.args)
def Ef(c m x:List Ty)(st:Mt)(k i:Int):Mt×Tm:=if(st.ei ((bt c m x k i).getD kO).size).2=false then((st.ei ((bt c m x k i).getD kO).size).1,dj)else((st.ei ((bt c m x k i).getD kO).size).1,sB k i ((bt c m x k i).getD kO))
def C0(t:Ty)(r:Mt×List Tm):Mt×Tm:=if r.1.err≠0 then(r.1,dj)else(r.1,.mk (t::(r.2.getD 0 dj).binds) (r.2.getD 0 dj).kind (r.2.getD 0 dj).index (r.2.getD 0 dj).args)
def wL(r:Mt×List Tm):Mt×Tm:=if r.1.err≠0 then(r.1,dj)else iE 100001 r.1 (r.2.getD 0 dj) [r.2.getD 1 dj]
mutual
def Rw.dP(c m:List Ty):Mt->List Ty->Rw->Mt×Tm
 |st,x,.mk k t i l=>if st.err≠0 then(st,dj)else if k=3 then C0 t (Rw.cR c m st (x++[t]) l)else if k=4 then wL (Rw.cR c m st x l)else Ef c m x st k i
def Rw.cR(c m:List Ty):Mt->List Ty->List Rw->Mt×List Tm
 |st,_,[]=>(st,[])|st,x,r::l=>((Rw.cR c m (Rw.dP c m st x r).1 x l).1,(Rw.dP c m st x r).2::(Rw.cR c m (Rw.dP c m st x r).1 x l).2)
end
def ir(r:Mt×Tm):Mt×Tm:=if r.1.err≠0 then(r.1,dj)else if im 0 (r.2.pre 0 1)=true then r else(⟨r.1.left,r.1.count,2⟩,dj)
theorem oM{m:Mt}(h:m.one.2=true):m.err=0/\m.count≠100000/\m.left≠0/\m.one.1=⟨m.left-1,m.count+1,0⟩:=by unfold Mt.one at h ⊢;split at h;cases h;(rename_i h0;have h0:m.err=0:=by simpa using h0);split at h;cases h;split at h;cases h;rename_i h1 h2;exact⟨h0,h1,h2,by rw[if_neg (by simp[h0]),if_neg h1,if_neg h2,h0]⟩
theorem lR{m:Mt}(h:m.one.2=false):m.one.1.err≠0/\m.one.1.left=m.left/\m.one.1.count=m.count/\(m.err≠0->m.one.1=m)/\(m.one.1.err=11->m.err=11\/m.left=0/\m.count≠100000):=by unfold Mt.one at h ⊢;split at h;rename_i h0;rw[if_pos h0];exact⟨h0,rfl,rfl,λ_=>rfl,λh=>.inl h⟩;rename_i h0;rw[if_neg h0];split at h;rename_i h1;rw[if_pos h1];exact⟨by simp,rfl,rfl,λh=>(h0 h).elim,λh=>by simp at h⟩;rename_i h1;rw[if_neg h1];split at h;rename_i h2;rw[if_pos h2];exact⟨by simp,rfl,rfl,λh=>(h0 h).elim,λh=>.inr ⟨h2,h1⟩⟩;cases h
structure Mt.To(m m':Mt):Prop where
 stop:m.err≠0->m'=m
 sum:m'.left+m'.count=m.left+m.count
 more:m.count<=m'.count
 sE:m.count<=100000->m'.count<=100000
 fuel:m'.err=11->m.err≠11->m'.left=0/\m'.count≠100000
theorem Mt.To.refl(m:Mt):m.To m:=⟨λ_=>rfl,rfl,aum _,λh=>h,λh1 h2=>(h2 h1).elim⟩
theorem Mt.To.trans{a b c:Mt}(h1:a.To b)(h2:b.To c):a.To c:=
 ⟨λh=>by have e:=h1.stop h;subst e;exact h2.stop h,by rw[h2.sum,h1.sum],auM h1.more h2.more,λh=>h2.sE (h1.sE h),λh g=>by
  by_cases hb:b.err=11
  ·have:=h2.stop (by rw[hb];decide);rw[this];exact h1.fuel hb g
  ·exact h2.fuel h hb⟩
theorem Mt.To.ok{a b:Mt}(h:a.To b)(hb:b.err=0):a.err=0:=Decidable.byContradiction λhc=>hc (by rw[<-h.stop hc];exact hb)
theorem Mt.To.fail{m:Mt}(h:m.err=0){e:Int}(he:e≠11):m.To ⟨m.left,m.count,e⟩:=⟨λh'=>(h' h).elim,rfl,aum _,λh=>h,λh=>(he h).elim⟩
theorem Mt.BN(m:Mt):m.To m.one.1:=by cases h:m.one.2 with|true=>obtain⟨h0,h1,h2,h3⟩:=oM h;rw[h3];exact⟨λh=>(h h0).elim,by simp only;omega,by simp only;omega,λh=>by simp only;omega,λh=>by simp at h⟩|false=>obtain⟨_,h1,h2,h3,h4⟩:=lR h;exact⟨h3,by omega,by omega,λh=>by omega,λh g=>by rw[h1,h2];exact(h4 h).resolve_left g⟩
theorem Mt.BO:∀(n:Nat)(m:Mt),m.To (m.ei n).1
 |0,m=>.refl m|n+1,m=>by rw[Mt.ei];split;exact(Mt.BN m).trans (Mt.BO n _);exact Mt.BN m
theorem Mt.vl:∀(n:Nat)(m:Mt),((m.ei n).2=true↔(m.ei n).1.err=0)/\((m.ei n).2=true->(m.ei n).1.count=m.count+n)
 |0,m=>by simp[Mt.ei]|n+1,m=>by rw[Mt.ei];split;rename_i h;obtain⟨h0,h1,h2,h3⟩:=oM h;have:=Mt.vl n m.one.1;refine⟨this.1,λh=>?_⟩;rw[this.2 h,h3];simp only;omega;(rename_i h;have h:m.one.2=false:=by simpa using h);have:=(lR h).1;exact⟨⟨λh=>(by cases h),λh=>(this h).elim⟩,λh=>(by cases h)⟩
def Gv(g:Mt->Tm->Mt×Tm):Prop:=∀(m:Mt)(t:Tm),m.To (g m t).1
theorem lS{g:Mt->Tm->Mt×Tm}(hg:Gv g):∀(l:List Tm)(m:Mt),m.To (cM g m l).1
 | [],m=>.refl m|t::l,m=>(hg m t).trans (lS hg l _)
theorem p6{g:Mt->Tm->Mt×Tm}:∀(l:List Tm)(m:Mt),(cM g m l).2.length=l.length
 | [],m=>rfl|t::l,m=>by rw[cM,aur,aur,p6 l]
theorem Ka{g:Mt->Tm->Mt×Tm}{l:List Tm}{k:Nat}(h:k<l.length)(m:Mt):cM g m (l.drop k)=((cM g (g m l[k]).1 (l.drop (k+1))).1,(g m l[k]).2::(cM g (g m l[k]).1 (l.drop (k+1))).2):=by rw[aut h,cM]
theorem rI:∀(f:Nat)(m:Mt)(k i:Int)(args us:List Tm)(n d:Nat),m.To (bM f m k i args us n d).1
 |0,m,k,i,args,us,n,d=>by rw[bM];by_cases h:m.err=0;rw[if_pos h];exact .fail h (by decide);rw[if_neg h];exact⟨λ_=>by cases m;rfl,rfl,aum _,λh=>h,λh1 h2=>(h2 h1).elim⟩|f+1,m,k,i,args,us,n,d=>by rw[bM];split;exact Mt.BN m;refine(Mt.BN m).trans ?_;have hg:=lS (g:=dm (bM f) us n d) (λm t=>rI f m _ _ _ _ _ _) args m.one.1;refine hg.trans ?_;generalize cM (dm (bM f) us n d) m.one.1 args=r;unfold Ee;split;exact .refl _;(rename_i h0;have h0:r.1.err=0:=by simpa using h0);split;exact .refl _;split;exact .refl _;split;exact .refl _;split;exact .fail h0 (by decide);exact rI f _ _ _ _ _ _ _
theorem p7(f:Nat)(us:List Tm)(n d:Nat):Gv (dm (bM f) us n d):=λm t=>rI f m _ _ _ _ _ _
structure Form(B:Nat)(m m':Mt)(t:Tm):Prop where
 nodes:t.nodes+m.count<=m'.count
 lo:t.Lo B
theorem nj{B:Nat}{g:Mt->Tm->Mt×Tm}(hg:Gv g):∀(l:List Tm)(m:Mt),(∀t∈l,∀m:Mt,m.To (g m t).1->(g m t).1.err=0->Form B m (g m t).1 (g m t).2)->(cM g m l).1.err=0-> Tm.dU (cM g m l).2+m.count<=(cM g m l).1.count/\Tm.wK B (cM g m l).2
 | [],m,_,_=>⟨by simp[cM,Tm.dU],ai⟩|t::l,m,h,he=>by rw[cM]at he ⊢;simp only at he ⊢;have h1:=h t auw m (hg m t) ((lS hg l _).ok he);have h2:=nj hg l (g m t).1 (λu hu=>h u (auz _ hu)) he;have:=h1.nodes;exact⟨by rw[Tm.dU];omega,h1.lo,h2.2⟩
theorem acB{B:Nat}{l:List Tm}(h:Tm.wK B l)(n:Nat):(l.getD n dj).Lo B:=by rw[avc];by_cases hn:n<l.length;rw[aun hn];exact Tm.jm.1 h _ (auv hn);rw[auP (by omega)];exact⟨⟨by simp[Ty.sizes],by simp⟩,⟨⟨by decide,by decide⟩,by decide,by decide⟩,ai⟩
theorem wM{B:Nat}{us:List Tm}(h:Tm.wK B us)(i:Int)(n d:Nat):(ct us i n d).Lo B:=Tm.Gu 0 (acB h _)
theorem mH{B:Nat}:∀(f:Nat)(m:Mt)(k i:Int)(args us:List Tm)(n d:Nat),jt k->jt i->args.length<=B->Tm.wK B args->Tm.wK B us->us.length<=n->(bM f m k i args us n d).1.err=0-> Form B m (bM f m k i args us n d).1 (bM f m k i args us n d).2/\(bM f m k i args us n d).2.binds=[]
 |0,m,k,i,args,us,n,d,_,_,_,_,_,_,he=>by rw[bM]at he;simp only at he;split at he;cases he;rename_i h;exact(h he).elim|f+1,m,k,i,args,us,n,d,hk,hi,hla,ha,hu,hn,he=>by
  rw[bM]at he ⊢;split at he;rename_i h1;exact((lR h1).1 he).elim
  ·rename_i h1;rw[if_neg h1];obtain⟨g0,g1,g2,g3⟩:=oM (by simpa using h1);have Ng:=lS (p7 f us n d) args m.one.1;have kW:=nj (B:=B) (p7 f us n d) args m.one.1 (λt ht m' akw SS=>by have lF:=Tm.iq.1 (Tm.jm.1 ha t ht);have:=mH (B:=B) f m' t.kind t.index t.args us n (d+t.binds.length) lF.2.1.1 lF.2.1.2 lF.1.2 lF.2.2 hu hn SS;have hq:=Tm.iq.1 this.1.lo;have XY:=this.1.nodes;rw[Tm.gJ]at XY;exact⟨by unfold dm;rw[Tm.gJ,Tm.jf];exact XY,Tm.iq.2 ⟨⟨lF.1.1,hq.1.2⟩,hq.2⟩⟩);have hlen:=p6 (g:=dm (bM f) us n d) args m.one.1;generalize cM (dm (bM f) us n d) m.one.1 args=r at he Ng kW hlen;unfold Ee at he ⊢;split at he;rename_i h2;exact(h2 he).elim;(rename_i h2;have h2:r.1.err=0:=by simpa using h2);(obtain⟨q1,q2⟩:=kW h2;have q1':1+Tm.dU r.2+m.count<=r.1.count:=by rw[g3]at q1;simp only at q1;omega);rw[if_neg (by simp[h2])];have mk:∀i':Int,jt i'->Form B m r.1 (.mk [] k i' r.2):=λi' tS=>⟨by rw[Tm.nodes];exact q1',⟨by simp[Ty.sizes],by rw[hlen];exact hla⟩,⟨hk,tS⟩,q2⟩;split at he;rename_i h3;rw[if_pos h3];exact⟨mk i hi,rfl⟩;rename_i h3;rw[if_neg h3];split at he;rename_i h4;rw[if_pos h4];refine⟨mk _ ?_,rfl⟩;unfold jt at hi ⊢;omega;rename_i h4;rw[if_neg h4];split at he;rename_i h5;rw[if_pos h5];exact⟨mk i hi,rfl⟩;rename_i h5;rw[if_neg h5];split at he;cases he;rename_i h6;rw[if_neg h6];have lF:=Tm.iq.1 (wM hu i n d);have:=mH (B:=B) f r.1 _ _ _ r.2 _ 0 lF.2.1.1 lF.2.1.2 lF.1.2 lF.2.2 q2 (by simp at h6;omega) he;exact⟨⟨by have:=this.1.nodes;omega,this.1.lo⟩,this.2⟩
theorem acC(f:Nat)(m:Mt)(t:Tm)(us:List Tm):m.To (iE f m t us).1:=by unfold iE;split;exact .refl m;(rename_i h0;have h0:m.err=0:=by simpa using h0);split;exact .fail h0 (by decide);exact rI f _ _ _ _ _ _ _
theorem Gw(l:List Ty)(n:Nat):Ty.sizes (l.drop n)<=Ty.sizes l:=by have:=Ty.cO (l.take n) (l.drop n);rw[avi]at this;omega
theorem RQ{B f:Nat}{m:Mt}{t:Tm}{us:List Tm}(ht:t.Lo B)(hu:Tm.wK B us)(he:(iE f m t us).1.err=0):Form B m (iE f m t us).1 (iE f m t us).2:=by unfold iE at he ⊢;split at he;rename_i h;exact(h he).elim;rename_i h;rw[if_neg h];split at he;cases he;rename_i h2;rw[if_neg h2];have lF:=Tm.iq.1 ht;have:=mH (B:=B) f m _ _ _ us _ 0 lF.2.1.1 lF.2.1.2 lF.1.2 lF.2.2 hu (by omega) he;have hq:=Tm.iq.1 this.1.lo;have XY:=this.1.nodes;rw[Tm.gJ]at XY;refine⟨by rw[Tm.gJ,Tm.jf];exact XY,Tm.iq.2 ⟨⟨?_,hq.1.2⟩,hq.2⟩⟩;exact auM (Gw _ _) lF.1.1
mutual
theorem BP:∀(t:Ty)(k i:Int),(sB k i t).nodes=t.size
 | .mk l b,k,i=>by rw[sB,Tm.nodes,Ty.size,xZ l l.length 0]
theorem xZ:∀(l:List Ty)(n j:Nat),Tm.dU (jD n j l)=Ty.sizes l
 | [],n,j=>by simp[jD,Tm.dU,Ty.sizes]|t::l,n,j=>by rw[jD,Tm.dU,Ty.sizes,BP t,xZ l]
end
mutual
theorem PT{B:Nat}:∀(t:Ty)(k i:Int),jt k->jt i->t.size<=B->B<=1000000000->(sB k i t).Lo B
 | .mk l b,k,i,hk,hi,h,hB=>by have:=Ty.ba l;rw[Ty.size]at h;rw[sB];refine⟨⟨by omega,by rw[rY];omega⟩,⟨hk,?_⟩,Kb l l.length 0 (by omega) (by omega) (by omega) hB⟩;split;exact J2 _;exact hi
theorem Kb{B:Nat}:∀(l:List Ty)(n j:Nat),n<=B->Ty.sizes l<=B->j+l.length<=3000000000->B<=1000000000->Tm.wK B (jD n j l)
 | [],n,j,_,_,_,_=>ai|t::l,n,j,hn,h,hj,hB=>by rw[Ty.sizes]at h;rw[aur]at hj;exact⟨PT t 0 _ ⟨by decide,by decide⟩ ⟨by omega,by omega⟩ (by omega) hB,Kb l n (j+1) hn (by omega) (by omega) hB⟩
end
theorem XZ(c m x:List Ty)(st:Mt)(k i:Int):st.To (Ef c m x st k i).1:=by unfold Ef;split;exact Mt.BO _ _;exact Mt.BO _ _
theorem PU(t:Ty)(r:Mt×List Tm):r.1.To (C0 t r).1:=by unfold C0;split<;>exact .refl _
theorem PV(r:Mt×List Tm):r.1.To (wL r).1:=by unfold wL;split;exact .refl _;exact acC _ _ _ _
mutual
theorem Rw.vm(c m:List Ty):∀(r:Rw)(st:Mt)(x:List Ty),st.To (Rw.dP c m st x r).1
 | .mk k t i l,st,x=>by rw[Rw.dP];split;exact .refl _;split;exact(Rw.oN c m l st _).trans (PU _ _);split;exact(Rw.oN c m l st _).trans (PV _);exact XZ _ _ _ _ _ _
theorem Rw.oN(c m:List Ty):∀(l:List Rw)(st:Mt)(x:List Ty),st.To (Rw.cR c m st x l).1
 | [],st,x=>.refl _|r::l,st,x=>by rw[Rw.cR];exact(Rw.vm c m r st x).trans (Rw.oN c m l _ x)
end
section
theorem aZ.Kd{P:Program}{f:FuncId}{args:List AV}{hp:List ax}{R:AV->List ax->Prop}(h:aZ P f args hp (λr hp'=>∃r2,aY r r2/\R r2 hp')):aZ P f args hp R:=⟨h.1,λw F η vals bz hv=>(h.2 w F η vals bz hv).mono λe w' ⟨v,r,hp',bh,he,⟨r2,hw,hR⟩,bD⟩=>⟨v,r2,hp',bh,he,hR,⟨bD.keeps,bD.ext,bD.heap,bD.cu,hw _ _ _ _ _ bD.rep⟩⟩⟩
theorem eh.akx{w:World}{F:Nat->Nat->Prop}{η:List Value}{hp:List ax}:∀{xs ys:List AV}{vs:List Value},eh xs ys->cC w F η hp xs vs->cC w F η hp ys vs
 | [],[],_,_,h=>h|x::xs,y::ys,[],_,h=>h.elim|x::xs,y::ys,v::vs,hw,h=>⟨hw.1 _ _ _ _ _ h.1,eh.akx hw.2 h.2⟩
theorem aZ.args{P:Program}{f:FuncId}{args na:List AV}{hp:List ax}{R:AV->List ax->Prop}(hw:eh args na)(h:aZ P f na hp R):aZ P f args hp R:=⟨h.1,λw F η vals bz hv=>h.2 w F η vals bz (hw.akx hv)⟩
theorem BQ:aY (.ay (.slice none 0 0)) (.sl []):=λ_ _ _ _ _ h=>by cases h;exact .mR none
theorem RR(l:List AV):aY (.clip l) (.sl l):=λ_ _ _ _ _ h=>h.mS
theorem tF:aY (.agg [.ay (.slice none 0 0),nI 0,nI 0,.ay (.slice none 0 0)]) (.agg [.sl [],nI 0,nI 0,.sl []]):=aY.agg ⟨BQ,aY.refl _,aY.refl _,BQ,ai⟩
theorem ZF{d:TD}{n:Nat}(h:d.bytes<=1000)(hn:n<=4000000000):0<=(n:Int)/\(n:Int)<=9223372036854775807/\(TD.bytes d:Int)*(n:Int)<=281474976710656:=by (refine⟨by omega,by omega,?_⟩;have h1:(TD.bytes d:Int)*(n:Int)=((d.bytes*n:Nat):Int):=by simp);have h2:d.bytes*n<=1000*4000000000:=avK h hn;rw[h1];omega
def C1(l u d s y c e:Int):List ax:=[.box (aX l u d 0 s y),.box [.ptr 0 0,nI c,nI e]]
structure x6(n:Nat)(l u d y:Int):Prop where
 left:l=n
 used:0<=u
 sum:l+u<=4000000000000000000
 dry:y=0↔d=0
 none:y≠0->n=0
structure yM(m:Mt)(l u d y c e:Int):Prop where
 bud:x6 m.left l u d y
 err:e=m.err
 sE:m.count<=100000
 count:m.err=0->c=m.count
 fuel:m.err=11->y≠0
def RS(m:Mt)(hp:List ax):Prop:=∃l u d s y c e,hp=C1 l u d s y c e/\yM m l u d y c e
variable {m:Mt} {l u d s y c e:Int}
theorem X0{left:Nat}(h:x6 left l u d y):aZ aj 229 [.ptr 0 0,nI 1] [.box (aX l u d 0 s y)] (λr hp'=>∃l' u' d' y',r=nB (decide (left≠0))/\hp'=[.box (aX l' u' d' 0 s y')]/\x6 (left-1) l' u' d' y'/\(left=0->y'≠0)):=by refine(RH (l:=l) (u:=u) (d:=d) (s:=s) (y:=y) 1 (by decide)).mono λr hp' ⟨e1,e2⟩=>?_;have hl:=h.left;by_cases h0:left=0;(subst h0;have YW:l=0:=by simpa using hl);subst YW;have hq:y≠0\/1>(0:Int):=.inr (by decide);refine⟨0,u,if d=0 then 1 else d,if d=0 then 1 else y,by rw[e1];simp,?_,⟨rfl,h.used,by have:=h.sum;omega,?_,λ_=>rfl⟩,λ_=>?_⟩;rw[e2,tC,if_pos hq,JZ (by omega) (by omega) (by omega),J0 (by omega) h.used (by have:=h.sum;omega)];simp;by_cases hd:d=0;simp[hd];simp only[hd,if_false];exact⟨λhy=>(hd (h.dry.1 hy)).elim,λeJ=>eJ.elim⟩;by_cases hd:d=0;simp[hd];simp only[hd,if_false];exact λhy=>hd (h.dry.1 hy);(have hy:y=0:=Decidable.byContradiction λhc=>h0 (h.none hc);have hd:d=0:=h.dry.1 hy;subst hy;subst hd;have hq:¬((0:Int)≠0\/1>l):=by omega);refine⟨l-1,u+1,0,0,?_,?_,⟨by omega,by have:=h.used;omega,by have:=h.sum;omega,av9,λh=>(h rfl).elim⟩,λh=>(h0 h).elim⟩;rw[e1,decide_eq_true hq,decide_eq_true h0];rw[e2,RL (by omega) h.used (by have:=h.sum;omega)]
theorem iF(e1:Int):aZ aj 217 [.ptr 1 0,nI e1] (C1 l u d s y c e) (λr hp'=>r=.aG []/\hp'=C1 l u d s y c (if e=0 then e1 else e)):=Wp (aA.intro (λh=>⟨rfl,by rw[if_pos (by simpa using h)];rfl⟩) λh=>⟨rfl,by rw[if_neg (by simpa using h)];rfl⟩)
theorem tG{m:Mt}(h:m.err≠0):∀n,m.ei n=(m,false)
 |0=>by rw[Mt.ei,decide_eq_false h]|n+1=>by (have h1:m.one=(m,false):=by unfold Mt.one;rw[if_pos h]);rw[Mt.ei,h1];rfl
theorem Nh(m:Mt)(n:Nat):m.ei (n+1)=m.one.1.ei n:=by rw[Mt.ei];cases h:m.one.2 with|true=>rfl|false=>rw[tG (lR h).1];rfl
theorem yM.failed(h:yM m l u d y c e)(c':Int){e':Int}(he:e'≠0)(hf:e'=11->y≠0):yM ⟨m.left,m.count,e'⟩ l u d y c' e':=⟨h.bud,rfl,h.sE,λh=>(he h).elim,hf⟩
theorem tH(n:Nat)(hn:n<=1000000000)(h:yM m l u d y c e):aZ aj 220 [.ptr 1 0,nI n] (C1 l u d s y c e) (λr hp'=>r=nB (m.ei n).2/\RS (m.ei n).1 hp'):=by refine Wr ?_;unfold adK I0;refine aI.intro (β:=Nat×Mt×Int×Int×Int×Int×Int×Int×Int) (λb=>(((),(b.1:Int),()),((b.2.2.1,b.2.2.2.1,b.2.2.2.2.1,(0:Int),b.2.2.2.2.2.1,b.2.2.2.2.2.2.1,()),((),b.2.2.2.2.2.2.2.1,b.2.2.2.2.2.2.2.2,()),()))) (λb=>m.ei n=b.2.1.ei b.1/\b.1<=n/\yM b.2.1 b.2.2.1 b.2.2.2.1 b.2.2.2.2.1 b.2.2.2.2.2.2.1 b.2.2.2.2.2.2.2.1 b.2.2.2.2.2.2.2.2) (λb=>b.1) (n,m,l,u,d,s,y,c,e) rfl ⟨rfl,aum _,h⟩ ?_;rintro⟨k,m',l,u,d,s,y,c,e⟩ ⟨hk,hkn,h⟩ again bP;dsimp only at hk hkn h ⊢;have he:=h.err;refine aA.intro (λhp=>?_) λhp=>?_;(have hp:(k:Int)>0:=of_decide_eq_true hp;obtain⟨j,rfl⟩:∃j,k=j+1:=⟨k-1,by omega⟩;have hw:ag .i64 (((j+1:Nat):Int)-1)=((j:Nat):Int):=by rw[bb (by omega) (by omega)];omega);refine aA.intro (λh1=>?_) λh1=>?_;(have De:e=0:=by simpa using h1);(have su:m'.err=0:=by rw[<-he];exact De);have hc:=h.count su;subst De;rw[Nh]at hk;refine aA.intro (λh2=>?_) λh2=>?_;(have xf:m'.count=100000:=by have:c=100000:=(by simpa using h2);omega);(refine⟨_,iF 2,λr q ⟨e1,e2⟩=>⟨l,u,d,0,s,y,c,2,⟨e1,e2⟩,?_⟩⟩;rw[hw];have h1:m'.one.1=⟨m'.left,m'.count,2⟩:=by unfold Mt.one;rw[if_neg (by simp[su]),if_pos xf]);rw[h1]at hk;exact bP (j,⟨m'.left,m'.count,2⟩,l,u,d,s,y,_,2) ⟨hk,by omega,h.failed _ (by decide) (λh=>by simp at h)⟩ (avF j);(have xf:¬m'.count=100000:=by have:¬c=100000:=(by simpa using h2);omega);refine⟨_,X0 h.bud,λr q ⟨l',u',d',y',e1,e2,hb,hz⟩=>⟨l',u',d',0,s,y',_,⟨e1,e2⟩,?_⟩⟩;refine aA.intro (λh3=>?_) λh3=>?_;(have h0:m'.left=0:=by simpa using h3);(refine⟨_,iF 11,λr q ⟨e1,e2⟩=>⟨l',u',d',0,s,y',c,11,⟨e1,e2⟩,?_⟩⟩;rw[hw];have h1:m'.one.1=⟨m'.left,m'.count,11⟩:=by unfold Mt.one;rw[if_neg (by simp[su]),if_neg xf,if_pos h0]);rw[h1]at hk;rw[h0]at hb;exact bP (j,⟨m'.left,m'.count,11⟩,l',u',d',s,y',_,11) ⟨hk,by omega,by rw[h0];exact hb,rfl,h.sE,λh=>by simp at h,λ_=>hz h0⟩ (avF j);(have h0:¬m'.left=0:=by simpa using h3);(rw[hw];have h1:m'.one.1=⟨m'.left-1,m'.count+1,0⟩:=by unfold Mt.one;rw[if_neg (by simp[su]),if_neg xf,if_neg h0,su]);(have KW:=h.sE;have hcn:m'.count<=4000000000:=by omega);rw[h1]at hk;rw[hc,bf hcn];exact bP (j,⟨m'.left-1,m'.count+1,0⟩,l',u',d',s,y',_,0) ⟨hk,by omega,hb,rfl,by simp only;omega,λ_=>rfl,λh=>by simp at h⟩ (avF j);(have De:¬e=0:=by simpa using h1);(have su:m'.err≠0:=by rw[<-he];exact De);rw[tG su]at hk;rw[hk];exact⟨by rw[show (e==0)=false from by simp[De]],l,u,d,s,y,c,e,rfl,h⟩;(have hp:¬(k:Int)>0:=of_decide_eq_false hp;obtain rfl:k=0:=by omega);rw[Mt.ei]at hk;rw[hk];refine⟨?_,l,u,d,s,y,c,e,rfl,h⟩;rw[he];by_cases h0:m'.err=0;simp[h0];simp[h0]
end
theorem Gx{B b:Nat}(hB:B<=1000000):∀(n:Nat)(t:Tm)(d:Nat),t.nodes<=n->t.Lo B->d+B*n<=4000000000000000000-> az aj 235 [.agg [.sl (t.binds.map Ty.enc),nI t.kind,nI t.index,.sl (t.args.map Tm.enc)],nI b,nI d] (.agg [.sl ((t.lift b d).binds.map Ty.enc),nI (t.lift b d).kind,nI (t.lift b d).index,.sl ((t.lift b d).args.map Tm.enc)]):=by intro n;induction n with|zero=>intro t d h;have:=t.Ea;omega|succ n ih=>(intro t d h lF hd;have hl:=Tm.iq.1 lF;have hb:=Ty.ba t.binds;have hmul:B*(n+1)=B*n+B:=by rw[Nat.mul_succ]);(have hw:ag .i64 ((d:Int)+((ab (t.binds.map Ty.enc):Nat):Int))=((d+t.binds.length:Nat):Int):=by rw[aui,bb (by omega) (by omega)];omega);(have ha:(t.lift b d).args=t.args.map (Tm.lift b (d+t.binds.length)):=Tm.RP b d t;have loop:∀ix:Int,ix=(t.lift b d).index->uQ ((b,((d+t.binds.length:Nat):Int),(),(),(),t.args.map Tm.enc,((ab (t.args.map Tm.enc):Nat):Int),0,()),((t.binds.map Ty.enc,t.kind,ix,t.args.map Tm.enc,()),((),0,0,(),()),[],())) (λx=>x=.agg [.sl ((t.lift b d).binds.map Ty.enc),nI (t.lift b d).kind,nI (t.lift b d).index,.sl ((t.lift b d).args.map Tm.enc)]):=by intro ix Rm;refine aI.intro (λk:Nat=>(((b:Int),((d+t.binds.length:Nat):Int),(),(),(),t.args.map Tm.enc,(t.args.length:Int),(k:Int),()),((t.binds.map Ty.enc,t.kind,ix,t.args.map Tm.enc,()),((),(0:Int),(0:Int),(),()),((t.lift b d).args.take k).map Tm.enc,()))) (λk=>k<=t.args.length) (λk=>t.args.length-k) 0 (by rw[aui];rfl) (aus _) ?_;intro k hk again bP;dsimp only;refine aA.intro (λh=>?_) λh=>?_;(have aE:k<t.args.length:=by simpa using h);(have hz:t.args[k].nodes<=n:=by have:=Tm.tE (auv aE);have:=t.gJ;omega);(have hi:=ih t.args[k] (d+t.binds.length) hz (Tm.jm.1 hl.2.2 _ (auv aE)) (by omega);have acx:k<(t.lift b d).args.length:=by rw[ha,aui];exact aE);(have hg:(t.lift b d).args[k]=Tm.lift b (d+t.binds.length) t.args[k]:=by simp[ha]);rw[<-hg]at hi;refine⟨by omega,by rw[aui];omega,_,_,_,_,Tm.bx aE,_,_,_,_,hi,rfl,jK (λx hx=>by simp at hx;subst hx;rfl) (by simp;omega) (by decide),rfl,?_⟩;rw[bf (by omega),Tm.oE,bO acx];exact bP (k+1) (by omega) (by omega);(have:t.args.length<=k:=by simpa using h);refine⟨rfl,?_⟩;rw[auA (by rw[ha,aui];exact this),Rm,Tm.Nf,Tm.RN]);have hm:∀{dd:TD},dd.bytes<=1000->(0<=((ab (t.args.map Tm.enc):Nat):Int)/\((ab (t.args.map Tm.enc):Nat):Int)<=9223372036854775807/\(TD.bytes dd:Int)*((ab (t.args.map Tm.enc):Nat):Int)<=281474976710656):= λhd=>ZF hd (by rw[aui];omega);(refine Wt ?_;unfold adL;rw[hw];have jw:(t.lift b d).index=if t.kind=0/\((d+t.binds.length:Nat):Int)<=t.index then ag .i64 (t.index+b)else t.index:=by rw[Tm.zn];rfl);refine aA.intro (λh=>?_) λh=>?_;(have h0:t.kind=0:=by simpa using h);refine aA.intro (λh1=>?_) λh1=>?_;have h1:((d+t.binds.length:Nat):Int)<=t.index:=of_decide_eq_true h1;exact⟨hm (by decide),rfl,loop _ (by rw[jw,if_pos ⟨h0,h1⟩])⟩;have h1:¬((d+t.binds.length:Nat):Int)<=t.index:=of_decide_eq_false h1;exact⟨hm (by decide),rfl,loop _ (by rw[jw,if_neg (λh=>h1 h.2)])⟩;(have h0:¬t.kind=0:=by simpa using h);exact⟨hm (by decide),rfl,loop _ (by rw[jw,if_neg (λh=>h0 h.1)])⟩
mutual
theorem Tm.Eg:∀(t:Tm)(d:Nat),t.Ok->t.lift 0 d=t
 | .mk bs k i l,d,h=>by obtain⟨h1,h2,h3⟩:=h;rw[Tm.lift,Tm.BR l _ h3];congr 1;split;rw[show i+((0:Nat):Int)=i from by omega,h2.wrap];rfl
theorem Tm.BR:∀(l:List Tm)(d:Nat),Tm.PA l->Tm.xY 0 d l=l
 | [],_,_=>rfl|t::l,d,h=>by rw[Tm.xY,Tm.Eg t d h.1,Tm.BR l d h.2]
end
theorem vn{B b:Nat}{t:Tm}(hB:B<=1000000)(hn:t.nodes<=1000000000)(lF:t.Lo B): az aj 230 [.agg [.sl (t.binds.map Ty.enc),nI t.kind,nI t.index,.sl (t.args.map Tm.enc)],nI b] (.agg [.sl ((t.lift b 0).binds.map Ty.enc),nI (t.lift b 0).kind,nI (t.lift b 0).index,.sl ((t.lift b 0).args.map Tm.enc)]):=by (have:=avK hB hn;refine Ws (aA.intro (λh=>?_) λh=>⟨_,_,_,_,Gx (b:=b) hB _ t 0 (aum _) lF (by omega),rfl⟩);have h0:b=0:=by simpa using h);subst h0;rw[Tm.Eg t 0 (Tm.J8 lF)]
theorem RT(m:Mt):m.ei 1=m.one:=by rw[Mt.ei];cases h:m.one.2 with|true=>rw[if_pos rfl,Mt.ei];obtain⟨_,_,_,h3⟩:=oM h;rw[show m.one=(m.one.1,m.one.2)from rfl,h,h3];rfl|false=>rw[if_neg (by simp),<-h]
def vo(N:Nat)(m:Mt)(t:Tm)(r:AV)(hp':List ax):Prop:=RS m hp'/\∃t':Tm,r=.agg [.sl (t'.binds.map Ty.enc),nI t'.kind,nI t'.index,.sl (t'.args.map Tm.enc)]/\(m.err=0->t'=t)/\t'.binds.length<=N
def X1(B f:Nat):Prop:=∀(m:Mt)(us:List Tm)(bs:List Ty)(k i:Int)(args:List Tm)(n d:Nat)(l u x s y c e:Int),yM m l u x y c e->(m.err=0->100000<f+m.count)->
 Ty.sizes bs<=B->jt k->jt i->args.length<=B->Tm.wK B args->Tm.wK B us->(∀t∈us,t.nodes<=1000000000)->us.length<=n->n<=B->d+B*(f+1)<=4000000000000000000->
 aZ aj 228 [.agg [.ptr 1 0,.sl (us.map Tm.enc),nI n],.agg [.sl (bs.map Ty.enc),nI k,nI i,.sl (args.map Tm.enc)],nI d] (C1 l u x s y c e)
  (vo bs.length (bM f m k i args us n (d+bs.length)).1 (.mk bs (bM f m k i args us n (d+bs.length)).2.kind (bM f m k i args us n (d+bs.length)).2.index (bM f m k i args us n (d+bs.length)).2.args))
def aky(B f:Nat):Prop:=∀(m:Mt)(t:Tm)(us:List Tm)(l u x s y c e:Int),yM m l u x y c e->(m.err=0->100000<f+m.count)->t.Lo B->(m.err=0->Tm.wK B us/\∀t∈us,t.nodes<=1000000000)->
 B*(f+1)<=4000000000000000000->
 aZ aj 219 [.ptr 1 0,.agg [.sl (t.binds.map Ty.enc),nI t.kind,nI t.index,.sl (t.args.map Tm.enc)],.sl (us.map Tm.enc)] (C1 l u x s y c e) (vo t.binds.length (iE f m t us).1 (iE f m t us).2)
theorem jn{N:Nat}{m:Mt}{t:Tm}{hp':List ax}(h:RS m hp')(he:m.err≠0):∃r2,aY (.agg [.ay (.slice none 0 0),nI 0,nI 0,.ay (.slice none 0 0)]) r2/\vo N m t r2 hp':=⟨_,tF,h,dj,rfl,λh0=>(he h0).elim,aus _⟩
theorem PW{B f:Nat}(hB:B<=1000000)(ht:X1 B f):aky B f:=by intro m t us l u x s y c e hm hf lF Cs hk;have he:=hm.err;have hl:=Tm.iq.1 lF;have U2:=Ty.ba t.binds;refine aZ.Kd (Wu (aA.intro (λh=>?_) λh=>?_));(have h0:¬e=0:=by simpa using h);(have su:m.err≠0:=by rw[<-he];exact h0);(refine⟨_,iF 1,λr q ⟨e1,e2⟩=>⟨l,u,x,0,s,y,c,_,⟨e1,e2⟩,?_⟩⟩;have:iE f m t us=(m,dj):=by unfold iE;rw[if_pos su]);rw[this];rw[if_neg h0];exact jn ⟨l,u,x,s,y,c,e,rfl,hm⟩ su;(have h0:e=0:=by simpa using h);(have su:m.err=0:=by rw[<-he];exact h0);obtain⟨hu,hn⟩:=Cs su;refine aA.intro (λh=>?_) λh=>?_;(have h1:t.binds.length<us.length:=by have:=of_decide_eq_true h;rw[aui,aui]at this;omega);(refine⟨_,iF 1,λr q ⟨e1,e2⟩=>⟨l,u,x,0,s,y,c,_,⟨e1,e2⟩,?_⟩⟩;have:iE f m t us=(⟨m.left,m.count,1⟩,dj):=by unfold iE;rw[if_neg (by simp[su]),if_pos h1]);rw[this,if_pos h0];exact jn ⟨l,u,x,s,y,c,1,rfl,hm.failed c (by decide) (λh=>by simp at h)⟩ (by simp);(have h1:¬t.binds.length<us.length:=by have:=of_decide_eq_false h;rw[aui,aui]at this;omega);(have hp:iE f m t us=((bM f m t.kind t.index t.args us t.binds.length 0).1,.mk (t.binds.drop us.length) (bM f m t.kind t.index t.args us t.binds.length 0).2.kind (bM f m t.kind t.index t.args us t.binds.length 0).2.index (bM f m t.kind t.index t.args us t.binds.length 0).2.args):=by unfold iE;rw[if_neg (by simp[su]),if_neg h1]);have afK:=ht m us [] t.kind t.index t.args t.binds.length 0 l u x s y c e hm hf (by simp[Ty.sizes]) hl.2.1.1 hl.2.1.2 hl.1.2 hl.2.2 hu hn (by omega) (by omega) (by omega);rw[auV,avo]at afK;rw[hp];generalize bM f m t.kind t.index t.args us t.binds.length 0=q at afK;rw[aui,aui];refine⟨_,aZ.args (by exact⟨aY.refl _,aY.agg ⟨BQ,aY.refl _,aY.refl _,aY.refl _,ai⟩,aY.refl _,ai⟩) afK,λr hq ⟨⟨l',u',x',s',y',c',e',e2,sn⟩,t',e1,Su,_⟩=>⟨l',u',x',0,s',y',c',e',_,_,_,_,⟨e1,e2⟩,?_⟩⟩;refine⟨⟨by omega,by omega,by omega,λz hz=>Ty.lN z hz⟩,?_⟩;rw[avk,avk,auA (by rw[aui];omega),<-List.map_drop];refine⟨_,aY.refl _,⟨l',u',x',s',y',c',e',rfl,sn⟩,.mk (t.binds.drop us.length) t'.kind t'.index t'.args,rfl,λh=>?_,by rw[Tm.uX,auR];omega⟩;rw[Su h];rfl
theorem RU{B:Nat}(hB:B<=1000000):X1 B 0:=by (intro m us bs k i args n d l u x s y c e hm hf hbs hk hi hla lF Cs CG hn hnB hd;have su:m.err≠0:=λh=>by have:=hf h;have:=hm.sE;omega);refine aZ.Kd (I4 ⟨_,tH 1 (by omega) hm,λr q ⟨e1,l',u',x',s',y',c',e',e2,sn⟩=>⟨l',u',x',0,s',y',c',e',_,⟨e1,e2⟩,?_⟩⟩);rw[tG su]at sn ⊢;refine aA.pos rfl ?_;rw[(rI 0 m k i args us n (d+bs.length)).stop su];exact jn ⟨l',u',x',s',y',c',e',rfl,sn⟩ su
theorem RV{B f:Nat}(hB:B<=1000000)(ih:X1 B f):X1 B (f+1):=by
 have X2:=PW hB ih;intro m us bs k i args n d l u x s y c e hm hf hbs hk hi hla lF Cs CG hn hnB hd;have U2:=Ty.ba bs;have hmul:B*(f+1+1)=B*(f+1)+B:=Nat.mul_succ _ _;have hBf:B<=B*(f+1):=Nat.le_mul_of_pos_right _ (Nat.succ_pos f);refine aZ.Kd (I4 ⟨_,tH 1 (by omega) hm,λr q ⟨e1,l',u',x',s',y',c',e',e2,sn⟩=>⟨l',u',x',0,s',y',c',e',_,⟨e1,e2⟩,?_⟩⟩);rw[RT]at sn ⊢;have hw:ag .i64 ((d:Int)+((ab (bs.map Ty.enc):Nat):Int))=((d+bs.length:Nat):Int):=by rw[aui,bb (by omega) (by omega)];omega
 rw[hw];generalize hD:d+bs.length=D;have hD2:D+B*(f+1)<=4000000000000000000:=by omega
 refine aA.intro (λh=>?_) λh=>⟨rfl,?_⟩;have h:m.one.2=false:=by simpa using h
 have:bM (f+1) m k i args us n D=(m.one.1,dj):=by rw[bM,if_pos h]
 rw[this];exact jn ⟨l',u',x',s',y',c',e',rfl,sn⟩ (lR h).1;have h:m.one.2=true:=by simpa using h
 obtain⟨g0,g1,g2,g3⟩:=oM h;have kS:bM (f+1) m k i args us n D=Ee (bM f) (cM (dm (bM f) us n D) m.one.1 args) k i us n D:=by rw[bM,if_neg (by simp[h])]
 rw[kS];have as0:m.one.1.count=m.count+1:=by rw[g3]
 have adR:∀m':Mt,m.one.1.To m'->m'.err=0->100000<f+m'.count:=λm' h h0=>by have:=h.more;have:=hf g0;omega
 have oA:=p7 f us n D;have kW:∀(l:List Tm)(m':Mt),(∀t∈l,t∈args)->(cM (dm (bM f) us n D) m' l).1.err=0->Tm.dU (cM (dm (bM f) us n D) m' l).2+m'.count<=(cM (dm (bM f) us n D) m' l).1.count/\Tm.wK B (cM (dm (bM f) us n D) m' l).2:=by intro l m' Ts De;refine nj oA l m' (λt ht m'' akw SS=>?_) De;have mO:=Tm.iq.1 (Tm.jm.1 lF t (Ts t ht));have:=mH (B:=B) f m'' t.kind t.index t.args us n (D+t.binds.length) mO.2.1.1 mO.2.1.2 mO.1.2 mO.2.2 Cs hn SS;have hq:=Tm.iq.1 this.1.lo;have XY:=this.1.nodes;rw[Tm.gJ]at XY;exact⟨by unfold dm;rw[Tm.gJ,Tm.jf];exact XY,Tm.iq.2 ⟨⟨mO.1.1,hq.1.2⟩,hq.2⟩⟩
 have hlen:=p6 (g:=dm (bM f) us n D) args m.one.1;have afL:=kW args m.one.1 λt h=>h;unfold I3;refine aI.intro (β:=Nat×Mt×Int×Int×Int×Int×Int×Int×Int×List Tm) (λb=>(((D:Int),(),(),(),(),args.map Tm.enc,(args.length:Int),(b.1:Int),()),((b.2.2.1,b.2.2.2.1,b.2.2.2.2.1,(0:Int),b.2.2.2.2.2.1,b.2.2.2.2.2.2.1,()),((),b.2.2.2.2.2.2.2.1,b.2.2.2.2.2.2.2.2.1,()),((),us.map Tm.enc,(n:Int),()),(bs.map Ty.enc,k,i,args.map Tm.enc,()),((),(0:Int),(0:Int),(),()),(bs.map Ty.enc,k,i,(),()),b.2.2.2.2.2.2.2.2.2.map Tm.enc,())))
  (λb=>b.1<=args.length/\yM b.2.1 b.2.2.1 b.2.2.2.1 b.2.2.2.2.1 b.2.2.2.2.2.2.1 b.2.2.2.2.2.2.2.1 b.2.2.2.2.2.2.2.2.1/\m.one.1.To b.2.1/\b.2.2.2.2.2.2.2.2.2.length=b.1/\
   ∃pre:List Tm,cM (dm (bM f) us n D) m.one.1 args=((cM (dm (bM f) us n D) b.2.1 (args.drop b.1)).1,pre++(cM (dm (bM f) us n D) b.2.1 (args.drop b.1)).2)/\(b.2.1.err=0->b.2.2.2.2.2.2.2.2.2=pre))
  (λb=>args.length-b.1) (0,m.one.1,l',u',x',s',y',c',e',[]) (by rw[aui];rfl) ⟨aus _,sn,.refl _,rfl,[],by rw[avG,avr],λ_=>rfl⟩ ?_
 rintro⟨j,m',l,u,x,s,y,c,e,acc⟩ ⟨hj,sn,Ng,Hx,pre,hgo,bz⟩ again bP;dsimp only at hj sn Ng Hx hgo bz ⊢;have he:=sn.err;refine aA.intro (λh=>?_) λh=>?_;have aE:j<args.length:=by simpa using h
 have mO:=Tm.iq.1 (Tm.jm.1 lF args[j] (auv aE));have NN:A6 (((D:Int),(),(),(),(),args.map Tm.enc,(args.length:Int),(j:Int),()),((l,u,x,(0:Int),s,y,()),((),c,e,()),((),us.map Tm.enc,(n:Int),()),(bs.map Ty.enc,k,i,args.map Tm.enc,()),((),(0:Int),(0:Int),(),()),(bs.map Ty.enc,k,i,(),()),acc.map Tm.enc,())) (args[j].binds.map Ty.enc) args[j].kind args[j].index (args[j].args.map Tm.enc) again:=by refine⟨_,ih m' us args[j].binds args[j].kind args[j].index args[j].args n D l u x s y c e sn (adR m' Ng) mO.1.1 mO.2.1.1 mO.2.1.2 mO.1.2 mO.2.2 Cs CG hn hnB hD2,λr q ⟨⟨l',u',x',s',y',c',e',e2,X3⟩,t',e1,Su,_⟩=>⟨l',u',x',0,s',y',c',e',_,_,_,_,⟨e1,e2⟩,rfl,jK (λz hz=>by simp at hz;subst hz;rfl) (by simp[Hx];omega) (by decide),rfl,?_⟩⟩;have acD:=oA m' args[j];rw[bf (by omega),Tm.oE];refine bP (j+1,(dm (bM f) us n D m' args[j]).1,l',u',x',s',y',c',e',acc++[t']) ⟨aE,X3,Ng.trans acD,by simp[Hx],pre++[(dm (bM f) us n D m' args[j]).2],?_,λh0=>?_⟩ (by simp only;omega);rw[hgo,Ka aE,auH,av6];rw[bz (acD.ok h0),Su h0];rfl
 exact⟨by omega,by rw[aui];omega,_,_,_,_,Tm.bx aE,NN,NN⟩;have fh:args.length<=j:=by simpa using h
 have vK:j=args.length:=by omega
 subst vK;rw[List.drop_length,cM,auD]at hgo;rw[hgo]at hlen afL ⊢;simp only at hlen afL;have akz:m'.err=0->acc=pre:=bz;have fin:∀(i':Int)(T:Mt×Tm),T.1=m'->(m'.err=0->T.2=.mk [] k i' pre)->∃r2,aY (.agg [.sl (bs.map Ty.enc),nI k,nI i',.sl (acc.map Tm.enc)]) r2/\vo bs.length T.1 (.mk bs T.2.kind T.2.index T.2.args) r2 (C1 l u x s y c e):=by intro i' T h1 h2;refine⟨_,aY.refl _,⟨l,u,x,s,y,c,e,rfl,by rw[h1];exact sn⟩,.mk bs k i' acc,rfl,λh0=>?_,aum _⟩;rw[h1]at h0;rw[h2 h0,akz h0];rfl
 unfold Ee;by_cases h0:m'.err=0;rw[if_neg (by simp[h0])];have PX:=akz h0;obtain⟨q1,q2⟩:=afL h0;refine aA.intro (λh=>?_) λh=>?_;have h1:¬k=0:=by simpa using h
 rw[if_pos (.inl h1)];exact⟨rfl,fin i _ rfl λ_=>rfl⟩;have h1:k=0:=by simpa using h
 refine aA.intro (λh=>?_) λh=>?_;have h2:i<D:=of_decide_eq_true h;rw[if_pos (.inr h2)];exact⟨rfl,fin i _ rfl λ_=>rfl⟩;have h2:¬i<D:=of_decide_eq_false h;rw[if_neg (λh=>h.elim (λh=>h h1) h2)];have qv:=hi.2;have Lx:ag .i64 (i-(D:Int))=i-D:=bb (by omega) (by omega);have YK:ag .i64 ((n:Int)-((ab (us.map Tm.enc):Nat):Int))=(n:Int)-us.length:=by rw[aui];exact bb (by omega) (by omega)
 have hw3:ag .i64 ((n:Int)-1)=(n:Int)-1:=bb (by omega) (by omega);rw[Lx,YK];refine aA.intro (λh=>?_) λh=>?_;have h3:i-(D:Int)<(n:Int)-us.length:=of_decide_eq_true h;rw[if_neg (by omega),if_pos (by omega)];exact⟨rfl,fin i _ rfl λ_=>rfl⟩;have h3:¬i-(D:Int)<(n:Int)-us.length:=of_decide_eq_false h;refine aA.intro (λh=>?_) λh=>?_;have h4:i-(D:Int)>=n:=of_decide_eq_true h;rw[if_pos (by omega)];have hw4:ag .i64 (i-((ab (us.map Tm.enc):Nat):Int))=i-us.length:=by rw[aui];exact bb (by omega) (by omega)
 rw[hw4];exact⟨rfl,fin _ _ rfl λ_=>rfl⟩;have h4:¬i-(D:Int)>=n:=of_decide_eq_false h;rw[if_neg (by omega),if_neg (by omega)];rw[hw3];have hw5:ag .i64 ((n:Int)-1-(i-(D:Int)))=((n-1-(i-D).toNat:Nat):Int):=by rw[bb (by omega) (by omega)];omega
 have hw6:ag .i64 (ag .i64 ((D:Int)+n)-((ab (us.map Tm.enc):Nat):Int))=((D+n-us.length:Nat):Int):=by rw[aui,bb (n:=(D:Int)+n) (by omega) (by omega),bb (by omega) (by omega)];omega
 rw[hw5,hw6];have aE:n-1-(i-D).toNat<us.length:=by omega
 generalize hv:n-1-(i-D).toNat=v at aE;have tV:ct us i n D=us[v].lift (D+n-us.length) 0:=by unfold ct;rw[hv,avc,aun aE];rfl
 have ZH:=vn (b:=D+n-us.length) hB (CG _ (auv aE)) (Tm.jm.1 Cs _ (auv aE));rw[<-tV]at ZH;refine⟨by omega,by rw[aui];omega,_,_,_,_,Tm.bx aE,_,_,_,_,ZH,rfl,?_⟩;refine aA.intro (λh=>?_) λh=>⟨rfl,?_⟩;have h5:(ct us i n D).binds.length≠pre.length:=by rw[<-PX];intro e;apply (show ¬_ from by simpa using h);omega
 rw[if_pos h5];refine⟨_,iF 1,λr q ⟨e1,e2⟩=>⟨l,u,x,0,s,y,c,_,⟨e1,e2⟩,?_⟩⟩;rw[if_pos (by rw[he];exact h0)];exact jn ⟨l,u,x,s,y,c,1,rfl,sn.failed c (by decide) (λh=>by simp at h)⟩ (by simp)
 ·(have h5:¬(ct us i n D).binds.length≠pre.length:=by (have h6:((ct us i n D).binds.length:Int)=acc.length:=by simpa using h);rw[<-PX];omega);rw[if_neg h5];have hpt:=X2 m' (ct us i n D) acc l u x s y c e sn (adR m' Ng) (wM Cs i n D) (λ_=>by rw[PX];refine⟨q2,λt ht=>?_⟩;have h1:=Tm.tE ht;have h2:=sn.sE;omega) (by omega);(rw[PX]at hpt ⊢;have hp:iE f m' (ct us i n D) pre=((bM f m' (ct us i n D).kind (ct us i n D).index (ct us i n D).args pre (ct us i n D).binds.length 0).1,.mk ((ct us i n D).binds.drop pre.length) (bM f m' (ct us i n D).kind (ct us i n D).index (ct us i n D).args pre (ct us i n D).binds.length 0).2.kind (bM f m' (ct us i n D).kind (ct us i n D).index (ct us i n D).args pre (ct us i n D).binds.length 0).2.index (bM f m' (ct us i n D).kind (ct us i n D).index (ct us i n D).args pre (ct us i n D).binds.length 0).2.args):=by unfold iE;rw[if_neg (by simp[h0]),if_neg (by simp at h5;omega)]);rw[hp]at hpt;generalize bM f m' (ct us i n D).kind (ct us i n D).index (ct us i n D).args pre (ct us i n D).binds.length 0=T at hpt;refine⟨_,hpt,λr q ⟨⟨l',u',x',s',y',c',e',e2,X3⟩,t',e1,Su,_⟩=>⟨l',u',x',0,s',y',c',e',_,_,_,_,⟨e1,e2⟩,?_⟩⟩;refine⟨_,aY.refl _,⟨l',u',x',s',y',c',e',rfl,X3⟩,.mk bs t'.kind t'.index t'.args,rfl,λh0=>?_,aum _⟩;rw[Su h0];rfl
 rw[if_pos h0];have stop:∀(i':Int)(a:List Tm),∃r2,aY (.agg [.sl (bs.map Ty.enc),nI k,nI i',.sl (a.map Tm.enc)]) r2/\vo bs.length m' (.mk bs dj.kind dj.index dj.args) r2 (C1 l u x s y c e):=λi' a=> ⟨_,aY.refl _,⟨l,u,x,s,y,c,e,rfl,sn⟩,.mk bs k i' a,rfl,λh=>(h0 h).elim,aum _⟩;have De:¬e=0:=by rw[he];exact h0
 refine aA.intro (λh=>⟨rfl,stop i acc⟩) λh=>?_;refine aA.intro (λh=>⟨rfl,stop i acc⟩) λh2=>?_;have h2:¬i<D:=of_decide_eq_false h2;have qv:=hi.2;have Lx:ag .i64 (i-(D:Int))=i-D:=bb (by omega) (by omega);have YK:ag .i64 ((n:Int)-((ab (us.map Tm.enc):Nat):Int))=(n:Int)-us.length:=by rw[aui];exact bb (by omega) (by omega)
 have hw3:ag .i64 ((n:Int)-1)=(n:Int)-1:=bb (by omega) (by omega);rw[Lx,YK];refine aA.intro (λh=>⟨rfl,stop i acc⟩) λh3=>?_;have h3:¬i-(D:Int)<(n:Int)-us.length:=of_decide_eq_false h3;refine aA.intro (λh=>⟨rfl,stop _ acc⟩) λh4=>?_;have h4:¬i-(D:Int)>=n:=of_decide_eq_false h4;rw[hw3];have hw5:ag .i64 ((n:Int)-1-(i-(D:Int)))=((n-1-(i-D).toNat:Nat):Int):=by rw[bb (by omega) (by omega)];omega
 have hw6:ag .i64 (ag .i64 ((D:Int)+n)-((ab (us.map Tm.enc):Nat):Int))=((D+n-us.length:Nat):Int):=by rw[aui,bb (n:=(D:Int)+n) (by omega) (by omega),bb (by omega) (by omega)];omega
 rw[hw5,hw6];have aE:n-1-(i-D).toNat<us.length:=by omega
 generalize hv:n-1-(i-D).toNat=v at aE;have ZH:=vn (b:=D+n-us.length) hB (CG _ (auv aE)) (Tm.jm.1 Cs _ (auv aE));have akA:=Tm.Gu (b:=D+n-us.length) 0 (Tm.jm.1 Cs _ (auv aE));refine⟨by omega,by rw[aui];omega,_,_,_,_,Tm.bx aE,_,_,_,_,ZH,rfl,?_⟩;generalize us[v].lift (D+n-us.length) 0=g at akA;refine aA.intro (λh=>?_) λh=>⟨rfl,?_⟩;refine⟨_,iF 1,λr q ⟨e1,e2⟩=>⟨l,u,x,0,s,y,c,_,⟨e1,e2⟩,?_⟩⟩;rw[if_neg De];exact jn ⟨l,u,x,s,y,c,e,rfl,sn⟩ h0;have hpt:=X2 m' g acc l u x s y c e sn (λh=>(h0 h).elim) akA (λh=>(h0 h).elim) (by omega);rw[show iE f m' g acc=(m',dj)from by unfold iE;rw[if_pos h0]]at hpt;refine⟨_,hpt,λr q ⟨⟨l',u',x',s',y',c',e',e2,X3⟩,t',e1,Su,_⟩=>⟨l',u',x',0,s',y',c',e',_,_,_,_,⟨e1,e2⟩,?_⟩⟩;exact⟨_,aY.refl _,⟨l',u',x',s',y',c',e',rfl,X3⟩,.mk bs t'.kind t'.index t'.args,rfl,λh=>(h0 h).elim,aum _⟩
theorem akB{B:Nat}(hB:B<=1000000):∀f,X1 B f
 |0=>RU hB|f+1=>RV hB (akB hB f)
theorem ao7{B:Nat}(hB:B<=1000000)(f:Nat):aky B f:=PW hB (akB hB f)
def PY:List Tm->List Ty->Prop
 | [],[]=>True|t::l,u::us=>t.binds=u.args/\PY l us|_,_=>False
mutual
theorem jT{S:Nat}{c m:List Ty}(hS:S<=1000):∀(r:Rw)(st:Mt)(x:List Ty)(u:Ty),Rw.mN S c m x r u->r.Ok->(Rw.dP c m st x r).1.err=0-> Form S st (Rw.dP c m st x r).1 (Rw.dP c m st x r).2/\(Rw.dP c m st x r).2.binds=u.args
 | .mk k t i l,st,x,u,dK,hk,he=>by obtain⟨eB,Du,PB⟩:=hk;rw[Rw.mN]at dK;obtain⟨hu,dK⟩:=dK;rw[Rw.dP]at he ⊢;split at he;rename_i h;exact(h he).elim;rename_i h;rw[if_neg h];by_cases h3:k=3;(rw[if_pos h3]at he dK ⊢;obtain⟨ht,v,rfl,hl⟩:=dK;obtain⟨a,rfl,ha⟩:=r6 hl;have hh:=(PU t _).ok he;have ih:=nk hS [a] st (x++[t]) [v] hl PB hh;have e:(Rw.cR c m st (x++[t]) [a]).2=[(Rw.dP c m st (x++[t]) a).2]:=by rw[Rw.cR,Rw.cR]);unfold C0 at he ⊢;generalize (Rw.dP c m st (x++[t]) a).2=b at e;generalize Rw.cR c m st (x++[t]) [a]=q at ih he hh e;obtain⟨qm,ql⟩:=q;simp only at e;subst e;rw[if_neg (by simpa using hh)];obtain⟨i1,i2,i3⟩:=ih;obtain⟨i4,_⟩:=i3;have lF:=Tm.iq.1 i2.1;simp only[Tm.dU]at i1;rw[b.gJ]at i1;refine⟨⟨?_,Tm.iq.2 ⟨⟨?_,?_⟩,lF.2.1,?_⟩⟩,?_⟩;show (Tm.mk _ _ _ b.args).nodes+st.count<=_;rw[Tm.nodes];omega;show Ty.sizes (t::b.binds)<=_;rw[i4,Ty.sizes];rw[Ty.arrow,Ty.size,av6,Ty.sizes]at hu;omega;exact lF.1.2;exact lF.2.2;show t::b.binds=_;rw[i4];rfl;rw[if_neg h3]at he dK ⊢;by_cases h4:k=4;rw[if_pos h4]at he dK ⊢;obtain⟨v,hl⟩:=dK;obtain⟨f,a,rfl,hf,ha⟩:=r7 hl;have hh:=(PV _).ok he;obtain⟨i1,i2,i3⟩:=nk hS [f,a] st x _ hl PB hh;have e:∃p q,(Rw.cR c m st x [f,a]).2=[p,q]:=⟨_,_,by rw[Rw.cR,Rw.cR,Rw.cR]⟩;obtain⟨p,b,e⟩:=e;unfold wL at he ⊢;generalize Rw.cR c m st x [f,a]=q at i1 i2 i3 he hh e;obtain⟨qm,ql⟩:=q;simp only at e;subst e;rw[if_neg (by simpa using hh)]at he ⊢;have:=RQ (B:=S) i2.1 (us:=[b]) ⟨i2.2.1,ai⟩ he;refine⟨⟨?_,this.lo⟩,?_⟩;have hn:(iE 100001 qm p [b]).2.nodes+qm.count<=(iE 100001 qm p [b]).1.count:=this.nodes;show (iE 100001 qm p [b]).2.nodes+_<=(iE 100001 qm p [b]).1.count;simp only at i1;omega;show (iE 100001 qm p [b]).2.binds=u.args;have he:(iE 100001 qm p [b]).1.err=0:=he;unfold iE at he ⊢;split at he;rename_i h;exact(h he).elim;rename_i h;rw[if_neg h];split at he;cases he;rename_i h2;rw[if_neg h2];show p.binds.drop 1=u.args;rw[i3.1];rfl;rw[if_neg h4]at he dK ⊢;obtain⟨hh,rfl⟩:=dK;unfold Ef at he ⊢;rw[hh]at he ⊢;simp only[avd]at he ⊢;have hu':=Mt.vl u.size st;split at he;rename_i h5;have:=hu'.1.2 he;rw[h5]at this;cases this;(rename_i h5;rw[if_neg h5];have h5:(st.ei u.size).2=true:=by simpa using h5);have:=hu'.2 h5;exact⟨⟨by show (sB k i u).nodes+st.count<=(Mt.ei u.size st).1.count;rw[BP];omega,PT u k i eB Du hu (by omega)⟩,by rw[FW];rfl⟩
theorem nk{S:Nat}{c m:List Ty}(hS:S<=1000):∀(l:List Rw)(st:Mt)(x us:List Ty),Rw.oL S c m x l us->Rw.PA l->(Rw.cR c m st x l).1.err=0-> Tm.dU (Rw.cR c m st x l).2+st.count<=(Rw.cR c m st x l).1.count/\Tm.wK S (Rw.cR c m st x l).2/\PY (Rw.cR c m st x l).2 us
 | [],st,x,[],_,_,_=>⟨by simp[Rw.cR,Tm.dU],ai,ai⟩|r::l,st,x,u::us,dK,hk,he=>by rw[Rw.cR]at he ⊢;simp only at he ⊢;have h1:=jT hS r st x u dK.1 hk.1 ((Rw.oN c m l _ x).ok he);have h2:=nk hS l _ x us dK.2 hk.2 he;have:=h1.1.nodes;exact⟨by rw[Tm.dU];omega,⟨h1.1.lo,h2.2.1⟩,h1.2,h2.2.2⟩| [],_,_,_::_,h,_,_=>h.elim|_::_,_,_,[],h,_,_=>h.elim
end
theorem RW{x y:AV}{n:Int}(h:aY x y):aY (.aG [x,nI n]) (.aG [y,nI n]):=aY.aG ⟨h,aY.refl _,ai⟩
theorem Ke{m:Mt}{t t':Tm}{l u x s y c e:Int}(hm:yM m l u x y c e)(ht:m.err=0->t'=t)(h:m.err=0->t.size<=500000000/\t.Ok): aZ aj 206 [.ptr 1 0,.agg [.sl (t'.binds.map Ty.enc),nI t'.kind,nI t'.index,.sl (t'.args.map Tm.enc)]] (C1 l u x s y c e) (λr hp'=>RS (ir (m,t)).1 hp'/\r=.aG [.agg [.sl ((ir (m,t)).2.binds.map Ty.enc),nI (ir (m,t)).2.kind,nI (ir (m,t)).2.index,.sl ((ir (m,t)).2.args.map Tm.enc)],nI (ir (m,t)).1.err]):=by (have he:=hm.err;have zero:∀{m':Mt}{n:Int}{hp':List ax},RS m' hp'->m'.err=n->ir (m,t)=(m',dj)->∃r2,aY (.aG [.agg [.ay (.slice none 0 0),nI 0,nI 0,.ay (.slice none 0 0)],nI n]) r2/\(RS (ir (m,t)).1 hp'/\r2=.aG [.agg [.sl ((ir (m,t)).2.binds.map Ty.enc),nI (ir (m,t)).2.kind,nI (ir (m,t)).2.index,.sl ((ir (m,t)).2.args.map Tm.enc)],nI (ir (m,t)).1.err]):=by intro m' n hp' h1 h2 h3;rw[h3];exact⟨_,RW tF,h1,by rw[<-h2];rfl⟩);refine aZ.Kd (Wv (aA.intro (λh0=>?_) λh0=>?_));(have De:e=0:=by simpa using h0);(have su:m.err=0:=by rw[<-he];exact De);obtain⟨hs,hk⟩:=h su;rw[ht su];have hcp:=Mu (t:=t) (by omega) hk;rw[Tm.aP]at hcp;refine⟨_,pN hs,aA.intro (λh1=>?_) λh1=>?_⟩;(have h1:im 0 (t.pre 0 1)=false:=by simpa using h1);refine⟨_,iF 2,λr q ⟨e1,e2⟩=>⟨l,u,x,0,s,y,c,_,⟨e1,e2⟩,?_⟩⟩;rw[if_pos De];refine aA.pos rfl ?_;exact zero (m':=⟨m.left,m.count,2⟩) ⟨l,u,x,s,y,c,2,rfl,hm.failed c (by decide) (λh=>by simp at h)⟩ rfl (by unfold ir;rw[if_neg (by simp[su]),if_neg (by rw[h1];simp)]);(have h1:im 0 (t.pre 0 1)=true:=by simpa using h1);(refine aA.neg (by rw[De];rfl) ⟨_,_,_,_,hcp,?_⟩;have hd:ir (m,t)=(m,t):=by unfold ir;rw[if_neg (by simp[su]),if_pos h1]);rw[hd];refine⟨_,aY.refl _,⟨l,u,x,s,y,c,e,rfl,hm⟩,?_⟩;rw[su];(have De:¬e=0:=by simpa using h0);(have su:m.err≠0:=by rw[<-he];exact De);refine aA.pos (by simp[De]) ?_;exact zero (m':=m) ⟨l,u,x,s,y,c,e,rfl,hm⟩ he.symm (by unfold ir;rw[if_pos su])
theorem X4{c m x:List Ty}{k i:Int}{t u:Ty}{l:List Rw}(h3:¬k=3)(h4:¬k=4)(h:Rw.Typ c m x (.mk k t i l) u):bt c m x k i=some u:=by rw[Rw.Typ,if_neg h3,if_neg h4]at h;exact h.1
theorem RX{c m x:List Ty}{i:Int}{u:Ty}(h:bt c m x 0 i=some u):0<=i/\i<x.length:=by unfold bt at h;split at h;cases h;rw[if_pos rfl]at h;split at h;omega;cases h
theorem Kf{S:Nat}{b:Int}{c m:List Ty}(hc:∀t∈c,t.size<=S)(hm:∀t∈m,t.size<=S)(hS:S<=1000): ∀(n:Nat)(r:Rw)(st:Mt)(x:List Ty)(ty:Ty)(l u d s y cn e:Int),r.total<=n->r.total<=100000000->Rw.mN S c m x r ty->r.Ok->r.shaped=true->(∀t∈x,t.size<=S)->x.length+r.depth<=1000->yM st l u d y cn e-> aZ aj 207 [.ptr 1 0,.agg [nI b,.sl (c.map Ty.enc),.sl (m.map Ty.enc)],.sl (x.map Ty.enc),.agg [nI r.kind,.sl (r.type.args.map Ty.enc),nI r.type.base,nI r.index,.sl (r.kids.map Rw.enc)]] (C1 l u d s y cn e) (vo (S+r.total) (Rw.dP c m st x r).1 (Rw.dP c m st x r).2):=by
 intro n;induction n with
  |zero=>intro r st x ty l u d s y cn e h;have:=r.lO;omega|succ n ih=>
   intro r st x ty l u d s y cn e hn hrS dK aK tP hx hxl hmt;have he:=hmt.err;have hrt:=r.rh;obtain⟨k,t,i,kids⟩:=r;simp only[Rw.FI,Rw.acg,Rw.Bc,Rw.FO]at hrt ⊢;have sq:∀r∈kids,r.depth<(Rw.mk k t i kids).depth:=λr hr=>Rw.tD hr;obtain⟨eB,Du,PB⟩:=aK;refine aZ.Kd (Ww (aA.intro (λh=>?_) λh=>?_));(have h0:¬e=0:=by simpa using h);(have su:st.err≠0:=by rw[<-he];exact h0);rw[Rw.dP,if_pos su];exact jn ⟨l,u,d,s,y,cn,e,rfl,hmt⟩ su;(have h0:e=0:=by simpa using h);(have su:st.err=0:=by rw[<-he];exact h0);rw[Rw.dP,if_neg (by simp[su])];refine aA.intro (λh=>?_) λh=>?_;(have h3:k=3:=by simpa using h);(rw[if_pos h3];rw[Rw.mN,if_pos h3]at dK;obtain⟨_,htS,v,hv,dK⟩:=dK;obtain⟨a,rfl,hta⟩:=r6 dK;have hda:=sq a (by simp);have hsa:a.shaped=true:=by rw[Rw.wx,Rw.FO,show Rw.dI [a]=(a.shaped&&Rw.dI [])from Rw.pK (l:=[a]) (k:=0) (by simp)]at tP;simp only[aul]at tP;exact tP.2.1);(have zj:Rw.gE [a]=a.total:=by simp[Rw.gE]);(have htz:=t.size_pos;rw[zj]at hrt;have hi:=ih a st (x++[t]) v l u d s y cn e (by omega) (by omega) hta PB.1 hsa (λw hw=>(auQ.1 hw).elim (hx w) λh=>by rw[auy.1 h];exact htS) (by rw[auo,avj];omega) hmt;have tW:[AV.agg [.sl (t.args.map Ty.enc),nI t.base]]=[t].map Ty.enc:=zi t;rw[auZ,<-tW]at hi;have hL:A7 (x.map Ty.enc) (t.args.map Ty.enc) t.base b (c.map Ty.enc) (m.map Ty.enc) a.kind (a.type.args.map Ty.enc) a.type.base a.index (a.kids.map Rw.enc) l u d 0 s y cn e (λr hp'=>∃r2,aY r r2/\vo (S+(Rw.mk k t i [a]).total) (C0 t (Rw.cR c m st (x++[t]) [a])).1 (C0 t (Rw.cR c m st (x++[t]) [a])).2 r2 hp'):=by (refine⟨rfl,_,hi,λr q ⟨⟨l',u',d',s',y',c',e',e2,sn⟩,t',e1,Su,HU⟩=>⟨l',u',d',0,s',y',c',e',_,_,_,_,⟨e1,e2⟩,?_⟩⟩;have xf:=gQ (ll:=[[t],t'.binds]) (by simp) (by simp;omega);simp only[fj,auL,auY,avZ,av2,auD]at xf;rw[Ty.aP]at xf;refine⟨_,xf,_,aY.refl _,?_⟩;rw[Rw.cR,Rw.cR];have xo:(C0 t ((Rw.dP c m st (x++[t]) a).1,[(Rw.dP c m st (x++[t]) a).2])).1=(Rw.dP c m st (x++[t]) a).1:=by unfold C0;split<;>rfl);refine⟨(by rw[xo];exact⟨l',u',d',s',y',c',e',rfl,sn⟩),.mk (t::t'.binds) t'.kind t'.index t'.args,?_,λh0=>?_,?_⟩;simp only[Tm.uX,Tm.FI,Tm.Bc,Tm.jf,auL,Ty.aP,av6,avx,avr];simp only at h0 ⊢;rw[xo]at h0;rw[Su h0];unfold C0;rw[if_neg (by simp[h0])];rfl;rw[Tm.uX,aur,Rw.total,zj];omega);have hap:∀{dd:TD},dd.size=2->dd.bytes<=1000->bB dd (ab (x.map Ty.enc++[.agg [.sl (t.args.map Ty.enc),nI t.base]])) (x.map Ty.enc) [.agg [.sl (t.args.map Ty.enc),nI t.base]]:=λhz hd=> kx (λz SA=>by rw[hz];exact Ty.lN z SA) (λz SA=>by simp at SA;subst SA;rw[hz];rfl) (by simp;omega) hd;refine⟨_,xL,by omega,by simp,_,_,_,_,_,Rw.bx (l:=[a]) (k:=0) (by simp),⟨λh=>by simp at h,hap rfl (by decide),hL,hL⟩,⟨λh=>by simp at h,hap rfl (by decide),hL⟩⟩;(have h3:¬k=3:=by simpa using h);rw[if_neg h3];refine aA.intro (λh=>?_) λh=>?_;(have h4:k=4:=by simpa using h);(rw[if_pos h4];rw[Rw.mN,if_neg h3,if_pos h4]at dK;obtain⟨_,v,dK⟩:=dK;obtain⟨f,a,rfl,htf,hta⟩:=r7 dK;have hdf:=sq f (by simp);have hda:=sq a (by simp);have akC:f.shaped=true/\a.shaped=true:=by rw[Rw.wx,Rw.FO,show Rw.dI [f,a]=(f.shaped&&Rw.dI [a])from Rw.pK (l:=[f,a]) (k:=0) (by simp),show Rw.dI [a]=(a.shaped&&Rw.dI [])from Rw.pK (l:=[a]) (k:=0) (by simp)]at tP;simp only[aul]at tP;exact⟨tP.2.1,tP.2.2.1⟩);have zj:Rw.gE [f,a]=f.total+a.total:=by simp[Rw.gE]
   have htz:=t.size_pos;have hfp:=f.lO;have hap:=a.lO;rw[zj]at hrt;have hf1:=ih f st x _ l u d s y cn e (by omega) (by omega) htf PB.1 akC.1 hx (by omega) hmt;have as7:=Rw.vm c m f st x;have hff:=λh=>(jT hS f st x _ htf PB.1 h).1;have hL:A8 b (c.map Ty.enc) (m.map Ty.enc) (x.map Ty.enc) f.kind (f.type.args.map Ty.enc) f.type.base f.index (f.kids.map Rw.enc) l u d 0 s y cn e ([f,a].map Rw.enc) (λr hp'=>∃r2,aY r r2/\vo (S+(Rw.mk k t i [f,a]).total) (wL (Rw.cR c m st x [f,a])).1 (wL (Rw.cR c m st x [f,a])).2 r2 hp'):=by
    refine⟨_,hf1,λr q ⟨⟨l',u',d',s',y',c',e',e2,sn⟩,tf,e1,acE,as8⟩=>⟨l',u',d',0,s',y',c',e',_,_,_,_,⟨e1,e2⟩,by omega,by simp,_,_,_,_,_,Rw.bx (l:=[f,a]) (k:=1) (by simp),?_⟩⟩;have ha1:=ih a (Rw.dP c m st x f).1 x _ l' u' d' s' y' c' e' (by omega) (by omega) hta PB.2.1 akC.2 hx (by omega) sn;have acD:=Rw.vm c m a (Rw.dP c m st x f).1 x;have haf:=λh=>(jT hS a (Rw.dP c m st x f).1 x _ hta PB.2.1 h).1;simp only[Rw.cR];have YL:wo b (c.map Ty.enc) (m.map Ty.enc) (x.map Ty.enc) a.kind (a.type.args.map Ty.enc) a.type.base a.index (a.kids.map Rw.enc) l' u' d' 0 s' y' c' e'
      (λr hp'=>∃r2,aY r r2/\vo (S+(Rw.mk k t i [f,a]).total) (wL ((Rw.dP c m (Rw.dP c m st x f).1 x a).1,[(Rw.dP c m st x f).2,(Rw.dP c m (Rw.dP c m st x f).1 x a).2])).1 (wL ((Rw.dP c m (Rw.dP c m st x f).1 x a).1,[(Rw.dP c m st x f).2,(Rw.dP c m (Rw.dP c m st x f).1 x a).2])).2 r2 hp') (tf.binds.map Ty.enc) tf.kind tf.index (tf.args.map Tm.enc):=by
     refine⟨_,ha1,λr q ⟨⟨l2,u2,d2,s2,y2,c2,e2',e2,si⟩,ta,e1,acF,_⟩=>⟨l2,u2,d2,0,s2,y2,c2,e2',_,_,_,_,⟨e1,e2⟩,?_⟩⟩;have KY:=si.err;generalize hm3:(Rw.dP c m (Rw.dP c m st x f).1 x a).1=M at *;refine aA.intro (λh=>?_) λh=>?_
     ·have h5:¬e2'=0:=by simpa using h
      have hM:M.err≠0:=by rw[<-KY];exact h5
      have:wL (M,[(Rw.dP c m st x f).2,(Rw.dP c m (Rw.dP c m st x f).1 x a).2])=(M,dj):=by unfold wL;rw[if_pos hM]
      rw[this];exact jn ⟨l2,u2,d2,s2,y2,c2,e2',rfl,si⟩ hM
     ·have h5:e2'=0:=by simpa using h
      have hM:M.err=0:=by rw[<-KY];exact h5
      have hF:=acD.ok hM;have hff:=hff hF;have haf:=haf hM;have acE:=acE hF;have acF:=acF hM;generalize (Rw.dP c m (Rw.dP c m st x f).1 x a).2=TA at haf acF ⊢;generalize (Rw.dP c m st x f).2=TF at hff acE ⊢;subst acE;subst acF;have:wL (M,[tf,ta])=iE 100001 M tf [ta]:=by unfold wL;rw[if_neg (by simp[hM])];rfl
      rw[this];have hq:=hff.nodes;have hq2:=haf.nodes;have hp:=ao7 (B:=2*S) (by omega) 100001 M tf [ta] l2 u2 d2 s2 y2 c2 e2' si (λ_=>by omega) (Tm.Gt (by omega) hff.lo) (λ_=>⟨⟨Tm.Gt (by omega) haf.lo,ai⟩,λt ht=>by
       rw[auy.1 ht];have:=si.sE
       omega⟩) (by omega)
      have tW:AV.clip [.agg [.sl (ta.binds.map Ty.enc),nI ta.kind,nI ta.index,.sl (ta.args.map Tm.enc)]]=.clip ([ta].map Tm.enc):=by rw[auL,auY,Tm.aP]
      refine⟨_,aZ.args (by rw[tW];exact⟨aY.refl _,aY.refl _,RR _,ai⟩) hp,λr q ⟨⟨l3,u3,d3,s3,y3,c3,e3',e2,hm3⟩,tp,e1,htp,as9⟩=>⟨l3,u3,d3,0,s3,y3,c3,e3',_,_,_,_,⟨e1,e2⟩,_,aY.refl _,⟨l3,u3,d3,s3,y3,c3,e3',rfl,hm3⟩,tp,rfl,htp,?_⟩⟩;rw[Rw.total,zj];omega
    exact⟨YL,YL⟩
   exact⟨by omega,by simp,_,_,_,_,_,Rw.bx (l:=[f,a]) (k:=0) (by simp),hL,hL⟩;(have h4:¬k=4:=by simpa using h);rw[if_neg h4];have hh:=X4 h3 h4 dK.typ;have cP:ty.size<=S:=(tn hh).elim (hx _) λh=>h.elim (hc _) (hm _);have hht:=rn (b:=b) (c:=c) (m:=m) (x:=x) (k:=k) Du (by omega) (λt ht=>by rw[hh]at ht;obtain rfl:=auj ht;omega);rw[hh]at hht;have akF:=ML ty.size ty k i (aum _) (by omega) (λh=>by subst h;have:=RX hh;omega);rw[Ty.aP,Tm.aP]at akF;refine⟨_,_,_,hht,_,rj (t:=ty) (by omega),_,tH ty.size (by omega) hmt,λr q ⟨e1,l',u',d',s',y',c',e',e2,sn⟩=>⟨l',u',d',0,s',y',c',e',_,⟨e1,e2⟩,?_⟩⟩;unfold Ef;rw[hh,avd];have hu:=Mt.vl ty.size st;refine aA.intro (λh=>?_) λh=>?_;(have h5:(st.ei ty.size).2=false:=by simpa using h);rw[if_pos h5];exact jn ⟨l',u',d',s',y',c',e',rfl,sn⟩ (λh=>by have:=hu.1.2 h;rw[h5]at this;cases this);(have h5:(st.ei ty.size).2=true:=by simpa using h);rw[if_neg (by rw[h5];simp)];refine⟨_,_,_,_,akF,_,aY.refl _,⟨l',u',d',s',y',c',e',rfl,sn⟩,sB k i ty,rfl,λ_=>rfl,?_⟩;rw[FW,Tm.uX];have:=Ty.ba ty.args;have:=ty.size_eq;omega
theorem C2{b:Int}{c m:List Ty}{t:Ty}(h:t.size<=500000000):az aj 216 [.agg [.sl (t.args.map Ty.enc),nI t.base],.aV (.agg [nI b,.sl (c.map Ty.enc),.sl (m.map Ty.enc)]) 0] (nB (!(t.bH b))):=Wx ⟨_,lz h,rfl⟩
theorem Gy{b:Int}{c m l:List Ty}(h:Ty.sizes l<=500000000):az aj 225 [.sl (l.map Ty.enc),.bw 216 [.aV (.agg [nI b,.sl (c.map Ty.enc),.sl (m.map Ty.enc)]) 0]] (nI (fT b 0 l)):=by have hl:=Ty.ba l;refine Fy ⟨rfl,?_⟩;refine aI.intro (λk:Nat=>((l.map Ty.enc,((),()),(l.length:Int),(k:Int),()),())) (λk=>k<=l.length/\fT b 0 l=fT b k (l.drop k)) (λk=>l.length-k) 0 (by rw[aui];rfl) ⟨aus _,rfl⟩ ?_;intro k ⟨hk,hs⟩ again bP;dsimp only;rw[aui];refine aA.intro (λh=>?_) λh=>?_;(have aE:k<l.length:=by simpa using h);rw[aut aE,fT]at hs;refine⟨by omega,by omega,_,_,Ty.bx aE,_,C2 (by have:=Ty.dp (auv aE);omega),aA.intro (λh=>?_) λh=>⟨rfl,?_⟩⟩;rw[hs,if_neg (by simpa using h)];rw[if_pos (by simpa using h)]at hs;rw[bf (by omega)];exact bP (k+1) ⟨by omega,hs⟩ (by omega);(have:l.length<=k:=by simpa using h);rw[auF this]at hs;rw[hs];rfl
def kC(b:Int)(c m x:List Ty):Bool:=(!(decide (fT b 0 (c++m)>=0)))&&(decide (x.length<=900)&&!(decide (fT b 0 x>=0)))
theorem Gz{b:Int}{c m x:List Ty}(hc:c.length<=500)(hm:m.length<=500)(h:Ty.sizes (c++m)<=500000000)(hx:Ty.sizes x<=500000000): az aj 205 [.agg [nI b,.sl (c.map Ty.enc),.sl (m.map Ty.enc)],.sl (x.map Ty.enc)] (nB (kC b c m x)):=by refine Wy ⟨_,wB hc hm h,aA.intro (λh1=>?_) λh1=>?_⟩;refine aA.intro (λh2=>⟨_,yF ⟨_,Gy hx,rfl⟩,?_⟩) λh2=>?_;rw[kC,h1,au5,decide_eq_true (by have:=of_decide_eq_true h2;rw[aui]at this;omega),au5];rw[kC,h1,au5,decide_eq_false (by have:=of_decide_eq_false h2;rw[aui]at this;omega),ave];rw[kC,h1,ave]
def Rw.inf(b:Int)(c m x:List Ty)(r:Rw):Ty×Int:=if r.bH=true then r.infer b c m x else(kO,1)
def gV(b:Int)(c m x:List Ty)(r:Rw)(left:Nat):Mt×Tm:=if kC b c m x=false then(⟨left,0,1⟩,dj)else if(r.inf b c m x).2≠0 then(⟨left,0,(r.inf b c m x).2⟩,dj)else ir (Rw.dP c m ⟨left,0,0⟩ x r)
mutual
theorem Rw.Kg(b:Int)(c m:List Ty):∀(r:Rw)(x:List Ty),(r.infer b c m x).2≠11
 | .mk k t i l,x=>by
  rw[Rw.infer];split;split;have:=Rw.wN b c m l (x++[t]);generalize Rw.eC b c m (x++[t]) l=q at this;unfold rp;split
  ·rename_i p l';have hp:=this p auw;(repeat' split)<;>first|assumption|(simp;done)
  decide;decide;split;have:=Rw.wN b c m l x;generalize Rw.eC b c m x l=q at this;unfold pM;split
  ·rename_i p q l';have hp:=this p auw;have hq:=this q (auz _ auw);(repeat' split)<;>first|assumption|(simp;done)
  decide;unfold ni;(repeat' split)<;>simp
theorem Rw.wN(b:Int)(c m:List Ty):∀(l:List Rw)(x:List Ty),∀p∈Rw.eC b c m x l,p.2≠11
 | [],x,p,hp=>by simp[Rw.eC]at hp|r::l,x,p,hp=>by rw[Rw.eC]at hp;rcases auJ.1 hp with rfl|hp;exact Rw.Kg b c m r x;exact Rw.wN b c m l x p hp
end
theorem lC{S:Nat}:∀{l:List Ty},(∀t∈l,t.size<=S)->Ty.sizes l<=l.length*S
 | [],_=>by simp[Ty.sizes]|t::l,h=>by have h1:=h t auw;have h2:=lC λu hu=>h u (auz t hu);rw[Ty.sizes,aur,avn];omega
structure nT(c m x:List Ty)(r:Rw):Prop where
 hc:∀t∈c,t.size<=1000
 hm:∀t∈m,t.size<=1000
 hx:∀t∈x,t.size<=1000
 cl:c.length<=500
 ml:m.length<=500
 xl:x.length<=1000
 hr:r.total<=90000000
 ok:r.Ok
theorem nT.sizes{c m x:List Ty}{r:Rw}(h:nT c m x r):Ty.sizes (c++m)<=500000000/\Ty.sizes x<=300000000:=by have h1:=lC h.hc;have h2:=lC h.hm;have h3:=lC h.hx;have h4:=au6 1000 h.cl;have h5:=au6 1000 h.ml;have h6:=au6 1000 h.xl;rw[Ty.cO];exact⟨by omega,by omega⟩
theorem RZ{x y:AV}{n k:Int}(h:aY x y):aY (.aG [x,nI n,nI k]) (.aG [y,nI n,nI k]):=aY.aG ⟨h,aY.refl _,aY.refl _,ai⟩
def Found(L:Mt×Tm)(r:AV)(hp':List ax):Prop:=∃(cnt l u d s y:Int),hp'=[.box (aX l u d 0 s y)]/\x6 L.1.left l u d y/\(L.1.err=11->y≠0)/\(L.1.err=0->cnt=L.1.count)/\ r=.aG [.agg [.sl (L.2.binds.map Ty.enc),nI L.2.kind,nI L.2.index,.sl (L.2.args.map Tm.enc)],nI cnt,nI L.1.err]
theorem Eh{b:Int}{c m x:List Ty}{r:Rw}(eG:nT c m x r):az aj 140 [.agg [nI b,.sl (c.map Ty.enc),.sl (m.map Ty.enc)],.sl (x.map Ty.enc),r.enc] (PG (r.inf b c m x)):=JD (b:=b) (λt ht=>by have:=eG.hc t ht;omega) (λt ht=>by have:=eG.hm t ht;omega) eG.ok (by have:=eG.sizes;have:=eG.hr;omega)
theorem Kh{b:Int}{c m x:List Ty}{r:Rw}{left:Nat}{l u d s y:Int}(eG:nT c m x r)(hb:x6 left l u d y): aZ aj 193 [.agg [nI b,.sl (c.map Ty.enc),.sl (m.map Ty.enc)],.sl (x.map Ty.enc),.agg [nI r.kind,.sl (r.type.args.map Ty.enc),nI r.type.base,nI r.index,.sl (r.kids.map Rw.enc)],.ptr 0 0] [.box (aX l u d 0 s y)] (Found (gV b c m x r left)):=by (have cP:=eG.sizes;have hi:=Eh (b:=b) eG;rw[Rw.aP]at hi;have zero:∀(e:Int),e≠0->e≠11->gV b c m x r left=(⟨left,0,e⟩,dj)->∃r2,aY (.aG [.agg [.ay (.slice none 0 0),nI 0,nI 0,.ay (.slice none 0 0)],nI 0,nI e]) r2/\Found (gV b c m x r left) r2 [.box (aX l u d 0 s y)]:=by intro e he KY h;rw[h];exact⟨_,RZ tF,0,l,u,d,s,y,rfl,hb,λh=>(KY h).elim,λh=>(he h).elim,rfl⟩);refine aZ.Kd (Wz ⟨_,Gz (by have:=eG.cl;omega) (by have:=eG.ml;omega) cP.1 (by omega),aA.intro (λh=>?_) λh=>?_⟩);(have h:kC b c m x=false:=by simpa using h);exact zero 1 (by decide) (by decide) (by unfold gV;rw[if_pos h]);(have h1:kC b c m x=true:=by simpa using h);(have hL:gV b c m x r left=if(r.inf b c m x).2≠0 then(⟨left,0,(r.inf b c m x).2⟩,dj)else ir (Rw.dP c m ⟨left,0,0⟩ x r):=by unfold gV;rw[if_neg (by rw[h1];simp)]);refine⟨_,_,_,hi,aA.intro (λh=>?_) λh=>?_⟩;(have h2:(r.inf b c m x).2≠0:=by simpa using h);refine zero _ h2 ?_ (by rw[hL,if_pos h2]);unfold Rw.inf;split;exact Rw.Kg b c m r x;decide;(have h2:(r.inf b c m x).2=0:=by simpa using h);(rw[hL,if_neg (by simp[h2])];have Ei:r.bH=true:=by cases Ei:r.bH with|true=>rfl|false=>rw[Rw.inf,Ei]at h2;simp at h2);(have tP:r.shaped=true:=by rw[Rw.bH,aul]at Ei;exact Ei.1);have dK:Rw.mN 1000 c m x r (r.infer b c m x).1:=pZ b c m r x _ tP (by rw[Rw.inf,if_pos Ei]at h2;rw[<-h2]);(have hmt:yM ⟨left,0,0⟩ l u d y 0 0:=⟨hb,rfl,aus _,λ_=>rfl,λh=>by simp at h⟩;have apa:r.depth<=60:=by rw[Rw.bH,aul,aul,decide_eq_true_eq,decide_eq_true_eq]at Ei;exact Ei.2.2);(have hx9:x.length<=900:=by unfold kC at h1;simp only[aul,decide_eq_true_eq]at h1;exact h1.2.1);have adS:=Kf (b:=b) eG.hc eG.hm (aum _) _ r ⟨left,0,0⟩ x _ l u d s y 0 0 (aum _) (by have:=eG.hr;omega) dK eG.ok tP eG.hx (by omega) hmt;have kW:=λh=>(jT (aum _) r ⟨left,0,0⟩ x _ dK eG.ok h).1;generalize Rw.dP c m ⟨left,0,0⟩ x r=Q at adS kW;refine⟨_,adS,λr1 q ⟨⟨l1,u1,d1,s1,y1,c1,e1',e2,Da⟩,t1,e1,ht1,_⟩=>⟨l1,u1,d1,0,s1,y1,c1,e1',_,_,_,_,⟨e1,e2⟩,?_⟩⟩;have Oj:=Ke (s:=s1) Da ht1 (λh0=>by have hf:=kW h0;have hn:=hf.nodes;have PZ:=Da.sE;have hs:=Tm.zo hf.lo;have:Q.2.nodes*(1+1000)<=100000*1001:=avK (by omega) (by omega);exact⟨by omega,Tm.J8 hf.lo⟩);rw[show (Q.1,Q.2)=Q from rfl]at Oj;refine⟨_,Oj,λr2 q ⟨⟨l2,u2,d2,s2,y2,c2,e2',e2,si⟩,e1⟩=>⟨l2,u2,d2,0,s2,y2,c2,e2',_,_,_,_,_,⟨e1,e2⟩,?_⟩⟩;exact⟨_,aY.refl _,c2,l2,u2,d2,s2,y2,rfl,si.bud,si.fuel,si.count,rfl⟩
def afO(L:Mt×Tm)(r:AV)(hp':List ax):Prop:=∃l u d s y,hp'=[.box (aX l u d 0 s y)]/\x6 L.1.left l u d y/\(L.1.err=11->y≠0)/\ r=.aG [.agg [.sl (L.2.binds.map Ty.enc),nI L.2.kind,nI L.2.index,.sl (L.2.args.map Tm.enc)],nI L.1.err]
theorem Ki{b:Int}{c m x:List Ty}{r:Rw}{left:Nat}{l u d s y:Int}(eG:nT c m x r)(hb:x6 left l u d y): aZ aj 173 [.agg [nI b,.sl (c.map Ty.enc),.sl (m.map Ty.enc)],.sl (x.map Ty.enc),.agg [nI r.kind,.sl (r.type.args.map Ty.enc),nI r.type.base,nI r.index,.sl (r.kids.map Rw.enc)],.ptr 0 0] [.box (aX l u d 0 s y)] (afO (gV b c m x r left)):=WA ⟨_,Kh eG hb,λr1 q ⟨cnt,l1,u1,d1,s1,y1,e2,xo,hf,hc,e1⟩=>⟨l1,u1,d1,0,s1,y1,_,_,_,_,_,_,⟨e1,e2⟩,l1,u1,d1,s1,y1,rfl,xo,hf,rfl⟩⟩
theorem R0{n:Nat}(hn:n<=1000000):aZ aj 174 [nI n] [] (λr hp'=>r=.ptr 0 0/\hp'=[.box (aX n 0 0 0 0 0)]):=(acA n []).mono λr hp' ⟨e1,e2⟩=>⟨e1,by rw[e2,if_neg (by omega)];rfl⟩
theorem Kj{n:Nat}(hn:n<=1000000):x6 n n 0 0 0:=⟨rfl,by decide,by omega,av9,λh=>(h rfl).elim⟩
def afP(t:Tm)(e:Int):AV:=.aG [.agg [.sl (t.binds.map Ty.enc),nI t.kind,nI t.index,.sl (t.args.map Tm.enc)],nI e]
theorem R1{b:Int}{c m x:List Ty}{r:Rw}(eG:nT c m x r): az aj 141 [.agg [nI b,.sl (c.map Ty.enc),.sl (m.map Ty.enc)],.sl (x.map Ty.enc),.agg [nI r.kind,.sl (r.type.args.map Ty.enc),nI r.type.base,nI r.index,.sl (r.kids.map Rw.enc)]] (afP (gV b c m x r 100000).2 (gV b c m x r 100000).1.err):=WB ⟨_,R0 (n:=100000) (by omega),λr1 q ⟨e1,e2⟩=>⟨_,_,_,_,_,_,⟨e1,e2⟩,_,Ki eG (Kj (by omega)),λr2 q2 ⟨l1,u1,d1,s1,y1,e2,xo,hf,e1⟩=>⟨l1,u1,d1,0,s1,y1,_,_,_,_,_,⟨e1,e2⟩,rfl⟩⟩⟩
section
structure Mn where
 base:Bool
 kind:Int
 idx:Int
def Mn.val(x:Mn):Value:=.agg #[.bool x.base,.int .i64 x.kind,.int .i64 x.idx]
def apb:Mn:=⟨false,0,0⟩
abbrev P0:=List (aw×Mn)
def dn(l:P0):List (aw×Value):=l.map λp=>(p.1,p.2.val)
def kQ:P0->aw->Option Mn
 | [],_=>none|(k,v)::r,a=>if a=k then some v else kQ r a
def GA:P0->aw->Mn->P0
 | [],a,v=>[(a,v)]|(k,u)::r,a,v=>if a=k then(k,v)::r else(k,u)::GA r a v
theorem wO(a:aw):∀l:P0,aL (dn l) a=(kQ l a).map Mn.val
 | []=>rfl|(k,v)::r=>by show (if a=k then some v.val else aL (dn r) a)=(if a=k then some v else kQ r a).map Mn.val;split;rfl;exact wO a r
theorem Ej(a:aw)(v:Mn):∀l:P0,cD (dn l) a v.val=dn (GA l a v)
 | []=>rfl|(k,u)::r=>by show (if a=k then(k,v.val)::dn r else(k,u.val)::cD (dn r) a v.val)=dn (if a=k then(k,v)::r else(k,u)::GA r a v);split;rfl;rw[Ej a v r];rfl
def yN(l:P0)(a:aw):Mn:=(kQ l a).getD apb
theorem zp(a:aw)(l:P0):Option.getD (aL (dn l) a) rU=(yN l a).val:=by rw[wO,yN];cases kQ l a<;>rfl
theorem r8(a:aw)(l:P0):Option.isSome (aL (dn l) a)=(kQ l a).isSome:=by rw[wO];cases kQ l a<;>rfl
structure wP where
 name:aw
 left:Tm
 right:Tm
structure GB where
 kind:Int
 num:Int
 left:Tm
 right:Tm
 X5:Int
structure Mk where
 aJ:List aw
 consts:List (aw×Ty)
 aO:List aw
 types:List Ty
 eqs:List wP
 rules:List wP
 prec:List (Int×Int)
 status:List (Int×Int)
 bN:List GB
 words:P0
 fault:Fa
def Kk:Mk:=⟨[],[],[],[],[],[],[],[],[],[],pU⟩
def akG:wP:=⟨⟨#[]⟩,dj,dj⟩
def fg(m:Mk):Bool:=m.fault.1==0
section
variable (s:aw)
def x7(c a:Int)(m:Mk):Mk:=if fg m=true then { m with fault:=M6 s c a.toNat (Ga (s.extract a.toNat s.size)) } else m
def cF(b:Bool)(c a:Int)(m:Mk):Mk:=if b=true then m else x7 s c a m
def x8(w:aw)(x:Mn)(m:Mk):Mk:=if fg m=true then { m with words:=GA m.words w x } else m
def fW(w:aw)(x:Mn)(a:Int)(m:Mk):Mk:=x8 w x (cF s (!(kQ m.words w).isSome) 4 a m)
def BS(m:Mk)(w:aw):Bool:=(kQ m.words w).isSome&&(yN m.words w).base
def BT(m:Mk)(w:aw):Bool:=(kQ m.words w).isSome&&!(yN m.words w).base
def isConst(m:Mk)(w:aw):Bool:=(kQ m.words w).isSome&&(!(yN m.words w).base&&(yN m.words w).kind==1)
def R2(a b:Ty):Ty:=.mk (a::b.args) b.base
def dG:Nat->Nd->Mk->Ty×Mk
 |0,_,m=>(kO,m)|f+1,n,m=>if n.kind=1 then(.mk [] (yN m.words n.word).idx,cF s (BS m n.word) 4 n.at_ m)
  else match n.kids with
   |x::y::_=>(R2 (dG f x m).1 (dG f y (dG f x m).2).1,(dG f y (dG f x m).2).2)
   |_=>(kO,m)
def vp(n:Nd)(r:Ty×Mk):Mk:=if fg r.2=true then cF s (r.1.bH r.2.aJ.length) 2 n.at_ r.2 else r.2
def jx(n:Nd)(m:Mk):Ty×Mk:=(if fg (vp s n (dG s n.size n m))=true then(dG s n.size n m).1 else kO,vp s n (dG s n.size n m))
def Kl(w:aw)(l:List aw):Nat->Option Nat
 |0=>none|k+1=>if l.getD k ⟨#[]⟩=w then some (l.length-1-k)else Kl w l k
def vq(n:Nd)(bound:List aw)(m:Mk):Rw×Mk:=
 match Kl n.word bound bound.length with
 |some j=>(jO 0 (j:Int),m)
 |none=>(jO (yN m.words n.word).kind (yN m.words n.word).idx,cF s (BT m n.word) 4 n.at_ m)
def fH:Nat->Nd->List aw->Mk->Rw×Mk
 |0,_,_,m=>(jO 0 0,m)|f+1,n,bound,m=>if fg m=false then(jO 0 0,m)
  else if n.kind=1 then vq s n bound m
  else match n.kids with
   |x::y::_=>if n.kind=3 then(.mk 3 (jx s x m).1 0 [(fH f y (bound++[n.word]) (jx s x m).2).1],(fH f y (bound++[n.word]) (jx s x m).2).2)
    else(.mk 4 kO 0 [(fH f x bound m).1,(fH f y bound (fH f x bound m).2).1],(fH f y bound (fH f x bound m).2).2)
   |_=>(jO 0 0,m)
def cT(m:Mk):List Ty:=m.consts.map (·.2)
def R3(m:Mk)(r:Rw):Int:=if(r.inf m.aJ.length (cT m) m.types []).2=1 then 2 else(r.inf m.aJ.length (cT m) m.types []).2
def kX(m:Mk)(r:Rw):Tm×Int:=if R3 m r=0 then((gV m.aJ.length (cT m) m.types [] r 100000).2,(gV m.aJ.length (cT m) m.types [] r 100000).1.err)else(dj,R3 m r)
def x9(n:Nd)(r:Rw×Mk):(Tm×Ty)×Mk:=if fg r.2=true then(((kX r.2 r.1).1,(r.1.inf r.2.aJ.length (cT r.2) r.2.types []).1),cF s ((kX r.2 r.1).2==0) (kX r.2 r.1).2 n.at_ r.2)else((dj,kO),r.2)
def dH(n:Nd)(m:Mk):(Tm×Ty)×Mk:=x9 s n (fH s n.size n [] m)
def akH(x y:Nd)(base:Bool)(a b:Tm×Ty)(m:Mk):Mk:=cF s (a.2.same b.2) 5 y.at_ (cF s (!base||a.2.args.length==0) 5 x.at_ m)
def kD(x y:Nd)(base:Bool)(m:Mk):(Tm×Tm)×Mk:=(((dH s x m).1.1,(dH s y (dH s x m).2).1.1),akH s x y base (dH s x m).1 (dH s y (dH s x m).2).1 (dH s y (dH s x m).2).2)
def np(n:Nat)(a:Int)(m:Mk):Mk:=cF s (decide ((n:Int)<200)) 2 a m
def gi(w:aw)(l:List wP):Bool:=l.any λe=>decide (e.name=w)
def X6(t:Tm):Bool:=(t.uses [] []).isSome
def eqF(x:It)(r:(Tm×Tm)×Mk):Mk:=if fg r.2=true then cF s (X6 r.1.1||(x.kind==4&&X6 r.1.2)) 6 x.at_ r.2 else r.2
def ek(x:It)(k:Nat):aw:=x.words.getD k ⟨#[]⟩
def dV(x:It)(k:Nat):Nd:=x.nodes.getD k xN
def eqG(x:It)(m:Mk):wP×Mk:=if fg m=true then(⟨ek x 0,(kD s (dV x 0) (dV x 1) true m).1.1,(kD s (dV x 0) (dV x 1) true m).1.2⟩,eqF s x (kD s (dV x 0) (dV x 1) true m))else(akG,m)
def Cv(x:It)(m:Mk):wP×Mk:=eqG s x (cF s (!(gi (ek x 0) m.eqs)&&!(gi (ek x 0) m.rules)) 4 x.at_ m)
def eX(w:aw)(a:Int)(m:Mk):Int×Mk:=((yN m.words w).idx,cF s (isConst m w) 4 a m)
def dS(a:Int):List aw->Mk->List Int×Mk
 | [],m=>([],m)|w::l,m=>((eX s w a m).1::(dS a l (eX s w a m).2).1,(dS a l (eX s w a m).2).2)
def fz:List Int->List (Int×Int)
 |a::b::l=>(a,b)::fz (b::l)|_=>[]
def Ni(l:List Int)(a:Int)(m:Mk):Mk:=cF s (!(l.any λc=>nL m.prec c c)) 8 a m
def GC(l:List Int)(a:Int)(m:Mk):Mk:=if fg m=true then Ni s l a { m with prec:=m.prec++fz l } else m
def BU(x:It)(m:Mk):Mk:=GC s (dS s x.at_ x.words m).1 x.at_ (cF s (decide (((dS s x.at_ x.words m).1.length:Int)-1<=200-((dS s x.at_ x.words m).2.prec.length:Int))) 2 x.at_ (dS s x.at_ x.words m).2)
abbrev X7:aw:=⟨#[108,101,120]⟩
abbrev X8:aw:=⟨#[109,117,108]⟩
def ya(w:aw):Int:=sD w [X7,X8] 0
def P3(x:It)(c:Int)(m:Mk):Mk:={ cF s (decide (ya (ek x 1)>=0)) 3 x.at_ m with status:=m.status++[(c,ya (ek x 1))] }
def Ek(x:It)(m:Mk):Mk:=P3 s x (eX s (ek x 0) x.at_ m).1 (cF s (!((eX s (ek x 0) x.at_ m).2.status.any λp=>p.1==(eX s (ek x 0) x.at_ m).1)) 4 x.at_ (eX s (ek x 0) x.at_ m).2)
def mP(w:aw):List wP->Nat->Int
 | [],_ => -1|e::l,k=>if e.name=w then(k:Int)else mP w l (k+1)
def BV(c:GB)(m:Mk):Mk:={ m with bN:=m.bN++[c] }
def X9(x:It)(m:Mk):Mk:=
 if fg m=false then m
 else if x.kind=9 then BV ⟨x.kind,x.num,(dH s (dV x 0) m).1.1,dj,0⟩ (dH s (dV x 0) m).2
 else if x.kind=10 then BV ⟨x.kind,x.num,(kD s (dV x 0) (dV x 1) false m).1.1,(kD s (dV x 0) (dV x 1) false m).1.2,0⟩ (kD s (dV x 0) (dV x 1) false m).2
 else if x.kind=12 then BV ⟨x.kind,x.num,dj,dj,mP (ek x 0) m.eqs 0⟩ (cF s (decide (mP (ek x 0) m.eqs 0>=0)) 4 x.at_ m)
 else BV ⟨x.kind,x.num,dj,dj,0⟩ m
def Ya(x:It)(m:Mk):Mk:=X9 s x (np s m.bN.length x.at_ m)
def Km(w:aw)(m:Mk):Mk:={ m with aJ:=m.aJ++[w] }
def nU(a:Int):List aw->Mk->Mk
 | [],m=>m|w::l,m=>nU a l (Km w (fW s w ⟨true,0,m.aJ.length⟩ a m))
def GD(x:It)(m:Mk):Mk:=if fg m=true then { (jx s (dV x 0) m).2 with consts:=m.consts++[(ek x 0,(jx s (dV x 0) m).1)] } else m
def acG(x:It)(m:Mk):Mk:=if fg m=true then { (jx s (dV x 0) { m with aO:=m.aO++[ek x 0] }).2 with types:=m.types++[(jx s (dV x 0) { m with aO:=m.aO++[ek x 0] }).1] } else m
def eqP(x:It)(m:Mk):Mk:=if fg m=true then { (Cv s x m).2 with eqs:=m.eqs++[(Cv s x m).1] } else m
def P4(x:It)(m:Mk):Mk:=if fg m=true then { (Cv s x m).2 with rules:=m.rules++[(Cv s x m).1] } else m
def nq(x:It)(m:Mk):Mk:=
 if x.kind=1 then nU s x.at_ x.words m
 else if x.kind=2 then GD s x (fW s (ek x 0) ⟨false,1,m.consts.length⟩ x.at_ m)
 else if x.kind=3 then acG s x (fW s (ek x 0) ⟨false,2,m.aO.length⟩ x.at_ m)
 else if x.kind=4 then eqP s x (np s m.eqs.length x.at_ m)
 else if x.kind=5 then P4 s x (np s m.rules.length x.at_ m)
 else if x.kind=6 then BU s x m
 else if x.kind=7 then Ek s x m
 else Ya s x m
def mI:List It->Mk->Mk
 | [],m=>m|x::l,m=>if fg (nq s x m)=true then mI l (nq s x m)else nq s x m
end
def acH(m:Mk):Mk×Fa:=if fg m=true then(m,pU)else(Kk,m.fault)
def kE(s:aw):Mk×Fa:=if(dO s).2.1=0 then acH (mI s (dO s).1 Kk)else(Kk,(dO s).2)
end
end Go.Proofs.YthnnplohnceogaaGreatDoor
