/- Lemmas. -/
import Derived.Tactics
import Derived.Tactics2
import Derived.Defers
import Derived.Laws.Pointers
import Derived.Laws.LoneSync
import Derived.RegionTactic
import Derived.RegionCalls
import Derived.ChangeAlike
import Derived.TacticsInMore
import Derived.RegionIn
import Derived.LoopNIn
import Derived.RecoverIn
import Derived.Shelf.Small.Strs
import Derived.KernelRfl
import Derived.Test.YthnnplohnceogaaGreatDoorQS1
import Derived.Test.YthnnplohnceogaaGreatDoorQ18
namespace Go.Proofs.YthnnplohnceogaaGreatDoor
open Go
open Go.Proofs.Tryz
open _root_.List renaming length->ab,getD->ae
open _root_.Int renaming toNat->af
open Go.IntKind renaming wrap->ag
open _root_.ByteArray renaming size->ah
open _root_.True renaming intro->ai
open Go.Proofs.Tryz renaming prog->aj
open _root_.Option renaming getD->ak
set_option linter.unusedSimpArgs false
set_option linter.unusedVariables false
set_option maxRecDepth 100000
open Go Go.Shelf
@[simp] theorem alr (f:FuncId):Fence.wide.fn f=True:=rfl
@[simp] theorem afs:Fence.wide.depth=none:=rfl
set_option maxHeartbeats 1600000
theorem vc(w:World):(callFunc 252 #[]).run aj w=.ok (.value (.tuple #[])) w:=run_call_mark0 func252 (by kernel_rfl) (by kernel_rfl) (by kernel_rfl) .disable (by kernel_rfl) w
theorem xU(w:World):(callFunc 254 #[]).run aj w=.ok (.value (.tuple #[])) w:=run_call_mark0 func254 (by kernel_rfl) (by kernel_rfl) (by kernel_rfl) .enable (by kernel_rfl) w
theorem F4(a:Addr)(w:World):(callFunc 255 #[.pointer (some a)]).run aj w=.ok (.value (.tuple #[])) w:=run_call_marked func255 (by kernel_rfl) (by kernel_rfl) (by kernel_rfl) .acquire (by kernel_rfl) a w
theorem F5(a:Addr)(w:World):(callFunc 257 #[.pointer (some a)]).run aj w=.ok (.value (.tuple #[])) w:=run_call_marked func257 (by kernel_rfl) (by kernel_rfl) (by kernel_rfl) .releaseMerge (by kernel_rfl) a w
theorem Bp(a:Addr)(x:Value)(u:FrameMode)(w:World)(hc:w.cell? a=some x)(hz:w.frozen? a=false): CallsDIn Fence.wide 0 aj 241 #[.pointer (some a),.bool true] u w λe u' w'=>u'=u/\(e=.returned (.tuple #[])/\w'=w.drew.setCell a (.int .u32 1)):=by (have Nz:w.drew.cell? a=some x:=by go_simp);(have Sz:w.drew.frozen? a=false:=by go_simp);have vR:=run_call_store (P:=aj) func246 (by kernel_rfl) (by kernel_rfl) (by kernel_rfl) (by kernel_rfl) (k:=.u32) (y:=1) Nz Sz;gi_enter_d func241,Tryz.ntmps241;gi_wp2;gi_region;all_goals (go_end0;exact⟨rfl,rfl⟩)
theorem MQ(a:Addr)(w:World)(hc:w.cell? a=some (.int .i32 0))(hz:w.frozen? a=false): CallsIn Fence.wide 0 aj 250 #[.pointer (some a)] w λe w'=>e=.returned (.tuple #[])/\w'=w.setCell a (.int .i32 1):=by have hd:=vc;have he:=xU;have ha:=F4;have asu:=run_call_cas_hit (P:=aj) func253 (by kernel_rfl) (by kernel_rfl) (by kernel_rfl) .i32 (by kernel_rfl) (y:=1) hc hz;have Nz:(w.setCell a (.int .i32 1)).cell? a=some (.int .i32 1):=World.cell?_setCell_same w a _ hc;have YB:=run_convert_to_unsafe (P:=aj) (src:=356) (dst:=266) Tryz.underlying356 Tryz.underlying266 (by kernel_rfl) Nz;gi_enter func250,Tryz.ntmps250;gi_wp2;(first|go_end0|(simp only[Exit.inBlock,Exit.then];refine bodyPost_ret (results_none rfl _ _ _) rfl ?_)|refine bodyPost_ret (results_none rfl _ _ _) rfl ?_);all_goals (first|exact⟨rfl,rfl⟩|(gi_wp2;go_end0;exact⟨rfl,rfl⟩))
theorem Rr(a:Addr)(w:World)(hc:w.cell? a=some (.int .i32 0))(hz:w.frozen? a=false): CallsIn Fence.wide 0 aj 248 #[.pointer (some a)] w λe w'=>e=.returned (.tuple #[])/\w'=w.setCell a (.int .i32 1):=by gi_enter func248,Tryz.ntmps248;gi_wp2_with (gi_at_call 250;refine(MQ a _ hc hz).mono ?_;rintro e w' ⟨rfl,rfl⟩);go_end0;exact⟨rfl,rfl⟩
theorem F6(a:Addr)(w:World)(hc:w.cell? a=some (.int .i32 1))(hz:w.frozen? a=false): CallsIn Fence.wide 0 aj 251 #[.pointer (some a)] w λe w'=>e=.returned (.tuple #[])/\w'=w.setCell a (.int .i32 0):=by have hd:=vc;have he:=xU;have hr:=F5;have asv:=run_call_add (P:=aj) func258 (by kernel_rfl) (by kernel_rfl) (by kernel_rfl) .i32 (by kernel_rfl) (y := -1) (s:=0) hc hz (by simp[go_sem];rfl);have YB:=run_convert_to_unsafe (P:=aj) (src:=356) (dst:=266) Tryz.underlying356 Tryz.underlying266 (by kernel_rfl) hc;gi_enter func251,Tryz.ntmps251;gi_wp2;all_goals (first|exact⟨rfl,rfl⟩|(go_end0;exact⟨rfl,rfl⟩))
theorem yM(a:Addr)(u:FrameMode)(w:World)(hc:w.cell? a=some (.int .i32 1))(hz:w.frozen? a=false): CallsDIn Fence.wide 0 aj 249 #[.pointer (some a)] u w λe u' w'=>u'=u/\(e=.returned (.tuple #[])/\w'=w.setCell a (.int .i32 0)):=by gi_enter_d func249,Tryz.ntmps249;gi_wp2_with (gi_at_call 251;refine(F6 a _ hc hz).mono ?_;rintro e w' ⟨rfl,rfl⟩);go_end0;exact⟨rfl,rfl⟩
theorem Rs(a:Addr)(x:Value)(w:World)(hc:w.cell? a=some x)(hz:w.frozen? a=false): CallsIn Fence.wide 0 aj 241 #[.pointer (some a),.bool true] w λe w'=>e=.returned (.tuple #[])/\w'=w.drew.setCell a (.int .u32 1):=by (have Nz:w.drew.cell? a=some x:=by go_simp);(have Sz:w.drew.frozen? a=false:=by go_simp);have vR:=run_call_store (P:=aj) func246 (by kernel_rfl) (by kernel_rfl) (by kernel_rfl) (by kernel_rfl) (k:=.u32) (y:=1) Nz Sz;gi_enter func241,Tryz.ntmps241;gi_wp2;gi_region;all_goals (go_end0;exact⟨rfl,rfl⟩)
theorem Xt(b off:Nat)(pl:Addr)(x5:Value)(w:World)(hp:w.cell? pl=some (.pointer (some ⟨b,off,none⟩)))(h5:w.cell? ⟨b,off+5,none⟩=some x5)(f5:w.frozen? ⟨b,off+5,none⟩=false): CallsIn Fence.wide 0 aj 240 #[.pointer (some pl)] w λe w'=>e=.returned (.tuple #[])/\w'=w.drew.setCell ⟨b,off+5,none⟩ (.int .u32 1):=by gi_enter func240,Tryz.ntmps240;gi_wp2_with (gi_at_call 241;refine(Rs ⟨b,off+5,none⟩ x5 _ h5 f5).mono ?_;rintro e w' ⟨rfl,rfl⟩);go_end0;exact⟨rfl,rfl⟩
theorem wD(a:Addr)(d:Int)(w:World)(hc:w.cell? a=some (.int .u32 d)): CallsIn Fence.wide 0 aj 236 #[.pointer (some a)] w λe w'=>e=.returned (.bool (d != 0))/\w'=w:=by have hl:=run_call_load (P:=aj) func242 (by kernel_rfl) (by kernel_rfl) (by kernel_rfl) .u32 (by kernel_rfl) hc;gi_enter func236,Tryz.ntmps236;gi_wp2;go_ret;exact⟨rfl,rfl⟩
theorem Xu(b off:Nat)(pl:Addr)(hpb:¬b=pl.block)(x5:Value)(w:World)(hp:w.cell? pl=some (.pointer (some ⟨b,off,none⟩)))(h2:w.cell? ⟨b,off+2,none⟩=some (.int .u32 0))(h3:w.cell? ⟨b,off+3,none⟩=some (.int .i32 0))(h5:w.cell? ⟨b,off+5,none⟩=some x5)(f2:w.frozen? ⟨b,off+2,none⟩=false)(f3:w.frozen? ⟨b,off+3,none⟩=false)(f5:w.frozen? ⟨b,off+5,none⟩=false): CallsIn Fence.wide 0 aj 245 #[.pointer (some ⟨b,off+2,none⟩),.func (.func 240) #[] #[.pointer (some pl)]] w λe w'=>e=.returned (.tuple #[])/\ w'=(((w.setCell ⟨b,off+3,none⟩ (.int .i32 1)).drew.setCell ⟨b,off+5,none⟩ (.int .u32 1)).drew.setCell ⟨b,off+2,none⟩ (.int .u32 1)).setCell ⟨b,off+3,none⟩ (.int .i32 0):=by (have h21:(w.setCell ⟨b,off+3,none⟩ (.int .i32 1)).cell? ⟨b,off+2,none⟩=some (.int .u32 0):=((World.cell?_setCell_other _ ⟨b,off+3,none⟩ ⟨b,off+2,none⟩ _ (by simp)).trans h2);have kX:(w.setCell ⟨b,off+3,none⟩ (.int .i32 1)).cell? pl=some (.pointer (some ⟨b,off,none⟩)):=(World.cell?_setCell_other _ ⟨b,off+3,none⟩ pl _ (λh=>hpb (by rw[<-h]))).trans hp;have h51:(w.setCell ⟨b,off+3,none⟩ (.int .i32 1)).cell? ⟨b,off+5,none⟩=some x5:=(World.cell?_setCell_other _ ⟨b,off+3,none⟩ ⟨b,off+5,none⟩ _ (by simp)).trans h5;have f51:(w.setCell ⟨b,off+3,none⟩ (.int .i32 1)).frozen? ⟨b,off+5,none⟩=false:=by simp[f5]);have ake:∀(x:Bool)(w:World),(Op.unary .not (.bool x)).run aj w=.ok (.bool (!x)) w:=λ_ _=>rfl;gi_enter_defers func245,Tryz.ntmps245;gi_wp2_with (first|(gi_at_call 236;refine(wD ⟨b,off+2,none⟩ 0 _ h21).mono ?_;rintro e w' ⟨rfl,rfl⟩)|(gi_at_call 248;refine(Rr ⟨b,off+3,none⟩ _ (by go_simp) (by go_simp)).mono ?_;rintro e w' ⟨rfl,rfl⟩)|(gi_at_call 240;refine(Xt b off pl x5 _ kX h51 f51).mono ?_;rintro e w' ⟨rfl,rfl⟩));refine leavesIn_cons (f:=241) (args:=#[.pointer (some ⟨b,off+2,none⟩),.bool true]) (by simp) (by simp) (by simp[go_sem]) (by simp[Target.leads]) ?_;refine(Bp ⟨b,off+2,none⟩ (.int .u32 0) .returning _ ?_ (by simp[f2])).mono ?_;rw[World.cell?_drew];exact(World.cell?_setCell_other _ ⟨b,off+5,none⟩ ⟨b,off+2,none⟩ _ (by simp)).trans ((World.cell?_setCell_other _ ⟨b,off+3,none⟩ ⟨b,off+2,none⟩ _ (by simp)).trans h2);rintro e u' w'' ⟨rfl,rfl,rfl⟩;refine leavesIn_cons (f:=249) (args:=#[.pointer (some ⟨b,off+3,none⟩)]) (by simp[settle]) (by simp) (by simp[go_sem]) (by simp[Target.leads]) ?_;refine(yM ⟨b,off+3,none⟩ _ _ ?_ (by simp[f3])).mono ?_;refine(World.cell?_setCell_other _ ⟨b,off+2,none⟩ ⟨b,off+3,none⟩ _ (by simp)).trans ?_;rw[World.cell?_drew,World.cell?_drew];refine(World.cell?_setCell_other _ ⟨b,off+5,none⟩ ⟨b,off+3,none⟩ _ (by simp)).trans ?_;exact World.cell?_setCell_same w _ _ h3;rintro e u' w'' ⟨rfl,rfl,rfl⟩;simp[LeavesIn,settle,results,Tryz.results245];go_simp
set_option maxRecDepth 100000 in
set_option maxHeartbeats 1600000 in
theorem MS(b off:Nat)(pl:Addr)(hpb:¬b=pl.block)(x5:Value)(w:World)(hp:w.cell? pl=some (.pointer (some ⟨b,off,none⟩)))(h2:w.cell? ⟨b,off+2,none⟩=some (.int .u32 0))(h3:w.cell? ⟨b,off+3,none⟩=some (.int .i32 0))(h5:w.cell? ⟨b,off+5,none⟩=some x5)(f2:w.frozen? ⟨b,off+2,none⟩=false)(f3:w.frozen? ⟨b,off+3,none⟩=false)(f5:w.frozen? ⟨b,off+5,none⟩=false): CallsIn Fence.wide 0 aj 239 #[.pointer (some ⟨b,off+2,none⟩),.func (.func 240) #[] #[.pointer (some pl)]] w λe w'=>e=.returned (.tuple #[])/\ w'=(((w.setCell ⟨b,off+3,none⟩ (.int .i32 1)).drew.setCell ⟨b,off+5,none⟩ (.int .u32 1)).drew.setCell ⟨b,off+2,none⟩ (.int .u32 1)).setCell ⟨b,off+3,none⟩ (.int .i32 0):=by have ake:∀(x:Bool)(w:World),(Op.unary .not (.bool x)).run aj w=.ok (.bool (!x)) w:=λ_ _=>rfl;gi_enter func239,Tryz.ntmps239;gi_wp2_with (first|(gi_at_call 236;refine(wD ⟨b,off+2,none⟩ 0 _ h2).mono ?_;rintro e w' ⟨rfl,rfl⟩)|(gi_at_call 245;refine(Xu b off pl hpb x5 _ hp h2 h3 h5 f2 f3 f5).mono ?_;rintro e w' ⟨rfl,rfl⟩));go_end0;exact⟨rfl,rfl⟩
theorem MT(a:Addr)(d:Int)(hd:¬d=0)(fv:Value)(w:World)(h0:w.cell? a=some (.int .u32 d)): CallsIn Fence.wide 0 aj 239 #[.pointer (some a),fv] w λe w'=>e=.returned (.tuple #[])/\w'=w:=by (have ake:∀(x:Bool)(w:World),(Op.unary .not (.bool x)).run aj w=.ok (.bool (!x)) w:=λ_ _=>rfl;have fj:(d != 0)=true:=by simp[hd]);gi_enter func239,Tryz.ntmps239;gi_wp2_with (gi_at_call 236;refine(wD a d _ h0).mono ?_;rintro e w' ⟨rfl,rfl⟩);go_end0;exact⟨rfl,rfl⟩
section
set_option maxHeartbeats 1600000
variable {w w' w1 w2:World} {F:Nat->Nat->Prop} {η bj oT Ck:List Value} {hp hp' kX yY:List ax} {r r1 r2:AV} {v v1 v2:Value}
theorem jf{u v:Value}(h:bq w F η hp (.ay u) v):v=u:=by cases h;rfl
end
theorem Rt{w w':World}{F:Nat->Nat->Prop}{e z:Nat}{els gU cs eJ:List AV}{v0:Value}{b:Nat}(bA:qM w F [v0,.pointer (some ⟨b,0,none⟩)] [.aV e z els,.box cs])(hlen:gU.length=els.length)(hk:cy (λk=>dn v0=some k\/k=b) w w')(oY:Ext w F [v0,.pointer (some ⟨b,0,none⟩)] [.aV e z els,.box cs] w' (dc F w [v0,.pointer (some ⟨b,0,none⟩)] [.aV e z els,.box cs] w' [v0,.pointer (some ⟨b,0,none⟩)] [.aV e z gU,.box eJ]) [v0,.pointer (some ⟨b,0,none⟩)] [.aV e z gU,.box eJ]-> (∀k o,w.heap.size<=k->k<w'.heap.size->dc F w [v0,.pointer (some ⟨b,0,none⟩)] [.aV e z els,.box cs] w' [v0,.pointer (some ⟨b,0,none⟩)] [.aV e z gU,.box eJ] k o)-> iL w' (dc F w [v0,.pointer (some ⟨b,0,none⟩)] [.aV e z els,.box cs] w' [v0,.pointer (some ⟨b,0,none⟩)] [.aV e z gU,.box eJ]) [v0,.pointer (some ⟨b,0,none⟩)] [.aV e z gU,.box eJ] (.aV e z gU) v0/\ iL w' (dc F w [v0,.pointer (some ⟨b,0,none⟩)] [.aV e z els,.box cs] w' [v0,.pointer (some ⟨b,0,none⟩)] [.aV e z gU,.box eJ]) [v0,.pointer (some ⟨b,0,none⟩)] [.aV e z gU,.box eJ] (.box eJ) (.pointer (some ⟨b,0,none⟩))): mg w F [v0,.pointer (some ⟨b,0,none⟩)] [.aV e z els,.box cs] w' [v0,.pointer (some ⟨b,0,none⟩)] [.aV e z gU,.box eJ] (.aG []) (.tuple #[]):=by (have Xv:∀k,dn v0=some k->aS [v0,.pointer (some ⟨b,0,none⟩)] [.aV e z els,.box cs] k:=λk h=>⟨0,_,_,rfl,ai,rfl,h⟩;have mm:aS [v0,.pointer (some ⟨b,0,none⟩)] [.aV e z els,.box cs] b:=⟨1,_,_,rfl,ai,rfl,rfl⟩;have lt0:∀k,dn v0=some k->k<w.heap.size:=λk h=>bA.live k (Xv k h);have NI:b<w.heap.size:=bA.live b mm;have aF:∀k o,F k o->k<w.heap.size/\¬(dn v0=some k\/k=b):=λk o hf=>⟨(bA.bD k o hf).1,λh=>h.elim (λh=>(bA.bD k o hf).2 0 _ rfl h) λh=>(bA.bD k o hf).2 1 _ rfl (by rw[h];rfl)⟩;have Xw:∀k o,(dn v0=some k->False)->(k=b->False)->ka [v0,.pointer (some ⟨b,0,none⟩)] [.aV e z gU,.box eJ] k o:=λk o h0 h1 r u e1 e2=>by match r,e1 with|0,e1=>cases e1;exact(h0 e2).elim|1,e1=>cases e1;exact(h1 (by simp only[dn,aul]at e2;exact e2.symm)).elim);have iM:∀k o,F k o->dc F w [v0,.pointer (some ⟨b,0,none⟩)] [.aV e z els,.box cs] w' [v0,.pointer (some ⟨b,0,none⟩)] [.aV e z gU,.box eJ] k o:=λk o hf=> ⟨.inl hf,auK (aF k o hf).1 hk.size,Xw k o (λh=>(aF k o hf).2 (.inl h)) λh=>(aF k o hf).2 (.inr h)⟩;have su:∀k o,w.heap.size<=k->k<w'.heap.size->dc F w [v0,.pointer (some ⟨b,0,none⟩)] [.aV e z els,.box cs] w' [v0,.pointer (some ⟨b,0,none⟩)] [.aV e z gU,.box eJ] k o:=λk o h1 h2=> ⟨.inr (.inl h1),h2,Xw k o (λh=>by have:=lt0 k h;omega) λh=>by omega⟩;(have eF:Ext w F [v0,.pointer (some ⟨b,0,none⟩)] [.aV e z els,.box cs] w' (dc F w [v0,.pointer (some ⟨b,0,none⟩)] [.aV e z els,.box cs] w' [v0,.pointer (some ⟨b,0,none⟩)] [.aV e z gU,.box eJ]) [v0,.pointer (some ⟨b,0,none⟩)] [.aV e z gU,.box eJ]:=by refine⟨λk o u hf hc=>?_,λk es c hf hc=>?_,iM,λr a h=>h,λr a h=>h,λr n u h=>?_⟩;simp only[World.cell?]at hc ⊢;rw[hk.block k (aF k o hf).1 (aF k o hf).2];exact hc;rw[hk.block k (aF k 0 hf).1 (aF k 0 hf).2];exact hc;match r,h with|0,h=>unfold bk at h ⊢;simp only[avn]at h ⊢;rw[hlen];exact h|1,h=>exact h.elim|r+2,h=>exact h.elim);obtain⟨o0,o1⟩:=oY eF su;refine⟨⟨hk.os,hk.tape,hk.output,hk.size,λk h1 h2=>hk.block k h1 λh=>h2 (h.elim (Xv k) λh=>h▸mm)⟩,eF,⟨rfl,λr o u h1 h2=>?_,λr r' o o' u u' k bW h1 h2 l1 l2 e1 e2 hb=>?_⟩,λk ⟨r,o,u,h1,h2,h3,h4⟩=>?_,.aG [] #[] rfl λj y u hy _=>by cases hy⟩;(match r,h1,h2 with|0,h1,h2=>cases h1;cases h2;exact o0|1,h1,h2=>cases h1;cases h2;exact o1);have:=λe1 e2=>bA.heap.sep 0 1 (.aV e z els) (.box cs) v0 (.pointer (some ⟨b,0,none⟩)) k (by decide) rfl rfl ai ai rfl rfl e1 e2;(match r,r',h1,h2 with|0,0,_,_=>exact(bW rfl).elim|1,1,_,_=>exact(bW rfl).elim|0,1,_,_=>cases e1;cases e2;exact λh=>this hb h|1,0,_,_=>cases e1;cases e2;exact λh=>this h hb);match r,h1,h3 with|0,_,h3=>cases h3;exact .inr (Xv k h4)|1,_,h3=>cases h3;simp only[dn,aul]at h4;exact .inr (h4▸mm)
section
section
variable {w w1 w':World} {F F':Nat->Nat->Prop} {η:List Value} {hp:List ax}
theorem zn{l:List AV}{v:Value}(h:bq w F η hp (.sl l) v):bq w F [] [] (.sl l) v:=by cases h with|mV a=>exact .mV a|sl size els b o c f hc hm hl aT hr=>exact .sl size l b o c f hc hm hl aT hr
theorem rD{l:List AV}{v:Value}(h:bq w F η hp (.sl l) v):∃p n c,v=.slice p n c:=by cases h with|mV a=>exact⟨_,_,_,rfl⟩|sl size els b o c f hc hm hl aT hr=>exact⟨_,_,_,rfl⟩
theorem XD{cs:List AV}{v:Value}(h:bq w F η hp (.agg cs) v)(hd:∀x∈cs,∀u,bq w F η hp x u->bq w F [] [] x u):bq w F [] [] (.agg cs) v:=by cases h with|agg _ vs hl h1 hr=>exact .agg cs vs hl h1 λj x u hx hu=>hd x (auu hx) u (hr j x u hx hu)
theorem Ry{u v:Value}(h:bq w F η hp (.ay u) v):bq w F [] [] (.ay u) v:=by cases h;exact .ay _
theorem DZ{f:FuncId}{args:List AV}{n:Nd}{er:Int}{vals:List Value}{X:Nat->Prop}(h:az aj f args (.aG [dZ n,nI er]))(hF:∀b o,F b o->b<w.heap.size)(hg:oW w)(hv:cC w F [] [] args vals)(hk:cy X w w1)(hX:∀b o,F b o->¬X b)(hXg:∀b,lU b->¬X b): Calls aj f vals.toArray w1 λr w2=>(∃x0 x1 x2 x3 x4 x5,r=.returned (.tuple #[.agg #[.int .i64 x0,.string x1,.int .i64 x2,.slice x3 x4 x5],.int .i64 er]))/\w1.Since w1.heap.size w2:=by have hb:∀b o,F b o->w1.heap[b]?=w.heap[b]?:=λb o hf=>hk.block b (hF b o hf) (hX b o hf);have e:Ext w F [] [] w1 F [] []:=⟨λb o v hf hc=>by simp only[World.cell?]at hc ⊢;rw[hb b o hf];exact hc,λb es c hf hc=>by rw[hb b 0 hf];exact hc,λ_ _ hf=>hf,λ_ _ h=>h,λ_ _ h=>h,λ_ _ _ h=>h⟩;refine callsIn_wide.1 ((h.2 w1 F vals (λb o hf=>auK (hF b o hf) hk.size) (hg.keeps hk hXg) (hv.ext e)).mono ?_);rintro q w2 ⟨v,r,rfl,rfl,hs,hr⟩;refine⟨?_,hs.os,hs.tape,hs.output,hs.size,hs.block⟩;cases hr with|aG _ vs hl hr=>match vs,hl with|⟨[u0,u1]⟩,_=>have r0:=hr 0 _ u0 rfl rfl;have r1:=jf (hr 1 _ u1 rfl rfl);subst r1;cases r0 with|agg _ us sS _ oU=>match us,sS with|⟨[a0,a1,a2,a3]⟩,_=>have p0:=jf (oU 0 _ a0 rfl rfl);have p1:=jf (oU 1 _ a1 rfl rfl);have p2:=jf (oU 2 _ a2 rfl rfl);obtain⟨p,k,c,rfl⟩:=rD (oU 3 _ a3 rfl rfl);subst p0;subst p1;subst p2;exact⟨_,_,_,_,_,_,rfl⟩
end
abbrev nR(k:Int)(ws:List AV)(x:AV)(m a:Int):AV:=.agg [nI k,.sl ws,x,nI m,nI a]
theorem JK{w:World}{F:Nat->Nat->Prop}{η:List Value}{li n0 n1 n2 ws:List AV}{k m a le:Int}(bA:qM w F η (fB (li++[nR k ws (.clip []) m a]) n0 n1 n2 le)): ∃b g c T cur x0 x1 x2 ad,η=[.slice (some ⟨g,0,none⟩) (li.length+1) c,.pointer (some ⟨b,0,none⟩)]/\b≠g/\0<c/\li.length+1<=c/\c<=maxLen/\cur.size=c*5/\ w.heap[b]?=some (.cells #[x0,x1,x2,.slice (some ⟨g,0,none⟩) (li.length+1) c,.int .i64 le] T (0,0))/\w.heap[g]?=some (.cells cur 47 (0,0))/\cur[li.length*5+2]?=some (.slice ad 0 0)/\ (bq w F [] [] (.sl n0) x0/\bq w F [] [] (.sl n1) x1/\bq w F [] [] (.sl n2) x2)/\ (∀(i:Nat)(el:AV)(j:Nat)(x:AV),(li++[nR k ws (.clip []) m a])[i]?=some el->el.cells.length=5/\(el.cells[j]?=some x->∃u,cur[i*5+j]?=some u/\bq w F [] [] x u/\u.oneCell'=true))/\ (∀j o,F j o->¬(j=b\/j=g))/\(∀j,lU j->¬(j=b\/j=g)):=by have hln:=bA.heap.len;match η,hln with| [v0,v1],_=>(obtain⟨b,vs,T,rfl,hb,cY,gY⟩:=bA.heap.obj 1 _ v1 rfl rfl;obtain⟨_,xs,⟨hxl,fh⟩,fA⟩:=bA.heap.obj 0 _ v0 rfl rfl;have zG:(li++[nR k ws (.clip []) m a]).length=li.length+1:=by simp);rcases fh with⟨h0,_⟩|⟨g,c,cur,rfl,Hc,⟨hi,Cn,hg⟩,hn,hm,hcz,htk⟩;omega;(obtain rfl:hi=0:=by omega);match vs,cY with|⟨[x0,x1,x2,x3,x4]⟩,_=>have r0:=(gY 0 _ x0 rfl rfl).1;have r1:=(gY 1 _ x1 rfl rfl).1;have r2:=(gY 2 _ x2 rfl rfl).1;have r3:=(gY 3 _ x3 rfl rfl).1;have r4:=jf (gY 4 _ x4 rfl rfl).1;subst r4;cases r3 with|own _ _ _ _ ho=>(have e3:=ho.2 rfl;simp only[avn,aul]at e3;subst e3;have qy:∀(i:Nat)(el:AV)(j:Nat)(x:AV),(li++[nR k ws (.clip []) m a])[i]?=some el->el.cells.length=5/\(el.cells[j]?=some x->∃u,cur[i*5+j]?=some u/\bq w F [] [] x u/\u.oneCell'=true):=λi el j x hi=>by obtain⟨q1,q2⟩:=fA i el hi;refine⟨q1,λhx=>?_⟩;obtain⟨u,g1,g2⟩:=q2 j x hx;have YK:=(aun.1 hi).1;have Lg:=(aun.1 hx).1;rw[<-htk,auL,if_pos (by omega),avC]at g1;exact⟨u,g1,g2⟩);(obtain⟨u,u1,u2,_⟩:=(qy li.length (nR k ws (.clip []) m a) 2 (.clip []) (by rw[au9 (aur _)];simp)).2 rfl;have kb:dn (.slice (some ⟨g,0,none⟩) (li++[nR k ws (.clip []) m a]).length c)=some g:=by simp[dn];omega);(have hL0:aS [.slice (some ⟨g,0,none⟩) (li++[nR k ws (.clip []) m a]).length c,.pointer (some ⟨b,0,none⟩)] (fB (li++[nR k ws (.clip []) m a]) n0 n1 n2 le) g:=⟨0,_,_,rfl,ai,rfl,kb⟩;have Zx:aS [.slice (some ⟨g,0,none⟩) (li++[nR k ws (.clip []) m a]).length c,.pointer (some ⟨b,0,none⟩)] (fB (li++[nR k ws (.clip []) m a]) n0 n1 n2 le) b:=⟨1,_,_,rfl,ai,rfl,rfl⟩;have bW:b≠g:=λe=>bA.heap.sep 0 1 _ _ _ _ g (by decide) rfl rfl ai ai rfl rfl kb (by rw[e];rfl);have hu:∃ad,u=.slice ad 0 0:=by cases u2 with|jv a=>exact⟨_,rfl⟩|clip size els b o f hm hl aT hr=>exact⟨_,rfl⟩);obtain⟨ad,rfl⟩:=hu;refine⟨b,g,c,T,cur,x0,x1,x2,ad,by rw[zG],bW,Hc,by omega,hm,hcz,by rw[<-zG];exact hb,hg,u1,⟨zn r0,zn r1,zn r2⟩,qy,λj o hf hj=>?_,λj hj hx=>?_⟩;rcases hj with rfl|rfl;exact(bA.bD _ o hf).2 1 _ rfl rfl;exact(bA.bD _ o hf).2 0 _ rfl kb;rcases hx with rfl|rfl;exact bA.gx _ hj Zx;exact bA.gx _ hj hL0
theorem D1{w:World}{F:Nat->Nat->Prop}{n0 n1 n2:List AV}{x0 x1 x2:Value}(hr:bq w F [] [] (.sl n0) x0/\bq w F [] [] (.sl n1) x1/\bq w F [] [] (.sl n2) x2):bq w F [] [] (.agg [.sl n0,.sl n1,.sl n2]) (.agg #[x0,x1,x2]):=by obtain⟨p0,q0,c0,e0⟩:=rD hr.1;obtain⟨p1,q1,c1,e1⟩:=rD hr.2.1;obtain⟨p2,q2,c2,e2⟩:=rD hr.2.2;refine .agg _ _ rfl (λv hv=>?_) λj x v hx hv=>?_;simp only[List.mem_toArray,auJ,avB,or_false]at hv;rcases hv with rfl|rfl|rfl;rw[e0];rfl;rw[e1];rfl;rw[e2];rfl;match j,hx,hv with|0,hx,hv=>cases hx;cases hv;exact hr.1|1,hx,hv=>cases hx;cases hv;exact hr.2.1|2,hx,hv=>cases hx;cases hv;exact hr.2.2
abbrev PC:Tm:=.mk [] 0 0 []
abbrev G5:AV:=.agg [.top,.top,.top,.top]
theorem afw{N0 k:Nat}{w:World}{F:Nat->Nat->Prop}{v:Value}(h:nQ N0 w v k)(hF:∀j o,N0<=j->j<w.heap.size->F j o):bq w F [] [] (.sl (List.replicate k G5)) v/\v.oneCell'=true:=by
 rcases h with⟨rfl,a,rfl⟩|⟨N,cap,cs,rfl,h1,h2,h3,h4,h5,h6,h7⟩;exact⟨.mV a,rfl⟩
 ·(have hl:(List.replicate k G5).length=k:=List.length_replicate;have qy:∀(i:Nat)(e:AV),(List.replicate k G5)[i]?=some e->i<k/\e=G5:=λi e h=>by have hi:=(aun.1 h).1;rw[hl]at hi;rw[List.getElem?_replicate,if_pos hi]at h;exact⟨hi,(auo h).symm⟩);have top:∀(j:Nat)(x:AV),G5.cells[j]?=some x->j<4/\x=.top:=λj x h=>by match j,h with|0,h=>cases h;exact⟨by omega,rfl⟩|1,h=>cases h;exact⟨by omega,rfl⟩|2,h=>cases h;exact⟨by omega,rfl⟩|3,h=>cases h;exact⟨by omega,rfl⟩
  have:=bq.sl (w:=w) (F:=F) (η:=[]) (hp:=[]) 4 (List.replicate k G5) N 0 cap (λi j=>cs.getD (i*4+j) undef) (by rw[hl];exact h4) h5 (λi e h=>by rw[(qy i e h).2];rfl) (λi e j x h hx=>by
   (obtain⟨hi,rfl⟩:=qy i e h;obtain⟨hj,rfl⟩:=top j x hx;have aF:i*4+j<cs.size:=by omega);(have hg:=avc aF;have hd:cs.getD (i*4+j) undef=cs[i*4+j]:=by rw[au8,hg];rfl);refine⟨?_,hF _ _ h1 (ck h2),h7 _ ?_⟩;rw[hd];exact cell_of h2 (by rw[show 0+i*4+j=i*4+j by omega];exact hg)
   ·rw[hd];refine auu (i:=i*4+j) ?_;rw[auL,if_pos (by omega),avC];exact hg) (λi e j x h hx=>by
   obtain⟨hi,rfl⟩:=qy i e h;obtain⟨hj,rfl⟩:=top j x hx;exact .top _)
  rw[hl]at this;exact⟨this,rfl⟩
theorem D3{w w':World}{F:Nat->Nat->Prop}{li n0 n1 n2 ws:List AV}{k m a le le':Int}{b g c kk:Nat}{T:TypeId}{cur:Array Value}{x0 x1 x2 v:Value}(bA:qM w F [.slice (some ⟨g,0,none⟩) (li.length+1) c,.pointer (some ⟨b,0,none⟩)] (fB (li++[nR k ws (.clip []) m a]) n0 n1 n2 le))(Hc:0<c)(Sj:li.length+1<=c)(hm:c<=maxLen)(hcz:cur.size=c*5)(hr:bq w F [] [] (.sl n0) x0/\bq w F [] [] (.sl n1) x1/\bq w F [] [] (.sl n2) x2)(qy:∀(i:Nat)(el:AV)(j:Nat)(x:AV),(li++[nR k ws (.clip []) m a])[i]?=some el->el.cells.length=5/\(el.cells[j]?=some x->∃u,cur[i*5+j]?=some u/\bq w F [] [] x u/\u.oneCell'=true))(hL:fR w w' b g #[x0,x1,x2,.slice (some ⟨g,0,none⟩) (li.length+1) c,.int .i64 le'] T (cur.setIfInBounds (li.length*5+2) v) 47)(hN:nQ w.heap.size w' v kk): mg w F [.slice (some ⟨g,0,none⟩) (li.length+1) c,.pointer (some ⟨b,0,none⟩)] (fB (li++[nR k ws (.clip []) m a]) n0 n1 n2 le) w' [.slice (some ⟨g,0,none⟩) (li.length+1) c,.pointer (some ⟨b,0,none⟩)] (fB (li++[nR k ws (.sl (List.replicate kk G5)) m a]) n0 n1 n2 le') (.aG []) (.tuple #[]):=by (have zG:∀y:AV,(li++[y]).length=li.length+1:=λy=>by simp);(have kb:dn (.slice (some ⟨g,0,none⟩) (li.length+1) c)=some g:=by simp[dn];omega);refine Rt bA (by rw[zG,zG]) ⟨hL.os,hL.tape,hL.output,hL.size,λj h1 h2=>hL.Xw j h1 (λe=>h2 (.inr e)) λe=>h2 (.inl (by rw[kb,e]))⟩ λeF su=>⟨⟨by omega,_,⟨?_,.inr ⟨g,c,_,by rw[zG],Hc,⟨0,aur _,hL.row⟩,by rw[zG];exact Sj,hm,by rw[Array.size_setIfInBounds];exact hcz,rfl⟩⟩,λi el hi=>?_⟩,b,_,T,rfl,hL.box,rfl,λj x u hx hu=>?_⟩;(have hz:(cur.setIfInBounds (li.length*5+2) v).toList.length=c*5:=by rw[au2,Array.size_setIfInBounds];exact hcz);rw[au4,zG,hz];exact avX (au6 _ Sj);(have YK:=(aun.1 hi).1;rw[zG]at YK;have back:∀(el2:AV)(j:Nat)(x:AV),(li++[nR k ws (.clip []) m a])[i]?=some el2->el2.cells[j]?=some x->j<5->i*5+j≠li.length*5+2->∃u,((cur.setIfInBounds (li.length*5+2) v).toList.take ((li++[nR k ws (.sl (List.replicate kk G5)) m a]).length*5))[i*5+j]?=some u/\bq w' _ [] [] x u/\u.oneCell'=true:=λel2 j x h1 h2 hj bW=>by obtain⟨u,u1,u2,u3⟩:=(qy i el2 j x h1).2 h2;refine⟨u,?_,u2.ext eF.ny.ext,u3⟩;rw[auL,if_pos (by rw[zG];omega),avC,Array.getElem?_setIfInBounds_ne (avW bW)];exact u1);by_cases eG:i<li.length;(rw[auB eG]at hi;have h1:(li++[nR k ws (.clip []) m a])[i]?=some el:=by rw[auB eG];exact hi);have h5:=(qy i el 0 .top h1).1;exact⟨h5,λj x hx=>back el j x h1 hx (by have:=(aun.1 hx).1;omega) (by have:=(aun.1 hx).1;omega)⟩;(obtain rfl:i=li.length:=by omega);(rw[au9 (aur _),avV]at hi;obtain rfl:=auo hi;have h1:(li++[nR k ws (.clip []) m a])[li.length]?=some (nR k ws (.clip []) m a):=by rw[au9 (aur _),avV];rfl);refine⟨rfl,λj x hx=>?_⟩;(match j,hx with|0,hx=>exact back _ 0 x h1 hx (by omega) (by omega)|1,hx=>exact back _ 1 x h1 hx (by omega) (by omega)|3,hx=>exact back _ 3 x h1 hx (by omega) (by omega)|4,hx=>exact back _ 4 x h1 hx (by omega) (by omega)|2,hx=>cases hx;obtain⟨r1,r2⟩:=afw hN λj o h1 h2=>su j o h1 h2;refine⟨v,?_,r1,r2⟩;rw[auL,if_pos (by rw[zG];omega),avC,Array.getElem?_setIfInBounds_self_of_lt (by omega)]);obtain⟨p0,q0,c0,e0⟩:=rD hr.1;obtain⟨p1,q1,c1,e1⟩:=rD hr.2.1;obtain⟨p2,q2,c2,e2⟩:=rD hr.2.2;match j,hx,hu with|0,hx,hu=>cases hx;cases hu;exact⟨(hr.1.ext eF.ny.ext).lift,by rw[e0];rfl⟩|1,hx,hu=>cases hx;cases hu;exact⟨(hr.2.1.ext eF.ny.ext).lift,by rw[e1];rfl⟩|2,hx,hu=>cases hx;cases hu;exact⟨(hr.2.2.ext eF.ny.ext).lift,by rw[e2];rfl⟩|3,hx,hu=>cases hx;cases hu;exact⟨.own _ _ _ rfl ⟨aur _,λ_=>rfl⟩,rfl⟩|4,hx,hu=>cases hx;cases hu;exact⟨.ay _,rfl⟩
theorem ve{li n0 n1 n2 ws aas:List AV}{k m a le base er:Int}{n:Nd}(hl:li.length<=1000000)(hOf:az aj 51 [.agg [.sl n0,.sl n1,.sl n2],.agg [.sl aas,nI base]] (.aG [dZ n,nI er])): aY aj 18 [.ptr 1 0,.agg [.sl aas,nI base]] (fB (li++[nR k ws (.clip []) m a]) n0 n1 n2 le) (λr q=>r=.aG []/\q=fB (li++[nR k ws (.sl [G5]) m a]) n0 n1 n2 (if er=0 then le else 1)):=by refine⟨⟨_,func18,by kernel_rfl,by kernel_rfl⟩,λw F η vals bA hv=>?_⟩;obtain⟨b,g,c,T,cur,x0,x1,x2,ad,rfl,bW,Hc,Sj,hm,hcz,hb,hg,h5,hr,qy,hX,hXg⟩:=JK bA;match vals,hv with| [p,ta],⟨r0,r1,_⟩=>(obtain rfl:p=.pointer (some ⟨b,0,none⟩):=by cases r0 with|ptr _ _ b' h1=>cases h1;rfl);(have d1:=XD r1 λx hx u hu=>by simp only[auJ,avB,or_false]at hx;rcases hx with rfl|rfl;exact zn hu;exact Ry hu);cases r1 with|agg _ vs sS h1 oU=>match vs,sS with|⟨[y0,y1]⟩,_=>refine callsIn_wide.2 ((Xy b g (li.length+1) li.length c x0 x1 x2 le er y0 y1 T _ cur _ w bW hl rfl hb hg h5 ⟨ad,rfl⟩ (λw1 hs=>?_)).mono ?_);exact DZ hOf (λj o hf=>(bA.bD j o hf).1) bA.iK (vals:=[.agg #[x0,x1,x2],.agg #[y0,y1]]) ⟨D1 hr,d1,ai⟩ (X:=λj=>j=b\/j=g) ⟨hs.os,hs.tape,hs.output,hs.size,λj h _=>hs.block j h⟩ hX hXg;rintro e w' ⟨rfl,N,cap,hL,hN⟩;exact⟨_,_,_,_,rfl,⟨rfl,rfl⟩,D3 bA Hc Sj hm hcz hr qy hL hN⟩
def slP:Value->Option Addr
 | .slice p _ _=>p|_=>none
def slL:Value->Nat
 | .slice _ n _=>n|_=>0
def slC:Value->Nat
 | .slice _ _ c=>c|_=>0
theorem F7{w:World}{F:Nat->Nat->Prop}{η:List Value}{hp:List ax}{l:List AV}{v:Value}(h:bq w F η hp (.sl l) v):v=.slice (slP v) (slL v) (slC v):=by obtain⟨p,n,c,rfl⟩:=rD h;rfl
theorem Br{li n0 n1 n2 ws:List AV}{k m a le:Int}{ts:List Tm}(hl:li.length<=1000000)(aF:ts.length<=1000)(hOf:∀t∈ts,∃n,az aj 53 [.agg [.sl n0,.sl n1,.sl n2],.agg [.sl (t.binds.map Ty.enc),nI t.kind,nI t.index,.sl (t.args.map Tm.enc)]] (.aG [dZ n,nI 0])): aY aj 19 [.ptr 1 0,.sl (ts.map Tm.enc)] (fB (li++[nR k ws (.clip []) m a]) n0 n1 n2 le) (λr q=>r=.aG []/\q=fB (li++[nR k ws (.sl (List.replicate ts.length G5)) m a]) n0 n1 n2 le):=by
 refine⟨⟨_,func19,by kernel_rfl,by kernel_rfl⟩,λw F η vals bA hv=>?_⟩;obtain⟨b,g,c,T,cur,x0,x1,x2,ad,rfl,bW,Hc,Sj,hm,hcz,hb,hg,h5,hr,qy,hX,hXg⟩:=JK bA;match vals,hv with
  | [p,ta],⟨r0,r1,_⟩=>
   obtain rfl:p=.pointer (some ⟨b,0,none⟩):=by cases r0 with|ptr _ _ b' h1=>cases h1;rfl
   obtain⟨tA,tc,tb,to,f,rfl,hA,aT,eD⟩:∃(tA:Option Addr)(tc tb to:Nat)(f:Nat->Nat->Value),ta=.slice tA ts.length tc/\(0<ts.length->tA=some ⟨tb,to,none⟩)/\
     (∀i j x,(h:i<ts.length)->(Tm.enc ts[i]).cells[j]?=some x->w.cell? ⟨tb,to+i*4+j,none⟩=some (f i j)/\F tb (to+i*4+j)/\(f i j).oneCell'=true)/\∀i j x,(h:i<ts.length)->(Tm.enc ts[i]).cells[j]?=some x->bq w F [] [] x (f i j):=by
    generalize hE:ts.map Tm.enc=E at r1;have hlen:E.length=ts.length:=by rw[<-hE,aum]
    have eh:∀i,(h:i<ts.length)->E[i]?=some (Tm.enc ts[i]):=λi h=>by rw[<-hE,auA,aus h];rfl
    cases r1 with
    |mV a=>simp only[au7]at hlen;exact⟨a,0,0,0,λ_ _=>undef,by rw[<-hlen],λh=>by omega,λi j x h=>by omega,λi j x h=>by omega⟩
    |sl size els b' o c' f hc hm sS aT eD=>
     have hs:∀i,(h:i<ts.length)->size=4:=λi h=>by have:=sS i _ (eh i h);rw[Tm.aP]at this;exact this.symm
     exact⟨_,c',b',o,f,by rw[hlen],λ_=>rfl,λi j x h hx=>by have:=aT i _ j x (eh i h) hx;rw[hs i h]at this;exact this,λi j x h hx=>eD i _ j x (eh i h) hx⟩
   have c0:=λi (h:i<ts.length)=>aT i 0 (.sl (ts[i].binds.map Ty.enc)) h (by rw[Tm.aP];rfl);have c1:=λi (h:i<ts.length)=>aT i 1 (nI ts[i].kind) h (by rw[Tm.aP];rfl);have c2:=λi (h:i<ts.length)=>aT i 2 (nI ts[i].index) h (by rw[Tm.aP];rfl);have c3:=λi (h:i<ts.length)=>aT i 3 (.sl (ts[i].args.map Tm.enc)) h (by rw[Tm.aP];rfl);have q0:=λi (h:i<ts.length)=>eD i 0 (.sl (ts[i].binds.map Ty.enc)) h (by rw[Tm.aP];rfl);have q1:=λi (h:i<ts.length)=>eD i 1 (nI ts[i].kind) h (by rw[Tm.aP];rfl);have q2:=λi (h:i<ts.length)=>eD i 2 (nI ts[i].index) h (by rw[Tm.aP];rfl);have q3:=λi (h:i<ts.length)=>eD i 3 (.sl (ts[i].args.map Tm.enc)) h (by rw[Tm.aP];rfl);refine callsIn_wide.2 ((MW b g (li.length+1) li.length c ts.length tb to tc x0 x1 x2 le tA (λi=>slP (f i 0)) (λi=>slP (f i 3)) (λi=>slL (f i 0)) (λi=>slC (f i 0)) (λi=>slL (f i 3)) (λi=>slC (f i 3)) (λi=>(ts.getD i PC).kind) (λi=>(ts.getD i PC).index) T _ cur ad w bW hl rfl aF hb hg h5 hA (λi h=>?_) (λh=>?_) (λi h w1 hk=>?_)).mono ?_);(have e:ts.getD i PC=ts[i]:=by rw[avv,aus h];rfl);rw[e,<-F7 (q0 i h),<-F7 (q3 i h)];refine⟨(c0 i h).1,?_,?_,(c3 i h).1⟩;have:=(c1 i h).1;rwa [jf (q1 i h)]at this;have:=(c2 i h).1;rwa [jf (q2 i h)]at this;have:=hX tb _ (c0 0 h).2.1;exact⟨λe=>this (.inl e),λe=>this (.inr e)⟩;(have e:ts.getD i PC=ts[i]:=by rw[avv,aus h];rfl);obtain⟨n,hn⟩:=hOf ts[i] (auz h);have:=DZ hn (λj o hf=>(bA.bD j o hf).1) bA.iK (vals:=[.agg #[x0,x1,x2],.agg #[f i 0,f i 1,f i 2,f i 3]]) ⟨D1 hr,.agg _ _ rfl (λv hv=>?_) (λj x v hx hv=>?_),ai⟩ (X:=λj=>j=b\/j=g) hk hX hXg;rw[e,<-F7 (q0 i h),<-F7 (q3 i h),<-jf (q1 i h),<-jf (q2 i h)];exact this;simp only[List.mem_toArray,auJ,avB,or_false]at hv;rcases hv with rfl|rfl|rfl|rfl;exact(c0 i h).2.2;exact(c1 i h).2.2;exact(c2 i h).2.2;exact(c3 i h).2.2;(match j,hx,hv with|0,hx,hv=>cases hx;cases hv;exact q0 i h|1,hx,hv=>cases hx;cases hv;exact q1 i h|2,hx,hv=>cases hx;cases hv;exact q2 i h|3,hx,hv=>cases hx;cases hv;exact q3 i h);rintro e w' ⟨rfl,v,hL,hN⟩;exact⟨_,_,_,_,rfl,⟨rfl,rfl⟩,D3 bA Hc Sj hm hcz hr qy hL hN⟩
end
def Rz(s:aw):Nat->Nat->Nat
 |0,n=>n|k+1,n=>if n<s.size/\isWord (s.extract 0 (n+1))=true then Rz s k (n+1)else n
def F8(s:aw):aw:=s.extract 0 (if isWord (s.extract 0 1)=true then Rz s 9 1 else 1)
theorem F9{s:aw}(h1:1<=s.size)(h2:s.size<=1000000000):az aj 165 [nS s] (nS (F8 s)):=by refine VE ⟨⟨by decide,by decide,by omega⟩,_,u5,aA.intro (λh=>?_) λh=>⟨⟨by decide,by decide,by omega⟩,?_⟩⟩;have h:isWord (s.extract 0 1)=true:=h;rw[F8,if_pos h];obtain⟨z,hz⟩:∃z,Rz s 9 1=z:=⟨_,rfl⟩;rw[hz];refine aI.intro (λn:Nat=>((s,(n:Int),()),())) (λn=>1<=n/\n<=10/\n<=s.size/\z=Rz s (10-n) n) (λn=>10-n) 1 rfl ⟨by omega,by omega,h1,hz.symm⟩ ?_;intro n ⟨n1,n10,ns,he⟩ again bQ;dsimp only;have last:z=n->(0<=(0:Int)/\(0:Int)<=(n:Int)/\(n:Int)<=ah s)/\nS (ByteArray.extract s (af 0) (af (n:Int)))=nS (s.extract 0 z):=λe=>⟨⟨by decide,by omega,by omega⟩,by rw[e];rfl⟩;refine aA.intro (λh=>aA.intro (λh'=>?_) λh'=>last ?_) λh=>last ?_;(have g1:n<s.size:=by simpa using h);(have g2:n<10:=by have:=of_decide_eq_true h';omega);(rw[bc (by omega)];have e10:10-n=(10-(n+1))+1:=by omega);rw[e10,Rz]at he;refine⟨⟨by decide,by omega,by omega⟩,_,u5,aA.intro (λg=>?_) λg=>last ?_⟩;have g:isWord (s.extract 0 (n+1))=true:=g;rw[if_pos ⟨g1,g⟩]at he;exact bQ (n+1) ⟨by omega,by omega,by omega,he⟩ (by omega);have g:isWord (s.extract 0 (n+1))=false:=g;rw[if_neg (λe=>by rw[g]at e;simp at e)]at he;exact he;(have g2:n=10:=by have:=of_decide_eq_false h';omega);subst g2;exact he;(have g1:¬n<s.size:=by simpa using h);rw[he];(cases 10-n with|zero=>rfl|succ k=>rw[Rz,if_neg (λe=>g1 e.1)]);have h:isWord (s.extract 0 1)=false:=h;rw[F8,if_neg (by rw[h];decide)];rfl
def fC(c:Int)(l:List Int):Nat:=(l.takeWhile (· != c)).length
def JL(c:Int)(l:List Int):Int:=if fC c l=l.length then -1 else(fC c l:Int)
theorem jO(c b:Int)(l:List Int):fC c (b::l)=if b=c then 0 else fC c l+1:=by unfold fC;rw[awc];by_cases h:b=c;simp[h];rw[if_neg h,if_pos (by simpa using h)];rfl
theorem zo(c:Int)(l:List Int):fC c l<=l.length:=by induction l with|nil=>simp[fC]|cons b l ih=>rw[jO,auy];split<;>omega
theorem PD{c:Int}{l:List Int}{n:Nat}(h:n<=fC c l):∀b∈l.take n,b≠c:=by induction l generalizing n with|nil=>simp|cons b l ih=>rw[jO]at h;cases n with|zero=>simp|succ n=>split at h;omega;rename_i hb;intro x hx;rw[List.take_succ_cons]at hx;rcases auJ.1 hx with rfl|hx;exact hb;exact ih (by omega) x hx
theorem acg{c:Int}{l:List Int}(h:fC c l<l.length):l[fC c l]=c:=by induction l with|nil=>simp at h|cons b l ih=>simp only[jO,auy]at h ⊢;by_cases hb:b=c;simp only[if_pos hb];simpa using hb;simp only[if_neg hb]at h ⊢;simp only[List.getElem_cons_succ];exact ih (by omega)
theorem idx_eq(l:List UInt8)(c:UInt8):Lib.indexByte l c=JL (c.toNat:Int) (l.map λb=>(b.toNat:Int)):=by induction l with|nil=>rfl|cons b l ih=>unfold Lib.indexByte JL;rw[ih,auR,jO,auy];have hle:=zo (c.toNat:Int) (l.map λb=>(b.toNat:Int));by_cases h:b=c;subst h;simp;have h2:¬(b.toNat:Int)=(c.toNat:Int):=λe=>h (UInt8.toNat_inj.1 (by omega));rw[if_neg (by simpa using h),if_neg h2];unfold JL;by_cases hr:fC (c.toNat:Int) (l.map λb=>(b.toNat:Int))=(l.map λb=>(b.toNat:Int)).length;rw[if_pos hr,hr,if_pos rfl];rfl;have bW:((((fC (c.toNat:Int) (l.map λb=>(b.toNat:Int)):Nat):Int)) == -1)=false:=beq_eq_false_iff_ne.2 (by omega);rw[if_neg hr,if_neg (by rw[bW];decide),if_neg (λe=>hr (by omega))];omega
theorem kM{s:aw}{c:Int}(h0:0<=c)(h1:c<=255):az aj 162 [nS s,.ay (.int .u8 c)] (nI (JL c (aE s))):=by refine⟨⟨_,func162,by kernel_rfl,by kernel_rfl⟩,λw F vals hF hg hv=>?_⟩;match vals,hv with| [v0,v1],⟨r0,r1,_⟩=>cases r0;cases r1;refine callsIn_wide.2 ((Any.strings_IndexByte ae9 s c w).mono ?_);rintro e w' ⟨rfl,rfl⟩;(refine⟨_,_,rfl,rfl,cj.refl _,?_⟩;have:(c.toNat.toUInt8.toNat:Int)=c:=by have:c.toNat.toUInt8.toNat=c.toNat % 256:=rfl;rw[this];omega);rw[idx_eq,this];exact .ay _
def mI(s:aw):Nat->Nat->List (Nat×aw)
 |0,_=>[]|f+1,a=>(a,s.extract a (a+fC 10 ((aE s).drop a)))::(if a+fC 10 ((aE s).drop a)=s.size then[]else mI s f (a+fC 10 ((aE s).drop a)+1))
def ach(p:Nat×aw):Int×aw×Unit:=((p.1:Int),p.2,())
def XE(p:Nat×aw):List AV:=[nI (p.1:Int),nS p.2]
theorem jg{s:aw}{a:Nat}:aE (s.extract a s.size)=(aE s).drop a:=by rw[mG,auE];rw[auS,cG];exact aur _
theorem Ga{s:aw}(hs:s.size<=1000000000):vL aj 179 (λv=>[v,.aU (nS s) 0]) ((mI s (s.size+1) 0).map XE) false:=by have hl:=cG s;refine VZ λyv more=>⟨rfl,?_⟩;refine aI.intro (λp:Nat×Nat=>(((yv,(),(p.2:Int),()),()),some ((mI s p.1 p.2).map XE++more))) (λp=>p.2<=s.size/\s.size+1<=p.1+p.2) (λp=>s.size+1-p.2) (s.size+1,0) rfl ⟨auv _,by dsimp only;omega⟩ ?_;intro ⟨f,a⟩ ⟨ha,hf⟩ again bQ;dsimp only at ha hf ⊢;obtain⟨f,rfl⟩:∃g,f=g+1:=⟨f-1,by omega⟩;have hr:=zo 10 ((aE s).drop a);rw[auS,hl]at hr;have Rm:=kM (s:=s.extract a s.size) (c:=10) (by decide) (by decide);rw[jg,JL,auS,hl]at Rm;refine⟨⟨by omega,by omega,by omega⟩,_,Rm,?_⟩;by_cases he:fC 10 ((aE s).drop a)=s.size-a;(rw[if_pos he];refine aA.pos (by decide) ⟨⟨by omega,by omega,by omega⟩,rfl,more,?_,λb=>⟨b,rfl⟩⟩;rw[mI,he,if_pos (by omega)];have:a+(s.size-a)=s.size:=by omega);rw[this];rfl;(rw[if_neg he];have w1:ag .i64 ((a:Int)+((fC 10 ((aE s).drop a):Nat):Int))=((a+fC 10 ((aE s).drop a):Nat):Int):=by rw[ba (by omega) (by omega)];omega);(have w2:ag .i64 ((a:Int)+ag .i64 (((fC 10 ((aE s).drop a):Nat):Int)+1))=((a+fC 10 ((aE s).drop a)+1:Nat):Int):=by rw[bc (by omega),ba (by omega) (by omega)];omega);rw[w1,w2];refine aA.neg (decide_eq_false (by omega)) ⟨⟨by omega,by omega,by omega⟩,rfl,(mI s f (a+fC 10 ((aE s).drop a)+1)).map XE++more,?_,λb=>aA.intro (λh=>?_) λh=>?_⟩;rw[mI,if_neg (by omega)];rfl;(have:b=false:=by simpa using h);subst this;exact⟨false,rfl⟩;(have:b=true:=by simpa using h);subst this;exact⟨rfl,bQ (f,_) ⟨by dsimp only;omega,by dsimp only;omega⟩ (by dsimp only;omega)⟩
theorem RA{s:aw}(hs:s.size<=1000000000):kR aj 179 [.aU (nS s) 0] [.v (.c (.i .i64)),.v (.c (.s))] ((mI s (s.size+1) 0).map ach):=rb (prm:=[.v (.c (.i .i64)),.v (.c (.s))]) ach (Ga hs)
theorem wF(m:Int×Int)(a b:List Int):nk m (a++b)=nk (nk m a) b:=by induction a generalizing m with|nil=>rfl|cons c a ih=>exact ih _
theorem JM{l:List Int}(m:Int×Int)(h:∀b∈l,b≠10):nk m l=(m.1,m.2+l.length):=by induction l generalizing m with|nil=>simp[nk]|cons c l ih=>(have hc:(c==10)=false:=by simpa using h c auC);rw[nk,hc,ih _ λb hb=>h b (auG _ hb)];simp;omega
def Bs(s:aw)(i:Nat):AV:=.agg [nI (nk (1,1) ((aE s).take i)).1,nI (nk (1,1) ((aE s).take i)).2]
theorem nT{s:aw}{i:Nat}(hi:i<=s.size)(hs:s.size<=1000000000):az aj 116 [nS s,nI (i:Int)] (.aG [Bs s i,nI 0]):=by have hl:=cG s;refine VV (aA.neg (decide_eq_false (by omega)) (aA.neg (decide_eq_false (by omega)) ⟨VW rfl,?_⟩));refine fK.rf (λn:Nat=>(((i:Int),()),(0,0,()),(0,()),((n:Int),()),())) ach (mI s (s.size+1) 0) (RA hs) (λrest n=>∃f a,rest=mI s f a/\a<=i/\s.size+1<=f+a/\n<=a/\nk (1,1) ((aE s).take a)=(((n+1:Nat):Int),1)) 0 rfl ⟨_,_,rfl,auv _,aur _,aur _,rfl⟩ (λp rest n hI again bQ=>?_) λn hI=>?_;(obtain⟨f,a,he,ha,hf,hna,hm⟩:=hI;obtain⟨f,rfl⟩:∃g,f=g+1:=⟨f-1,by omega⟩;rw[mI]at he;obtain⟨rfl,rfl⟩:=List.cons.inj he;have hr:=zo 10 ((aE s).drop a);rw[auS,hl]at hr;have hz:(s.extract a (a+fC 10 ((aE s).drop a))).size=fC 10 ((aE s).drop a):=by rw[<-cG,mG,au4,auS,hl];omega);(dsimp only[ach];rw[bc (by omega)];have hw:ag .i64 ((a:Int)+(((s.extract a (a+fC 10 ((aE s).drop a))).size:Nat):Int))=(a:Int)+(fC 10 ((aE s).drop a):Nat):=by rw[hz,ba (by omega) (by omega)]);refine aA.intro (λh=>?_) λh=>?_;(have h:i<=a+fC 10 ((aE s).drop a):=by have:=of_decide_eq_true h;rw[hw]at this;omega);(rw[ba (n:=(i:Int)-a) (by omega) (by omega),ba (by omega) (by omega)];have e:(aE s).take i=(aE s).take a++((aE s).drop a).take (i-a):=by rw[<-List.take_add,show a+(i-a)=i by omega]);(have sj:nk (1,1) ((aE s).take i)=(((n+1:Nat):Int),1+((i-a:Nat):Int)):=by rw[e,wF,hm,JM _ (PD (by omega)),au4,auS,hl,avX (by omega)]);(show _=AV.aG [Bs s i,nI 0];rw[Bs,sj];have:(1:Int)+((i-a:Nat):Int)=(i:Int)-a+1:=by omega);rw[this];(have h:a+fC 10 ((aE s).drop a)<i:=by have:=of_decide_eq_false h;rw[hw]at this;omega);(refine bQ (n+1) ⟨f,a+fC 10 ((aE s).drop a)+1,if_neg (by omega),by omega,by omega,by omega,?_⟩;have aF:a+fC 10 ((aE s).drop a)<(aE s).length:=by omega);(rw[avi aF,List.take_add,auM,wF,hm,wF,JM _ (PD (aur _))];have hc:(aE s)[a+fC 10 ((aE s).drop a)]=10:=by have:=acg (c:=10) (l:=(aE s).drop a) (by rw[auS];omega);rw[List.getElem_drop]at this;exact this);rw[hc];simp[nk];obtain⟨f,a,he,ha,hf,hna,hm⟩:=hI;obtain⟨f,rfl⟩:∃g,f=g+1:=⟨f-1,by omega⟩;rw[mI]at he;cases he
def jC:Bool->List Int->Nat
 |_,[]=>0|r,c::l=>if r||ly c then jC (c != 10&&(r||c==35)) l+1 else 0
theorem Bt:∀(r:Bool)(l:List Int),jC r l<=l.length
 |_,[]=>aur _|r,c::l=>by rw[jC,auy];split;have:=Bt (c != 10&&(r||c==35)) l;omega;omega
theorem Bu:∀(l:List Int),jC true l=if fC 10 l=l.length then l.length else fC 10 l+jC false (l.drop (fC 10 l))
 | []=>rfl|c::l=>by rw[jC,jO,auy];by_cases h:c=10;subst h;rw[if_pos rfl,if_neg (Nat.ne_of_lt (Nat.succ_pos _)),avI,jC];simp[ly];(have e:(c != 10&&(true||c==35))=true:=by simpa using h);rw[Bool.true_or,if_pos rfl,e,Bu l,if_neg h];by_cases h2:fC 10 l=l.length;rw[if_pos h2,if_pos (by omega)];rw[if_neg h2,if_neg (by omega),List.drop_succ_cons];omega
theorem MX(l:List Int):jC false (35::l)=jC true (35::l):=rfl
theorem tv{s:aw}{k:Nat}{c:Int}{l:List Int}(h:(aE s).drop k=c::l):dV s (k:Int)=c/\k<s.size/\(aE s).drop (k+1)=l:=by (have aF:k<(aE s).length:=by rcases Nat.lt_or_ge k (aE s).length with h1|h1;exact h1;rw[auH h1]at h;cases h);rw[auw aF]at h;obtain⟨h1,h2⟩:=List.cons.inj h;exact⟨by rw[uY aF,h1],by rw[<-cG];exact aF,h2⟩
theorem MY{s:aw}(hs:s.size<=1000000000):az aj 118 [nS s] (nI (jC false (aE s):Nat)):=by
 have hl:=cG s;refine VK ?_;refine aI.intro (λk:Nat=>((s,(k:Int),()),())) (λk=>k<=s.size/\jC false (aE s)=k+jC false ((aE s).drop k)) (λk=>(s.size-k)*2+(if(aE s).drop k=[]then 0 else if((aE s).drop k).head?=some 10 then 0 else 1)) 0 rfl ⟨auv _,by simp⟩ ?_;intro k ⟨hk,hd⟩ again bQ;dsimp only;refine aA.intro (λh=>?_) λh=>?_;have aF:k<s.size:=by have:=of_decide_eq_true h;omega
 obtain⟨c,l,ej⟩:∃c l,(aE s).drop k=c::l:=⟨_,_,auw (by omega)⟩;obtain⟨zm,_,sS⟩:=tv ej;refine⟨⟨by omega,by omega⟩,?_⟩;rw[zm];have blank:(ly c=true/\c≠35)->again ((s,ag .i64 ((k:Int)+1),()),()):=fun⟨hb,hc⟩=>by (rw[bc (by omega)];refine bQ (k+1) ⟨by omega,?_⟩ (by split<;>split<;>(try split)<;>omega);have e:(c != 10&&(false||c==35))=false:=by simp[hc]);rw[hd,ej,jC,avA,if_pos hb,e,<-sS];omega
 have stop:ly c=false->nI (k:Int)=nI ((jC false (aE s):Nat):Int):=λhb=>by rw[hd,ej,jC,hb];simp
 have hash:c=35->0<=(k:Int)/\(k:Int)<=((s.size:Nat):Int)/\((s.size:Nat):Int)<=s.size:=λ_=>⟨by omega,by omega,by omega⟩;have Rm:=kM (s:=s.extract k s.size) (c:=10) (by decide) (by decide);rw[jg,JL,auS,hl]at Rm;have hr:=zo 10 ((aE s).drop k);rw[auS,hl]at hr;have rem:(c==35)=true->∃i53,pI 162 [nS (ByteArray.extract s (af k) (af ((ah s:Nat):Int))),.ay (.int .u8 10)] (nI i53)/\
   aA (decide (i53<0)) ((λr=>r=nI ((jC false (aE s):Nat):Int)) (nI ((ah s:Nat):Int))) (again ((s,ag .i64 ((k:Int)+i53),()),())):=λhc=>by
  have hc:c=35:=by simpa using hc
  subst hc;refine⟨_,Rm,?_⟩;have e:=Bu ((aE s).drop k);rw[auS,hl]at e;rw[ej,MX,<-ej,e]at hd
  by_cases h1:fC 10 ((aE s).drop k)=s.size-k
  ·rw[if_pos h1]at hd;rw[if_pos h1];refine aA.pos rfl ?_;show nI _=nI _;rw[hd];congr 1;congr 1;congr 1;omega
  ·rw[if_neg h1]at hd;rw[if_neg h1];refine aA.neg (decide_eq_false (by omega)) ?_;rw[ba (n:=(k:Int)+_) (by omega) (by omega),show (k:Int)+(fC 10 ((aE s).drop k):Nat)=((k+fC 10 ((aE s).drop k):Nat):Int) by omega];have h0:0<fC 10 ((aE s).drop k):=by rw[ej,jO];simp
   refine bQ _ ⟨by omega,?_⟩ (by split<;>split<;>(try split)<;>omega);rw[hd,List.drop_drop];omega
 refine aA.intro (λh1=>?_) λh1=>aA.intro (λh2=>?_) λh2=>aA.intro (λh3=>?_) λh3=>aA.intro (λh4=>?_) λh4=>aA.intro (λh5=>?_) λh5=>?_;exact aA.pos h1 (blank ⟨by unfold ly;rw[h1];rfl,λe=>by rw[e]at h1;cases h1⟩);exact aA.pos h2 (blank ⟨by unfold ly;rw[h1,h2];rfl,λe=>by rw[e]at h2;cases h2⟩);exact aA.pos h3 (blank ⟨by unfold ly;rw[h1,h2,h3];rfl,λe=>by rw[e]at h3;cases h3⟩);exact blank ⟨by unfold ly;rw[h1,h2,h3,h4];rfl,λe=>by rw[e]at h4;cases h4⟩;exact⟨hash (by simpa using h5),rem h5⟩;exact stop (by unfold ly;rw[h1,h2,h3,h4,h5];rfl);have:s.size<=k:=by have:=of_decide_eq_false h;omega
 rw[auH (by omega)]at hd;rw[hd];rfl
def rE(l:List Int):Nat:=(l.takeWhile isDigit).length
theorem r6(c:Int)(l:List Int):rE (c::l)=if isDigit c=true then rE l+1 else 0:=by unfold rE;rw[awc];split<;>simp
theorem aci(l:List Int):rE l<=l.length:=by induction l with|nil=>simp[rE]|cons c l ih=>rw[r6,auy];split<;>omega
theorem Bv{s:aw}(hs:s.size<=1000000000):az aj 154 [nS s,.bz 163 []] (nI (rE (aE s):Nat)):=by refine L8 ?_;have hl:=cG s;refine aI.intro (λk:Nat=>((s,(),(k:Int),()),())) (λk=>k<=s.size/\rE (aE s)=k+rE ((aE s).drop k)) (λk=>s.size-k) 0 rfl ⟨auv _,by simp⟩ ?_;intro k ⟨hk,hm⟩ again bQ;dsimp only;refine aA.intro (λh=>?_) λh=>?_;(have aF:k<s.size:=by simpa using h);(have vY:k<(aE s).length:=by omega);rw[auw vY]at hm;refine⟨⟨by omega,by omega⟩,_,rj,?_⟩;rw[uY vY];refine aA.intro (λh=>?_) λh=>?_;rw[bc (by omega)];refine bQ (k+1) ⟨by omega,?_⟩ (by omega);rw[hm,r6,if_pos h];omega;rw[hm,r6,if_neg (by rw[h];simp)];rfl;(have:s.size<=k:=by simpa using h);rw[auH (by omega)]at hm;rw[hm];simp[rE]
def JN:List Int:=[40,41,92,46,44,59,58,61,62,60,91,93,123,125,33,63,64]
def D4:List Int->Nat
 | []=>0|c::l=>if c=45/\l.head?=some 62 then 2 else if c∈JN then 1 else 0
def CR:List Int->Nat×Nat
 | []=>(3,0)|c::l=>if ij c=true then(1,runN (c::l))else if isDigit c=true then(2,rE (c::l))else(3,D4 (c::l))
theorem yN{s p:aw}:az aj 181 [nS s,nS p] (nB (decide ((aE s).take p.size=aE p))):=by have hl:=cG s;have hp:=cG p;refine V0 ⟨_,V1 (R:=λr=>r=nB (decide ((aE s).take p.size=aE p))) (aA.intro (λh=>?_) λh=>?_),rfl⟩;(have h:p.size<=s.size:=by have:=of_decide_eq_true h;omega);(refine⟨⟨by decide,by omega,by omega⟩,?_⟩;show nB _=nB _;rw[ei];refine mE ?_;rw[decide_eq_true_iff,decide_eq_true_iff];have e:aE (s.extract (af 0) (af ((p.size:Nat):Int)))=(aE s).take p.size:=by rw[mG];rfl);rw[<-e];exact⟨λh=>by rw[h],mF⟩;(have h:s.size<p.size:=by have:=of_decide_eq_false h;omega);refine(mE ?_).symm;rw[decide_eq_true_iff];refine⟨λe=>?_,λe=>by cases e⟩;have:=congrArg ab e;rw[au4]at this;omega
theorem MZ{s:aw}(hs:s.size<=1000000000):az aj 164 [nS s] (nI (D4 (aE s):Nat)):=by refine VO ⟨_,yN,?_⟩;have e1:aE (⟨#[45,62]⟩:aw)=[45,62]:=rfl;have e2:(⟨#[45,62]⟩:aw).size=2:=rfl;rw[e1,e2];cases hb:aE s with|nil=>obtain rfl:s=⟨#[]⟩:=mF hb;exact aA.neg rfl (aA.neg (by rw[ei];rfl) rfl)|cons c l=>have zm:dV s ((0:Nat):Int)=c/\0<s.size/\_:=tv (by rw[avI];exact hb);have Rm:=kM (s:=(⟨#[40,41,92,46,44,59,58,61,62,60,91,93,123,125,33,63,64]⟩:aw)) (c:=c) (by have:=uZ s c (by rw[hb];exact auC);omega) (by have:=uZ s c (by rw[hb];exact auC);omega);(rw[<-show dV s (0:Int)=c from zm.1]at Rm;have e3:aE (⟨#[40,41,92,46,44,59,58,61,62,60,91,93,123,125,33,63,64]⟩:aw)=JN:=rfl;rw[e3]at Rm;have aoS:=Rm;have Hc:dV s (0:Int)=c:=zm.1;have hsg:decide (JL c JN>=0)=decide (c∈JN):=by (have key:∀L:List Int,(fC c L=L.length↔c∉L):=by intro L;induction L with|nil=>simp[fC]|cons b L ih=>rw[jO,auy,auJ];by_cases h:b=c;subst h;simp;rw[if_neg h];have h':¬c=b:=λe=>h e.symm;simp only[Nat.add_right_cancel_iff,ih,h',false_or]);unfold JL;by_cases h:c∈JN;rw[if_neg (λe=>(key _).1 e h),decide_eq_true h];exact decide_eq_true (by omega);rw[if_pos ((key _).2 h),decide_eq_false h];rfl);(have h2:decide ((c::l).take 2=[45,62])=decide (c=45/\l.head?=some 62):=by cases l with|nil=>simp|cons d l=>simp);rw[h2];refine aA.intro (λh=>?_) λh=>aA.pos (by rw[ei,decide_eq_false];rfl;intro e;rw[e]at hb;cases hb) ⟨⟨by decide,by have:=zm.2.1;omega⟩,_,aoS,?_⟩;rw[D4,if_pos (of_decide_eq_true h)];rfl;rw[Hc,hsg];refine aA.intro (λh3=>?_) λh3=>?_;rw[D4,if_neg (of_decide_eq_false h),if_pos (of_decide_eq_true h3)];rfl;rw[D4,if_neg (of_decide_eq_false h),if_neg (of_decide_eq_false h3)];rfl
theorem JO{s:aw}(hs:s.size<=1000000000)(bW:aE s≠[]):az aj 119 [nS s] (.aG [nI ((CR (aE s)).1:Nat),nI ((CR (aE s)).2:Nat)]):=by cases hb:aE s with|nil=>exact(bW hb).elim|cons c l=>have zm:dV s ((0:Nat):Int)=c/\0<s.size/\_:=tv (by rw[avI];exact hb);have Hc:dV s (0:Int)=c:=zm.1;have hz:=zm.2.1;refine VL ⟨⟨by decide,by omega⟩,_,pL,?_⟩;rw[Hc];refine aA.intro (λh=>⟨_,DM hs,?_⟩) λh=>⟨⟨by decide,by omega⟩,_,rj,aA.intro (λh2=>⟨_,Bv hs,?_⟩) λh2=>⟨_,MZ hs,?_⟩⟩;rw[CR,if_pos h,hb];rfl;rw[CR,if_neg (by rw[h];decide),if_pos h2,hb];rfl;rw[CR,if_neg (by rw[h];decide),if_neg (by rw[h2];decide),hb];rfl
def XF(c:Int):aw:=if c<33\/c>126 then⟨#[]⟩ else strOfNums [c]
theorem CS{c:Int}:az aj 120 [.ay (.int .u8 c)] (nS (XF c)):=by refine VM (aA.intro (λh=>?_) λh=>aA.intro (λh2=>?_) λh2=>?_);rw[XF,if_pos (.inl (of_decide_eq_true h))];rw[XF,if_pos (.inr (of_decide_eq_true h2))];rw[XF,if_neg (by have:=of_decide_eq_false h;have:=of_decide_eq_false h2;omega)]
def D5(s:aw):aw:=s.extract 0 (if 10<s.size then 10 else s.size)
theorem xV{s:aw}:az aj 121 [nS s] (nS (D5 s)):=by refine VN ⟨⟨by decide,by split<;>omega,by split<;>omega⟩,?_⟩;rw[D5];by_cases h:10<s.size;rw[if_pos h,if_pos (by omega)];rfl;rw[if_neg h,if_neg (by omega)];rfl
abbrev Fa:=Int×Int×Int×aw
abbrev M0(f:Fa):List AV:=[nI f.1,nI f.2.1,nI f.2.2.1,nS f.2.2.2]
def pW:Fa:=(0,0,0,⟨#[]⟩)
def M1(s:aw)(code:Int)(i:Nat)(w:aw):Fa:=(code,(nk (1,1) ((aE s).take i)).1,(nk (1,1) ((aE s).take i)).2,w)
def iH(s:aw)(i:Nat):Nat:=i+jC false ((aE s).drop i)
def sA(s:aw)(i:Nat):Nat×Nat:=CR ((aE s).drop i)
def Gb(s:aw):Nat->Nat->List Tk->List Tk×Int×Nat×aw
 |0,_,acc=>(acc,0,0,⟨#[]⟩)|f+1,i,acc=>if iH s i=s.size then(acc,0,0,⟨#[]⟩)
  else if(sA s (iH s i)).2=0 then([],3,iH s i,XF (dV s (iH s i)))
  else if((sA s (iH s i)).1=1/\30<(sA s (iH s i)).2)\/((sA s (iH s i)).1=2/\9<(sA s (iH s i)).2)then([],2,iH s i,D5 (s.extract (iH s i) (iH s i+(sA s (iH s i)).2)))
  else Gb s f (iH s i+(sA s (iH s i)).2) (acc++[((((sA s (iH s i)).1:Nat):Int),s.extract (iH s i) (iH s i+(sA s (iH s i)).2),((iH s i:Nat):Int))])
def XG(s:aw)(r:List Tk×Int×Nat×aw):List Tk×Fa:=if r.2.1=0 then(r.1,pW)else([],M1 s r.2.1 r.2.2.1 r.2.2.2)
def dh(s:aw):List Tk×Fa:=if s.size>20000 then([],(2,1,1,⟨#[]⟩))else XG s (Gb s (s.size+1) 0 [])
theorem PF:∀l:List Int,(CR l).2<=l.length
 | []=>aur _|c::l=>by have h1:=ab3 (c::l);have h2:=aci (c::l);rw[CR];split;exact h1;split;exact h2;rw[D4];split;rename_i h;obtain⟨d,hd⟩:∃d,l.head?=some d:=⟨_,h.2⟩;(cases l with|nil=>cases hd|cons d l=>simp);split<;>simp
theorem qq{s w:aw}{f:Fa}{us:List AV}{i:Nat}{c:Int}(hi:i<=s.size)(hs:s.size<=1000000000):aY aj 115 [nI c,nS w,.ptr 0 0,.ptr 3 0] (DF s f.1 f.2.1 f.2.2.1 f.2.2.2 us.length (i:Int) us) (λr hp'=>r=.aG [.ay (.slice none 0 0),.agg (M0 (M1 s c i w))]/\hp'=DF s f.1 f.2.1 f.2.2.1 f.2.2.2 us.length (i:Int) us):=VG ⟨_,_,_,nT hi hs,rfl,rfl⟩
theorem Bw{s:aw}{f:Fa}{us:List Tk}{i n:Nat}{k:Int}(hi:i+n<=s.size)(hs:s.size<=1000000000)(hu:us.length<=1000000000):aY aj 117 [nI k,nI (n:Int),.ptr 2 0,.ptr 0 0,.ptr 3 0] (DF s f.1 f.2.1 f.2.2.1 f.2.2.2 (us.map cP).length (i:Int) (us.map cP)) (λr hp'=>r=.aG []/\hp'=DF s f.1 f.2.1 f.2.2.1 f.2.2.2 ((us++[(k,s.extract i (i+n),(i:Int))]).map cP).length ((i+n:Nat):Int) ((us++[(k,s.extract i (i+n),(i:Int))]).map cP)):=by (refine VH ?_;have w:ag .i64 ((i:Int)+(n:Int))=((i+n:Nat):Int):=by rw[ba (by omega) (by omega)];omega);unfold adE;rw[w];have e:=ab4 us (k,s.extract i (i+n),(i:Int));refine⟨⟨by omega,by omega,by omega⟩,rfl,bH rfl (by simp;omega) (by decide),rfl,?_⟩;rw[<-e];rfl
theorem Bx{s:aw}(hs:s.size<=1000000000):az aj 58 [nS s] (.aG [.sl ((dh s).1.map cP),.agg (M0 (dh s).2)]):=by
 have hl:=cG s;refine aaR ?_;refine aA.intro (λh=>?_) λh=>?_;have h:s.size>20000:=by have:=of_decide_eq_true h;omega
 rw[dh,if_pos h];rfl;refine⟨rfl,?_⟩;have cY:¬s.size>20000:=by have:=of_decide_eq_false h;omega
 have hsp:dh s=XG s (Gb s (s.size+1) 0 []):=if_neg cY;refine aI.intro (λp:Nat×Nat×List Tk=>(((),(),(),(),((),(),()),((),(),(),()),()),((s,()),(0,0,0,⟨#[]⟩,()),((),()),((p.2.1:Int),()),p.2.2.map cP,()))) (λp=>p.2.1<=s.size/\s.size+1<=p.1+p.2.1/\p.2.2.length<=p.2.1/\dh s=XG s (Gb s p.1 p.2.1 p.2.2)) (λp=>s.size-p.2.1) (s.size+1,0,[]) rfl ⟨auv _,by dsimp only;omega,aur _,hsp⟩ ?_;intro ⟨f,i,acc⟩ ⟨hi,hf,hac,hd⟩ again bQ;dsimp only at hi hf hac hd ⊢;obtain⟨f,rfl⟩:∃g,f=g+1:=⟨f-1,by omega⟩;have Xj:=MY (s:=s.extract i s.size) (by rw[avP];omega);rw[jg]at Xj;have hle:=Bt false ((aE s).drop i);rw[auS,hl]at hle;have w1:ag .i64 ((i:Int)+((jC false ((aE s).drop i):Nat):Int))=((iH s i:Nat):Int):=by rw[ba (by omega) (by omega),iH];omega
 have ha:iH s i<=s.size:=by rw[iH];omega
 have hai:i<=iH s i:=by rw[iH];omega
 refine⟨⟨by omega,by omega,by omega⟩,_,Xj,?_⟩;rw[w1];rw[Gb]at hd;clear w1 Xj hle;generalize hA:iH s i=a at ha hai hd ⊢;refine aA.intro (λh1=>⟨rfl,?_⟩) λh1=>?_;have h1:a=s.size:=by have:=eq_of_beq h1;omega
 rw[if_pos h1]at hd;rw[hd];rfl;have h1:¬a=s.size:=λe=>by rw[e]at h1;simp at h1
 rw[if_neg h1]at hd;have hfi:=JO (s:=s.extract a s.size) (by rw[avP];omega) (by rw[jg];intro e;have:=congrArg ab e;rw[auS,hl]at this;simp at this;omega);rw[jg]at hfi;have HR:=PF ((aE s).drop a);rw[auS,hl]at HR;change az _ _ _ (.aG [nI ((sA s a).1:Nat),nI ((sA s a).2:Nat)])at hfi;change (sA s a).2<=_ at HR;refine⟨⟨by omega,by omega,by omega⟩,_,_,hfi,?_⟩;generalize hT:sA s a=t at HR hd ⊢;obtain⟨k,n⟩:=t;dsimp only at HR hd ⊢;have afx:(k=1/\30<n\/k=2/\9<n)->¬n=0->nI (0:Int)=nI 0->AV.aG [.sl [],.agg (M0 (M1 s 2 a (D5 (s.extract a (a+n)))))]=AV.aG [.sl ((dh s).1.map cP),.agg (M0 (dh s).2)]:=λh h0 _=>by rw[if_neg h0,if_pos h]at hd;rw[hd];rfl
 have w2:ag .i64 ((a:Int)+(n:Int))=((a+n:Nat):Int):=by rw[ba (by omega) (by omega)];omega
 have cut:¬(k=1/\30<n\/k=2/\9<n)->¬n=0->aH 117 [nI (k:Int),nI (n:Int),.ptr 2 0,.ptr 0 0,.ptr 3 0] (DF s 0 0 0 ⟨#[]⟩ (acc.map cP).length (a:Int) (acc.map cP)) λr q=>∃l s2 i1 i2 i3 w i,(r=.aG []/\q=DF s2 i1 i2 i3 w (ab l) i l)/\ab l=ab l/\
   again (((),(),(),(),((),(),()),((),(),(),()),()),((s2,()),(i1,i2,i3,w,()),((),()),(i,()),l,())):=λh h0=>by
  rw[if_neg h0,if_neg h]at hd;exact⟨_,Bw (f:=pW) (by omega) hs (by omega),λr q ⟨e1,e2⟩=>⟨_,_,_,_,_,_,_,⟨e1,e2⟩,rfl,bQ (f,a+n,acc++[((k:Int),s.extract a (a+n),(a:Int))]) ⟨by dsimp only;omega,by dsimp only;omega,by simp;omega,hd⟩ (by dsimp only;omega)⟩⟩
 have rest:∀b:Bool,(b=true->(k=1/\30<n\/k=2/\9<n))->(b=false->¬(k=1/\30<n\/k=2/\9<n))->¬n=0->
   uK b (a:Int) (n:Int) s 0 0 0 ⟨#[]⟩ (acc.map cP).length (acc.map cP) (λr=>r=.aG [.sl ((dh s).1.map cP),.agg (M0 (dh s).2)]) (k:Int) again:=λb xq hb2 h0=>by
  refine aA.intro (λh=>?_) λh=>cut (hb2 h) h0;rw[w2];exact⟨⟨by omega,by omega,by omega⟩,_,xV,_,qq (f:=pW) (by omega) hs,λr q ⟨e1,e2⟩=>⟨_,_,_,_,_,_,_,_,_,_,_,⟨e1,e2⟩,afx (xq h) h0 rfl⟩⟩
 refine aA.intro (λh2=>?_) λh2=>?_;have h2:n=0:=by have:=eq_of_beq h2;omega
 rw[if_pos h2]at hd;refine⟨⟨by omega,by omega⟩,_,CS,_,qq (f:=pW) (by omega) hs,λr q ⟨e1,e2⟩=>⟨_,_,_,_,_,_,_,_,_,_,_,⟨e1,e2⟩,?_⟩⟩;rw[hd];rfl;have h0:¬n=0:=λe=>by subst e;cases h2
 refine aA.intro (λh3=>aA.intro (λh4=>?_) λh4=>aA.intro (λh5=>?_) λh5=>?_) λh3=>aA.intro (λh5=>?_) λh5=>?_;have h3:k=1:=by have:=eq_of_beq h3;omega
 have h4':30<n:=by have:=of_decide_eq_true h4;omega
 rw[h4];exact rest _ (λ_=>.inl ⟨h3,h4'⟩) (λh=>by cases h) h0;have h3:k=1:=by have:=eq_of_beq h3;omega
 have h5:k=2:=by have:=eq_of_beq h5;omega
 omega;have h3:k=1:=by have:=eq_of_beq h3;omega
 have h4:¬30<n:=by have:=of_decide_eq_false h4;omega
 exact cut (by omega) h0;have h5:k=2:=by have:=eq_of_beq h5;omega
 exact rest _ (λh=>.inr ⟨h5,by have:=of_decide_eq_true h;omega⟩) (λh=>by have:=of_decide_eq_false h;omega) h0;have h3:¬k=1:=λe=>by subst e;cases h3
 have h5:¬k=2:=λe=>by subst e;cases h5
 exact cut (by omega) h0
section
abbrev St:=Nat×Fa
structure PE(L:List Tk)(s:aw):Prop where
 len:L.length<=1000000
 size:s.size<=1000000000
 at_:∀t∈L,0<=t.2.2/\t.2.2<(s.size:Int)
 kind:∀t∈L,t.1≠4
abbrev RO(L:List Tk)(s:aw)(i:Nat):List ax:=iz (L.map cP) s (i:Int)
abbrev PO(L:List Tk)(s:aw)(o:Int)(st:St):List ax:=bo (L.map cP) s (st.1:Int) o st.2.1 st.2.2.1 st.2.2.2.1 st.2.2.2.2
abbrev PQ(L:List Tk)(s:aw)(o:Int)(st:St):List ax:=uD (L.map cP) s (st.1:Int) o st.2.1 st.2.2.1 st.2.2.2.1 st.2.2.2.2
def acj(s:aw):Tk:=(4,⟨#[]⟩,(s.size:Int))
def pk(L:List Tk)(s:aw)(i:Nat):Tk:=L.getD i (acj s)
def jq(st:St):Bool:=st.2.1==0
def jh(L:List Tk)(s:aw)(c:Int)(st:St):St:=if jq st=true then(st.1,M1 s c (pk L s st.1).2.2.toNat (D5 (pk L s st.1).2.1))else st
def G6(w:aw)(t:Tk):Bool:=(t.1==1||t.1==3)&&decide (t.2.1=w)
def dE(L:List Tk)(s w:aw)(st:St):Bool×St:=if(jq st&&G6 w (pk L s st.1))=true then(true,(st.1+1,st.2))else(false,st)
def dF(L:List Tk)(s w:aw)(st:St):St:=if jq st=true then(if G6 w (pk L s st.1)=true then(st.1+1,st.2)else jh L s 3 st)else st
def lA(L:List Tk)(s:aw)(k:Int)(st:St):Tk×St:=if jq st=true then(if(pk L s st.1).1=k then(pk L s st.1,(st.1+1,st.2))else((0,⟨#[]⟩,0),jh L s 3 st))else((0,⟨#[]⟩,0),st)
variable {L:List Tk} {s w:aw} {o:Int} {st:St} {i n:Nat}
theorem XH(h:i<L.length):pk L s i=L[i]:=by simp[pk,ae,h]
theorem PG(h:L.length<=i):pk L s i=acj s:=by simp[pk,ae,h]
theorem akq(h:PE L s):0<=(pk L s i).2.2/\(pk L s i).2.2<=(s.size:Int):=by rcases Nat.lt_or_ge i L.length with h1|h1;rw[XH h1];exact(h.at_ _ (auz h1)).imp id Int.le_of_lt;rw[PG h1];exact⟨by simp[acj],Int.le_refl _⟩
theorem vf(h:PE L s)(hk:(pk L s i).1≠4):i<L.length:=by rcases Nat.lt_or_ge i L.length with h1|h1;exact h1;rw[PG h1]at hk;exact(hk rfl).elim
theorem Gc(h:G6 w (pk L s i)=true):i<L.length:=by rcases Nat.lt_or_ge i L.length with h1|h1;exact h1;rw[PG h1]at h;simp[G6,acj]at h
def nU(L:List Tk)(st st':St):Prop:=st.1<=st'.1/\(st.1<=L.length->st'.1<=L.length)
theorem nU.refl:nU L st st:=⟨aur _,id⟩
theorem nU.trans{a b c:St}(h1:nU L a b)(h2:nU L b c):nU L a c:=⟨auP h1.1 h2.1,λh=>h2.2 (h1.2 h)⟩
theorem nU.succ(h:st.1<L.length){f:Fa}:nU L st (st.1+1,f):=⟨by simp,λ_=>by simp;omega⟩
theorem oK{c:Int}:nU L st (jh L s c st):=by unfold jh;split;exact⟨aur _,id⟩;exact nU.refl
theorem fX:nU L st (dE L s w st).2:=by unfold dE;split;rename_i h;rw[auq]at h;exact nU.succ (Gc h.2);exact nU.refl
theorem dB:nU L st (dF L s w st):=by unfold dF;split;split;rename_i h;exact nU.succ (Gc h);exact oK;exact nU.refl
theorem By(h:PE L s){k:Int}(hk:k≠4):nU L st (lA L s k st).2:=by unfold lA;split;split;rename_i h1;exact nU.succ (vf h (by rw[h1];exact hk));exact oK;exact nU.refl
theorem dC(h:PE L s)(hi:i<=L.length):aY aj 37 [.ptr 0 0,nI 0] (RO L s i) (λr q=>r=cP (pk L s i)/\q=RO L s i):=by (have:=h.len;have hw:ag .i64 (((L.length:Nat):Int)-(i:Int))=(L.length:Int)-i:=ba (by omega) (by omega);have YH:ag .i64 ((i:Int)+0)=(i:Int):=by rw[Int.add_zero,ba (by omega) (by omega)]);refine aaU (aA.neg rfl ?_);rw[aum];refine aA.intro (λh1=>?_) λh1=>?_;have h1:=of_decide_eq_true h1;rw[hw]at h1;rw[PG (by omega)];exact⟨rfl,rfl⟩;(have h1:=of_decide_eq_false h1;rw[hw]at h1;have aF:i<L.length:=by omega);rw[YH];exact⟨by omega,by omega,_,_,_,getD_map aF,by rw[XH aF];rfl,rfl⟩
theorem xW(h:PE L s)(hi:i<=L.length):aY aj 62 [.ptr 0 0] (RO L s i) (λr q=>r=cP (pk L s i)/\q=RO L s (if i<L.length then i+1 else i)):=by have:=h.len;refine aaV ⟨_,dC h hi,λr q ⟨e1,e2⟩=>⟨_,_,_,_,_,_,⟨e1,e2⟩,?_⟩⟩;rw[aum];refine aA.intro (λh1=>⟨rfl,?_⟩) λh1=>⟨rfl,?_⟩;rw[if_pos (by have:=of_decide_eq_true h1;omega),bc (by omega)];rw[if_neg (by have:=of_decide_eq_false h1;omega)]
theorem Bz(h:PE L s)(hi:i<=L.length):aY aj 133 [.ptr 0 0,.clip [nS w]] (RO L s i) (λr q=>r=nB (G6 w (pk L s i))/\q=RO L s (if G6 w (pk L s i)=true then i+1 else i)):=by have:=h.len;refine aY.xA (ys:=[.ptr 0 0,.sl [nS w]]) ⟨aX.refl _,fV _,ai⟩ ?_;refine VR ?_;refine aI.intro (λk:Nat=>(((),[nS w],[nS w],1,(k:Int),()),((L.map cP,s,(i:Int),()),()))) (λk=>k=0\/k=1/\G6 w (pk L s i)=true) (λk=>1-k) 0 rfl (.inl rfl) ?_;intro k hk again bQ;dsimp only;rcases hk with rfl|⟨rfl,hk⟩;(refine aA.pos rfl ⟨by decide,by show (0:Int)<1;decide,_,rfl,_,dC h hi,λr q ⟨e1,e2⟩=>⟨_,_,_,_,_,_,⟨e1,e2⟩,?_⟩⟩;rw[ei];have fin:(pk L s i).1=1\/(pk L s i).1=3->aA (!(decide ((pk L s i).2.1=w))) (nB false=nB (G6 w (pk L s i))/\RO L s i=RO L s (if G6 w (pk L s i)=true then i+1 else i)) (again (((),[nS w],[nS w],1,ag .i64 (((0:Nat):Int)+1),()),((L.map cP,s,(i:Int),()),()))):=λhk=>by (have hk:((pk L s i).1==1||(pk L s i).1==3)=true:=by simpa using hk);refine aA.intro (λh1=>?_) λh1=>?_;(have:G6 w (pk L s i)=false:=by rw[G6,hk];simpa using h1);rw[this];exact⟨rfl,rfl⟩;refine bQ 1 (.inr ⟨rfl,?_⟩) (by decide);rw[G6,hk];simpa using h1);(refine aA.intro (λh1=>aA.intro (λh2=>?_) λh2=>fin (.inr (by simpa using h2))) λh1=>fin (.inl (by simpa using h1));have:G6 w (pk L s i)=false:=by (have h1:¬(pk L s i).1=1:=by simpa using h1);(have h2:¬(pk L s i).1=3:=by simpa using h2);simp[G6,h1,h2]);rw[this];exact⟨rfl,rfl⟩;refine aA.neg rfl ⟨by rw[hk],?_⟩;have e:ag .i64 ((i:Int)+1)=((i+1:Nat):Int):=bc (by omega);show iz _ _ (ag .i64 ((i:Int)+1))=_;rw[if_pos hk,e]
theorem Gd(h:PE L s)(hi:i<=L.length):aY aj 123 [.ptr 0 0] (RO L s i) (λr q=>r=Bs s (pk L s i).2.2.toNat/\q=RO L s i):=by (have ha:=akq (i:=i) h;have hp:az aj 116 [nS s,nI (pk L s i).2.2] (.aG [Bs s (pk L s i).2.2.toNat,nI 0]):=by have:=nT (s:=s) (i:=(pk L s i).2.2.toNat) (by omega) h.size;rwa [show (((pk L s i).2.2.toNat:Nat):Int)=(pk L s i).2.2 by omega]at this);have key:uL (L.map cP) s (i:Int) (λr q=>r=Bs s (pk L s i).2.2.toNat/\q=RO L s i):= ⟨_,dC h hi,λr q ⟨e1,e2⟩=>⟨_,_,_,_,_,_,⟨e1,e2⟩,_,_,_,hp,aA.pos rfl ⟨rfl,rfl⟩⟩⟩;have akr:th (L.map cP) s (i:Int) (λr q=>r=Bs s (pk L s i).2.2.toNat/\q=RO L s i):= ⟨_,dC h hi,λr q ⟨e1,e2⟩=>⟨_,_,_,_,_,_,⟨e1,e2⟩,_,_,_,hp,aA.pos rfl ⟨rfl,rfl⟩⟩⟩;exact VS ⟨⟨key,key⟩,akr,key,akr⟩
theorem JP(h:PE L s)(hi:i<=L.length){c:Int}:aY aj 60 [.ptr 0 0,nI c] (RO L s i) (λr q=>r=.agg (M0 (M1 s c (pk L s i).2.2.toNat (D5 (pk L s i).2.1)))/\q=RO L s i):=aaW ⟨_,Gd h hi,λr q ⟨e1,e2⟩=>⟨_,_,_,_,_,⟨e1,e2⟩,_,dC h hi,λr q ⟨e1,e2⟩=>⟨_,_,_,_,_,_,⟨e1,e2⟩,_,xV,rfl,rfl⟩⟩⟩
theorem cx:aY aj 36 [.ptr 1 0] (PO L s o st) (λr q=>r=nB (jq st)/\q=PO L s o st):=aaY ⟨rfl,rfl⟩
theorem fH(h:PE L s)(hi:st.1<=L.length){c:Int}:aY aj 38 [.ptr 1 0,nI c] (PO L s o st) (λr q=>r=.aG []/\q=PO L s o (jh L s c st)):=by refine aaX ⟨_,cx,λr q ⟨e1,e2⟩=>⟨_,_,_,_,_,_,_,_,_,⟨e1,e2⟩,aA.intro (λh1=>⟨_,JP h hi,λr q ⟨e1,e2⟩=>⟨_,_,_,_,_,_,_,⟨e1,e2⟩,rfl,?_⟩⟩) λh1=>⟨rfl,?_⟩⟩⟩;rw[jh,if_pos h1];rw[jh,if_neg (by rw[h1];decide)]
theorem kz(h:PE L s)(hi:st.1<=L.length):aY aj 127 [.ptr 1 0,nS w] (PO L s o st) (λr q=>r=nB (dE L s w st).1/\q=PO L s o (dE L s w st).2):=by refine V5 ⟨_,cx,λr q ⟨e1,e2⟩=>⟨_,_,_,_,_,_,_,_,_,⟨e1,e2⟩,aA.intro (λh1=>⟨_,Bz h hi,λr q ⟨e1,e2⟩=>⟨_,_,_,_,⟨e1,e2⟩,?_,?_⟩⟩) λh1=>⟨?_,?_⟩⟩⟩;rw[dE,h1,au5];split<;>simp_all;rw[dE,h1,au5];split<;>rfl;rw[dE,h1];rfl;rw[dE,h1];rfl
theorem eS(h:PE L s)(hi:st.1<=L.length):aY aj 72 [.ptr 1 0,nS w] (PO L s o st) (λr q=>r=.aG []/\q=PO L s o (dF L s w st)):=by refine aaZ ⟨_,cx,λr q ⟨e1,e2⟩=>⟨_,_,_,_,_,_,_,_,_,⟨e1,e2⟩,aA.intro (λh1=>⟨_,Bz h hi,λr q ⟨e1,e2⟩=>⟨_,_,_,_,⟨e1,e2⟩,?_⟩⟩) λh1=>⟨rfl,?_⟩⟩⟩;cases ht:G6 w (pk L s st.1);refine aA.pos rfl ⟨_,fH (st:=st) h hi,λr q ⟨e1,e2⟩=>⟨_,_,_,_,_,_,_,_,⟨e1,e2⟩,rfl,?_⟩⟩;rw[dF,if_pos h1,ht];rfl;refine aA.neg rfl ⟨rfl,?_⟩;rw[dF,if_pos h1,ht];rfl;rw[dF,if_neg (by rw[h1];decide)]
theorem rF{c:Int}(hc:c≠0)(h:jq st=true):jq (jh L s c st)=false:=by rw[jh,if_pos h];simp[jq,M1,hc]
theorem pX(h:PE L s)(hi:st.1<=L.length){k:Int}(hk:k≠4):aY aj 128 [.ptr 1 0,nI k] (PO L s o st) (λr q=>r=cP (lA L s k st).1/\q=PO L s o (lA L s k st).2):=by have bad:∀(R:AV->List ax->Prop){st1:St},jq st1=false->R (.agg [nI 0,nS ⟨#[]⟩,nI 0]) (PO L s o st1)->AW (L.map cP) s (st1.1:Int) o st1.2.1 st1.2.2.1 st1.2.2.2.1 st1.2.2.2.2 R:=λR _ h1 hR=> ⟨_,cx,λr q ⟨e1,e2⟩=>⟨_,_,_,_,_,_,_,_,_,⟨e1,e2⟩,aA.pos (by rw[h1];rfl) hR⟩⟩;refine V7 ⟨_,cx,λr q ⟨e1,e2⟩=>⟨_,_,_,_,_,_,_,_,_,⟨e1,e2⟩,aA.intro (λh1=>⟨_,dC h hi,λr q ⟨e1,e2⟩=>⟨_,_,_,_,_,_,⟨e1,e2⟩,aA.intro (λh2=>?_) λh2=>?_⟩⟩) λh1=>?_⟩⟩;(have h2:¬(pk L s st.1).1=k:=by simpa using h2);refine⟨_,fH (st:=st) h hi,λr q ⟨e1,e2⟩=>⟨_,_,_,_,_,_,_,_,⟨e1,e2⟩,bad (λr q=>r=cP (lA L s k st).1/\q=PO L s o (lA L s k st).2) (st1:=jh L s 3 st) (rF (by decide) h1) ?_⟩⟩;rw[lA,if_pos h1,if_neg h2];exact⟨rfl,rfl⟩;(have h2:(pk L s st.1).1=k:=by simpa using h2);have aF:=vf (L:=L) (s:=s) (i:=st.1) h (by rw[h2];exact hk);refine⟨_,cx (st:=st),λr q ⟨e1,e2⟩=>⟨_,_,_,_,_,_,_,_,_,⟨e1,e2⟩,aA.neg (by rw[h1];rfl) ⟨_,xW h hi,λr q ⟨e1,e2⟩=>⟨_,_,_,_,_,_,⟨e1,e2⟩,?_,?_⟩⟩⟩⟩;rw[lA,if_pos h1,if_pos h2];rfl;rw[lA,if_pos h1,if_pos h2,if_pos aF];refine bad _ (st1:=st) h1 ?_;rw[lA,if_neg (by rw[h1];decide)];exact⟨rfl,rfl⟩
def bM(L:List Tk)(s:aw)(st:St):aw×St:=((lA L s 1 st).1.2.1,(lA L s 1 st).2)
theorem cV(h:PE L s):nU L st (bM L s st).2:=By h (by decide)
theorem dM(h:PE L s)(hi:st.1<=L.length):aY aj 68 [.ptr 1 0] (PO L s o st) (λr q=>r=nS (bM L s st).1/\q=PO L s o (bM L s st).2):=aa0 ⟨_,pX h hi (by decide),λr q ⟨e1,e2⟩=>⟨_,_,_,_,_,_,_,_,_,_,_,⟨e1,e2⟩,rfl,rfl⟩⟩
def RB:Int->List Int->Int
 |n,[]=>n|n,c::l=>RB (10*n+(c-48)) l
def XI(t:Tk):Int:=if t.1=2/\t.2.1.size≠0/\t.2.1.size<=9/\rE (aE t.2.1)=t.2.1.size then RB 0 (aE t.2.1)else 0
theorem XJ(s:aw):jx s=(aE s).map λc=>.ay (.int .u8 c):=by simp[jx,aE]
theorem XK{l:List Int}(h:rE l=l.length):∀c∈l,48<=c/\c<=57:=by induction l with|nil=>simp|cons c l ih=>rw[r6,auy]at h;split at h;rename_i hc;intro d hd;rcases auJ.1 hd with rfl|hd;simpa [isDigit]using hc;exact ih (by omega) d hd;omega
theorem JQ{t:Tk}:az aj 132 [cP t] (.aG [nI (XI t),nI (if t.1=2/\t.2.1.size≠0/\t.2.1.size<=9/\rE (aE t.2.1)=t.2.1.size then 0 else 1)]):=by (have hl:=cG t.2.1;have no:¬(t.1=2/\t.2.1.size≠0/\t.2.1.size<=9/\rE (aE t.2.1)=t.2.1.size)->AV.aG [nI 0,nI 1]=.aG [nI (XI t),nI (if t.1=2/\t.2.1.size≠0/\t.2.1.size<=9/\rE (aE t.2.1)=t.2.1.size then 0 else 1)]:=λh=>by rw[XI,if_neg h,if_neg h]);refine V4 (aA.intro (λh1=>no λc=>?_) λh1=>aA.intro (λh2=>no λc=>?_) λh2=>aA.intro (λh3=>no λc=>?_) λh3=>?_);rw[c.1]at h1;cases h1;rw[Bb]at h2;exact c.2.1 (of_decide_eq_true h2);have:=of_decide_eq_true h3;omega;(have h1:t.1=2:=by simpa using h1);(have h2:¬t.2.1.size=0:=by rw[Bb]at h2;exact of_decide_eq_false h2);(have h3:t.2.1.size<=9:=by have:=of_decide_eq_false h3;omega);refine⟨_,Bv (by omega),aA.intro (λh4=>no λc=>?_) λh4=>⟨by omega,?_⟩⟩;rw[c.2.2.2]at h4;simp at h4;(have h4:rE (aE t.2.1)=t.2.1.size:=by (have:((rE (aE t.2.1):Nat):Int)=(t.2.1.size:Int):=by simpa using h4);omega);have Y3:=XK (by rw[hl];exact h4);rw[XJ,aum,hl];refine aI.intro (λp:Nat×Int=>((p.2,(aE t.2.1).map (λc=>.ay (.int .u8 c)),((t.2.1.size:Nat):Int),(p.1:Int),()),((t.1,t.2.1,t.2.2,()),()))) (λp=>p.1<=t.2.1.size/\RB 0 (aE t.2.1)=RB p.2 ((aE t.2.1).drop p.1)/\0<=p.2/\p.2<(10 ^ p.1:Nat)) (λp=>t.2.1.size-p.1) (0,0) rfl ⟨auv _,rfl,Int.le_refl _,by decide⟩ ?_;intro ⟨k,n⟩ ⟨hk,hd,qI,Ze⟩ again bQ;dsimp only at hk hd qI Ze ⊢;refine aA.intro (λh=>?_) λh=>?_;(have aF:k<t.2.1.size:=by have:=of_decide_eq_true h;omega);(have vY:k<(aE t.2.1).length:=by omega);(have hc:=Y3 _ (auz vY);rw[auw vY,RB]at hd;have hp:(10 ^ k:Nat)<=10 ^ 8:=Nat.pow_le_pow_right (by decide) (by omega);have hp9:(10 ^ 8:Nat)=100000000:=by decide);(have hw:ag .u8 ((aE t.2.1)[k]-48)=(aE t.2.1)[k]-48:=by (have key:∀d:Fin 10,ag .u8 ((d.val:Nat):Int)=((d.val:Nat):Int):=by decide);have:=key ⟨((aE t.2.1)[k]-48).toNat,by omega⟩;rwa [show ((((aE t.2.1)[k]-48).toNat:Nat):Int)=(aE t.2.1)[k]-48 by omega]at this);(refine⟨by omega,by rw[aum];omega,_,getD_map vY,?_⟩;rw[hw,ba (n:=10*n) (by omega) (by omega),ba (n:=(aE t.2.1)[k]-48) (by omega) (by omega),ba (by omega) (by omega),bc (by omega)];refine bQ (k+1,_) ⟨by dsimp only;omega,hd,by dsimp only;omega,?_⟩ (by dsimp only;omega);dsimp only;have:(10 ^ (k+1):Nat)=10*10 ^ k:=by rw[Nat.pow_succ];omega);rw[this];omega;(have fb:t.2.1.size<=k:=by have:=of_decide_eq_false h;omega);rw[auH (by omega),RB]at hd;rw[XI,if_pos ⟨h1,h2,h3,h4⟩,if_pos ⟨h1,h2,h3,h4⟩,hd]
def BA(L:List Tk)(s:aw)(st:St):Int×St:=(XI (lA L s 2 st).1,(lA L s 2 st).2)
theorem BB(h:PE L s):nU L st (BA L s st).2:=By h (by decide)
theorem BC(h:PE L s)(hi:st.1<=L.length):aY aj 71 [.ptr 1 0] (PO L s o st) (λr q=>r=nI (BA L s st).1/\q=PO L s o (BA L s st).2):=aa4 ⟨_,pX h hi (by decide),λr q ⟨e1,e2⟩=>⟨_,_,_,_,_,_,_,_,_,_,_,⟨e1,e2⟩,_,_,JQ,rfl,rfl⟩⟩
def xX(L:List Tk)(s:aw)(st:St):Bool:=jq st&&((pk L s st.1).1==1||((pk L s st.1).1==3&&decide ((pk L s st.1).2.1=(⟨#[40]⟩:aw))))
theorem JR(h:PE L s)(hi:st.1<=L.length):aY aj 131 [.ptr 1 0] (PO L s o st) (λr q=>r=nB (xX L s st)/\q=PO L s o st):=by refine Wd ⟨_,dC h hi,λr q ⟨e1,e2⟩=>⟨_,_,_,_,_,_,⟨e1,e2⟩,_,cx (st:=st),λr q ⟨e1,e2⟩=>⟨_,_,_,_,_,_,_,_,_,⟨e1,e2⟩,aA.intro (λh1=>aA.intro (λh2=>⟨?_,rfl⟩) λh2=>aA.intro (λh3=>⟨?_,rfl⟩) λh3=>⟨?_,rfl⟩) λh1=>⟨?_,rfl⟩⟩⟩⟩;rw[xX,h1,h2];rfl;rw[xX,h1,h2,h3,ei];rfl;rw[xX,h1,h2,h3];rfl;rw[xX,h1];rfl
end
section
abbrev M3:aw:=⟨#[40]⟩
abbrev rpW:aw:=⟨#[41]⟩
abbrev arW:aw:=⟨#[45,62]⟩
abbrev bsW:aw:=⟨#[92]⟩
abbrev YL:aw:=⟨#[58]⟩
abbrev doW:aw:=⟨#[46]⟩
section
variable (L:List Tk) (s:aw)
def cH(f:St->Nd×St)(st:St):Nd×St:=
 match dE L s M3 st with
 |(true,st1)=>((f st1).1,dF L s rpW (f st1).2)
 |(false,st1)=>(.mk 1 (lA L s 1 st1).1.2.1 (lA L s 1 st1).1.2.2 [],(lA L s 1 st1).2)
def RC(f:St->Nd×St)(st:St):Nd×St:=
 match dE L s arW (cH L s f st).2 with
 |(true,st2)=>(.mk 2 ⟨#[]⟩ (cH L s f st).1.at_ [(cH L s f st).1,(f st2).1],(f st2).2)
 |(false,st2)=>((cH L s f st).1,st2)
def gQ(full:Bool)(f:St->Nd×St)(st:St):Nd×St:=if jq st=true then(if full=true then(xQ,jh L s 2 st)else f st)else(xQ,st)
def rG:Nat->St->Nd×St
 |0=>gQ L s true λst=>(xQ,st)|n+1=>gQ L s false (RC L s (rG n))
def XL(f g:St->Nd×St)(a:Int)(st:St):Nd×St:=(.mk 3 (bM L s st).1 a [(f (dF L s YL (bM L s st).2)).1,(g (dF L s doW (f (dF L s YL (bM L s st).2)).2)).1],(g (dF L s doW (f (dF L s YL (bM L s st).2)).2)).2)
def mJ(g:St->Nd×St):Nat->Nd->St->Nd×St
 |0,a,st=>(a,st)|n+1,a,st=>if xX L s st=true then mJ g n (.mk 4 ⟨#[]⟩ a.at_ [a,(cH L s g st).1]) (cH L s g st).2 else(a,st)
def D6(f g:St->Nd×St)(st:St):Nd×St:=
 match dE L s bsW st with
 |(true,st1)=>XL L s f g (pk L s st.1).2.2 st1
 |(false,st1)=>mJ L s g (L.length+1) (cH L s g st1).1 (cH L s g st1).2
def ji:Nat->St->Nd×St
 |0=>gQ L s true λst=>(xQ,st)|n+1=>gQ L s false (D6 L s (rG L s n) (ji n))
end
variable {L:List Tk} {s w:aw} {o:Int} {st:St} {i n:Nat}
def BD(L:List Tk)(f:St->Nd×St):Prop:=∀st,nU L st (f st).2
theorem lP(h:PE L s){f:St->Nd×St}(hf:BD L f):BD L (cH L s f):=by intro st;have h1:=fX (L:=L) (s:=s) (w:=M3) (st:=st);unfold cH;rcases hx:dE L s M3 st with⟨b,st1⟩;rw[hx]at h1;cases b;exact h1.trans (By h (by decide));exact h1.trans ((hf st1).trans dB)
theorem r7{f:St->Nd×St}{b:Bool}(hf:BD L f):BD L (gQ L s b f):=by intro st;unfold gQ;split;split;exact oK;exact hf st;exact nU.refl
theorem XM(h:PE L s){f:St->Nd×St}(hf:BD L f):BD L (RC L s f):=by intro st;have h0:=lP h hf st;have h1:=fX (L:=L) (s:=s) (w:=arW) (st:=(cH L s f st).2);unfold RC;rcases hx:dE L s arW (cH L s f st).2 with⟨b,st1⟩;rw[hx]at h1;cases b;exact h0.trans h1;exact h0.trans (h1.trans (hf st1))
theorem rH(h:PE L s):∀n,BD L (rG L s n)
 |0=>r7 λ_=>nU.refl|n+1=>r7 (XM h (rH h n))
theorem XN(h:PE L s){f g:St->Nd×St}(hf:BD L f)(hg:BD L g){a:Int}:BD L (XL L s f g a):=λst=>
 (cV h).trans (dB.trans ((hf _).trans (dB.trans (hg _))))
theorem D7(h:PE L s){g:St->Nd×St}(hg:BD L g):∀(n:Nat)(a:Nd),BD L (mJ L s g n a)
 |0,a,st=>nU.refl|n+1,a,st=>by rw[mJ];split;exact(lP h hg st).trans (D7 h hg n _ _);exact nU.refl
theorem RD(h:PE L s){f g:St->Nd×St}(hf:BD L f)(hg:BD L g):BD L (D6 L s f g):=by intro st;have h1:=fX (L:=L) (s:=s) (w:=bsW) (st:=st);unfold D6;rcases hx:dE L s bsW st with⟨b,st1⟩;rw[hx]at h1;cases b;exact h1.trans ((lP h hg st1).trans (D7 h hg _ _ _));exact h1.trans (XN h hf hg st1)
theorem lQ(h:PE L s):∀n,BD L (ji L s n)
 |0=>r7 λ_=>nU.refl|n+1=>r7 (RD h (rH h n) (lQ h n))
def XO(x:AV)(H:List ax):AV->List ax->Prop:=λr q=>aX r x/\q=H
theorem aY.M4{P:Program}{f:FuncId}{args:List AV}{hp H:List ax}{x:AV}(h:aY P f args hp (XO x H)):aY P f args hp (λr q=>r=x/\q=H):=h.res λr q ⟨h1,h2⟩=>⟨_,h1,rfl,h2⟩
theorem ndW{a b c x y:AV}(h:aX x y):aX (.agg [a,b,c,x]) (.agg [a,b,c,y]):=aX.agg ⟨aX.refl _,aX.refl _,aX.refl _,h,ai⟩
theorem XP(a b:Nd):[dZ a,dZ b]=[a,b].map Nd.enc:=by simp[Nd.aP]
theorem aks{k a:Int}{w:aw}{x y:Nd}:aX (.agg [nI k,nS w,nI a,.clip [dZ x,dZ y]]) (dZ (.mk k w a [x,y])):=by (have:dZ (.mk k w a [x,y])=.agg [nI k,nS w,nI a,.sl [dZ x,dZ y]]:=by rw[XP];rfl);rw[this];exact ndW (fV _)
theorem wG{k a:Int}{w:aw}:aX (.agg [nI k,nS w,nI a,.ay (.slice none 0 0)]) (dZ (.mk k w a [])):=ndW bX
def RE(L:List Tk)(s:aw)(f:Nat)(o:Int)(F:St->Nd×St):Prop:=∀st:St,st.1<=L.length->aY aj f [.ptr 1 0] (PO L s o st) (λr q=>r=dZ (F st).1/\q=PO L s o (F st).2)
def NdQ(L:List Tk)(s:aw)(f:Nat)(o:Int)(F:St->Nd×St):Prop:=∀st:St,st.1<=L.length->aY aj f [.ptr 2 0] (PQ L s o st) (λr q=>r=dZ (F st).1/\q=PQ L s o (F st).2)
theorem JS(h:PE L s){F:St->Nd×St}(hF:RE L s 65 o F)(ha:BD L F)(hi:st.1<=L.length): aY aj 126 [.ptr 1 0,.dt 65 [.ptr 1 0]] (PO L s o st) (λr q=>r=dZ (cH L s F st).1/\q=PO L s o (cH L s F st).2):=by have hn:=kz (o:=o) (w:=M3) h hi;have h1:=fX (L:=L) (s:=s) (w:=M3) (st:=st);unfold cH;rcases hx:dE L s M3 st with⟨b,st1⟩;rw[hx]at hn h1;have jw:=h1.2 hi;refine aY.M4 (IU ⟨_,hn,λr q ⟨e1,e2⟩=>⟨_,_,_,_,_,_,_,_,_,⟨e1,e2⟩,?_⟩⟩);cases b;exact aA.neg rfl ⟨_,pX h jw (by decide),λr q ⟨e1,e2⟩=>⟨_,_,_,_,_,_,_,_,_,_,_,⟨e1,e2⟩,wG,rfl⟩⟩;exact aA.pos rfl ⟨_,hF st1 jw,λr q ⟨e1,e2⟩=>⟨_,_,_,_,_,_,_,_,_,_,_,_,⟨e1,e2⟩,_,eS h ((ha st1).2 jw),λr q ⟨e1,e2⟩=>⟨_,_,_,_,_,_,_,_,⟨e1,e2⟩,aX.refl _,rfl⟩⟩⟩
theorem CT(h:PE L s){F:St->Nd×St}(ho:0<=o/\o<=60)(hF:o≠60->NdQ L s 125 (o+1) F)(hi:st.1<=L.length): aY aj 124 [.ptr 1 0,.bz 125 [.ptr 2 0]] (PQ L s o st) (λr q=>r=dZ (gQ L s (o==60) F st).1/\q=PQ L s o (gQ L s (o==60) F st).2):=by refine aY.M4 (CH ⟨_,cx (st:=st),λr q ⟨e1,e2⟩=>⟨_,_,_,_,_,_,_,_,_,⟨e1,e2⟩,aA.intro (λh1=>aA.intro (λh2=>?_) λh2=>?_) λh1=>?_⟩⟩);refine⟨_,fH (st:=st) h hi,λr q ⟨e1,e2⟩=>⟨_,_,_,_,_,_,_,_,⟨e1,e2⟩,_,cx (st:=jh L s 2 st),λr q ⟨e1,e2⟩=>⟨_,_,_,_,_,_,_,_,_,⟨e1,e2⟩,aA.pos (by rw[rF (by decide) h1];rfl) ?_⟩⟩⟩;rw[gQ,if_pos h1,if_pos h2];exact⟨wG,rfl⟩;(have h3:o≠60:=by simpa using h2);have hb:=hF h3 st hi;rw[gQ,if_pos h1,if_neg (by rw[h2];decide)];refine⟨_,cx (st:=st),λr q ⟨e1,e2⟩=>⟨_,_,_,_,_,_,_,_,_,⟨e1,e2⟩,aA.neg (by rw[h1];rfl) ?_⟩⟩;rw[ba (n:=o+1) (by omega) (by omega)];refine⟨_,hb,λr q ⟨e1,e2⟩=>⟨_,_,_,_,_,_,_,_,_,_,_,_,⟨e1,e2⟩,aX.refl _,?_⟩⟩;rw[ba (n:=o+1-1) (by omega) (by omega),Int.add_sub_cancel];rw[gQ,if_neg (by rw[h1];decide)];exact⟨_,cx (st:=st),λr q ⟨e1,e2⟩=>⟨_,_,_,_,_,_,_,_,_,⟨e1,e2⟩,aA.pos (by rw[h1];rfl) ⟨wG,rfl⟩⟩⟩
theorem xY(h:PE L s){F:St->Nd×St}(ho:0<=o/\o<=60)(hF:o≠60->NdQ L s 125 (o+1) F):RE L s 65 o (gQ L s (o==60) F):=λst hi=>
 aa5 ⟨_,CT h ho hF hi,λr q ⟨e1,e2⟩=>⟨_,_,_,_,_,_,_,_,_,_,_,_,⟨e1,e2⟩,rfl,rfl⟩⟩
theorem xZ(h:PE L s){F:St->Nd×St}(hF:RE L s 70 o F)(ha:BD L F)(hi:st.1<=L.length): aY aj 126 [.ptr 1 0,.dt 70 [.ptr 1 0]] (PO L s o st) (λr q=>r=dZ (cH L s F st).1/\q=PO L s o (cH L s F st).2):=by have hn:=kz (o:=o) (w:=M3) h hi;have h1:=fX (L:=L) (s:=s) (w:=M3) (st:=st);unfold cH;rcases hx:dE L s M3 st with⟨b,st1⟩;rw[hx]at hn h1;have jw:=h1.2 hi;refine aY.M4 (IV ⟨_,hn,λr q ⟨e1,e2⟩=>⟨_,_,_,_,_,_,_,_,_,⟨e1,e2⟩,?_⟩⟩);cases b;exact aA.neg rfl ⟨_,pX h jw (by decide),λr q ⟨e1,e2⟩=>⟨_,_,_,_,_,_,_,_,_,_,_,⟨e1,e2⟩,wG,rfl⟩⟩;exact aA.pos rfl ⟨_,hF st1 jw,λr q ⟨e1,e2⟩=>⟨_,_,_,_,_,_,_,_,_,_,_,_,⟨e1,e2⟩,_,eS h ((ha st1).2 jw),λr q ⟨e1,e2⟩=>⟨_,_,_,_,_,_,_,_,⟨e1,e2⟩,aX.refl _,rfl⟩⟩⟩
theorem CU(h:PE L s){F:St->Nd×St}(ho:0<=o/\o<=60)(hF:o≠60->NdQ L s 129 (o+1) F)(hi:st.1<=L.length): aY aj 124 [.ptr 1 0,.bz 129 [.ptr 2 0]] (PQ L s o st) (λr q=>r=dZ (gQ L s (o==60) F st).1/\q=PQ L s o (gQ L s (o==60) F st).2):=by refine aY.M4 (CJ ⟨_,cx (st:=st),λr q ⟨e1,e2⟩=>⟨_,_,_,_,_,_,_,_,_,⟨e1,e2⟩,aA.intro (λh1=>aA.intro (λh2=>?_) λh2=>?_) λh1=>?_⟩⟩);refine⟨_,fH (st:=st) h hi,λr q ⟨e1,e2⟩=>⟨_,_,_,_,_,_,_,_,⟨e1,e2⟩,_,cx (st:=jh L s 2 st),λr q ⟨e1,e2⟩=>⟨_,_,_,_,_,_,_,_,_,⟨e1,e2⟩,aA.pos (by rw[rF (by decide) h1];rfl) ?_⟩⟩⟩;rw[gQ,if_pos h1,if_pos h2];exact⟨wG,rfl⟩;(have h3:o≠60:=by simpa using h2);have hb:=hF h3 st hi;rw[gQ,if_pos h1,if_neg (by rw[h2];decide)];refine⟨_,cx (st:=st),λr q ⟨e1,e2⟩=>⟨_,_,_,_,_,_,_,_,_,⟨e1,e2⟩,aA.neg (by rw[h1];rfl) ?_⟩⟩;rw[ba (n:=o+1) (by omega) (by omega)];refine⟨_,hb,λr q ⟨e1,e2⟩=>⟨_,_,_,_,_,_,_,_,_,_,_,_,⟨e1,e2⟩,aX.refl _,?_⟩⟩;rw[ba (n:=o+1-1) (by omega) (by omega),Int.add_sub_cancel];rw[gQ,if_neg (by rw[h1];decide)];exact⟨_,cx (st:=st),λr q ⟨e1,e2⟩=>⟨_,_,_,_,_,_,_,_,_,⟨e1,e2⟩,aA.pos (by rw[h1];rfl) ⟨wG,rfl⟩⟩⟩
theorem vg(h:PE L s){F:St->Nd×St}(ho:0<=o/\o<=60)(hF:o≠60->NdQ L s 129 (o+1) F):RE L s 70 o (gQ L s (o==60) F):=λst hi=>
 aa6 ⟨_,CU h ho hF hi,λr q ⟨e1,e2⟩=>⟨_,_,_,_,_,_,_,_,_,_,_,_,⟨e1,e2⟩,rfl,rfl⟩⟩
theorem M5(h:PE L s){F:St->Nd×St}(hF:RE L s 65 o F)(ha:BD L F):NdQ L s 125 o (RC L s F):=by intro st hi;have h0:=lP h ha st;have hn:=kz (o:=o) (w:=arW) (st:=(cH L s F st).2) h (h0.2 hi);have h1:=fX (L:=L) (s:=s) (w:=arW) (st:=(cH L s F st).2);unfold RC;rcases hx:dE L s arW (cH L s F st).2 with⟨b,st1⟩;rw[hx]at hn h1;have jw:=h1.2 (h0.2 hi);refine aY.M4 (Wb ⟨_,JS h hF ha hi,λr q ⟨e1,e2⟩=>⟨_,_,_,_,_,_,_,_,_,_,_,_,⟨e1,e2⟩,_,hn,λr q ⟨e1,e2⟩=>⟨_,_,_,_,_,_,_,_,_,⟨e1,e2⟩,?_⟩⟩⟩);cases b;exact aA.pos rfl ⟨aX.refl _,rfl⟩;have key:AX (L.map cP) s (st1.1:Int) o st1.2.1 st1.2.2.1 st1.2.2.2.1 st1.2.2.2.2 (XO (dZ (.mk 2 ⟨#[]⟩ (cH L s F st).1.at_ [(cH L s F st).1,(F st1).1])) (PQ L s o (F st1).2)) (cH L s F st).1.at_ (cH L s F st).1.kind (cH L s F st).1.word ((cH L s F st).1.kids.map Nd.enc):= ⟨_,hF st1 jw,λr q ⟨e1,e2⟩=>⟨_,_,_,_,_,_,_,_,_,_,_,_,⟨e1,e2⟩,aks,rfl⟩⟩;exact aA.neg rfl ⟨key,key⟩
theorem tw(h:PE L s):∀n:Nat,n<=60->RE L s 65 ((60:Int)-n) (rG L s n)
 |0,_=>xY (o:=(60:Int)-(0:Nat)) h (by omega) λh=>(h rfl).elim|n+1,hn=>by have:=xY (o:=(60:Int)-((n+1:Nat):Int)) h (by omega) λ_=>M5 (F:=rG L s n) h (by rw[show (60:Int)-((n+1:Nat):Int)+1=(60:Int)-(n:Nat) by omega];exact tw h n (by omega)) (rH h n);rw[show ((60:Int)-((n+1:Nat):Int)==60)=false from beq_eq_false_iff_ne.2 (by omega)]at this;exact this
theorem RF(h:PE L s){F G:St->Nd×St}(hF:RE L s 65 o F)(ha:BD L F)(hG:RE L s 70 o G)(hi:st.1<=L.length){a:Int}: aY aj 130 [.ptr 1 0,nI a] (PO L s o st) (λr q=>r=dZ (XL L s F G a st).1/\q=PO L s o (XL L s F G a st).2):=by have i1:=(cV (s:=s) h).2 hi;have i2:=(dB (L:=L) (s:=s) (w:=YL) (st:=(bM L s st).2)).2 i1;have i3:=(ha (dF L s YL (bM L s st).2)).2 i2;have i4:=(dB (L:=L) (s:=s) (w:=doW) (st:=(F (dF L s YL (bM L s st).2)).2)).2 i3;exact aY.M4 (Wc ⟨_,dM h hi,λr q ⟨e1,e2⟩=>⟨_,_,_,_,_,_,_,_,_,⟨e1,e2⟩,_,eS h i1,λr q ⟨e1,e2⟩=>⟨_,_,_,_,_,_,_,_,⟨e1,e2⟩,_,hF _ i2,λr q ⟨e1,e2⟩=> ⟨_,_,_,_,_,_,_,_,_,_,_,_,⟨e1,e2⟩,_,eS h i3,λr q ⟨e1,e2⟩=>⟨_,_,_,_,_,_,_,_,⟨e1,e2⟩,_,hG _ i4,λr q ⟨e1,e2⟩=>⟨_,_,_,_,_,_,_,_,_,_,_,_,⟨e1,e2⟩,aks,rfl⟩⟩⟩⟩⟩⟩)
theorem XQ(h:PE L s){g:St->Nd×St}(hg:BD L g)(hp:xX L s st=true):st.1<(cH L s g st).2.1/\st.1<L.length:=by (simp only[xX,auq,avo,beq_iff_eq,decide_eq_true_eq]at hp;obtain⟨h1,h2⟩:=hp;have aF:st.1<L.length:=by refine vf (L:=L) (s:=s) h ?_;rcases h2 with h2|⟨h2,_⟩<;>rw[h2]<;>decide);refine⟨?_,aF⟩;unfold cH;rcases h2 with h2|⟨h2,h3⟩;cases ht:G6 M3 (pk L s st.1);(have:dE L s M3 st=(false,st):=by rw[dE,h1,ht];rfl);rw[this];dsimp only;rw[lA,if_pos h1,if_pos h2];exact avH _;(have:dE L s M3 st=(true,(st.1+1,st.2)):=by rw[dE,h1,ht];rfl);rw[this];exact auK (avH _) ((hg (st.1+1,st.2)).trans (dB (L:=L) (s:=s) (w:=rpW))).1;(have ht:G6 M3 (pk L s st.1)=true:=by simp[G6,h2,h3]);(have:dE L s M3 st=(true,(st.1+1,st.2)):=by rw[dE,h1,ht];rfl);rw[this];exact auK (avH _) ((hg (st.1+1,st.2)).trans (dB (L:=L) (s:=s) (w:=rpW))).1
theorem JU(h:PE L s){F G:St->Nd×St}(hF:RE L s 65 o F)(ha:BD L F)(hG:RE L s 70 o G)(hb:BD L G):NdQ L s 129 o (D6 L s F G):=by intro st hi;have hn:=kz (o:=o) (w:=bsW) h hi;have h1:=fX (L:=L) (s:=s) (w:=bsW) (st:=st);unfold D6;rcases hx:dE L s bsW st with⟨b,st1⟩;rw[hx]at hn h1;have jw:=h1.2 hi;refine aY.M4 (Wg ⟨_,dC h hi,λr q ⟨e1,e2⟩=>⟨_,_,_,_,_,_,⟨e1,e2⟩,_,hn,λr q ⟨e1,e2⟩=>⟨_,_,_,_,_,_,_,_,_,⟨e1,e2⟩,?_⟩⟩⟩);cases b;refine aA.neg rfl ⟨_,xZ h hG hb jw,λr q ⟨e1,e2⟩=>⟨_,_,_,_,_,_,_,_,_,_,_,_,⟨e1,e2⟩,?_⟩⟩;clear e1 e2;have qC:=(lP h hb st1).2 jw;dsimp only;generalize hX:mJ L s G (L.length+1) (cH L s G st1).1 (cH L s G st1).2=X;refine aI.intro (λp:Nd×St=>(((),(),(),()),((L.map cP,s,(p.2.1:Int),()),((),o,p.2.2.1,p.2.2.2.1,p.2.2.2.2.1,p.2.2.2.2.2,()),((),()),(0,⟨#[]⟩,0,(),()),(p.1.kind,p.1.word,p.1.at_,p.1.kids.map Nd.enc,()),()))) (λp=>p.2.1<=L.length/\∃n,L.length+1<=n+p.2.1/\X=mJ L s G n p.1 p.2) (λp=>L.length-p.2.1) (cH L s G st1) rfl ⟨qC,_,by omega,hX.symm⟩ ?_;intro ⟨a,u⟩ ⟨hu,n,Ze,hn2⟩ again bQ;dsimp only at hu Ze hn2 ⊢;obtain⟨n,rfl⟩:∃m,n=m+1:=⟨n-1,by omega⟩;rw[mJ]at hn2;refine⟨_,JR (st:=u) h hu,λr q ⟨e1,e2⟩=>⟨_,_,_,_,_,_,_,_,_,⟨e1,e2⟩,aA.intro (λh2=>?_) λh2=>?_⟩⟩;(rw[if_pos h2]at hn2;have aF:=XQ h hb h2;have Lp:=(lP h hb u).2 hu;have key:AZ (L.map cP) s (u.1:Int) o u.2.1 u.2.2.1 u.2.2.2.1 u.2.2.2.2 again 0 ⟨#[]⟩ 0 a.at_ a.kind a.word (a.kids.map Nd.enc):=by refine⟨_,xZ h hG hb hu,λr q ⟨e1,e2⟩=>⟨_,_,_,_,_,_,_,_,_,_,_,_,⟨e1,e2⟩,?_⟩⟩;have e:[dZ a,dZ (cH L s G u).1]=[a,(cH L s G u).1].map Nd.enc:=XP _ _;rw[e];exact bQ (.mk 4 ⟨#[]⟩ a.at_ [a,(cH L s G u).1],(cH L s G u).2) ⟨Lp,n,by dsimp only;omega,hn2⟩ (by dsimp only;omega));exact⟨key,key⟩;rw[if_neg (by rw[h2];decide)]at hn2;rw[hn2];exact⟨aX.refl _,rfl⟩;exact aA.pos rfl ⟨_,RF h hF ha hG jw,λr q ⟨e1,e2⟩=>⟨_,_,_,_,_,_,_,_,_,_,_,_,⟨e1,e2⟩,aX.refl _,rfl⟩⟩
theorem x6(h:PE L s):∀n:Nat,n<=60->RE L s 70 ((60:Int)-n) (ji L s n)
 |0,_=>vg (o:=(60:Int)-(0:Nat)) h (by omega) λh=>(h rfl).elim|n+1,hn=>by (have e:(60:Int)-((n+1:Nat):Int)+1=(60:Int)-(n:Nat):=by omega);have:=vg (o:=(60:Int)-((n+1:Nat):Int)) h (by omega) λ_=>JU (F:=rG L s n) (G:=ji L s n) h (by rw[e];exact tw h n (by omega)) (rH h n) (by rw[e];exact x6 h n (by omega)) (lQ h n);rw[show ((60:Int)-((n+1:Nat):Int)==60)=false from beq_eq_false_iff_ne.2 (by omega)]at this;exact this
end
structure It where
 kind:Int
 words:List aw
 nodes:List Nd
 num:Int
 at_:Int
abbrev itC(x:It):List AV:=[nI x.kind,nN x.words,.sl (x.nodes.map Nd.enc),nI x.num,nI x.at_]
abbrev iI(x:It):AV:=.agg (itC x)
section
abbrev scW:aw:=⟨#[59]⟩
abbrev CV:aw:=⟨#[62]⟩
abbrev eqW:aw:=⟨#[61]⟩
def aoW:It:=⟨0,[],[],0,0⟩
def BE:List aw:=[⟨#[115,111,114,116]⟩,⟨#[99,111,110,115,116]⟩,⟨#[118,97,114]⟩,⟨#[101,113]⟩,⟨#[114,117,108,101]⟩,⟨#[112,114,101,99]⟩,⟨#[115,116,97,116,117,115]⟩,⟨#[99,111,109,112,108,101,116,101]⟩,⟨#[110,111,114,109,97,108]⟩,⟨#[100,101,99,105,100,101]⟩,⟨#[99,111,110,102,108,117,101,110,116]⟩,⟨#[99,101,114,116,105,102,121]⟩]
def sB(w:aw):List aw->Nat->Int
 | [],_ => -1|x::l,k=>if w=x then(k:Int)else sB w l (k+1)
def vh(w:aw):Int:=sB w BE 0+1
section
variable (L:List Tk) (s:aw)
def G7:Nat->List aw->St->List aw×St
 |0,l,st=>(l,st)|n+1,l,st=>if(jq st&&(pk L s st.1).1==1)=true then G7 n (l++[(bM L s st).1]) (bM L s st).2 else(l,st)
def pY(st:St):List aw×St:=G7 L s (L.length+1) [(bM L s st).1] (bM L s st).2
def PH:Nat->List aw->St->List aw×St
 |0,l,st=>(l,st)|n+1,l,st=>if(dE L s CV st).1=true then PH n (l++[(bM L s (dE L s CV st).2).1]) (bM L s (dE L s CV st).2).2 else(l,(dE L s CV st).2)
def rI(st:St):List aw×St:=PH L s (L.length+1) [(bM L s st).1,(bM L s (dF L s CV (bM L s st).2)).1] (bM L s (dF L s CV (bM L s st).2)).2
def fL(w:aw)(st:St):List Nd×St:=([(ji L s 60 st).1,(ji L s 60 (dF L s w (ji L s 60 st).2)).1],(ji L s 60 (dF L s w (ji L s 60 st).2)).2)
def eL(st:St):List aw×St:=([(bM L s st).1],dF L s YL (bM L s st).2)
def dW(st:St):Int×St:=((BA L s st).1,dF L s YL (BA L s st).2)
def ack(f:St->Nd×St)(st:St):List Nd×St:=([(f st).1],(f st).2)
def cW(k:Int)(st:St):(List aw×List Nd×Int)×St:=
 if k=1 then(((pY L s st).1,[],0),(pY L s st).2)
 else if k=2\/k=3 then(((eL L s st).1,(ack (rG L s 60) (eL L s st).2).1,0),(ack (rG L s 60) (eL L s st).2).2)
 else if k=4 then(((eL L s st).1,(fL L s eqW (eL L s st).2).1,0),(fL L s eqW (eL L s st).2).2)
 else if k=5 then(((eL L s st).1,(fL L s CV (eL L s st).2).1,0),(fL L s CV (eL L s st).2).2)
 else if k=6 then(((rI L s st).1,[],0),(rI L s st).2)
 else if k=7 then(([(bM L s st).1,(bM L s (bM L s st).2).1],[],0),(bM L s (bM L s st).2).2)
 else if k=9 then(([],(ack (ji L s 60) (dW L s st).2).1,(dW L s st).1),(ack (ji L s 60) (dW L s st).2).2)
 else if k=10 then(([],(fL L s eqW (dW L s st).2).1,(dW L s st).1),(fL L s eqW (dW L s st).2).2)
 else if k=12 then(([(bM L s st).1],[],0),(bM L s st).2)
 else(([],[],(BA L s st).1),(BA L s st).2)
def fS(st:St):It×St:=
 if(pk L s st.1).1=1/\vh (pk L s st.1).2.1≠0 then
  (⟨vh (pk L s st.1).2.1,(cW L s (vh (pk L s st.1).2.1) (st.1+1,st.2)).1.1,(cW L s (vh (pk L s st.1).2.1) (st.1+1,st.2)).1.2.1,(cW L s (vh (pk L s st.1).2.1) (st.1+1,st.2)).1.2.2,(pk L s st.1).2.2⟩,dF L s scW (cW L s (vh (pk L s st.1).2.1) (st.1+1,st.2)).2)
 else(aoW,jh L s 3 st)
def oL:Nat->List It->St->List It×St
 |0,l,st=>(l,st)|n+1,l,st=>if(jq st&&(pk L s st.1).1 != 4)=true then(if l.length=1000 then(l,jh L s 2 st)else oL n (l++[(fS L s st).1]) (fS L s st).2)else(l,st)
def tx(st:St):St:=if(pk L s st.1).1=4 then st else jh L s 3 st
end
def dN(s:aw):List It×Fa:=
 if(dh s).2.1=0 then
  (if jq (tx (dh s).1 s (oL (dh s).1 s ((dh s).1.length+2) [] (0,pW)).2)=true then((oL (dh s).1 s ((dh s).1.length+2) [] (0,pW)).1,pW)
   else([],(tx (dh s).1 s (oL (dh s).1 s ((dh s).1.length+2) [] (0,pW)).2).2))
 else([],(dh s).2)
variable {L:List Tk} {s w:aw} {o:Int} {st:St} {i n:Nat}
theorem PI(h:PE L s):∀(n:Nat)(l:List aw)(st:St),nU L st (G7 L s n l st).2
 |0,_,_=>nU.refl|n+1,l,st=>by rw[G7];split;exact(cV h).trans (PI h n _ _);exact nU.refl
theorem M6(h:PE L s):nU L st (pY L s st).2:=(cV h).trans (PI h _ _ _)
theorem PJ(h:PE L s):∀(n:Nat)(l:List aw)(st:St),nU L st (PH L s n l st).2
 |0,_,_=>nU.refl|n+1,l,st=>by rw[PH];split;exact fX.trans ((cV h).trans (PJ h n _ _));exact fX
theorem M7(h:PE L s):nU L st (rI L s st).2:=(cV h).trans (dB.trans ((cV h).trans (PJ h _ _ _)))
theorem tz(h:PE L s):nU L st (fL L s w st).2:=(lQ h 60 st).trans (dB.trans (lQ h 60 _))
theorem jP(h:PE L s):nU L st (eL L s st).2:=(cV h).trans dB
theorem lB(h:PE L s):nU L st (dW L s st).2:=(BB h).trans dB
theorem wH(h:PE L s){k:Int}:nU L st (cW L s k st).2:=by unfold cW;split;exact M6 h;split;exact(jP h).trans (rH h 60 _);split;exact(jP h).trans (tz h);split;exact(jP h).trans (tz h);split;exact M7 h;split;exact(cV h).trans (cV h);split;exact(lB h).trans (lQ h 60 _);split;exact(lB h).trans (tz h);split;exact cV h;exact BB h
theorem D8(h:PE L s):nU L st (fS L s st).2:=by unfold fS;split;rename_i hk;have aF:=vf (L:=L) (s:=s) (i:=st.1) h (by rw[hk.1];decide);exact(nU.succ aF).trans ((wH h).trans dB);exact oK
theorem XR(h:PE L s)(ho:jq st=true):st.1<(fS L s st).2.1\/jq (fS L s st).2=false:=by unfold fS;split;exact .inl (auK (avH _) ((wH (st:=(st.1+1,st.2)) h).trans dB).1);exact .inr (rF (by decide) ho)
theorem vi{l:List aw}(hl:l.length<=1000000):az aj 87 [nN l,nS w] (nI (sB w l 0)):=by refine abr ?_;refine aI.intro (λk:Nat=>((l.map nS,w,((l.length:Nat):Int),(k:Int),()),())) (λk=>k<=l.length/\sB w l 0=sB w (l.drop k) k) (λk=>l.length-k) 0 (by rw[aum];rfl) ⟨auv _,rfl⟩ ?_;intro k ⟨hk,hd⟩ again bQ;dsimp only;refine aA.intro (λh=>?_) λh=>?_;(have aF:k<l.length:=by have:=of_decide_eq_true h;omega);rw[auw aF,sB]at hd;refine⟨by omega,by rw[aum];omega,_,getD_map aF,?_⟩;rw[ei];refine aA.intro (λh1=>?_) λh1=>?_;rw[hd,if_pos (of_decide_eq_true h1)];rw[bc (by omega)];exact bQ (k+1) ⟨by omega,by rw[hd,if_neg (of_decide_eq_false h1)]⟩ (by omega);(have fb:l.length<=k:=by have:=of_decide_eq_false h;omega);rw[hd,auH fb];rfl
theorem Ge:∀(l:List aw)(k:Nat),-1<=sB w l k/\sB w l k<=k+l.length
 | [],k=>by rw[sB];simp|x::l,k=>by have:=Ge l (k+1);rw[sB,auy];split<;>omega
theorem Gf:az aj 61 [nS w] (nI (vh w)):=by have hb:=Ge (w:=w) BE 0;have:BE.length=12:=rfl;refine abd ⟨_,vi (l:=BE) (by decide),?_⟩;rw[ba (by omega) (by omega)];rfl
theorem akt{x:aw}{l:List aw}:l.map nS++[nS x]=(l++[x]).map nS:=by simp
theorem Gg(h:PE L s)(hi:st.1<=L.length):aY aj 63 [.ptr 1 0] (PO L s o st) (λr q=>r=nN (pY L s st).1/\q=PO L s o (pY L s st).2):=by
 have hlen:=h.len;have i1:=(cV (s:=s) h).2 hi;generalize hX:pY L s st=X;rw[pY]at hX;have loop:∀(l:List aw)(u:St)(m:Nat),u.1<=L.length->L.length<=m+u.1->l.length<=u.1+2->G7 L s m l u=X->
   OY (((),(),()),((L.map cP,s,(u.1:Int),()),((),o,u.2.1,u.2.2.1,u.2.2.2.1,u.2.2.2.2,()),l.map nS,())) (XO (nN X.1) (PO L s o X.2)):=by
  intro l u m hu hm hl he;refine aI.intro (λp:Nat×List aw×St=>(((),(),()),((L.map cP,s,(p.2.2.1:Int),()),((),o,p.2.2.2.1,p.2.2.2.2.1,p.2.2.2.2.2.1,p.2.2.2.2.2.2,()),p.2.1.map nS,())))
   (λp=>p.2.2.1<=L.length/\L.length<=p.1+p.2.2.1/\p.2.1.length<=p.2.2.1+2/\G7 L s p.1 p.2.1 p.2.2=X) (λp=>L.length-p.2.2.1) (m,l,u) rfl ⟨hu,hm,hl,he⟩ ?_
  intro ⟨m,l,u⟩ ⟨hu,hm,hl,he⟩ again bQ;dsimp only at hu hm hl he ⊢;have stop:(jq u&&(pk L s u.1).1==1)=false->(l.map nS).length=(l.map nS).length/\XO (nN X.1) (PO L s o X.2) (.sl (l.map nS)) (PO L s o u):=λh1=>by
   have:G7 L s m l u=(l,u):=by
    cases m with
    |zero=>rfl
    |succ m=>rw[G7,if_neg (by rw[h1];decide)]
   rw[<-he,this];exact⟨rfl,aX.refl _,rfl⟩
  refine⟨_,cx (st:=u),λr q ⟨e1,e2⟩=>⟨_,_,_,_,_,_,_,_,_,⟨e1,e2⟩,aA.intro (λh1=>⟨_,dC h hu,λr q ⟨e1,e2⟩=>⟨_,_,_,_,_,_,⟨e1,e2⟩,aA.intro (λh2=>?_) λh2=>stop (by rw[h1,h2];rfl)⟩⟩) λh1=>stop (by rw[h1];rfl)⟩⟩;have hk:(pk L s u.1).1=1:=by simpa using h2
  have aF:=vf (L:=L) (s:=s) (i:=u.1) h (by rw[hk];decide);have hw:(bM L s u).2.1=u.1+1:=by rw[bM,lA,if_pos h1,if_pos hk]
  obtain⟨m,rfl⟩:∃j,m=j+1:=⟨m-1,by omega⟩;rw[G7,if_pos (by rw[h1,h2];rfl)]at he;refine⟨_,dM (st:=u) h hu,λr q ⟨e1,e2⟩=>⟨_,_,_,_,_,_,_,_,_,⟨e1,e2⟩,rfl,bH rfl (by simp;omega) (by decide),rfl,?_⟩⟩;rw[akt];exact bQ (m,l++[(bM L s u).1],(bM L s u).2) ⟨by dsimp only;omega,by dsimp only;omega,by simp;omega,he⟩ (by dsimp only;omega)
 refine aY.M4 (aa3 ⟨_,dM h hi,λr q ⟨e1,e2⟩=>⟨_,_,_,_,_,_,_,_,_,⟨e1,e2⟩,?_⟩⟩);clear e1 e2;generalize hu:(bM L s st).2=u at i1 hX;generalize (bM L s st).1=x0 at hX;have stop:(jq u&&(pk L s u.1).1==1)=false->XO (nN X.1) (PO L s o X.2) (.clip [nS x0]) (PO L s o u):=λh1=>by rw[G7,if_neg (by rw[h1];decide)]at hX;rw[<-hX];exact⟨fV _,rfl⟩
 refine⟨_,cx (st:=u),λr q ⟨e1,e2⟩=>⟨_,_,_,_,_,_,_,_,_,⟨e1,e2⟩,aA.intro (λh1=>⟨_,dC h i1,λr q ⟨e1,e2⟩=>⟨_,_,_,_,_,_,⟨e1,e2⟩,aA.intro (λh2=>?_) λh2=>stop (by rw[h1,h2];rfl)⟩⟩) λh1=>stop (by rw[h1];rfl)⟩⟩;have hk:(pk L s u.1).1=1:=by simpa using h2
 have aF:=vf (L:=L) (s:=s) (i:=u.1) h (by rw[hk];decide);have hw:(bM L s u).2.1=u.1+1:=by rw[bM,lA,if_pos h1,if_pos hk]
 rw[G7,if_pos (by rw[h1,h2];rfl)]at hX;refine⟨_,dM (st:=u) h i1,λr q ⟨e1,e2⟩=>⟨_,_,_,_,_,_,_,_,_,⟨e1,e2⟩,(λe=>by cases e),ku (λx hx=>by rw[auD.1 hx];rfl) (λx hx=>by rw[auD.1 hx];rfl) (by show 2<=4000000000;decide) (by decide),rfl,?_⟩⟩;exact loop ([x0]++[(bM L s u).1]) (bM L s u).2 L.length (by omega) (by omega) (by show 2<=_;omega) hX
theorem Gi(h:PE L s)(hi:st.1<=L.length):aY aj 67 [.ptr 1 0] (PO L s o st) (λr q=>r=nN (rI L s st).1/\q=PO L s o (rI L s st).2):=by have hlen:=h.len;have i1:=(cV (s:=s) h).2 hi;have i2:=(dB (L:=L) (s:=s) (w:=CV) (st:=(bM L s st).2)).2 i1;have i3:=(cV (st:=dF L s CV (bM L s st).2) (s:=s) h).2 i2;refine abc ⟨_,dM h hi,λr q ⟨e1,e2⟩=>⟨_,_,_,_,_,_,_,_,_,⟨e1,e2⟩,_,eS h i1,λr q ⟨e1,e2⟩=>⟨_,_,_,_,_,_,_,_,⟨e1,e2⟩,_,dM h i2,λr q ⟨e1,e2⟩=>⟨_,_,_,_,_,_,_,_,_,⟨e1,e2⟩,(λe=>by cases e), ku (λx hx=>by rw[auD.1 hx];rfl) (λx hx=>by rw[auD.1 hx];rfl) (by show 2<=4000000000;decide) (by decide),rfl,?_⟩⟩⟩⟩;clear e1 e2;rw[rI];generalize hX:PH L s (L.length+1) [(bM L s st).1,(bM L s (dF L s CV (bM L s st).2)).1] (bM L s (dF L s CV (bM L s st).2)).2=X;refine aI.intro (λp:Nat×List aw×St=>(((),(),()),((L.map cP,s,(p.2.2.1:Int),()),((),o,p.2.2.2.1,p.2.2.2.2.1,p.2.2.2.2.2.1,p.2.2.2.2.2.2,()),p.2.1.map nS,()))) (λp=>p.2.2.1<=L.length/\L.length+1<=p.1+p.2.2.1/\p.2.1.length<=p.2.2.1+2/\PH L s p.1 p.2.1 p.2.2=X) (λp=>L.length-p.2.2.1) (L.length+1,[(bM L s st).1,(bM L s (dF L s CV (bM L s st).2)).1],(bM L s (dF L s CV (bM L s st).2)).2) rfl ⟨i3,by dsimp only;omega,by show 2<=_;omega,hX⟩ ?_;intro ⟨m,l,u⟩ ⟨hu,hm,hl,he⟩ again bQ;dsimp only at hu hm hl he ⊢;obtain⟨m,rfl⟩:∃j,m=j+1:=⟨m-1,by omega⟩;rw[PH]at he;have hn:=fX (L:=L) (s:=s) (w:=CV) (st:=u);have hu1:=hn.2 hu;refine⟨_,kz h hu,λr q ⟨e1,e2⟩=>⟨_,_,_,_,_,_,_,_,_,⟨e1,e2⟩,aA.intro (λh1=>?_) λh1=>?_⟩⟩;(rw[if_pos h1]at he;have aF:u.1<(dE L s CV u).2.1:=by unfold dE at h1 ⊢;split;exact avH _;rename_i hc;rw[if_neg hc]at h1;cases h1);have hwa:=cV (st:=(dE L s CV u).2) (s:=s) h;refine⟨_,dM h hu1,λr q ⟨e1,e2⟩=>⟨_,_,_,_,_,_,_,_,_,⟨e1,e2⟩,rfl,bH rfl (by simp;omega) (by decide),rfl,?_⟩⟩;rw[akt];have h3:=hwa.1;have h4:=hwa.2 hu1;exact bQ (m,l++[(bM L s (dE L s CV u).2).1],(bM L s (dE L s CV u).2).2) ⟨h4,by dsimp only;omega,by simp;omega,he⟩ (by dsimp only;omega);rw[if_neg (by rw[h1];decide)]at he;rw[<-he];exact⟨rfl,rfl,rfl⟩
theorem nV(h:PE L s):RE L s 70 0 (ji L s 60):=x6 h 60 (aur _)
theorem Gj(h:PE L s):RE L s 65 0 (rG L s 60):=tw h 60 (aur _)
theorem pZ(h:PE L s)(hi:st.1<=L.length):aY aj 66 [.ptr 1 0,nS w] (PO L s 0 st) (λr q=>r=.sl ((fL L s w st).1.map Nd.enc)/\q=PO L s 0 (fL L s w st).2):=by have i1:=(lQ h 60 st).2 hi;have i2:=(dB (L:=L) (s:=s) (w:=w) (st:=(ji L s 60 st).2)).2 i1;refine aY.M4 (aa7 ⟨_,nV h _ hi,λr q ⟨e1,e2⟩=>⟨_,_,_,_,_,_,_,_,_,_,_,_,⟨e1,e2⟩,_,eS h i1,λr q ⟨e1,e2⟩=>⟨_,_,_,_,_,_,_,_,⟨e1,e2⟩,_,nV h _ i2,λr q ⟨e1,e2⟩=>⟨_,_,_,_,_,_,_,_,_,_,_,_,⟨e1,e2⟩,?_,rfl⟩⟩⟩⟩);rw[fL,<-XP];exact fV _
theorem p6(h:PE L s)(hi:st.1<=L.length):aY aj 64 [.ptr 1 0] (PO L s o st) (λr q=>r=nN (eL L s st).1/\q=PO L s o (eL L s st).2):=aY.M4 (aa8 ⟨_,dM h hi,λr q ⟨e1,e2⟩=>⟨_,_,_,_,_,_,_,_,_,⟨e1,e2⟩,_,eS h ((cV h).2 hi),λr q ⟨e1,e2⟩=>⟨_,_,_,_,_,_,_,_,⟨e1,e2⟩,fV _,rfl⟩⟩⟩)
theorem rJ(h:PE L s)(hi:st.1<=L.length):aY aj 69 [.ptr 1 0] (PO L s o st) (λr q=>r=nI (dW L s st).1/\q=PO L s o (dW L s st).2):=aa9 ⟨_,BC h hi,λr q ⟨e1,e2⟩=>⟨_,_,_,_,_,_,_,_,_,⟨e1,e2⟩,_,eS h ((BB h).2 hi),λr q ⟨e1,e2⟩=>⟨_,_,_,_,_,_,_,_,⟨e1,e2⟩,rfl,rfl⟩⟩⟩
end
section
variable {L:List Tk} {s w:aw} {o:Int} {st:St} {i n:Nat}
theorem afB{k n a:Int}{x y:AV}{t:It}(hx:aX x (nN t.words))(hy:aX y (.sl (t.nodes.map Nd.enc)))(h1:k=t.kind)(h2:n=t.num)(h3:a=t.at_):aX (.agg [nI k,x,y,nI n,nI a]) (iI t):=by subst h1 h2 h3;exact aX.agg ⟨aX.refl _,hx,hy,aX.refl _,aX.refl _,ai⟩
theorem aoX{w:aw}:aX (.clip [nS w]) (nN [w]):=fV _
theorem aku(t:Nd):aX (.clip [dZ t]) (.sl ([t].map Nd.enc)):=by (have:[t].map Nd.enc=[dZ t]:=by simp[Nd.aP]);rw[this];exact fV _
theorem JV(h:PE L s)(hi:st.1<=L.length):aY aj 39 [.ptr 1 0] (PO L s 0 st) (λr q=>r=iI (fS L s st).1/\q=PO L s 0 (fS L s st).2):=by
 have hlen:=h.len;refine aY.M4 (abf ⟨_,dC h hi,λr q ⟨e1,e2⟩=>⟨_,_,_,_,_,_,⟨e1,e2⟩,_,Gf,aA.intro (λh1=>?_) λh1=>aA.intro (λh2=>?_) λh2=>?_⟩⟩);have h1:¬(pk L s st.1).1=1:=by simpa using h1
 rw[fS,if_neg λc=>h1 c.1];exact⟨_,fH (st:=st) h hi,λr q ⟨e1,e2⟩=>⟨_,_,_,_,_,_,_,_,⟨e1,e2⟩,afB bX bX rfl rfl rfl,rfl⟩⟩;have h2:vh (pk L s st.1).2.1=0:=by simpa using h2
 rw[fS,if_neg λc=>c.2 h2];exact⟨_,fH (st:=st) h hi,λr q ⟨e1,e2⟩=>⟨_,_,_,_,_,_,_,_,⟨e1,e2⟩,afB bX bX rfl rfl rfl,rfl⟩⟩;have h1:(pk L s st.1).1=1:=by simpa using h1
 have h2:vh (pk L s st.1).2.1≠0:=by simpa using h2
 have aF:=vf (L:=L) (s:=s) (i:=st.1) h (by rw[h1];decide);rw[fS,if_pos ⟨h1,h2⟩];refine⟨_,xW h hi,λr q ⟨e1,e2⟩=>⟨_,_,_,_,_,_,⟨e1,by rw[if_pos aF]at e2;exact e2⟩,?_⟩⟩;clear e1 e2;generalize vh (pk L s st.1).2.1=k at h2 ⊢;generalize (pk L s st.1).2.2=a;have jw:st.1+1<=L.length:=aF;have hu:((st.1+1,st.2):St).1<=L.length:=jw;generalize hU:((st.1+1,st.2):St)=u at hu ⊢;have eu1:((st.1+1:Nat):Int)=(u.1:Int):=by rw[<-hU]
 have eu2:st.2=u.2:=by rw[<-hU]
 rw[eu1,eu2];clear hU eu1 eu2 jw aF h1 hi;have fin:∀{B:(List aw×List Nd×Int)×St}{x y:AV}{m:Int},cW L s k u=B->aX x (nN B.1.1)->aX y (.sl (B.1.2.1.map Nd.enc))->m=B.1.2.2->
   aH 72 [.ptr 1 0,nS scW] (PO L s 0 B.2) λr q=>∃l s2 i1 i2 i3 i4 i5 w,(r=.aG []/\q=bo l s2 i1 i2 i3 i4 i5 w)/\
    XO (iI ⟨k,(cW L s k u).1.1,(cW L s k u).1.2.1,(cW L s k u).1.2.2,a⟩) (PO L s 0 (dF L s scW (cW L s k u).2)) (.agg [nI k,x,y,nI m,nI a]) (bo l s2 i1 i2 i3 i4 i5 w):=by
  intro B x y m hB hx hy hm;subst hB;exact⟨_,eS h ((wH h).2 hu),λr q ⟨e1,e2⟩=>⟨_,_,_,_,_,_,_,_,⟨e1,e2⟩,afB hx hy rfl hm rfl,rfl⟩⟩
 have r12:=fun(hk:k≠1/\¬(k=2\/k=3)/\k≠4/\k≠5/\k≠6/\k≠7/\k≠9/\k≠10)=>(show IW (k==12) (L.map cP) s (u.1:Int) 0 u.2.1 u.2.2.1 u.2.2.2.1 u.2.2.2.2 (XO (iI ⟨k,(cW L s k u).1.1,(cW L s k u).1.2.1,(cW L s k u).1.2.2,a⟩) (PO L s 0 (dF L s scW (cW L s k u).2))) k a from by
  obtain⟨g1,g2,g4,g5,g6,g7,g9,g10⟩:=hk;refine aA.intro (λc=>⟨_,dM (st:=u) h hu,λr q ⟨e1,e2⟩=>⟨_,_,_,_,_,_,_,_,_,⟨e1,e2⟩,?_⟩⟩) λc=>⟨_,BC (st:=u) h hu,λr q ⟨e1,e2⟩=>⟨_,_,_,_,_,_,_,_,_,⟨e1,e2⟩,?_⟩⟩;(have c:k=12:=by simpa using c);exact fin (by rw[cW,if_neg g1,if_neg g2,if_neg g4,if_neg g5,if_neg g6,if_neg g7,if_neg g9,if_neg g10,if_pos c]) aoX bX rfl
  ·(have c:¬k=12:=by simpa using c);exact fin (by rw[cW,if_neg g1,if_neg g2,if_neg g4,if_neg g5,if_neg g6,if_neg g7,if_neg g9,if_neg g10,if_neg c]) bX bX rfl)
 have r9:=fun(hk:k≠1/\¬(k=2\/k=3)/\k≠4/\k≠5/\k≠6/\k≠7)=>(show IX (k==9) (L.map cP) s (u.1:Int) 0 u.2.1 u.2.2.1 u.2.2.2.1 u.2.2.2.2 (XO (iI ⟨k,(cW L s k u).1.1,(cW L s k u).1.2.1,(cW L s k u).1.2.2,a⟩) (PO L s 0 (dF L s scW (cW L s k u).2))) k a from by obtain⟨g1,g2,g4,g5,g6,g7⟩:=hk;refine aA.intro (λc=>⟨_,rJ (st:=u) h hu,λr q ⟨e1,e2⟩=>⟨_,_,_,_,_,_,_,_,_,⟨e1,e2⟩,_,nV h _ ((lB h).2 hu),λr q ⟨e1,e2⟩=>⟨_,_,_,_,_,_,_,_,_,_,_,_,⟨e1,e2⟩,?_⟩⟩⟩) λc=> aA.intro (λc2=>⟨_,rJ (st:=u) h hu,λr q ⟨e1,e2⟩=>⟨_,_,_,_,_,_,_,_,_,⟨e1,e2⟩,_,pZ h ((lB h).2 hu),λr q ⟨e1,e2⟩=>⟨_,_,_,_,_,_,_,_,_,⟨e1,e2⟩,?_⟩⟩⟩) λc2=>?_;(have c:k=9:=by simpa using c);exact fin (by rw[cW,if_neg g1,if_neg g2,if_neg g4,if_neg g5,if_neg g6,if_neg g7,if_pos c]) bX (aku _) rfl;(have c:¬k=9:=by simpa using c);(have c2:k=10:=by simpa using c2);exact fin (by rw[cW,if_neg g1,if_neg g2,if_neg g4,if_neg g5,if_neg g6,if_neg g7,if_neg c,if_pos c2]) bX (aX.refl _) rfl;·exact r12 ⟨g1,g2,g4,g5,g6,g7,by simpa using c,by simpa using c2⟩);have r4:=fun(hk:k≠1/\¬(k=2\/k=3))=>(show A1 (k==4) (L.map cP) s (u.1:Int) 0 u.2.1 u.2.2.1 u.2.2.2.1 u.2.2.2.2 (XO (iI ⟨k,(cW L s k u).1.1,(cW L s k u).1.2.1,(cW L s k u).1.2.2,a⟩) (PO L s 0 (dF L s scW (cW L s k u).2))) k a from by
  obtain⟨g1,g2⟩:=hk;refine aA.intro (λc=>⟨_,p6 (st:=u) h hu,λr q ⟨e1,e2⟩=>⟨_,_,_,_,_,_,_,_,_,⟨e1,e2⟩,_,pZ h ((jP h).2 hu),λr q ⟨e1,e2⟩=>⟨_,_,_,_,_,_,_,_,_,⟨e1,e2⟩,?_⟩⟩⟩) λc4=>
   aA.intro (λc=>⟨_,p6 (st:=u) h hu,λr q ⟨e1,e2⟩=>⟨_,_,_,_,_,_,_,_,_,⟨e1,e2⟩,_,pZ h ((jP h).2 hu),λr q ⟨e1,e2⟩=>⟨_,_,_,_,_,_,_,_,_,⟨e1,e2⟩,?_⟩⟩⟩) λc5=>
   aA.intro (λc=>⟨_,Gi (st:=u) h hu,λr q ⟨e1,e2⟩=>⟨_,_,_,_,_,_,_,_,_,⟨e1,e2⟩,?_⟩⟩) λc6=>
   aA.intro (λc=>⟨_,dM (st:=u) h hu,λr q ⟨e1,e2⟩=>⟨_,_,_,_,_,_,_,_,_,⟨e1,e2⟩,_,dM h ((cV h).2 hu),λr q ⟨e1,e2⟩=>⟨_,_,_,_,_,_,_,_,_,⟨e1,e2⟩,?_⟩⟩⟩) λc7=>?_
  (have c:k=4:=by simpa using c);exact fin (by rw[cW,if_neg g1,if_neg g2,if_pos c]) (aX.refl _) (aX.refl _) rfl;(have c4:¬k=4:=by simpa using c4);(have c:k=5:=by simpa using c);exact fin (by rw[cW,if_neg g1,if_neg g2,if_neg c4,if_pos c]) (aX.refl _) (aX.refl _) rfl;(have c4:¬k=4:=by simpa using c4);(have c5:¬k=5:=by simpa using c5);(have c:k=6:=by simpa using c);exact fin (by rw[cW,if_neg g1,if_neg g2,if_neg c4,if_neg c5,if_pos c]) (aX.refl _) bX rfl;(have c4:¬k=4:=by simpa using c4);(have c5:¬k=5:=by simpa using c5);(have c6:¬k=6:=by simpa using c6);(have c:k=7:=by simpa using c);exact fin (by rw[cW,if_neg g1,if_neg g2,if_neg c4,if_neg c5,if_neg c6,if_pos c]) (fV _) bX rfl
  ·exact r9 ⟨g1,g2,by simpa using c4,by simpa using c5,by simpa using c6,by simpa using c7⟩)
 have t23:k≠1->(k=2\/k=3)->aH 64 [.ptr 1 0] (PO L s 0 u) λr q=>∃l s2 i1 i2 i3 i4 i5 w l2,(r=.sl l2/\q=bo l s2 i1 i2 i3 i4 i5 w)/\
   A0 l s2 i1 i2 i3 i4 i5 w (XO (iI ⟨k,(cW L s k u).1.1,(cW L s k u).1.2.1,(cW L s k u).1.2.2,a⟩) (PO L s 0 (dF L s scW (cW L s k u).2))) k l2 a:=λg1 g2=>
  ⟨_,p6 (st:=u) h hu,λr q ⟨e1,e2⟩=>⟨_,_,_,_,_,_,_,_,_,⟨e1,e2⟩,_,Gj h _ ((jP h).2 hu),λr q ⟨e1,e2⟩=>⟨_,_,_,_,_,_,_,_,_,_,_,_,⟨e1,e2⟩,fin (by rw[cW,if_neg g1,if_pos g2]) (aX.refl _) (aku _) rfl⟩⟩⟩
 refine aA.intro (λc=>⟨_,Gg (st:=u) h hu,λr q ⟨e1,e2⟩=>⟨_,_,_,_,_,_,_,_,_,⟨e1,e2⟩,?_⟩⟩) λc1=>aA.intro (λc2=>aA.pos c2 (t23 (by simpa using c1) (.inl (by simpa using c2)))) λc2=>aA.intro (λc3=>t23 (by simpa using c1) (.inr (by simpa using c3))) λc3=>r4 ⟨by simpa using c1,?_⟩;have c:k=1:=by simpa using c
 exact fin (by rw[cW,if_pos c]) (aX.refl _) bX rfl;have c2:¬k=2:=by simpa using c2
 have c3:¬k=3:=by simpa using c3
 omega
theorem Gk(h:PE L s)(hi:st.1<=L.length):aY aj 35 [.ptr 1 0] (PO L s 0 st) (λr q=>r=.sl ((oL L s (L.length+2) [] st).1.map iI)/\q=PO L s 0 (oL L s (L.length+2) [] st).2):=by have hlen:=h.len;generalize hX:oL L s (L.length+2) [] st=X;refine abl ⟨rfl,?_⟩;refine aI.intro (λp:Nat×List It×St=>(((),(),()),((L.map cP,s,(p.2.2.1:Int),()),((),0,p.2.2.2.1,p.2.2.2.2.1,p.2.2.2.2.2.1,p.2.2.2.2.2.2,()),p.2.1.map iI,()))) (λp=>p.2.2.1<=L.length/\L.length+1+(if jq p.2.2=true then 1 else 0)<=p.1+p.2.2.1/\p.2.1.length<=1000/\oL L s p.1 p.2.1 p.2.2=X) (λp=>2*(L.length-p.2.2.1)+(if jq p.2.2=true then 1 else 0)) (L.length+2,[],st) rfl ⟨hi,by dsimp only;split<;>omega,auv _,hX⟩ ?_;(intro ⟨m,l,u⟩ ⟨hu,hm,hl,he⟩ again bQ;dsimp only at hu hm hl he ⊢;obtain⟨m,rfl⟩:∃j,m=j+1:=⟨m-1,by split at hm<;>omega⟩;have stop:(jq u&&(pk L s u.1).1 != 4)=false->(l.map iI).length=(l.map iI).length/\(AV.sl (l.map iI)=.sl (X.1.map iI)/\PO L s 0 u=PO L s 0 X.2):=λh1=>by rw[oL,if_neg (by rw[h1];decide)]at he;rw[<-he];exact⟨rfl,rfl,rfl⟩);refine⟨_,cx (st:=u),λr q ⟨e1,e2⟩=>⟨_,_,_,_,_,_,_,_,_,⟨e1,e2⟩,aA.intro (λh1=>⟨_,dC h hu,λr q ⟨e1,e2⟩=>⟨_,_,_,_,_,_,⟨e1,e2⟩,aA.intro (λh2=>⟨rfl,?_⟩) λh2=>stop (by rw[h1,h2];rfl)⟩⟩) λh1=>stop (by rw[h1];rfl)⟩⟩;rw[oL,if_pos (by rw[h1,h2];rfl)]at he;rw[if_pos h1]at hm;rw[aum];refine aA.intro (λh3=>⟨_,fH (st:=u) h hu,λr q ⟨e1,e2⟩=>⟨_,_,_,_,_,_,_,_,⟨e1,e2⟩,?_⟩⟩) λh3=>⟨_,JV (st:=u) h hu,λr q ⟨e1,e2⟩=>⟨_,_,_,_,_,_,_,_,_,_,_,_,_,⟨e1,e2⟩,?_⟩⟩;(have h3:l.length=1000:=by have:=eq_of_beq h3;omega);rw[if_pos h3]at he;rw[<-he];exact⟨rfl,rfl,rfl⟩;(have h3:¬l.length=1000:=λe=>by rw[e]at h3;cases h3);(rw[if_neg h3]at he;have ha:=D8 (st:=u) h;have hon:=XR (st:=u) h h1;have h4:=ha.1;have h5:=ha.2 hu;refine⟨rfl,bH rfl (by simp;omega) (by decide),rfl,?_⟩;have e:l.map iI++[iI (fS L s u).1]=(l++[(fS L s u).1]).map iI:=by simp);rw[e];refine bQ (m,l++[(fS L s u).1],(fS L s u).2) ⟨h5,?_,by simp;omega,he⟩ ?_;dsimp only;rcases hon with h6|h6;split<;>omega;rw[if_neg (by rw[h6];decide)];omega;dsimp only;rw[if_pos h1];rcases hon with h6|h6;split<;>omega;rw[if_neg (by rw[h6];decide)];omega
theorem Gl{s:aw}:∀(f i:Nat)(acc:List Tk),i<=s.size->acc.length<=i->(∀t∈acc,(0<=t.2.2/\t.2.2<(s.size:Int))/\t.1≠4)-> (Gb s f i acc).1.length<=s.size/\∀t∈(Gb s f i acc).1,(0<=t.2.2/\t.2.2<(s.size:Int))/\t.1≠4
 |0,i,acc,hi,ha,h=>⟨by rw[Gb];dsimp only;omega,h⟩|f+1,i,acc,hi,ha,h=>by (have hl:=cG s;have hle:=Bt false ((aE s).drop i);rw[auS,hl]at hle;have hA:i<=iH s i/\iH s i<=s.size:=by rw[iH];omega);rw[Gb];generalize iH s i=a at hA;split;exact⟨by dsimp only;omega,h⟩;split;exact⟨auv _,λt ht=>by cases ht⟩;split;exact⟨auv _,λt ht=>by cases ht⟩;(rename_i bW h0 _;have HR:=PF ((aE s).drop a);rw[auS,hl]at HR;have hk:∀l:List Int,(CR l).1<=3:=λl=>by cases l with|nil=>decide|cons c l=>rw[CR];split;show 1<=3;decide;split;show 2<=3;decide;show 3<=3;decide);have hk:=hk ((aE s).drop a);change (sA s a).2<=_ at HR;change (sA s a).1<=_ at hk;refine Gl f _ _ (by omega) (by simp;omega) λt ht=>?_;rcases auU.1 ht with ht|ht;exact h t ht;obtain rfl:=auD.1 ht;exact⟨⟨by simp,by simp;omega⟩,by show ¬(((sA s a).1:Nat):Int)=4;omega⟩
theorem JW{s:aw}:PE (dh s).1 s\/20000<s.size/\dh s=([],(2,1,1,⟨#[]⟩)):=by by_cases h:s.size>20000;exact .inr ⟨h,if_pos h⟩;(refine .inl ?_;have hp:=Gl (s:=s) (s.size+1) 0 [] (auv _) (aur _) λt ht=>by cases ht);rw[dh,if_neg h,XG];split;exact⟨by dsimp only;omega,by omega,λt ht=>(hp.2 t ht).1,λt ht=>(hp.2 t ht).2⟩;exact⟨auv _,by omega,λt ht=>(by cases ht),λt ht=>by cases ht⟩
theorem XS{l:List Tk}(hl:l.length<=1000000):az aj 122 [.sl (l.map cP)] (.sl (l.map cP)):=by (refine VT λb hb=>aA.intro (λh=>?_) λh=>⟨λ_=>rfl,ku (λx hx=>by cases hx) (λx hx=>by obtain⟨t,_,rfl⟩:=avs.1 hx;rfl) (by simp;omega) (by decide),rfl,rfl⟩;have:l.map cP=[]:=Decidable.byContradiction λc=>by have:=hb c;rw[h]at this;cases this);rw[this]
theorem M8{l:List Tk}(hl:l.length<=1000000):aY aj 59 [.sl (l.map cP),nS s] [] (λr q=>r=.ptr 0 0/\q=RO l s 0):=aaT ⟨_,XS hl,rfl,rfl⟩
theorem Gm{s:aw}(hs:s.size<=1000000000):az aj 34 [nS s,.bz 35 []] (.aG [.sl ((dN s).1.map iI),.agg (M0 (dN s).2)]):=by
 refine abg ⟨_,_,_,_,_,Bx hs,aA.intro (λh1=>?_) λh1=>?_⟩;have h1:¬(dh s).2.1=0:=by simpa using h1
 rw[dN,if_neg h1];rfl;have h1:(dh s).2.1=0:=by simpa using h1
 have hp:PE (dh s).1 s:=by rcases JW (s:=s)with h|⟨_,h⟩;exact h;rw[h]at h1;cases h1
 rw[dN,if_pos h1];generalize (dh s).1=L at hp ⊢;have aoY:∀(n:Nat)(l:List It)(u:St),nU L u (oL L s n l u).2:=by intro n;induction n with|zero=>intro l u;exact nU.refl|succ n ih=>intro l u;rw[oL];split;split;exact oK;exact(D8 hp).trans (ih _ _);exact nU.refl
 have jw:=(aoY (L.length+2) [] (0,pW)).2 (auv _);generalize hX:oL L s (L.length+2) [] (0,pW)=X at jw ⊢;obtain⟨l,st1⟩:=X;have akv:=Gk (st:=(0,pW)) hp (auv _);rw[hX]at akv;have fin:∀u:St,u=tx L s st1->aA (!(jq u)) (AV.aG [.sl [],.agg (M0 u.2)]=.aG [.sl ((if jq (tx L s st1)=true then(l,pW)else([],(tx L s st1).2)).1.map iI),.agg (M0 (if jq (tx L s st1)=true then(l,pW)else([],(tx L s st1).2)).2)])
   (AV.aG [.sl (l.map iI),.agg [nI 0,nI 0,nI 0,nS ⟨#[]⟩]]=.aG [.sl ((if jq (tx L s st1)=true then(l,pW)else([],(tx L s st1).2)).1.map iI),.agg (M0 (if jq (tx L s st1)=true then(l,pW)else([],(tx L s st1).2)).2)]):=by
  intro u hu;subst hu
  cases ho:jq (tx L s st1)
  ·exact aA.pos rfl rfl
  ·exact aA.neg rfl rfl
 refine⟨_,M8 hp.len,λr q ⟨e1,e2⟩=>⟨_,_,_,⟨e1,e2⟩,_,akv,λr q ⟨e1,e2⟩=>⟨_,_,_,_,_,_,_,_,_,⟨e1,e2⟩,_,dC hp jw,λr q ⟨e1,e2⟩=>⟨_,_,_,_,_,_,⟨e1,e2⟩,aA.intro (λh2=>?_) λh2=>?_⟩⟩⟩⟩;have h2:¬(pk L s st1.1).1=4:=by simpa using h2
 exact⟨_,fH (st:=st1) hp jw,λr q ⟨e1,e2⟩=>⟨_,_,_,_,_,_,_,_,⟨e1,e2⟩,_,cx (st:=jh L s 3 st1),λr q ⟨e1,e2⟩=>⟨_,_,_,_,_,_,_,_,_,⟨e1,e2⟩,fin _ (by rw[tx,if_neg h2])⟩⟩⟩;have h2:(pk L s st1.1).1=4:=by simpa using h2
 exact⟨_,cx (st:=st1),λr q ⟨e1,e2⟩=>⟨_,_,_,_,_,_,_,_,_,⟨e1,e2⟩,fin _ (by rw[tx,if_pos h2])⟩⟩
theorem yO{s:aw}(hs:s.size<=1000000000):az aj 10 [nS s] (.aG [.sl ((dN s).1.map iI),.agg (M0 (dN s).2)]):=abh ⟨_,_,_,_,_,Gm hs,rfl⟩
theorem RG{a b:List aw}(ha:a.length<=1000000):az aj 24 [nN a,nN b] (nB (decide (a=b))):=by refine abo (aA.intro (λh=>?_) λh=>?_);(have h:¬a.length=b.length:=λe=>by simp[e]at h);rw[decide_eq_false λe=>h (by rw[e])];(have h:a.length=b.length:=by (have:(((a.map nS).length:Nat):Int)=((b.map nS).length:Nat):=by simpa using h);simp only[aum]at this;omega);refine aI.intro (λk:Nat=>((a.map nS,b.map nS,((a.length:Nat):Int),(k:Int),()),())) (λk=>k<=a.length/\a.take k=b.take k) (λk=>a.length-k) 0 (by rw[aum];rfl) ⟨auv _,rfl⟩ ?_;intro k ⟨hk,hd⟩ again bQ;dsimp only;refine aA.intro (λh1=>?_) λh1=>?_;(have aF:k<a.length:=by have:=of_decide_eq_true h1;omega);(have acm:k<b.length:=by omega);refine⟨by omega,by rw[aum];omega,_,getD_map aF,by omega,by rw[aum];omega,_,getD_map acm,?_⟩;rw[ei];refine aA.intro (λh2=>?_) λh2=>?_;(have h2:¬a[k]=b[k]:=by simpa using h2);rw[decide_eq_false λe=>h2 (by subst e;rfl)];(have h2:a[k]=b[k]:=by simpa using h2);rw[bc (by omega)];exact bQ (k+1) ⟨by omega,by rw[avi aF,avi acm,hd,h2]⟩ (by omega);(have fb:a.length<=k:=by have:=of_decide_eq_false h1;omega);rw[auE fb,auE (by omega)]at hd;rw[decide_eq_true hd]
end
def yP(l u d m s y:Int):Array Value:=#[.int .i64 l,.int .i64 u,.int .u32 d,.int .i32 m,.int .u32 s,.int .u32 y]
theorem aB{w:World}{F:Nat->Nat->Prop}{η:List Value}{hp:List ax}{u v:Value}(h:bq w F η hp (.ay u) v):v=u:=by cases h;rfl
theorem Gp{w:World}{F:Nat->Nat->Prop}{η:List Value}{hp:List ax}{r o:Nat}{v:Value}(h:bq w F η hp (.ptr r o) v):∃b,v=.pointer (some ⟨b,o,none⟩)/\η[r]?=some (.pointer (some ⟨b,0,none⟩)):=by cases h with|ptr _ _ b h1=>exact⟨b,rfl,h1⟩
theorem XT{w:World}{F:Nat->Nat->Prop}{η:List Value}{hp:List ax}{l u d m s y:Int}{b:Nat}(h:iL w F η hp (.box (aW l u d m s y)) (.pointer (some ⟨b,0,none⟩))): ∃T,w.heap[b]?=some (.cells (yP l u d m s y) T (0,0)):=by obtain⟨b',vs,T,e1,e2,e3,e4⟩:=h;cases e1;refine⟨T,?_⟩;rw[e2];congr 2;refine Array.ext (by rw[e3];rfl) λi h1 h2=>?_;have hs:i<6:=h2;have hu:vs[i]?=some vs[i]:=avc h1;match i,hs with|0,_=>exact aB (e4 0 _ _ rfl hu).1|1,_=>exact aB (e4 1 _ _ rfl hu).1|2,_=>exact aB (e4 2 _ _ rfl hu).1|3,_=>exact aB (e4 3 _ _ rfl hu).1|4,_=>exact aB (e4 4 _ _ rfl hu).1|5,_=>exact aB (e4 5 _ _ rfl hu).1
theorem Gq{w:World}{F:Nat->Nat->Prop}{η:List Value}{hp:List ax}{l u d m s y:Int}(j:Nat)(x:AV)(v:Value)(h1:(aW l u d m s y)[j]?=some x)(h2:(yP l u d m s y)[j]?=some v): bq w F η hp x v/\v.oneCell'=true:=by have hs:j<6:=(aun.1 h1).1;match j,hs with|0,_=>cases h1;cases h2;exact⟨.ay _,rfl⟩|1,_=>cases h1;cases h2;exact⟨.ay _,rfl⟩|2,_=>cases h1;cases h2;exact⟨.ay _,rfl⟩|3,_=>cases h1;cases h2;exact⟨.ay _,rfl⟩|4,_=>cases h1;cases h2;exact⟨.ay _,rfl⟩|5,_=>cases h1;cases h2;exact⟨.ay _,rfl⟩
theorem acn(l u d s y:Int):aY aj 239 [.ptr 0 2,.bz 240 [.ptr 1 0]] [.box (aW l u d 0 s y),.box [.ptr 0 0]] (λr hp'=>r=.aG []/\hp'=[.box (aW l u (if d=0 then 1 else d) 0 s (if d=0 then 1 else y)),.box [.ptr 0 0]]):=by refine⟨⟨_,func239,by kernel_rfl,by kernel_rfl⟩,λw F η vals bA hv=>?_⟩;match vals,hv with| [v0,v1],⟨r0,r1,_⟩=>obtain⟨b,rfl,h0⟩:=Gp r0;cases r1 with|bz _ _ caps hl hc=>(obtain⟨c0,rfl⟩:∃c0,caps=#[c0]:=by match caps,hl with|⟨[c0]⟩,_=>exact⟨c0,rfl⟩);(obtain⟨b1,rfl,h1⟩:=Gp (hc 0 _ _ rfl rfl);obtain⟨T,hb⟩:=XT (bA.heap.obj 0 _ _ rfl h0);obtain⟨b1',vs1,T1,e1,e2,e3,e4⟩:=bA.heap.obj 1 _ _ rfl h1;cases e1;have bW:¬b=b1:=λh=>bA.heap.sep 0 1 _ _ _ _ b (by omega) rfl rfl ai ai h0 h1 rfl (by rw[h];rfl);obtain⟨p0,rfl⟩:∃p0,vs1=#[p0]:=by match vs1,e3 with|⟨[c0]⟩,_=>exact⟨c0,rfl⟩);obtain⟨b',rfl,h0'⟩:=Gp (e4 0 _ _ rfl rfl).1;rw[h0]at h0';cases h0';(have cell:∀(k:Nat)(x:Value),(yP l u d 0 s y)[k]?=some x->w.cell? ⟨b,k,none⟩=some x:=λk x hx=>by simp only[World.cell?,hb];exact hx);(have afC:∀k,w.frozen? ⟨b,k,none⟩=false:=λk=>by simp[World.frozen?,hb]);by_cases hd:d=0;subst hd;refine(MS b 0 ⟨b1,0,none⟩ bW (.int .u32 y) w (by simp only[World.cell?,e2];rfl) (cell 2 _ rfl) (cell 3 _ rfl) (cell 5 _ rfl) (afC 2) (afC 3) (afC 5)).mono ?_;rintro e w' ⟨rfl,rfl⟩;refine⟨_,.aG [],_,η,rfl,⟨rfl,rfl⟩,?_⟩;have g1:=heap_setCell_same w b 3 _ T (.int .i32 1) hb;have g2:=heap_setCell_same (w.setCell ⟨b,3,none⟩ (.int .i32 1)).drew b 5 _ T (.int .u32 1) g1;have g3:=heap_setCell_same ((w.setCell ⟨b,3,none⟩ (.int .i32 1)).drew.setCell ⟨b,5,none⟩ (.int .u32 1)).drew b 2 _ T (.int .u32 1) g2;have g4:=heap_setCell_same _ b 3 _ T (.int .i32 0) g3;refine DG (q:=0) (b:=b) (vs':=yP l u 1 0 s 1) (T:=T) bA rfl h0 ⟨rfl,rfl,rfl,by simp[World.drew],λk _ hk=>?_⟩ (by simp[World.drew]) g4 rfl Gq (.aG [] #[] rfl λj y u hy _=>by cases hy);rw[heap_setCell_other _ _ _ _ hk,heap_setCell_other _ _ _ _ hk];show ((w.setCell _ _).drew.setCell _ _).heap[k]?=_;rw[heap_setCell_other _ _ _ _ hk];show (w.setCell _ _).heap[k]?=_;rw[heap_setCell_other _ _ _ _ hk];refine(MT ⟨b,2,none⟩ d hd _ w (cell 2 _ rfl)).mono ?_;rintro e w' ⟨rfl,rfl⟩;refine⟨_,.aG [],_,η,rfl,⟨rfl,rfl⟩,?_⟩;simp only[hd,if_false];exact DG (q:=0) (b:=b) (vs':=yP l u d 0 s y) (T:=T) bA rfl h0 ⟨rfl,rfl,rfl,aur _,λ_ _ _=>rfl⟩ rfl hb rfl Gq (.aG [] #[] rfl λj y u hy _=>by cases hy)
section
variable {l u d m s y:Int}
theorem BF:aY aj 232 [.ptr 0 0] [.box (aW l u d m s y)] (λr hp'=>r=nI l/\hp'=[.box (aW l u d m s y)]):=WA ⟨_,A5 (R:=λr hp'=>r=nI l/\hp'=[.box (aW l u d m s y)]) ⟨rfl,rfl⟩,λr q ⟨e1,e2⟩=>⟨l,u,d,m,s,y,l,⟨e1,e2⟩,rfl,rfl⟩⟩
theorem aco:aY aj 231 [.ptr 0 0] [.box (aW l u d m s y)] (λr hp'=>r=nB (y != 0)/\hp'=[.box (aW l u d m s y)]):=WB ⟨_,CK (R:=λr hp'=>r=nB (y != 0)/\hp'=[.box (aW l u d m s y)]) ⟨rfl,rfl⟩,λr q ⟨e1,e2⟩=>⟨l,u,d,m,s,y,y != 0,⟨e1,e2⟩,rfl,rfl⟩⟩
def rK(l n:Int):Int:=ag .i64 (l+ag .i64 (0-n))
def vj(u n:Int):Int:=ag .i64 (u+n)
theorem BH(n:Int):aY aj 233 [.ptr 0 0,nI n] [.box (aW l u d m s y)] (λr hp'=>r=.aG []/\hp'=[.box (aW (rK l n) (vj u n) d m s y)]):=
 WC ⟨_,CL (R:=λr hp'=>r=nI (rK l n)/\hp'=[.box (aW (rK l n) u d m s y)]) ⟨rfl,rfl⟩,λr q ⟨e1,e2⟩=>⟨rK l n,u,d,m,s,y,rK l n,⟨e1,e2⟩,
  _,CM (R:=λr hp'=>r=nI (vj u n)/\hp'=[.box (aW (rK l n) (vj u n) d m s y)]) ⟨rfl,rfl⟩,λr q ⟨e1,e2⟩=>⟨rK l n,vj u n,d,m,s,y,vj u n,⟨e1,e2⟩,rfl,rfl⟩⟩⟩
theorem D9:aY aj 234 [.ptr 0 0] [.box (aW l u d 0 s y)] (λr hp'=>r=.aG []/\hp'=[.box (aW l u (if d=0 then 1 else d) 0 s (if d=0 then 1 else y))]):=WD ⟨_,acn l u d s y,λr q ⟨e1,e2⟩=>⟨l,u,_,0,s,_,⟨e1,e2⟩,rfl,rfl⟩⟩
def tB(l u d s y n:Int):List AV:=if y≠0\/n>l then aW (rK l l) (vj u l) (if d=0 then 1 else d) 0 s (if d=0 then 1 else y)else aW (rK l n) (vj u n) d 0 s y
theorem RH(n:Int)(hn:0<=n):aY aj 229 [.ptr 0 0,nI n] [.box (aW l u d 0 s y)] (λr hp'=>r=nB (decide (¬(y≠0\/n>l)))/\hp'=[.box (tB l u d s y n)]):=by refine WE ?_;unfold adI;rw[show decide (n<0)=false from decide_eq_false (by omega)];refine⟨_,aco,λr q ⟨e1,e2⟩=>⟨l,u,d,0,s,y,y != 0,⟨e1,e2⟩,?_⟩⟩;by_cases hy:y=0;subst hy;refine⟨_,BF,λr q ⟨e1,e2⟩=>⟨l,u,d,0,s,0,l,⟨e1,e2⟩,?_⟩⟩;by_cases h:n>l;rw[show decide (n>l)=true from decide_eq_true h];refine⟨_,BF,λr q ⟨e1,e2⟩=>⟨l,u,d,0,s,0,l,⟨e1,e2⟩,_,BH l,λr q ⟨e1,e2⟩=>⟨_,_,d,0,s,0,⟨e1,e2⟩,_,D9,λr q ⟨e1,e2⟩=>⟨_,_,_,0,s,_,⟨e1,e2⟩,?_⟩⟩⟩⟩;exact⟨by simp[h],by simp only[tB,h,or_true,if_true]⟩;rw[show decide (n>l)=false from decide_eq_false h];refine⟨_,BH n,λr q ⟨e1,e2⟩=>⟨_,_,d,0,s,0,⟨e1,e2⟩,?_⟩⟩;exact⟨by simp[h],by simp only[tB,h,ne_eq,not_true_eq_false,or_self,if_false]⟩;rw[show (y != 0)=true from by simp[hy]];refine⟨_,BF,λr q ⟨e1,e2⟩=>⟨l,u,d,0,s,y,l,⟨e1,e2⟩,_,BH l,λr q ⟨e1,e2⟩=>⟨_,_,d,0,s,y,⟨e1,e2⟩,_,D9,λr q ⟨e1,e2⟩=>⟨_,_,_,0,s,_,⟨e1,e2⟩,?_⟩⟩⟩⟩;exact⟨by simp[hy],by simp only[tB,ne_eq,hy,not_false_eq_true,true_or,if_true]⟩
end
set_option maxHeartbeats 1600000
theorem RI(a:Addr)(x:Value)(n:Int)(w:World)(hc:w.cell? a=some x)(hz:w.frozen? a=false): CallsIn Fence.wide 0 aj 194 #[.pointer (some a),.int .i64 n] w λe w'=>e=.returned (.tuple #[])/\w'=w.setCell a (.int .i64 n):=by have vR:=run_call_store (P:=aj) func208 (by kernel_rfl) (by kernel_rfl) (by kernel_rfl) (by kernel_rfl) (k:=.i64) (y:=n) hc hz;gi_enter func194,Tryz.ntmps194;gi_wp2;go_end0;exact⟨rfl,rfl⟩
theorem XU(n:Int)(w:World): CallsIn Fence.wide 0 aj 174 #[.int .i64 n] w λe w'=>e=.returned (.pointer (some ⟨w.heap.size,0,none⟩))/\ w'=(w.alloc (.cells (yP 0 0 0 0 0 0) 302)).setCell ⟨w.heap.size,0,none⟩ (.int .i64 (if n<0 then 0 else n)):=by (have hc:(w.alloc (.cells (yP 0 0 0 0 0 0) 302)).cell? ⟨w.heap.size,0,none⟩=some (.int .i64 0):=by simp[yP]);(have hz:(w.alloc (.cells (yP 0 0 0 0 0 0) 302)).frozen? ⟨w.heap.size,0,none⟩=false:=by simp);gi_enter func174,Tryz.ntmps174;gi_wp2_with (gi_at_call 194;refine(RI ⟨w.heap.size,0,none⟩ (.int .i64 0) _ _ hc hz).mono ?_;rintro e w' ⟨rfl,rfl⟩);all_goals (go_ret;first|exact⟨rfl,rfl⟩|exact⟨rfl,by congr 4;omega⟩)
theorem acp(n:Int)(hp:List ax):aY aj 174 [nI n] hp (λr hp'=>r=.ptr hp.length 0/\hp'=hp++[.box (aW (if n<0 then 0 else n) 0 0 0 0 0)]):=by refine⟨⟨_,func174,by kernel_rfl,by kernel_rfl⟩,λw F η vals bA hv=>?_⟩;match vals,hv with| [v0],⟨r0,_⟩=>obtain rfl:=aB r0;refine(XU n w).mono ?_;rintro e w' ⟨rfl,rfl⟩;have g0:(w.alloc (.cells (yP 0 0 0 0 0 0) 302)).heap[w.heap.size]?=some (.cells (yP 0 0 0 0 0 0) 302 (0,0)):=heap_alloc_new w _;have g1:=heap_setCell_same _ w.heap.size 0 _ _ (.int .i64 (if n<0 then 0 else n)) g0;refine⟨_,.ptr hp.length 0,_,_,rfl,⟨rfl,rfl⟩,Q3 (vs:=yP (if n<0 then 0 else n) 0 0 0 0 0) bA ⟨rfl,rfl,rfl,by simp,λk hk _=>?_⟩ (by simp) g1 rfl Gq⟩;rw[heap_setCell_other _ _ _ _ (Nat.ne_of_lt hk)];exact(cj.alloc w _).block k hk
section
variable {l u d s y n:Int}
theorem JX(h0:0<=n)(h1:n<=l)(h2:l<=9223372036854775807):rK l n=l-n:=by unfold rK;rw[IntWalk.i64_in (0-n) (by omega),IntWalk.i64_in _ (by omega)];omega
theorem JY(h0:0<=n)(h1:0<=u)(h2:u+n<=9223372036854775807):vj u n=u+n:=by unfold vj;rw[IntWalk.i64_in _ (by omega)]
theorem RL(h1:1<=l)(h2:0<=u)(h3:l+u<=9223372036854775807):tB l u 0 s 0 1=aW (l-1) (u+1) 0 0 s 0:=by unfold tB;rw[if_neg (by omega),JX (by omega) (by omega) (by omega),JY (by omega) (by omega) (by omega)]
end
theorem JZ{c m x:List Ty}{k i:Int}{t:Ty}(h:bu c m x k i=some t):k=0\/k=1\/k=2:=by by_cases h0:k=0;exact .inl h0;by_cases h1:k=1;exact .inr (.inl h1);by_cases h2:k=2;exact .inr (.inr h2);rw[bu,if_neg h0,if_neg h1,if_neg h2]at h;split at h<;>cases h
theorem Rw.RM{r t:Rw}(ht:t∈r.kids):t.depth<r.depth:=by obtain⟨k,hk,rfl⟩:=List.getElem_of_mem ht;exact Rw.Rl hk
theorem J0(n:Int):jo (ag .i64 n):=by unfold jo;rw[IntKind.wrap_i64];omega
mutual
def Rw.Typ(c m:List Ty):List Ty->Rw->Ty->Prop
 |x,.mk k t i l,u=>if k=3 then ∃v:Ty,u=v.arrow [t]/\Rw.XV c m (x++[t]) l [v]else if k=4 then ∃v:Ty,Rw.XV c m x l [.mk (v::u.args) u.base,v]else bu c m x k i=some u/\l=[]
def Rw.XV(c m:List Ty):List Ty->List Rw->List Ty->Prop
 |_,[],[]=>True|x,r::l,u::us=>Rw.Typ c m x r u/\Rw.XV c m x l us|_,_,_=>False
end
mutual
def Rw.mR(S:Nat)(c m:List Ty):List Ty->Rw->Ty->Prop
 |x,.mk k t i l,u=>u.size<=S/\if k=3 then t.size<=S/\∃v:Ty,u=v.arrow [t]/\Rw.oM S c m (x++[t]) l [v]else if k=4 then ∃v:Ty,Rw.oM S c m x l [.mk (v::u.args) u.base,v]else bu c m x k i=some u/\l=[]
def Rw.oM(S:Nat)(c m:List Ty):List Ty->List Rw->List Ty->Prop
 |_,[],[]=>True|x,r::l,u::us=>Rw.mR S c m x r u/\Rw.oM S c m x l us|_,_,_=>False
end
mutual
theorem Rw.mR.typ{S:Nat}{c m:List Ty}:∀{r:Rw}{x:List Ty}{u:Ty},Rw.mR S c m x r u->Rw.Typ c m x r u
 | .mk k t i l,x,u,h=>by rw[Rw.mR]at h;obtain⟨_,h⟩:=h;rw[Rw.Typ];by_cases h3:k=3;rw[if_pos h3]at h ⊢;obtain⟨_,v,hv,hl⟩:=h;exact⟨v,hv,Rw.oM.typ hl⟩;rw[if_neg h3]at h ⊢;by_cases h4:k=4;rw[if_pos h4]at h ⊢;obtain⟨v,hl⟩:=h;exact⟨v,Rw.oM.typ hl⟩;rw[if_neg h4]at h ⊢;exact h
theorem Rw.oM.typ{S:Nat}{c m:List Ty}:∀{l:List Rw}{x us:List Ty},Rw.oM S c m x l us->Rw.XV c m x l us
 | [],x,[],_=>by rw[Rw.XV];exact ai|r::l,x,u::us,h=>⟨h.1.typ,h.2.typ⟩| [],_,_::_,h=>h.elim|_::_,_,[],h=>h.elim
end
theorem r8{S:Nat}{c m x:List Ty}{l:List Rw}{u:Ty}(h:Rw.oM S c m x l [u]):∃r,l=[r]/\Rw.mR S c m x r u:=by match l,h with| [r],h=>exact⟨r,rfl,h.1⟩|r::s::l,h=>exact h.2.elim
theorem sa{S:Nat}{c m x:List Ty}{l:List Rw}{u v:Ty}(h:Rw.oM S c m x l [u,v]):∃r s,l=[r,s]/\Rw.mR S c m x r u/\Rw.mR S c m x s v:=by match l,h with| [r,s],h=>exact⟨r,s,rfl,h.1,h.2.1⟩| [r],h=>exact h.2.elim|r::s::t::l,h=>exact h.2.2.elim
mutual
theorem p7(b:Int)(c m:List Ty):∀(r:Rw)(x:List Ty)(u:Ty),r.shaped=true->r.infer b c m x=(u,0)->Rw.mR 1000 c m x r u
 | .mk k t i l,x,u,hs,h=>by rw[Rw.shaped,auq,decide_eq_true_eq]at hs;have cY:=Rw.jK b c m (.mk k t i l) x;rw[h]at cY;rw[Rw.infer]at h;rw[Rw.mR];refine⟨cY,?_⟩;by_cases h3:k=3;rw[if_pos h3]at h ⊢;obtain⟨a,ha⟩:=Xh h3 hs.1;split at h;(have hi:Rw.eB b c m (x++[t]) l=[a.infer b c m (x++[t])]:=by rw[ha];rfl);rw[hi,rv]at h;generalize a.infer b c m (x++[t])=p at h hi;split at h;rename_i hp;simp only[aup]at h;exact(hp h.2).elim;rename_i hp;split at h;cases h;simp only[aup,and_true]at h;refine⟨by rw[<-h,Ty.arrow,Ty.size,Ty.cO,Ty.sizes,Ty.sizes]at cY;omega,p.1,h.symm,rL b c m l (x++[t]) [p.1] hs.2 ?_⟩;rw[hi,auR,au1,<-avS.1 hp];cases h;rw[if_neg h3]at h ⊢;by_cases h4:k=4;(rw[if_pos h4]at h ⊢;obtain⟨f,a,ha⟩:=Xi h4 hs.1;have hi:Rw.eB b c m x l=[f.infer b c m x,a.infer b c m x]:=by rw[ha];rfl);rw[hi,pO]at h;generalize f.infer b c m x=p at h hi;generalize a.infer b c m x=q at h hi;split at h;rename_i hp;simp only[aup]at h;exact(hp h.2).elim;rename_i hp;split at h;rename_i hq;simp only[aup]at h;exact(hq h.2).elim;rename_i hq;split at h;cases h;rename_i v vs hv;split at h;rename_i xa;simp only[aup,and_true]at h;refine⟨q.1,rL b c m l x _ hs.2 ?_⟩;have e1:=(Ty.mD _ _).1 xa;rw[hi,<-h,Ty.jc,Ty.FE,<-e1,<-hv,Ty.eta,auR,auR,au1,e1,<-avS.1 hp];congr 1;rw[avS.1 hp,<-avS.1 hq];cases h;rw[if_neg h4]at h ⊢;cases ht:bu c m x k i with|none=>rw[ht]at h;cases h|some v=>rw[ht,np]at h;split at h;cases h;(simp only[aup,and_true]at h;refine⟨by rw[h],?_⟩;have hk:=JZ ht;have ha:arity k=0:=by unfold arity;rw[if_pos hk]);rw[ha]at hs;exact List.length_eq_zero_iff.1 (by have:=hs.1;omega)
theorem rL(b:Int)(c m:List Ty):∀(l:List Rw)(x us:List Ty),Rw.dI l=true->Rw.eB b c m x l=us.map (λu=>(u,0))->Rw.oM 1000 c m x l us
 | [],x,[],_,_=>by rw[Rw.oM];exact ai| [],x,u::us,_,h=>by cases h|r::l,x,[],_,h=>by cases h|r::l,x,u::us,hs,h=>by rw[Rw.dI,auq]at hs;rw[Rw.eB,auR,List.cons.injEq]at h;exact⟨p7 b c m r x u hs.1 h.1,rL b c m l x us hs.2 h.2⟩
end
theorem Rw.tC{k i:Int}{t:Ty}{l:List Rw}{r:Rw}(h:r∈l):r.depth<(Rw.mk k t i l).depth:=Rw.RM (r:=.mk k t i l) h
mutual
def Tm.nodes:Tm->Nat
 | .mk _ _ _ l=>1+Tm.dT l
def Tm.dT:List Tm->Nat
 | []=>0|t::l=>Tm.nodes t+Tm.dT l
end
theorem Tm.gG(t:Tm):t.nodes=1+Tm.dT t.args:=by cases t;rfl
theorem Tm.Ea(t:Tm):1<=t.nodes:=by rw[t.gG];omega
theorem Tm.tD{l:List Tm}{t:Tm}(h:t∈l):t.nodes<=Tm.dT l:=by induction l with|nil=>cases h|cons u l ih=>simp only[Tm.dT];rcases auJ.1 h with rfl|h;omega;have:=ih h;omega
mutual
def Tm.deep:Tm->Nat
 | .mk _ _ _ l=>Tm.Eb 0 l+1
def Tm.Eb:Nat->List Tm->Nat
 |n,[]=>n|n,t::l=>Tm.Eb (if Tm.deep t>n then Tm.deep t else n) l
end
def Tm.bJ(t:Tm):Bool:=decide (t.nodes<=5000)&&decide (t.deep<=60)
theorem Ec:∀(l r:List ((Nat×Nat)×Tm))(n:Nat),il n (l++r)=if n+l.length>5000/\0<l.length\/(∃p∈l,p.1.2>60)then false else il (n+l.length) r
 | [],r,n=>by simp|p::l,r,n=>by rw[avN,il,Ec l r (n+1)];by_cases h1:n+1>5000;rw[if_pos h1,if_pos (.inl ⟨by simp;omega,by simp⟩)];rw[if_neg h1];by_cases h2:p.1.2>60;rw[if_pos h2,if_pos (.inr ⟨p,auC,h2⟩)];rw[if_neg h2];by_cases h3:n+1+l.length>5000/\0<l.length\/∃q∈l,q.1.2>60;rw[if_pos h3,if_pos];rcases h3 with h3|⟨q,hq,h3⟩;exact .inl ⟨by simp;omega,by simp⟩;exact .inr ⟨q,auG _ hq,h3⟩;rw[if_neg h3,if_neg];congr 1;simp;omega;rintro(h4|⟨q,hq,h4⟩);have:=h4.1;simp only[auy]at this;by_cases hl:0<l.length;exact h3 (.inl ⟨by omega,hl⟩);omega;rcases auJ.1 hq with rfl|hq;exact h2 h4;exact h3 (.inr ⟨q,hq,h4⟩)
mutual
theorem Tm.pN:∀(t:Tm)(a d:Nat),(t.pre a d).length=t.nodes
 | .mk _ _ _ l,a,d=>by rw[Tm.pre,auy,Tm.nodes,Tm.rp l];omega
theorem Tm.rp:∀(l:List Tm)(a d:Nat),(Tm.gE a d l).length=Tm.dT l
 | [],a,d=>by simp[Tm.gE,Tm.dT]|t::l,a,d=>by rw[Tm.gE,aut,Tm.dT,Tm.pN t,Tm.rp l]
end
theorem Tm.BI{m:Nat}:∀(l:List Tm)(n:Nat),Tm.Eb n l>m↔n>m\/∃t∈l,t.deep>m
 | [],n=>by simp[Tm.Eb]|t::l,n=>by rw[Tm.Eb,Tm.BI l];constructor;rintro(h|⟨u,hu,h⟩);split at h;exact .inr ⟨t,auC,h⟩;exact .inl h;exact .inr ⟨u,auG _ hu,h⟩;rintro(h|⟨u,hu,h⟩);left;split<;>omega;rcases auJ.1 hu with rfl|hu;left;split<;>omega;exact .inr ⟨u,hu,h⟩
mutual
theorem Tm.J1{m:Nat}:∀(t:Tm)(a d:Nat),d<=m+1->((∃p∈t.pre a d,p.1.2>m)↔t.deep+d>m+1)
 | .mk bs k i l,a,d,hd=>by rw[Tm.pre,Tm.deep];have hl:=Tm.Ed (m:=m) l (a+bs.length) (d+1);constructor;rintro⟨p,hp,h⟩;rcases auJ.1 hp with rfl|hp;simp only at h;omega;by_cases hdm:d<=m;have:=(hl (by omega)).1 ⟨p,hp,h⟩;obtain⟨t,ht,h2⟩:=this;have:=(Tm.BI (m:=m-d) l 0).2 (.inr ⟨t,ht,by omega⟩);omega;omega;intro h;by_cases hdm:d<=m;(have h1:Tm.Eb 0 l>m-d:=by omega);rcases (Tm.BI l 0).1 h1 with h2|⟨t,ht,h2⟩;omega;obtain⟨p,hp,h3⟩:=(hl (by omega)).2 ⟨t,ht,by omega⟩;exact⟨p,auG _ hp,h3⟩;exact⟨_,auC,by simp only;omega⟩
theorem Tm.Ed{m:Nat}:∀(l:List Tm)(a d:Nat),d<=m+1->((∃p∈Tm.gE a d l,p.1.2>m)↔∃t∈l,t.deep+d>m+1)
 | [],a,d,hd=>by simp[Tm.gE]|t::l,a,d,hd=>by have i1:=Tm.J1 t a d hd;have i2:=Tm.Ed l a d hd;rw[Tm.gE];constructor;rintro⟨p,hp,h⟩;rcases auU.1 hp with hp|hp;exact⟨t,auC,i1.1 ⟨p,hp,h⟩⟩;obtain⟨u,hu,h2⟩:=i2.1 ⟨p,hp,h⟩;exact⟨u,auG _ hu,h2⟩;rintro⟨u,hu,h⟩;rcases auJ.1 hu with hu|hu;rw[hu]at h;obtain⟨p,hp,h2⟩:=i1.2 h;exact⟨p,avw _ hp,h2⟩;obtain⟨p,hp,h2⟩:=i2.2 ⟨u,hu,h⟩;exact⟨p,av6 _ hp,h2⟩
end
theorem J2(t:Tm):il 0 (t.pre 0 1)=t.bJ:=by have h:=Ec (t.pre 0 1) [] 0;rw[auF,auZ,il,Tm.pN]at h;rw[h,Tm.bJ];have hd:=Tm.J1 (m:=60) t 0 1 (by omega);have hp:=t.Ea;by_cases h1:t.nodes<=5000;by_cases h2:t.deep<=60;rw[if_neg,decide_eq_true h1,decide_eq_true h2];rfl;rintro(h3|h3);omega;have:=hd.1 h3;omega;rw[if_pos (.inr (hd.2 (by omega))),decide_eq_false h2,Bool.and_false];rw[if_pos (.inl ⟨by omega,by omega⟩),decide_eq_false h1,avk]
mutual
def Tm.lift(b:Nat):Nat->Tm->Tm
 |d,.mk bs k i l=>.mk bs k (if k=0/\((d+bs.length:Nat):Int)<=i then ag .i64 (i+b)else i) (Tm.x7 b (d+bs.length) l)
def Tm.x7(b:Nat):Nat->List Tm->List Tm
 |_,[]=>[]|d,t::l=>Tm.lift b d t::Tm.x7 b d l
end
theorem Tm.J3(b d:Nat)(l:List Tm):Tm.x7 b d l=l.map (Tm.lift b d):=by induction l with|nil=>rfl|cons t l ih=>rw[Tm.x7,ih];rfl
theorem Tm.zp(b d:Nat)(t:Tm):t.lift b d=.mk t.binds t.kind (if t.kind=0/\((d+t.binds.length:Nat):Int)<=t.index then ag .i64 (t.index+b)else t.index) (t.args.map (Tm.lift b (d+t.binds.length))):=by cases t;rw[Tm.lift,Tm.J3];rfl
theorem Tm.M9(b d:Nat)(t:Tm):(t.lift b d).binds=t.binds:=by rw[Tm.zp];rfl
theorem Tm.RN(b d:Nat)(t:Tm):(t.lift b d).kind=t.kind:=by rw[Tm.zp];rfl
theorem Tm.RP(b d:Nat)(t:Tm):(t.lift b d).args=t.args.map (Tm.lift b (d+t.binds.length)):=by rw[Tm.zp];rfl
mutual
def Tm.Lo(B:Nat):Tm->Prop
 | .mk bs k i l=>(Ty.sizes bs<=B/\l.length<=B)/\(jo k/\jo i)/\Tm.wI B l
def Tm.wI(B:Nat):List Tm->Prop
 | []=>True|t::l=>Tm.Lo B t/\Tm.wI B l
end
theorem Tm.im{B:Nat}{t:Tm}:t.Lo B↔(Ty.sizes t.binds<=B/\t.args.length<=B)/\(jo t.kind/\jo t.index)/\Tm.wI B t.args:=by cases t;exact av9
theorem Tm.jj{B:Nat}{l:List Tm}:Tm.wI B l↔∀t∈l,t.Lo B:=by induction l with|nil=>exact⟨λ_ t h=>(by cases h),λ_=>ai⟩|cons u l ih=>rw[Tm.wI,ih];exact⟨fun⟨h1,h2⟩ t ht=>(auJ.1 ht).elim (λh=>h▸h1) (h2 t),λh=>⟨h u auC,λt ht=>h t (auG _ ht)⟩⟩
mutual
theorem Tm.Gr{B B':Nat}(h:B<=B'):∀{t:Tm},t.Lo B->t.Lo B'
 | .mk bs k i l,h1=>by obtain⟨⟨h1,h2⟩,h3,h4⟩:=h1;exact⟨⟨by omega,by omega⟩,h3,Tm.J4 h h4⟩
theorem Tm.J4{B B':Nat}(h:B<=B'):∀{l:List Tm},Tm.wI B l->Tm.wI B' l
 | [],_=>ai|t::l,h1=>⟨Tm.Gr h h1.1,Tm.J4 h h1.2⟩
end
mutual
theorem Tm.Gs{B b:Nat}:∀(d:Nat){t:Tm},t.Lo B->(t.lift b d).Lo B
 |d,.mk bs k i l,h1=>by obtain⟨⟨h1,h2⟩,⟨h3,h4⟩,h5⟩:=h1;rw[Tm.lift];refine⟨⟨h1,by rw[Tm.J3,aum];exact h2⟩,⟨h3,?_⟩,Tm.J5 _ h5⟩;split;exact J0 _;exact h4
theorem Tm.J5{B b:Nat}:∀(d:Nat){l:List Tm},Tm.wI B l->Tm.wI B (Tm.x7 b d l)
 |_,[],_=>ai|d,t::l,h1=>⟨Tm.Gs d h1.1,Tm.J5 d h1.2⟩
end
mutual
theorem Tm.J6{B:Nat}:∀{t:Tm},t.Lo B->t.Ok
 | .mk bs k i l,h=>⟨h.2.1.1,h.2.1.2,Tm.PK h.2.2⟩
theorem Tm.PK{B:Nat}:∀{l:List Tm},Tm.wI B l->Tm.Pv l
 | [],_=>ai|t::l,h=>⟨Tm.J6 h.1,Tm.PK h.2⟩
end
mutual
theorem Tm.zq{B:Nat}:∀{t:Tm},t.Lo B->t.size<=t.nodes*(1+B)
 | .mk bs k i l,h=>by have:=Tm.J7 h.2.2;have h1:Ty.sizes bs<=B:=h.1.1;rw[Tm.size,Tm.nodes,avr];omega
theorem Tm.J7{B:Nat}:∀{l:List Tm},Tm.wI B l->Tm.sizes l<=Tm.dT l*(1+B)
 | [],_=>by simp[Tm.sizes]|t::l,h=>by have h1:=Tm.zq h.1;have h2:=Tm.J7 h.2;rw[Tm.sizes,Tm.dT,avr];omega
end
structure Mt where
 left:Nat
 count:Nat
 err:Int
def Mt.one(m:Mt):Mt×Bool:=if m.err≠0 then(m,false)else if m.count=100000 then(⟨m.left,m.count,2⟩,false)else if m.left=0 then(⟨m.left,m.count,11⟩,false)else(⟨m.left-1,m.count+1,m.err⟩,true)
def Mt.eg:Nat->Mt->Mt×Bool
 |0,m=>(m,decide (m.err=0))|n+1,m=>if m.one.2=true then Mt.eg n m.one.1 else(m.one.1,false)
def di:Tm:=.mk [] 0 0 []
def cM(g:Mt->Tm->Mt×Tm):Mt->List Tm->Mt×List Tm
 |m,[]=>(m,[])|m,t::l=>((cM g (g m t).1 l).1,(g m t).2::(cM g (g m t).1 l).2)
def dj(b:Mt->Int->Int->List Tm->List Tm->Nat->Nat->Mt×Tm)(us:List Tm)(n d:Nat)(m:Mt)(t:Tm):Mt×Tm:=((b m t.kind t.index t.args us n (d+t.binds.length)).1,.mk t.binds (b m t.kind t.index t.args us n (d+t.binds.length)).2.kind (b m t.kind t.index t.args us n (d+t.binds.length)).2.index (b m t.kind t.index t.args us n (d+t.binds.length)).2.args)
def ct(us:List Tm)(i:Int)(n d:Nat):Tm:=(us.getD (n-1-(i-d).toNat) di).lift (d+n-us.length) 0
def Ee(b:Mt->Int->Int->List Tm->List Tm->Nat->Nat->Mt×Tm)(r:Mt×List Tm)(k i:Int)(us:List Tm)(n d:Nat):Mt×Tm:=
 if r.1.err≠0 then(r.1,di)else if ¬k=0\/i<d then(r.1,.mk [] k i r.2)else if(d:Int)+n<=i then(r.1,.mk [] k (i-us.length) r.2)
 else if(i-d).toNat+us.length<n then(r.1,.mk [] k i r.2)
 else if(ct us i n d).binds.length≠r.2.length then(⟨r.1.left,r.1.count,1⟩,di)
 else b r.1 (ct us i n d).kind (ct us i n d).index (ct us i n d).args r.2 (ct us i n d).binds.length 0
def bN:Nat->Mt->Int->Int->List Tm->List Tm->Nat->Nat->Mt×Tm
 |0,m,_,_,_,_,_,_=>(⟨m.left,m.count,if m.err=0 then 99 else m.err⟩,di)|f+1,m,k,i,args,us,n,d=>if m.one.2=false then(m.one.1,di)else Ee (bN f) (cM (dj (bN f) us n d) m.one.1 args) k i us n d
def iB(f:Nat)(m:Mt)(t:Tm)(us:List Tm):Mt×Tm:=
 if m.err≠0 then(m,di)else if t.binds.length<us.length then(⟨m.left,m.count,1⟩,di)else
 ((bN f m t.kind t.index t.args us t.binds.length 0).1,.mk (t.binds.drop us.length) (bN f m t.kind t.index t.args us t.binds.length 0).2.kind (bN f m t.kind t.index t.args us t.binds.length 0).2.index (bN f m t.kind t.index t.args us t.binds.length 0).2.args)
def Ef(c m x:List Ty)(st:Mt)(k i:Int):Mt×Tm:=if(st.eg ((bu c m x k i).getD kL).size).2=false then((st.eg ((bu c m x k i).getD kL).size).1,di)else((st.eg ((bu c m x k i).getD kL).size).1,sy k i ((bu c m x k i).getD kL))
def CW(t:Ty)(r:Mt×List Tm):Mt×Tm:=if r.1.err≠0 then(r.1,di)else(r.1,.mk (t::(r.2.getD 0 di).binds) (r.2.getD 0 di).kind (r.2.getD 0 di).index (r.2.getD 0 di).args)
def wJ(r:Mt×List Tm):Mt×Tm:=if r.1.err≠0 then(r.1,di)else iB 100001 r.1 (r.2.getD 0 di) [r.2.getD 1 di]
mutual
def Rw.dO(c m:List Ty):Mt->List Ty->Rw->Mt×Tm
 |st,x,.mk k t i l=>if st.err≠0 then(st,di)else if k=3 then CW t (Rw.cQ c m st (x++[t]) l)else if k=4 then wJ (Rw.cQ c m st x l)else Ef c m x st k i
def Rw.cQ(c m:List Ty):Mt->List Ty->List Rw->Mt×List Tm
 |st,_,[]=>(st,[])|st,x,r::l=>((Rw.cQ c m (Rw.dO c m st x r).1 x l).1,(Rw.dO c m st x r).2::(Rw.cQ c m (Rw.dO c m st x r).1 x l).2)
end
def iq(r:Mt×Tm):Mt×Tm:=if r.1.err≠0 then(r.1,di)else if il 0 (r.2.pre 0 1)=true then r else(⟨r.1.left,r.1.count,2⟩,di)
theorem oN{m:Mt}(h:m.one.2=true):m.err=0/\m.count≠100000/\m.left≠0/\m.one.1=⟨m.left-1,m.count+1,0⟩:=by unfold Mt.one at h ⊢;split at h;cases h;(rename_i h0;have h0:m.err=0:=by simpa using h0);split at h;cases h;split at h;cases h;rename_i h1 h2;exact⟨h0,h1,h2,by rw[if_neg (by simp[h0]),if_neg h1,if_neg h2,h0]⟩
theorem lR{m:Mt}(h:m.one.2=false):m.one.1.err≠0/\m.one.1.left=m.left/\m.one.1.count=m.count/\(m.err≠0->m.one.1=m)/\(m.one.1.err=11->m.err=11\/m.left=0/\m.count≠100000):=by unfold Mt.one at h ⊢;split at h;rename_i h0;rw[if_pos h0];exact⟨h0,rfl,rfl,λ_=>rfl,λh=>.inl h⟩;rename_i h0;rw[if_neg h0];split at h;rename_i h1;rw[if_pos h1];exact⟨by simp,rfl,rfl,λh=>(h0 h).elim,λh=>by simp at h⟩;rename_i h1;rw[if_neg h1];split at h;rename_i h2;rw[if_pos h2];exact⟨by simp,rfl,rfl,λh=>(h0 h).elim,λh=>.inr ⟨h2,h1⟩⟩;cases h
structure Mt.To(m m':Mt):Prop where
 stop:m.err≠0->m'=m
 sum:m'.left+m'.count=m.left+m.count
 more:m.count<=m'.count
 sC:m.count<=100000->m'.count<=100000
 fuel:m'.err=11->m.err≠11->m'.left=0/\m'.count≠100000
theorem Mt.To.refl(m:Mt):m.To m:=⟨λ_=>rfl,rfl,aur _,λh=>h,λh1 h2=>(h2 h1).elim⟩
theorem Mt.To.trans{a b c:Mt}(h1:a.To b)(h2:b.To c):a.To c:=
 ⟨λh=>by have e:=h1.stop h;subst e;exact h2.stop h,by rw[h2.sum,h1.sum],auP h1.more h2.more,λh=>h2.sC (h1.sC h),λh g=>by
  by_cases hb:b.err=11
  ·have:=h2.stop (by rw[hb];decide);rw[this];exact h1.fuel hb g
  ·exact h2.fuel h hb⟩
theorem Mt.To.ok{a b:Mt}(h:a.To b)(hb:b.err=0):a.err=0:=Decidable.byContradiction λhc=>hc (by rw[<-h.stop hc];exact hb)
theorem Mt.To.fail{m:Mt}(h:m.err=0){e:Int}(he:e≠11):m.To ⟨m.left,m.count,e⟩:=⟨λh'=>(h' h).elim,rfl,aur _,λh=>h,λh=>(he h).elim⟩
theorem Mt.BJ(m:Mt):m.To m.one.1:=by cases h:m.one.2 with|true=>obtain⟨h0,h1,h2,h3⟩:=oN h;rw[h3];exact⟨λh=>(h h0).elim,by simp only;omega,by simp only;omega,λh=>by simp only;omega,λh=>by simp at h⟩|false=>obtain⟨_,h1,h2,h3,h4⟩:=lR h;exact⟨h3,by omega,by omega,λh=>by omega,λh g=>by rw[h1,h2];exact(h4 h).resolve_left g⟩
theorem Mt.BK:∀(n:Nat)(m:Mt),m.To (m.eg n).1
 |0,m=>.refl m|n+1,m=>by rw[Mt.eg];split;exact(Mt.BJ m).trans (Mt.BK n _);exact Mt.BJ m
theorem Mt.vk:∀(n:Nat)(m:Mt),((m.eg n).2=true↔(m.eg n).1.err=0)/\((m.eg n).2=true->(m.eg n).1.count=m.count+n)
 |0,m=>by simp[Mt.eg]|n+1,m=>by rw[Mt.eg];split;rename_i h;obtain⟨h0,h1,h2,h3⟩:=oN h;have:=Mt.vk n m.one.1;refine⟨this.1,λh=>?_⟩;rw[this.2 h,h3];simp only;omega;(rename_i h;have h:m.one.2=false:=by simpa using h);have:=(lR h).1;exact⟨⟨λh=>(by cases h),λh=>(this h).elim⟩,λh=>(by cases h)⟩
def Gt(g:Mt->Tm->Mt×Tm):Prop:=∀(m:Mt)(t:Tm),m.To (g m t).1
theorem lS{g:Mt->Tm->Mt×Tm}(hg:Gt g):∀(l:List Tm)(m:Mt),m.To (cM g m l).1
 | [],m=>.refl m|t::l,m=>(hg m t).trans (lS hg l _)
theorem p8{g:Mt->Tm->Mt×Tm}:∀(l:List Tm)(m:Mt),(cM g m l).2.length=l.length
 | [],m=>rfl|t::l,m=>by rw[cM,auy,auy,p8 l]
theorem J8{g:Mt->Tm->Mt×Tm}{l:List Tm}{k:Nat}(h:k<l.length)(m:Mt):cM g m (l.drop k)=((cM g (g m l[k]).1 (l.drop (k+1))).1,(g m l[k]).2::(cM g (g m l[k]).1 (l.drop (k+1))).2):=by rw[auw h,cM]
theorem rM:∀(f:Nat)(m:Mt)(k i:Int)(args us:List Tm)(n d:Nat),m.To (bN f m k i args us n d).1
 |0,m,k,i,args,us,n,d=>by rw[bN];by_cases h:m.err=0;rw[if_pos h];exact .fail h (by decide);rw[if_neg h];exact⟨λ_=>by cases m;rfl,rfl,aur _,λh=>h,λh1 h2=>(h2 h1).elim⟩|f+1,m,k,i,args,us,n,d=>by rw[bN];split;exact Mt.BJ m;refine(Mt.BJ m).trans ?_;have hg:=lS (g:=dj (bN f) us n d) (λm t=>rM f m _ _ _ _ _ _) args m.one.1;refine hg.trans ?_;generalize cM (dj (bN f) us n d) m.one.1 args=r;unfold Ee;split;exact .refl _;(rename_i h0;have h0:r.1.err=0:=by simpa using h0);split;exact .refl _;split;exact .refl _;split;exact .refl _;split;exact .fail h0 (by decide);exact rM f _ _ _ _ _ _ _
theorem p9(f:Nat)(us:List Tm)(n d:Nat):Gt (dj (bN f) us n d):=λm t=>rM f m _ _ _ _ _ _
structure Form(B:Nat)(m m':Mt)(t:Tm):Prop where
 nodes:t.nodes+m.count<=m'.count
 lo:t.Lo B
theorem nq{B:Nat}{g:Mt->Tm->Mt×Tm}(hg:Gt g):∀(l:List Tm)(m:Mt),(∀t∈l,∀m:Mt,m.To (g m t).1->(g m t).1.err=0->Form B m (g m t).1 (g m t).2)->(cM g m l).1.err=0-> Tm.dT (cM g m l).2+m.count<=(cM g m l).1.count/\Tm.wI B (cM g m l).2
 | [],m,_,_=>⟨by simp[cM,Tm.dT],ai⟩|t::l,m,h,he=>by rw[cM]at he ⊢;simp only at he ⊢;have h1:=h t auC m (hg m t) ((lS hg l _).ok he);have h2:=nq hg l (g m t).1 (λu hu=>h u (auG _ hu)) he;have:=h1.nodes;exact⟨by rw[Tm.dT];omega,h1.lo,h2.2⟩
theorem acq{B:Nat}{l:List Tm}(h:Tm.wI B l)(n:Nat):(l.getD n di).Lo B:=by rw[avv];by_cases hn:n<l.length;rw[aus hn];exact Tm.jj.1 h _ (auz hn);rw[auQ (by omega)];exact⟨⟨by simp[Ty.sizes],by simp⟩,⟨⟨by decide,by decide⟩,by decide,by decide⟩,ai⟩
theorem wK{B:Nat}{us:List Tm}(h:Tm.wI B us)(i:Int)(n d:Nat):(ct us i n d).Lo B:=Tm.Gs 0 (acq h _)
theorem mK{B:Nat}:∀(f:Nat)(m:Mt)(k i:Int)(args us:List Tm)(n d:Nat),jo k->jo i->args.length<=B->Tm.wI B args->Tm.wI B us->us.length<=n->(bN f m k i args us n d).1.err=0-> Form B m (bN f m k i args us n d).1 (bN f m k i args us n d).2/\(bN f m k i args us n d).2.binds=[]
 |0,m,k,i,args,us,n,d,_,_,_,_,_,_,he=>by rw[bN]at he;simp only at he;split at he;cases he;rename_i h;exact(h he).elim|f+1,m,k,i,args,us,n,d,hk,hi,hla,ha,hu,hn,he=>by
  rw[bN]at he ⊢;split at he;rename_i h1;exact((lR h1).1 he).elim
  ·rename_i h1;rw[if_neg h1];obtain⟨g0,g1,g2,g3⟩:=oN (by simpa using h1);have Na:=lS (p9 f us n d) args m.one.1;have kU:=nq (B:=B) (p9 f us n d) args m.one.1 (λt ht m' akx SS=>by have lX:=Tm.im.1 (Tm.jj.1 ha t ht);have:=mK (B:=B) f m' t.kind t.index t.args us n (d+t.binds.length) lX.2.1.1 lX.2.1.2 lX.1.2 lX.2.2 hu hn SS;have hq:=Tm.im.1 this.1.lo;have XW:=this.1.nodes;rw[Tm.gG]at XW;exact⟨by unfold dj;rw[Tm.gG,Tm.jc];exact XW,Tm.im.2 ⟨⟨lX.1.1,hq.1.2⟩,hq.2⟩⟩);have hlen:=p8 (g:=dj (bN f) us n d) args m.one.1;generalize cM (dj (bN f) us n d) m.one.1 args=r at he Na kU hlen;unfold Ee at he ⊢;split at he;rename_i h2;exact(h2 he).elim;(rename_i h2;have h2:r.1.err=0:=by simpa using h2);(obtain⟨q1,q2⟩:=kU h2;have q1':1+Tm.dT r.2+m.count<=r.1.count:=by rw[g3]at q1;simp only at q1;omega);rw[if_neg (by simp[h2])];have mk:∀i':Int,jo i'->Form B m r.1 (.mk [] k i' r.2):=λi' wY=>⟨by rw[Tm.nodes];exact q1',⟨by simp[Ty.sizes],by rw[hlen];exact hla⟩,⟨hk,wY⟩,q2⟩;split at he;rename_i h3;rw[if_pos h3];exact⟨mk i hi,rfl⟩;rename_i h3;rw[if_neg h3];split at he;rename_i h4;rw[if_pos h4];refine⟨mk _ ?_,rfl⟩;unfold jo at hi ⊢;omega;rename_i h4;rw[if_neg h4];split at he;rename_i h5;rw[if_pos h5];exact⟨mk i hi,rfl⟩;rename_i h5;rw[if_neg h5];split at he;cases he;rename_i h6;rw[if_neg h6];have lX:=Tm.im.1 (wK hu i n d);have:=mK (B:=B) f r.1 _ _ _ r.2 _ 0 lX.2.1.1 lX.2.1.2 lX.1.2 lX.2.2 q2 (by simp at h6;omega) he;exact⟨⟨by have:=this.1.nodes;omega,this.1.lo⟩,this.2⟩
theorem acr(f:Nat)(m:Mt)(t:Tm)(us:List Tm):m.To (iB f m t us).1:=by unfold iB;split;exact .refl m;(rename_i h0;have h0:m.err=0:=by simpa using h0);split;exact .fail h0 (by decide);exact rM f _ _ _ _ _ _ _
theorem Gu(l:List Ty)(n:Nat):Ty.sizes (l.drop n)<=Ty.sizes l:=by have:=Ty.cO (l.take n) (l.drop n);rw[avl]at this;omega
theorem RQ{B f:Nat}{m:Mt}{t:Tm}{us:List Tm}(ht:t.Lo B)(hu:Tm.wI B us)(he:(iB f m t us).1.err=0):Form B m (iB f m t us).1 (iB f m t us).2:=by unfold iB at he ⊢;split at he;rename_i h;exact(h he).elim;rename_i h;rw[if_neg h];split at he;cases he;rename_i h2;rw[if_neg h2];have lX:=Tm.im.1 ht;have:=mK (B:=B) f m _ _ _ us _ 0 lX.2.1.1 lX.2.1.2 lX.1.2 lX.2.2 hu (by omega) he;have hq:=Tm.im.1 this.1.lo;have XW:=this.1.nodes;rw[Tm.gG]at XW;refine⟨by rw[Tm.gG,Tm.jc];exact XW,Tm.im.2 ⟨⟨?_,hq.1.2⟩,hq.2⟩⟩;exact auP (Gu _ _) lX.1.1
mutual
theorem BL:∀(t:Ty)(k i:Int),(sy k i t).nodes=t.size
 | .mk l b,k,i=>by rw[sy,Tm.nodes,Ty.size,x8 l l.length 0]
theorem x8:∀(l:List Ty)(n j:Nat),Tm.dT (jB n j l)=Ty.sizes l
 | [],n,j=>by simp[jB,Tm.dT,Ty.sizes]|t::l,n,j=>by rw[jB,Tm.dT,Ty.sizes,BL t,x8 l]
end
mutual
theorem PL{B:Nat}:∀(t:Ty)(k i:Int),jo k->jo i->t.size<=B->B<=1000000000->(sy k i t).Lo B
 | .mk l b,k,i,hk,hi,h,hB=>by have:=Ty.aZ l;rw[Ty.size]at h;rw[sy];refine⟨⟨by omega,by rw[r5];omega⟩,⟨hk,?_⟩,J9 l l.length 0 (by omega) (by omega) (by omega) hB⟩;split;exact J0 _;exact hi
theorem J9{B:Nat}:∀(l:List Ty)(n j:Nat),n<=B->Ty.sizes l<=B->j+l.length<=3000000000->B<=1000000000->Tm.wI B (jB n j l)
 | [],n,j,_,_,_,_=>ai|t::l,n,j,hn,h,hj,hB=>by rw[Ty.sizes]at h;rw[auy]at hj;exact⟨PL t 0 _ ⟨by decide,by decide⟩ ⟨by omega,by omega⟩ (by omega) hB,J9 l n (j+1) hn (by omega) (by omega) hB⟩
end
theorem XX(c m x:List Ty)(st:Mt)(k i:Int):st.To (Ef c m x st k i).1:=by unfold Ef;split;exact Mt.BK _ _;exact Mt.BK _ _
theorem PM(t:Ty)(r:Mt×List Tm):r.1.To (CW t r).1:=by unfold CW;split<;>exact .refl _
theorem PN(r:Mt×List Tm):r.1.To (wJ r).1:=by unfold wJ;split;exact .refl _;exact acr _ _ _ _
mutual
theorem Rw.vl(c m:List Ty):∀(r:Rw)(st:Mt)(x:List Ty),st.To (Rw.dO c m st x r).1
 | .mk k t i l,st,x=>by rw[Rw.dO];split;exact .refl _;split;exact(Rw.oO c m l st _).trans (PM _ _);split;exact(Rw.oO c m l st _).trans (PN _);exact XX _ _ _ _ _ _
theorem Rw.oO(c m:List Ty):∀(l:List Rw)(st:Mt)(x:List Ty),st.To (Rw.cQ c m st x l).1
 | [],st,x=>.refl _|r::l,st,x=>by rw[Rw.cQ];exact(Rw.vl c m r st x).trans (Rw.oO c m l _ x)
end
section
theorem aY.Ka{P:Program}{f:FuncId}{args:List AV}{hp:List ax}{R:AV->List ax->Prop}(h:aY P f args hp (λr hp'=>∃r2,aX r r2/\R r2 hp')):aY P f args hp R:=⟨h.1,λw F η vals bA hv=>(h.2 w F η vals bA hv).mono λe w' ⟨v,r,hp',bj,he,⟨r2,hw,hR⟩,bF⟩=>⟨v,r2,hp',bj,he,hR,⟨bF.keeps,bF.ext,bF.heap,bF.cu,hw _ _ _ _ _ bF.rep⟩⟩⟩
theorem ef.aky{w:World}{F:Nat->Nat->Prop}{η:List Value}{hp:List ax}:∀{xs ys:List AV}{vs:List Value},ef xs ys->cC w F η hp xs vs->cC w F η hp ys vs
 | [],[],_,_,h=>h|x::xs,y::ys,[],_,h=>h.elim|x::xs,y::ys,v::vs,hw,h=>⟨hw.1 _ _ _ _ _ h.1,ef.aky hw.2 h.2⟩
theorem aY.args{P:Program}{f:FuncId}{args ng:List AV}{hp:List ax}{R:AV->List ax->Prop}(hw:ef args ng)(h:aY P f ng hp R):aY P f args hp R:=⟨h.1,λw F η vals bA hv=>h.2 w F η vals bA (hw.aky hv)⟩
theorem BM:aX (.ay (.slice none 0 0)) (.sl []):=λ_ _ _ _ _ h=>by cases h;exact .mV none
theorem RR(l:List AV):aX (.clip l) (.sl l):=λ_ _ _ _ _ h=>h.mW
theorem tE:aX (.agg [.ay (.slice none 0 0),nI 0,nI 0,.ay (.slice none 0 0)]) (.agg [.sl [],nI 0,nI 0,.sl []]):=aX.agg ⟨BM,aX.refl _,aX.refl _,BM,ai⟩
theorem ahh{d:TD}{n:Nat}(h:d.bytes<=1000)(hn:n<=4000000000):0<=(n:Int)/\(n:Int)<=9223372036854775807/\(TD.bytes d:Int)*(n:Int)<=281474976710656:=by (refine⟨by omega,by omega,?_⟩;have h1:(TD.bytes d:Int)*(n:Int)=((d.bytes*n:Nat):Int):=by simp);have h2:d.bytes*n<=1000*4000000000:=avM h hn;rw[h1];omega
def CX(l u d s y c e:Int):List ax:=[.box (aW l u d 0 s y),.box [.ptr 0 0,nI c,nI e]]
structure x9(n:Nat)(l u d y:Int):Prop where
 left:l=n
 used:0<=u
 sum:l+u<=4000000000000000000
 dry:y=0↔d=0
 none:y≠0->n=0
structure yQ(m:Mt)(l u d y c e:Int):Prop where
 bud:x9 m.left l u d y
 err:e=m.err
 sC:m.count<=100000
 count:m.err=0->c=m.count
 fuel:m.err=11->y≠0
def RS(m:Mt)(hp:List ax):Prop:=∃l u d s y c e,hp=CX l u d s y c e/\yQ m l u d y c e
variable {m:Mt} {l u d s y c e:Int}
theorem XY{left:Nat}(h:x9 left l u d y):aY aj 229 [.ptr 0 0,nI 1] [.box (aW l u d 0 s y)] (λr hp'=>∃l' u' d' y',r=nB (decide (left≠0))/\hp'=[.box (aW l' u' d' 0 s y')]/\x9 (left-1) l' u' d' y'/\(left=0->y'≠0)):=by refine(RH (l:=l) (u:=u) (d:=d) (s:=s) (y:=y) 1 (by decide)).mono λr hp' ⟨e1,e2⟩=>?_;have hl:=h.left;by_cases h0:left=0;(subst h0;have hl0:l=0:=by simpa using hl);subst hl0;have hq:y≠0\/1>(0:Int):=.inr (by decide);refine⟨0,u,if d=0 then 1 else d,if d=0 then 1 else y,by rw[e1];simp,?_,⟨rfl,h.used,by have:=h.sum;omega,?_,λ_=>rfl⟩,λ_=>?_⟩;rw[e2,tB,if_pos hq,JX (by omega) (by omega) (by omega),JY (by omega) h.used (by have:=h.sum;omega)];simp;by_cases hd:d=0;simp[hd];simp only[hd,if_false];exact⟨λhy=>(hd (h.dry.1 hy)).elim,λfj=>fj.elim⟩;by_cases hd:d=0;simp[hd];simp only[hd,if_false];exact λhy=>hd (h.dry.1 hy);(have hy:y=0:=Decidable.byContradiction λhc=>h0 (h.none hc);have hd:d=0:=h.dry.1 hy;subst hy;subst hd;have hq:¬((0:Int)≠0\/1>l):=by omega);refine⟨l-1,u+1,0,0,?_,?_,⟨by omega,by have:=h.used;omega,by have:=h.sum;omega,av9,λh=>(h rfl).elim⟩,λh=>(h0 h).elim⟩;rw[e1,decide_eq_true hq,decide_eq_true h0];rw[e2,RL (by omega) h.used (by have:=h.sum;omega)]
theorem iC(e1:Int):aY aj 217 [.ptr 1 0,nI e1] (CX l u d s y c e) (λr hp'=>r=.aG []/\hp'=CX l u d s y c (if e=0 then e1 else e)):=Wn (aA.intro (λh=>⟨rfl,by rw[if_pos (by simpa using h)];rfl⟩) λh=>⟨rfl,by rw[if_neg (by simpa using h)];rfl⟩)
theorem tF{m:Mt}(h:m.err≠0):∀n,m.eg n=(m,false)
 |0=>by rw[Mt.eg,decide_eq_false h]|n+1=>by (have h1:m.one=(m,false):=by unfold Mt.one;rw[if_pos h]);rw[Mt.eg,h1];rfl
theorem Nb(m:Mt)(n:Nat):m.eg (n+1)=m.one.1.eg n:=by rw[Mt.eg];cases h:m.one.2 with|true=>rfl|false=>rw[tF (lR h).1];rfl
theorem yQ.failed(h:yQ m l u d y c e)(c':Int){e':Int}(he:e'≠0)(hf:e'=11->y≠0):yQ ⟨m.left,m.count,e'⟩ l u d y c' e':=⟨h.bud,rfl,h.sC,λh=>(he h).elim,hf⟩
theorem tG(n:Nat)(hn:n<=1000000000)(h:yQ m l u d y c e):aY aj 220 [.ptr 1 0,nI n] (CX l u d s y c e) (λr hp'=>r=nB (m.eg n).2/\RS (m.eg n).1 hp'):=by refine Wp ?_;unfold adF IY;refine aI.intro (β:=Nat×Mt×Int×Int×Int×Int×Int×Int×Int) (λb=>(((),(b.1:Int),()),((b.2.2.1,b.2.2.2.1,b.2.2.2.2.1,(0:Int),b.2.2.2.2.2.1,b.2.2.2.2.2.2.1,()),((),b.2.2.2.2.2.2.2.1,b.2.2.2.2.2.2.2.2,()),()))) (λb=>m.eg n=b.2.1.eg b.1/\b.1<=n/\yQ b.2.1 b.2.2.1 b.2.2.2.1 b.2.2.2.2.1 b.2.2.2.2.2.2.1 b.2.2.2.2.2.2.2.1 b.2.2.2.2.2.2.2.2) (λb=>b.1) (n,m,l,u,d,s,y,c,e) rfl ⟨rfl,aur _,h⟩ ?_;rintro⟨k,m',l,u,d,s,y,c,e⟩ ⟨hk,hkn,h⟩ again bQ;dsimp only at hk hkn h ⊢;have he:=h.err;refine aA.intro (λhp=>?_) λhp=>?_;(have hp:(k:Int)>0:=of_decide_eq_true hp;obtain⟨j,rfl⟩:∃j,k=j+1:=⟨k-1,by omega⟩;have hw:ag .i64 (((j+1:Nat):Int)-1)=((j:Nat):Int):=by rw[ba (by omega) (by omega)];omega);refine aA.intro (λh1=>?_) λh1=>?_;(have Db:e=0:=by simpa using h1);(have ss:m'.err=0:=by rw[<-he];exact Db);have hc:=h.count ss;subst Db;rw[Nb]at hk;refine aA.intro (λh2=>?_) λh2=>?_;(have CB:m'.count=100000:=by have:c=100000:=(by simpa using h2);omega);(refine⟨_,iC 2,λr q ⟨e1,e2⟩=>⟨l,u,d,0,s,y,c,2,⟨e1,e2⟩,?_⟩⟩;rw[hw];have h1:m'.one.1=⟨m'.left,m'.count,2⟩:=by unfold Mt.one;rw[if_neg (by simp[ss]),if_pos CB]);rw[h1]at hk;exact bQ (j,⟨m'.left,m'.count,2⟩,l,u,d,s,y,_,2) ⟨hk,by omega,h.failed _ (by decide) (λh=>by simp at h)⟩ (avH j);(have CB:¬m'.count=100000:=by have:¬c=100000:=(by simpa using h2);omega);refine⟨_,XY h.bud,λr q ⟨l',u',d',y',e1,e2,hb,hz⟩=>⟨l',u',d',0,s,y',_,⟨e1,e2⟩,?_⟩⟩;refine aA.intro (λh3=>?_) λh3=>?_;(have h0:m'.left=0:=by simpa using h3);(refine⟨_,iC 11,λr q ⟨e1,e2⟩=>⟨l',u',d',0,s,y',c,11,⟨e1,e2⟩,?_⟩⟩;rw[hw];have h1:m'.one.1=⟨m'.left,m'.count,11⟩:=by unfold Mt.one;rw[if_neg (by simp[ss]),if_neg CB,if_pos h0]);rw[h1]at hk;rw[h0]at hb;exact bQ (j,⟨m'.left,m'.count,11⟩,l',u',d',s,y',_,11) ⟨hk,by omega,by rw[h0];exact hb,rfl,h.sC,λh=>by simp at h,λ_=>hz h0⟩ (avH j);(have h0:¬m'.left=0:=by simpa using h3);(rw[hw];have h1:m'.one.1=⟨m'.left-1,m'.count+1,0⟩:=by unfold Mt.one;rw[if_neg (by simp[ss]),if_neg CB,if_neg h0,ss]);(have KU:=h.sC;have hcn:m'.count<=4000000000:=by omega);rw[h1]at hk;rw[hc,bc hcn];exact bQ (j,⟨m'.left-1,m'.count+1,0⟩,l',u',d',s,y',_,0) ⟨hk,by omega,hb,rfl,by simp only;omega,λ_=>rfl,λh=>by simp at h⟩ (avH j);(have Db:¬e=0:=by simpa using h1);(have ss:m'.err≠0:=by rw[<-he];exact Db);rw[tF ss]at hk;rw[hk];exact⟨by rw[show (e==0)=false from by simp[Db]],l,u,d,s,y,c,e,rfl,h⟩;(have hp:¬(k:Int)>0:=of_decide_eq_false hp;obtain rfl:k=0:=by omega);rw[Mt.eg]at hk;rw[hk];refine⟨?_,l,u,d,s,y,c,e,rfl,h⟩;rw[he];by_cases h0:m'.err=0;simp[h0];simp[h0]
end
theorem Gv{B b:Nat}(hB:B<=1000000):∀(n:Nat)(t:Tm)(d:Nat),t.nodes<=n->t.Lo B->d+B*n<=4000000000000000000-> az aj 235 [.agg [.sl (t.binds.map Ty.enc),nI t.kind,nI t.index,.sl (t.args.map Tm.enc)],nI b,nI d] (.agg [.sl ((t.lift b d).binds.map Ty.enc),nI (t.lift b d).kind,nI (t.lift b d).index,.sl ((t.lift b d).args.map Tm.enc)]):=by intro n;induction n with|zero=>intro t d h;have:=t.Ea;omega|succ n ih=>(intro t d h lX hd;have hl:=Tm.im.1 lX;have hb:=Ty.aZ t.binds;have hmul:B*(n+1)=B*n+B:=by rw[Nat.mul_succ]);(have hw:ag .i64 ((d:Int)+((ab (t.binds.map Ty.enc):Nat):Int))=((d+t.binds.length:Nat):Int):=by rw[aum,ba (by omega) (by omega)];omega);(have ha:(t.lift b d).args=t.args.map (Tm.lift b (d+t.binds.length)):=Tm.RP b d t;have loop:∀ix:Int,ix=(t.lift b d).index->uP ((b,((d+t.binds.length:Nat):Int),(),(),(),t.args.map Tm.enc,((ab (t.args.map Tm.enc):Nat):Int),0,()),((t.binds.map Ty.enc,t.kind,ix,t.args.map Tm.enc,()),((),0,0,(),()),[],())) (λx=>x=.agg [.sl ((t.lift b d).binds.map Ty.enc),nI (t.lift b d).kind,nI (t.lift b d).index,.sl ((t.lift b d).args.map Tm.enc)]):=by intro ix Rm;refine aI.intro (λk:Nat=>(((b:Int),((d+t.binds.length:Nat):Int),(),(),(),t.args.map Tm.enc,(t.args.length:Int),(k:Int),()),((t.binds.map Ty.enc,t.kind,ix,t.args.map Tm.enc,()),((),(0:Int),(0:Int),(),()),((t.lift b d).args.take k).map Tm.enc,()))) (λk=>k<=t.args.length) (λk=>t.args.length-k) 0 (by rw[aum];rfl) (auv _) ?_;intro k hk again bQ;dsimp only;refine aA.intro (λh=>?_) λh=>?_;(have aF:k<t.args.length:=by simpa using h);(have hz:t.args[k].nodes<=n:=by have:=Tm.tD (auz aF);have:=t.gG;omega);(have hi:=ih t.args[k] (d+t.binds.length) hz (Tm.jj.1 hl.2.2 _ (auz aF)) (by omega);have acm:k<(t.lift b d).args.length:=by rw[ha,aum];exact aF);(have hg:(t.lift b d).args[k]=Tm.lift b (d+t.binds.length) t.args[k]:=by simp[ha]);rw[<-hg]at hi;refine⟨by omega,by rw[aum];omega,_,_,_,_,Tm.bx aF,_,_,_,_,hi,rfl,jH (λx hx=>by simp at hx;subst hx;rfl) (by simp;omega) (by decide),rfl,?_⟩;rw[bc (by omega),Tm.oF,bP acm];exact bQ (k+1) (by omega) (by omega);(have:t.args.length<=k:=by simpa using h);refine⟨rfl,?_⟩;rw[auE (by rw[ha,aum];exact this),Rm,Tm.M9,Tm.RN]);have hm:∀{dd:TD},dd.bytes<=1000->(0<=((ab (t.args.map Tm.enc):Nat):Int)/\((ab (t.args.map Tm.enc):Nat):Int)<=9223372036854775807/\(TD.bytes dd:Int)*((ab (t.args.map Tm.enc):Nat):Int)<=281474976710656):= λhd=>ahh hd (by rw[aum];omega);(refine Wr ?_;unfold adG;rw[hw];have kZ:(t.lift b d).index=if t.kind=0/\((d+t.binds.length:Nat):Int)<=t.index then ag .i64 (t.index+b)else t.index:=by rw[Tm.zp];rfl);refine aA.intro (λh=>?_) λh=>?_;(have h0:t.kind=0:=by simpa using h);refine aA.intro (λh1=>?_) λh1=>?_;have h1:((d+t.binds.length:Nat):Int)<=t.index:=of_decide_eq_true h1;exact⟨hm (by decide),rfl,loop _ (by rw[kZ,if_pos ⟨h0,h1⟩])⟩;have h1:¬((d+t.binds.length:Nat):Int)<=t.index:=of_decide_eq_false h1;exact⟨hm (by decide),rfl,loop _ (by rw[kZ,if_neg (λh=>h1 h.2)])⟩;(have h0:¬t.kind=0:=by simpa using h);exact⟨hm (by decide),rfl,loop _ (by rw[kZ,if_neg (λh=>h0 h.1)])⟩
mutual
theorem Tm.Eg:∀(t:Tm)(d:Nat),t.Ok->t.lift 0 d=t
 | .mk bs k i l,d,h=>by obtain⟨h1,h2,h3⟩:=h;rw[Tm.lift,Tm.BN l _ h3];congr 1;split;rw[show i+((0:Nat):Int)=i from by omega,h2.wrap];rfl
theorem Tm.BN:∀(l:List Tm)(d:Nat),Tm.Pv l->Tm.x7 0 d l=l
 | [],_,_=>rfl|t::l,d,h=>by rw[Tm.x7,Tm.Eg t d h.1,Tm.BN l d h.2]
end
theorem vm{B b:Nat}{t:Tm}(hB:B<=1000000)(hn:t.nodes<=1000000000)(lX:t.Lo B): az aj 230 [.agg [.sl (t.binds.map Ty.enc),nI t.kind,nI t.index,.sl (t.args.map Tm.enc)],nI b] (.agg [.sl ((t.lift b 0).binds.map Ty.enc),nI (t.lift b 0).kind,nI (t.lift b 0).index,.sl ((t.lift b 0).args.map Tm.enc)]):=by (have:=avM hB hn;refine Wq (aA.intro (λh=>?_) λh=>⟨_,_,_,_,Gv (b:=b) hB _ t 0 (aur _) lX (by omega),rfl⟩);have h0:b=0:=by simpa using h);subst h0;rw[Tm.Eg t 0 (Tm.J6 lX)]
theorem RT(m:Mt):m.eg 1=m.one:=by rw[Mt.eg];cases h:m.one.2 with|true=>rw[if_pos rfl,Mt.eg];obtain⟨_,_,_,h3⟩:=oN h;rw[show m.one=(m.one.1,m.one.2)from rfl,h,h3];rfl|false=>rw[if_neg (by simp),<-h]
def vn(N:Nat)(m:Mt)(t:Tm)(r:AV)(hp':List ax):Prop:=RS m hp'/\∃t':Tm,r=.agg [.sl (t'.binds.map Ty.enc),nI t'.kind,nI t'.index,.sl (t'.args.map Tm.enc)]/\(m.err=0->t'=t)/\t'.binds.length<=N
def XZ(B f:Nat):Prop:=∀(m:Mt)(us:List Tm)(bs:List Ty)(k i:Int)(args:List Tm)(n d:Nat)(l u x s y c e:Int),yQ m l u x y c e->(m.err=0->100000<f+m.count)->
 Ty.sizes bs<=B->jo k->jo i->args.length<=B->Tm.wI B args->Tm.wI B us->(∀t∈us,t.nodes<=1000000000)->us.length<=n->n<=B->d+B*(f+1)<=4000000000000000000->
 aY aj 228 [.agg [.ptr 1 0,.sl (us.map Tm.enc),nI n],.agg [.sl (bs.map Ty.enc),nI k,nI i,.sl (args.map Tm.enc)],nI d] (CX l u x s y c e)
  (vn bs.length (bN f m k i args us n (d+bs.length)).1 (.mk bs (bN f m k i args us n (d+bs.length)).2.kind (bN f m k i args us n (d+bs.length)).2.index (bN f m k i args us n (d+bs.length)).2.args))
def akz(B f:Nat):Prop:=∀(m:Mt)(t:Tm)(us:List Tm)(l u x s y c e:Int),yQ m l u x y c e->(m.err=0->100000<f+m.count)->t.Lo B->(m.err=0->Tm.wI B us/\∀t∈us,t.nodes<=1000000000)->
 B*(f+1)<=4000000000000000000->
 aY aj 219 [.ptr 1 0,.agg [.sl (t.binds.map Ty.enc),nI t.kind,nI t.index,.sl (t.args.map Tm.enc)],.sl (us.map Tm.enc)] (CX l u x s y c e) (vn t.binds.length (iB f m t us).1 (iB f m t us).2)
theorem jk{N:Nat}{m:Mt}{t:Tm}{hp':List ax}(h:RS m hp')(he:m.err≠0):∃r2,aX (.agg [.ay (.slice none 0 0),nI 0,nI 0,.ay (.slice none 0 0)]) r2/\vn N m t r2 hp':=⟨_,tE,h,di,rfl,λh0=>(he h0).elim,auv _⟩
theorem PR{B f:Nat}(hB:B<=1000000)(ht:XZ B f):akz B f:=by intro m t us l u x s y c e hm hf lX Cp hk;have he:=hm.err;have hl:=Tm.im.1 lX;have U0:=Ty.aZ t.binds;refine aY.Ka (Ws (aA.intro (λh=>?_) λh=>?_));(have h0:¬e=0:=by simpa using h);(have ss:m.err≠0:=by rw[<-he];exact h0);(refine⟨_,iC 1,λr q ⟨e1,e2⟩=>⟨l,u,x,0,s,y,c,_,⟨e1,e2⟩,?_⟩⟩;have:iB f m t us=(m,di):=by unfold iB;rw[if_pos ss]);rw[this];rw[if_neg h0];exact jk ⟨l,u,x,s,y,c,e,rfl,hm⟩ ss;(have h0:e=0:=by simpa using h);(have ss:m.err=0:=by rw[<-he];exact h0);obtain⟨hu,hn⟩:=Cp ss;refine aA.intro (λh=>?_) λh=>?_;(have h1:t.binds.length<us.length:=by have:=of_decide_eq_true h;rw[aum,aum]at this;omega);(refine⟨_,iC 1,λr q ⟨e1,e2⟩=>⟨l,u,x,0,s,y,c,_,⟨e1,e2⟩,?_⟩⟩;have:iB f m t us=(⟨m.left,m.count,1⟩,di):=by unfold iB;rw[if_neg (by simp[ss]),if_pos h1]);rw[this,if_pos h0];exact jk ⟨l,u,x,s,y,c,1,rfl,hm.failed c (by decide) (λh=>by simp at h)⟩ (by simp);(have h1:¬t.binds.length<us.length:=by have:=of_decide_eq_false h;rw[aum,aum]at this;omega);(have hp:iB f m t us=((bN f m t.kind t.index t.args us t.binds.length 0).1,.mk (t.binds.drop us.length) (bN f m t.kind t.index t.args us t.binds.length 0).2.kind (bN f m t.kind t.index t.args us t.binds.length 0).2.index (bN f m t.kind t.index t.args us t.binds.length 0).2.args):=by unfold iB;rw[if_neg (by simp[ss]),if_neg h1]);have afD:=ht m us [] t.kind t.index t.args t.binds.length 0 l u x s y c e hm hf (by simp[Ty.sizes]) hl.2.1.1 hl.2.1.2 hl.1.2 hl.2.2 hu hn (by omega) (by omega) (by omega);rw[au7,avu]at afD;rw[hp];generalize bN f m t.kind t.index t.args us t.binds.length 0=q at afD;rw[aum,aum];refine⟨_,aY.args (by exact⟨aX.refl _,aX.agg ⟨BM,aX.refl _,aX.refl _,aX.refl _,ai⟩,aX.refl _,ai⟩) afD,λr hq ⟨⟨l',u',x',s',y',c',e',e2,sn⟩,t',e1,Ss,_⟩=>⟨l',u',x',0,s',y',c',e',_,_,_,_,⟨e1,e2⟩,?_⟩⟩;refine⟨⟨by omega,by omega,by omega,λz hz=>Ty.lN z hz⟩,?_⟩;rw[avp,avp,auE (by rw[aum];omega),<-List.map_drop];refine⟨_,aX.refl _,⟨l',u',x',s',y',c',e',rfl,sn⟩,.mk (t.binds.drop us.length) t'.kind t'.index t'.args,rfl,λh=>?_,by rw[Tm.uW,auS];omega⟩;rw[Ss h];rfl
theorem RU{B:Nat}(hB:B<=1000000):XZ B 0:=by (intro m us bs k i args n d l u x s y c e hm hf hbs hk hi hla lX Cp Dh hn hnB hd;have ss:m.err≠0:=λh=>by have:=hf h;have:=hm.sC;omega);refine aY.Ka (I0 ⟨_,tG 1 (by omega) hm,λr q ⟨e1,l',u',x',s',y',c',e',e2,sn⟩=>⟨l',u',x',0,s',y',c',e',_,⟨e1,e2⟩,?_⟩⟩);rw[tF ss]at sn ⊢;refine aA.pos rfl ?_;rw[(rM 0 m k i args us n (d+bs.length)).stop ss];exact jk ⟨l',u',x',s',y',c',e',rfl,sn⟩ ss
theorem RV{B f:Nat}(hB:B<=1000000)(ih:XZ B f):XZ B (f+1):=by
 have X0:=PR hB ih;intro m us bs k i args n d l u x s y c e hm hf hbs hk hi hla lX Cp Dh hn hnB hd;have U0:=Ty.aZ bs;have hmul:B*(f+1+1)=B*(f+1)+B:=Nat.mul_succ _ _;have hBf:B<=B*(f+1):=Nat.le_mul_of_pos_right _ (Nat.succ_pos f);refine aY.Ka (I0 ⟨_,tG 1 (by omega) hm,λr q ⟨e1,l',u',x',s',y',c',e',e2,sn⟩=>⟨l',u',x',0,s',y',c',e',_,⟨e1,e2⟩,?_⟩⟩);rw[RT]at sn ⊢;have hw:ag .i64 ((d:Int)+((ab (bs.map Ty.enc):Nat):Int))=((d+bs.length:Nat):Int):=by rw[aum,ba (by omega) (by omega)];omega
 rw[hw];generalize hD:d+bs.length=D;have hD2:D+B*(f+1)<=4000000000000000000:=by omega
 refine aA.intro (λh=>?_) λh=>⟨rfl,?_⟩;have h:m.one.2=false:=by simpa using h
 have:bN (f+1) m k i args us n D=(m.one.1,di):=by rw[bN,if_pos h]
 rw[this];exact jk ⟨l',u',x',s',y',c',e',rfl,sn⟩ (lR h).1;have h:m.one.2=true:=by simpa using h
 obtain⟨g0,g1,g2,g3⟩:=oN h;have kP:bN (f+1) m k i args us n D=Ee (bN f) (cM (dj (bN f) us n D) m.one.1 args) k i us n D:=by rw[bN,if_neg (by simp[h])]
 rw[kP];have asZ:m.one.1.count=m.count+1:=by rw[g3]
 have adM:∀m':Mt,m.one.1.To m'->m'.err=0->100000<f+m'.count:=λm' h h0=>by have:=h.more;have:=hf g0;omega
 have oB:=p9 f us n D;have kU:∀(l:List Tm)(m':Mt),(∀t∈l,t∈args)->(cM (dj (bN f) us n D) m' l).1.err=0->Tm.dT (cM (dj (bN f) us n D) m' l).2+m'.count<=(cM (dj (bN f) us n D) m' l).1.count/\Tm.wI B (cM (dj (bN f) us n D) m' l).2:=by intro l m' Tt Db;refine nq oB l m' (λt ht m'' akx SS=>?_) Db;have mS:=Tm.im.1 (Tm.jj.1 lX t (Tt t ht));have:=mK (B:=B) f m'' t.kind t.index t.args us n (D+t.binds.length) mS.2.1.1 mS.2.1.2 mS.1.2 mS.2.2 Cp hn SS;have hq:=Tm.im.1 this.1.lo;have XW:=this.1.nodes;rw[Tm.gG]at XW;exact⟨by unfold dj;rw[Tm.gG,Tm.jc];exact XW,Tm.im.2 ⟨⟨mS.1.1,hq.1.2⟩,hq.2⟩⟩
 have hlen:=p8 (g:=dj (bN f) us n D) args m.one.1;have afE:=kU args m.one.1 λt h=>h;unfold IZ;refine aI.intro (β:=Nat×Mt×Int×Int×Int×Int×Int×Int×Int×List Tm) (λb=>(((D:Int),(),(),(),(),args.map Tm.enc,(args.length:Int),(b.1:Int),()),((b.2.2.1,b.2.2.2.1,b.2.2.2.2.1,(0:Int),b.2.2.2.2.2.1,b.2.2.2.2.2.2.1,()),((),b.2.2.2.2.2.2.2.1,b.2.2.2.2.2.2.2.2.1,()),((),us.map Tm.enc,(n:Int),()),(bs.map Ty.enc,k,i,args.map Tm.enc,()),((),(0:Int),(0:Int),(),()),(bs.map Ty.enc,k,i,(),()),b.2.2.2.2.2.2.2.2.2.map Tm.enc,())))
  (λb=>b.1<=args.length/\yQ b.2.1 b.2.2.1 b.2.2.2.1 b.2.2.2.2.1 b.2.2.2.2.2.2.1 b.2.2.2.2.2.2.2.1 b.2.2.2.2.2.2.2.2.1/\m.one.1.To b.2.1/\b.2.2.2.2.2.2.2.2.2.length=b.1/\
   ∃pre:List Tm,cM (dj (bN f) us n D) m.one.1 args=((cM (dj (bN f) us n D) b.2.1 (args.drop b.1)).1,pre++(cM (dj (bN f) us n D) b.2.1 (args.drop b.1)).2)/\(b.2.1.err=0->b.2.2.2.2.2.2.2.2.2=pre))
  (λb=>args.length-b.1) (0,m.one.1,l',u',x',s',y',c',e',[]) (by rw[aum];rfl) ⟨auv _,sn,.refl _,rfl,[],by rw[avI,avF],λ_=>rfl⟩ ?_
 rintro⟨j,m',l,u,x,s,y,c,e,acc⟩ ⟨hj,sn,Na,Hu,pre,hgo,bA⟩ again bQ;dsimp only at hj sn Na Hu hgo bA ⊢;have he:=sn.err;refine aA.intro (λh=>?_) λh=>?_;have aF:j<args.length:=by simpa using h
 have mS:=Tm.im.1 (Tm.jj.1 lX args[j] (auz aF));have NH:A2 (((D:Int),(),(),(),(),args.map Tm.enc,(args.length:Int),(j:Int),()),((l,u,x,(0:Int),s,y,()),((),c,e,()),((),us.map Tm.enc,(n:Int),()),(bs.map Ty.enc,k,i,args.map Tm.enc,()),((),(0:Int),(0:Int),(),()),(bs.map Ty.enc,k,i,(),()),acc.map Tm.enc,())) (args[j].binds.map Ty.enc) args[j].kind args[j].index (args[j].args.map Tm.enc) again:=by refine⟨_,ih m' us args[j].binds args[j].kind args[j].index args[j].args n D l u x s y c e sn (adM m' Na) mS.1.1 mS.2.1.1 mS.2.1.2 mS.1.2 mS.2.2 Cp Dh hn hnB hD2,λr q ⟨⟨l',u',x',s',y',c',e',e2,X1⟩,t',e1,Ss,_⟩=>⟨l',u',x',0,s',y',c',e',_,_,_,_,⟨e1,e2⟩,rfl,jH (λz hz=>by simp at hz;subst hz;rfl) (by simp[Hu];omega) (by decide),rfl,?_⟩⟩;have acs:=oB m' args[j];rw[bc (by omega),Tm.oF];refine bQ (j+1,(dj (bN f) us n D m' args[j]).1,l',u',x',s',y',c',e',acc++[t']) ⟨aF,X1,Na.trans acs,by simp[Hu],pre++[(dj (bN f) us n D m' args[j]).2],?_,λh0=>?_⟩ (by simp only;omega);rw[hgo,J8 aF,auM,av7];rw[bA (acs.ok h0),Ss h0];rfl
 exact⟨by omega,by rw[aum];omega,_,_,_,_,Tm.bx aF,NH,NH⟩;have fb:args.length<=j:=by simpa using h
 have vJ:j=args.length:=by omega
 subst vJ;rw[List.drop_length,cM,auF]at hgo;rw[hgo]at hlen afE ⊢;simp only at hlen afE;have akA:m'.err=0->acc=pre:=bA;have fin:∀(i':Int)(T:Mt×Tm),T.1=m'->(m'.err=0->T.2=.mk [] k i' pre)->∃r2,aX (.agg [.sl (bs.map Ty.enc),nI k,nI i',.sl (acc.map Tm.enc)]) r2/\vn bs.length T.1 (.mk bs T.2.kind T.2.index T.2.args) r2 (CX l u x s y c e):=by intro i' T h1 h2;refine⟨_,aX.refl _,⟨l,u,x,s,y,c,e,rfl,by rw[h1];exact sn⟩,.mk bs k i' acc,rfl,λh0=>?_,aur _⟩;rw[h1]at h0;rw[h2 h0,akA h0];rfl
 unfold Ee;by_cases h0:m'.err=0;rw[if_neg (by simp[h0])];have PS:=akA h0;obtain⟨q1,q2⟩:=afE h0;refine aA.intro (λh=>?_) λh=>?_;have h1:¬k=0:=by simpa using h
 rw[if_pos (.inl h1)];exact⟨rfl,fin i _ rfl λ_=>rfl⟩;have h1:k=0:=by simpa using h
 refine aA.intro (λh=>?_) λh=>?_;have h2:i<D:=of_decide_eq_true h;rw[if_pos (.inr h2)];exact⟨rfl,fin i _ rfl λ_=>rfl⟩;have h2:¬i<D:=of_decide_eq_false h;rw[if_neg (λh=>h.elim (λh=>h h1) h2)];have qC:=hi.2;have Lw:ag .i64 (i-(D:Int))=i-D:=ba (by omega) (by omega);have YH:ag .i64 ((n:Int)-((ab (us.map Tm.enc):Nat):Int))=(n:Int)-us.length:=by rw[aum];exact ba (by omega) (by omega)
 have hw3:ag .i64 ((n:Int)-1)=(n:Int)-1:=ba (by omega) (by omega);rw[Lw,YH];refine aA.intro (λh=>?_) λh=>?_;have h3:i-(D:Int)<(n:Int)-us.length:=of_decide_eq_true h;rw[if_neg (by omega),if_pos (by omega)];exact⟨rfl,fin i _ rfl λ_=>rfl⟩;have h3:¬i-(D:Int)<(n:Int)-us.length:=of_decide_eq_false h;refine aA.intro (λh=>?_) λh=>?_;have h4:i-(D:Int)>=n:=of_decide_eq_true h;rw[if_pos (by omega)];have hw4:ag .i64 (i-((ab (us.map Tm.enc):Nat):Int))=i-us.length:=by rw[aum];exact ba (by omega) (by omega)
 rw[hw4];exact⟨rfl,fin _ _ rfl λ_=>rfl⟩;have h4:¬i-(D:Int)>=n:=of_decide_eq_false h;rw[if_neg (by omega),if_neg (by omega)];rw[hw3];have hw5:ag .i64 ((n:Int)-1-(i-(D:Int)))=((n-1-(i-D).toNat:Nat):Int):=by rw[ba (by omega) (by omega)];omega
 have hw6:ag .i64 (ag .i64 ((D:Int)+n)-((ab (us.map Tm.enc):Nat):Int))=((D+n-us.length:Nat):Int):=by rw[aum,ba (n:=(D:Int)+n) (by omega) (by omega),ba (by omega) (by omega)];omega
 rw[hw5,hw6];have aF:n-1-(i-D).toNat<us.length:=by omega
 generalize hv:n-1-(i-D).toNat=v at aF;have vR:ct us i n D=us[v].lift (D+n-us.length) 0:=by unfold ct;rw[hv,avv,aus aF];rfl
 have Zy:=vm (b:=D+n-us.length) hB (Dh _ (auz aF)) (Tm.jj.1 Cp _ (auz aF));rw[<-vR]at Zy;refine⟨by omega,by rw[aum];omega,_,_,_,_,Tm.bx aF,_,_,_,_,Zy,rfl,?_⟩;refine aA.intro (λh=>?_) λh=>⟨rfl,?_⟩;have h5:(ct us i n D).binds.length≠pre.length:=by rw[<-PS];intro e;apply (show ¬_ from by simpa using h);omega
 rw[if_pos h5];refine⟨_,iC 1,λr q ⟨e1,e2⟩=>⟨l,u,x,0,s,y,c,_,⟨e1,e2⟩,?_⟩⟩;rw[if_pos (by rw[he];exact h0)];exact jk ⟨l,u,x,s,y,c,1,rfl,sn.failed c (by decide) (λh=>by simp at h)⟩ (by simp)
 ·(have h5:¬(ct us i n D).binds.length≠pre.length:=by (have h6:((ct us i n D).binds.length:Int)=acc.length:=by simpa using h);rw[<-PS];omega);rw[if_neg h5];have hpt:=X0 m' (ct us i n D) acc l u x s y c e sn (adM m' Na) (wK Cp i n D) (λ_=>by rw[PS];refine⟨q2,λt ht=>?_⟩;have h1:=Tm.tD ht;have h2:=sn.sC;omega) (by omega);(rw[PS]at hpt ⊢;have hp:iB f m' (ct us i n D) pre=((bN f m' (ct us i n D).kind (ct us i n D).index (ct us i n D).args pre (ct us i n D).binds.length 0).1,.mk ((ct us i n D).binds.drop pre.length) (bN f m' (ct us i n D).kind (ct us i n D).index (ct us i n D).args pre (ct us i n D).binds.length 0).2.kind (bN f m' (ct us i n D).kind (ct us i n D).index (ct us i n D).args pre (ct us i n D).binds.length 0).2.index (bN f m' (ct us i n D).kind (ct us i n D).index (ct us i n D).args pre (ct us i n D).binds.length 0).2.args):=by unfold iB;rw[if_neg (by simp[h0]),if_neg (by simp at h5;omega)]);rw[hp]at hpt;generalize bN f m' (ct us i n D).kind (ct us i n D).index (ct us i n D).args pre (ct us i n D).binds.length 0=T at hpt;refine⟨_,hpt,λr q ⟨⟨l',u',x',s',y',c',e',e2,X1⟩,t',e1,Ss,_⟩=>⟨l',u',x',0,s',y',c',e',_,_,_,_,⟨e1,e2⟩,?_⟩⟩;refine⟨_,aX.refl _,⟨l',u',x',s',y',c',e',rfl,X1⟩,.mk bs t'.kind t'.index t'.args,rfl,λh0=>?_,aur _⟩;rw[Ss h0];rfl
 rw[if_pos h0];have stop:∀(i':Int)(a:List Tm),∃r2,aX (.agg [.sl (bs.map Ty.enc),nI k,nI i',.sl (a.map Tm.enc)]) r2/\vn bs.length m' (.mk bs di.kind di.index di.args) r2 (CX l u x s y c e):=λi' a=> ⟨_,aX.refl _,⟨l,u,x,s,y,c,e,rfl,sn⟩,.mk bs k i' a,rfl,λh=>(h0 h).elim,aur _⟩;have Db:¬e=0:=by rw[he];exact h0
 refine aA.intro (λh=>⟨rfl,stop i acc⟩) λh=>?_;refine aA.intro (λh=>⟨rfl,stop i acc⟩) λh2=>?_;have h2:¬i<D:=of_decide_eq_false h2;have qC:=hi.2;have Lw:ag .i64 (i-(D:Int))=i-D:=ba (by omega) (by omega);have YH:ag .i64 ((n:Int)-((ab (us.map Tm.enc):Nat):Int))=(n:Int)-us.length:=by rw[aum];exact ba (by omega) (by omega)
 have hw3:ag .i64 ((n:Int)-1)=(n:Int)-1:=ba (by omega) (by omega);rw[Lw,YH];refine aA.intro (λh=>⟨rfl,stop i acc⟩) λh3=>?_;have h3:¬i-(D:Int)<(n:Int)-us.length:=of_decide_eq_false h3;refine aA.intro (λh=>⟨rfl,stop _ acc⟩) λh4=>?_;have h4:¬i-(D:Int)>=n:=of_decide_eq_false h4;rw[hw3];have hw5:ag .i64 ((n:Int)-1-(i-(D:Int)))=((n-1-(i-D).toNat:Nat):Int):=by rw[ba (by omega) (by omega)];omega
 have hw6:ag .i64 (ag .i64 ((D:Int)+n)-((ab (us.map Tm.enc):Nat):Int))=((D+n-us.length:Nat):Int):=by rw[aum,ba (n:=(D:Int)+n) (by omega) (by omega),ba (by omega) (by omega)];omega
 rw[hw5,hw6];have aF:n-1-(i-D).toNat<us.length:=by omega
 generalize hv:n-1-(i-D).toNat=v at aF;have Zy:=vm (b:=D+n-us.length) hB (Dh _ (auz aF)) (Tm.jj.1 Cp _ (auz aF));have akB:=Tm.Gs (b:=D+n-us.length) 0 (Tm.jj.1 Cp _ (auz aF));refine⟨by omega,by rw[aum];omega,_,_,_,_,Tm.bx aF,_,_,_,_,Zy,rfl,?_⟩;generalize us[v].lift (D+n-us.length) 0=g at akB;refine aA.intro (λh=>?_) λh=>⟨rfl,?_⟩;refine⟨_,iC 1,λr q ⟨e1,e2⟩=>⟨l,u,x,0,s,y,c,_,⟨e1,e2⟩,?_⟩⟩;rw[if_neg Db];exact jk ⟨l,u,x,s,y,c,e,rfl,sn⟩ h0;have hpt:=X0 m' g acc l u x s y c e sn (λh=>(h0 h).elim) akB (λh=>(h0 h).elim) (by omega);rw[show iB f m' g acc=(m',di)from by unfold iB;rw[if_pos h0]]at hpt;refine⟨_,hpt,λr q ⟨⟨l',u',x',s',y',c',e',e2,X1⟩,t',e1,Ss,_⟩=>⟨l',u',x',0,s',y',c',e',_,_,_,_,⟨e1,e2⟩,?_⟩⟩;exact⟨_,aX.refl _,⟨l',u',x',s',y',c',e',rfl,X1⟩,.mk bs t'.kind t'.index t'.args,rfl,λh=>(h0 h).elim,aur _⟩
theorem akC{B:Nat}(hB:B<=1000000):∀f,XZ B f
 |0=>RU hB|f+1=>RV hB (akC hB f)
theorem ao4{B:Nat}(hB:B<=1000000)(f:Nat):akz B f:=PR hB (akC hB f)
def PT:List Tm->List Ty->Prop
 | [],[]=>True|t::l,u::us=>t.binds=u.args/\PT l us|_,_=>False
mutual
theorem jQ{S:Nat}{c m:List Ty}(hS:S<=1000):∀(r:Rw)(st:Mt)(x:List Ty)(u:Ty),Rw.mR S c m x r u->r.Ok->(Rw.dO c m st x r).1.err=0-> Form S st (Rw.dO c m st x r).1 (Rw.dO c m st x r).2/\(Rw.dO c m st x r).2.binds=u.args
 | .mk k t i l,st,x,u,dP,hk,he=>by obtain⟨eA,Du,Pw⟩:=hk;rw[Rw.mR]at dP;obtain⟨hu,dP⟩:=dP;rw[Rw.dO]at he ⊢;split at he;rename_i h;exact(h he).elim;rename_i h;rw[if_neg h];by_cases h3:k=3;(rw[if_pos h3]at he dP ⊢;obtain⟨ht,v,rfl,hl⟩:=dP;obtain⟨a,rfl,ha⟩:=r8 hl;have hh:=(PM t _).ok he;have ih:=nr hS [a] st (x++[t]) [v] hl Pw hh;have e:(Rw.cQ c m st (x++[t]) [a]).2=[(Rw.dO c m st (x++[t]) a).2]:=by rw[Rw.cQ,Rw.cQ]);unfold CW at he ⊢;generalize (Rw.dO c m st (x++[t]) a).2=b at e;generalize Rw.cQ c m st (x++[t]) [a]=q at ih he hh e;obtain⟨qm,ql⟩:=q;simp only at e;subst e;rw[if_neg (by simpa using hh)];obtain⟨i1,i2,i3⟩:=ih;obtain⟨i4,_⟩:=i3;have lX:=Tm.im.1 i2.1;simp only[Tm.dT]at i1;rw[b.gG]at i1;refine⟨⟨?_,Tm.im.2 ⟨⟨?_,?_⟩,lX.2.1,?_⟩⟩,?_⟩;show (Tm.mk _ _ _ b.args).nodes+st.count<=_;rw[Tm.nodes];omega;show Ty.sizes (t::b.binds)<=_;rw[i4,Ty.sizes];rw[Ty.arrow,Ty.size,av7,Ty.sizes]at hu;omega;exact lX.1.2;exact lX.2.2;show t::b.binds=_;rw[i4];rfl;rw[if_neg h3]at he dP ⊢;by_cases h4:k=4;rw[if_pos h4]at he dP ⊢;obtain⟨v,hl⟩:=dP;obtain⟨f,a,rfl,hf,ha⟩:=sa hl;have hh:=(PN _).ok he;obtain⟨i1,i2,i3⟩:=nr hS [f,a] st x _ hl Pw hh;have e:∃p q,(Rw.cQ c m st x [f,a]).2=[p,q]:=⟨_,_,by rw[Rw.cQ,Rw.cQ,Rw.cQ]⟩;obtain⟨p,b,e⟩:=e;unfold wJ at he ⊢;generalize Rw.cQ c m st x [f,a]=q at i1 i2 i3 he hh e;obtain⟨qm,ql⟩:=q;simp only at e;subst e;rw[if_neg (by simpa using hh)]at he ⊢;have:=RQ (B:=S) i2.1 (us:=[b]) ⟨i2.2.1,ai⟩ he;refine⟨⟨?_,this.lo⟩,?_⟩;have hn:(iB 100001 qm p [b]).2.nodes+qm.count<=(iB 100001 qm p [b]).1.count:=this.nodes;show (iB 100001 qm p [b]).2.nodes+_<=(iB 100001 qm p [b]).1.count;simp only at i1;omega;show (iB 100001 qm p [b]).2.binds=u.args;have he:(iB 100001 qm p [b]).1.err=0:=he;unfold iB at he ⊢;split at he;rename_i h;exact(h he).elim;rename_i h;rw[if_neg h];split at he;cases he;rename_i h2;rw[if_neg h2];show p.binds.drop 1=u.args;rw[i3.1];rfl;rw[if_neg h4]at he dP ⊢;obtain⟨hh,rfl⟩:=dP;unfold Ef at he ⊢;rw[hh]at he ⊢;simp only[avj]at he ⊢;have hu':=Mt.vk u.size st;split at he;rename_i h5;have:=hu'.1.2 he;rw[h5]at this;cases this;(rename_i h5;rw[if_neg h5];have h5:(st.eg u.size).2=true:=by simpa using h5);have:=hu'.2 h5;exact⟨⟨by show (sy k i u).nodes+st.count<=(Mt.eg u.size st).1.count;rw[BL];omega,PL u k i eA Du hu (by omega)⟩,by rw[FU];rfl⟩
theorem nr{S:Nat}{c m:List Ty}(hS:S<=1000):∀(l:List Rw)(st:Mt)(x us:List Ty),Rw.oM S c m x l us->Rw.Pv l->(Rw.cQ c m st x l).1.err=0-> Tm.dT (Rw.cQ c m st x l).2+st.count<=(Rw.cQ c m st x l).1.count/\Tm.wI S (Rw.cQ c m st x l).2/\PT (Rw.cQ c m st x l).2 us
 | [],st,x,[],_,_,_=>⟨by simp[Rw.cQ,Tm.dT],ai,ai⟩|r::l,st,x,u::us,dP,hk,he=>by rw[Rw.cQ]at he ⊢;simp only at he ⊢;have h1:=jQ hS r st x u dP.1 hk.1 ((Rw.oO c m l _ x).ok he);have h2:=nr hS l _ x us dP.2 hk.2 he;have:=h1.1.nodes;exact⟨by rw[Tm.dT];omega,⟨h1.1.lo,h2.2.1⟩,h1.2,h2.2.2⟩| [],_,_,_::_,h,_,_=>h.elim|_::_,_,_,[],h,_,_=>h.elim
end
theorem RW{x y:AV}{n:Int}(h:aX x y):aX (.aG [x,nI n]) (.aG [y,nI n]):=aX.aG ⟨h,aX.refl _,ai⟩
theorem Kb{m:Mt}{t t':Tm}{l u x s y c e:Int}(hm:yQ m l u x y c e)(ht:m.err=0->t'=t)(h:m.err=0->t.size<=500000000/\t.Ok): aY aj 206 [.ptr 1 0,.agg [.sl (t'.binds.map Ty.enc),nI t'.kind,nI t'.index,.sl (t'.args.map Tm.enc)]] (CX l u x s y c e) (λr hp'=>RS (iq (m,t)).1 hp'/\r=.aG [.agg [.sl ((iq (m,t)).2.binds.map Ty.enc),nI (iq (m,t)).2.kind,nI (iq (m,t)).2.index,.sl ((iq (m,t)).2.args.map Tm.enc)],nI (iq (m,t)).1.err]):=by (have he:=hm.err;have zero:∀{m':Mt}{n:Int}{hp':List ax},RS m' hp'->m'.err=n->iq (m,t)=(m',di)->∃r2,aX (.aG [.agg [.ay (.slice none 0 0),nI 0,nI 0,.ay (.slice none 0 0)],nI n]) r2/\(RS (iq (m,t)).1 hp'/\r2=.aG [.agg [.sl ((iq (m,t)).2.binds.map Ty.enc),nI (iq (m,t)).2.kind,nI (iq (m,t)).2.index,.sl ((iq (m,t)).2.args.map Tm.enc)],nI (iq (m,t)).1.err]):=by intro m' n hp' h1 h2 h3;rw[h3];exact⟨_,RW tE,h1,by rw[<-h2];rfl⟩);refine aY.Ka (Wt (aA.intro (λh0=>?_) λh0=>?_));(have Db:e=0:=by simpa using h0);(have ss:m.err=0:=by rw[<-he];exact Db);obtain⟨hs,hk⟩:=h ss;rw[ht ss];have hcp:=Mo (t:=t) (by omega) hk;rw[Tm.aP]at hcp;refine⟨_,pP hs,aA.intro (λh1=>?_) λh1=>?_⟩;(have h1:il 0 (t.pre 0 1)=false:=by simpa using h1);refine⟨_,iC 2,λr q ⟨e1,e2⟩=>⟨l,u,x,0,s,y,c,_,⟨e1,e2⟩,?_⟩⟩;rw[if_pos Db];refine aA.pos rfl ?_;exact zero (m':=⟨m.left,m.count,2⟩) ⟨l,u,x,s,y,c,2,rfl,hm.failed c (by decide) (λh=>by simp at h)⟩ rfl (by unfold iq;rw[if_neg (by simp[ss]),if_neg (by rw[h1];simp)]);(have h1:il 0 (t.pre 0 1)=true:=by simpa using h1);(refine aA.neg (by rw[Db];rfl) ⟨_,_,_,_,hcp,?_⟩;have hd:iq (m,t)=(m,t):=by unfold iq;rw[if_neg (by simp[ss]),if_pos h1]);rw[hd];refine⟨_,aX.refl _,⟨l,u,x,s,y,c,e,rfl,hm⟩,?_⟩;rw[ss];(have Db:¬e=0:=by simpa using h0);(have ss:m.err≠0:=by rw[<-he];exact Db);refine aA.pos (by simp[Db]) ?_;exact zero (m':=m) ⟨l,u,x,s,y,c,e,rfl,hm⟩ he.symm (by unfold iq;rw[if_pos ss])
theorem X2{c m x:List Ty}{k i:Int}{t u:Ty}{l:List Rw}(h3:¬k=3)(h4:¬k=4)(h:Rw.Typ c m x (.mk k t i l) u):bu c m x k i=some u:=by rw[Rw.Typ,if_neg h3,if_neg h4]at h;exact h.1
theorem RX{c m x:List Ty}{i:Int}{u:Ty}(h:bu c m x 0 i=some u):0<=i/\i<x.length:=by unfold bu at h;split at h;cases h;rw[if_pos rfl]at h;split at h;omega;cases h
theorem Kd{S:Nat}{b:Int}{c m:List Ty}(hc:∀t∈c,t.size<=S)(hm:∀t∈m,t.size<=S)(hS:S<=1000): ∀(n:Nat)(r:Rw)(st:Mt)(x:List Ty)(ty:Ty)(l u d s y cn e:Int),r.total<=n->r.total<=100000000->Rw.mR S c m x r ty->r.Ok->r.shaped=true->(∀t∈x,t.size<=S)->x.length+r.depth<=1000->yQ st l u d y cn e-> aY aj 207 [.ptr 1 0,.agg [nI b,.sl (c.map Ty.enc),.sl (m.map Ty.enc)],.sl (x.map Ty.enc),.agg [nI r.kind,.sl (r.type.args.map Ty.enc),nI r.type.base,nI r.index,.sl (r.kids.map Rw.enc)]] (CX l u d s y cn e) (vn (S+r.total) (Rw.dO c m st x r).1 (Rw.dO c m st x r).2):=by
 intro n;induction n with
  |zero=>intro r st x ty l u d s y cn e h;have:=r.lO;omega|succ n ih=>
   intro r st x ty l u d s y cn e hn hrS dP aN Cq hx hxl hmt;have he:=hmt.err;have hrt:=r.rn;obtain⟨k,t,i,kids⟩:=r;simp only[Rw.FG,Rw.ab5,Rw.A8,Rw.FM]at hrt ⊢;have sq:∀r∈kids,r.depth<(Rw.mk k t i kids).depth:=λr hr=>Rw.tC hr;obtain⟨eA,Du,Pw⟩:=aN;refine aY.Ka (Wu (aA.intro (λh=>?_) λh=>?_));(have h0:¬e=0:=by simpa using h);(have ss:st.err≠0:=by rw[<-he];exact h0);rw[Rw.dO,if_pos ss];exact jk ⟨l,u,d,s,y,cn,e,rfl,hmt⟩ ss;(have h0:e=0:=by simpa using h);(have ss:st.err=0:=by rw[<-he];exact h0);rw[Rw.dO,if_neg (by simp[ss])];refine aA.intro (λh=>?_) λh=>?_;(have h3:k=3:=by simpa using h);(rw[if_pos h3];rw[Rw.mR,if_pos h3]at dP;obtain⟨_,htS,v,hv,dP⟩:=dP;obtain⟨a,rfl,hta⟩:=r8 dP;have hda:=sq a (by simp);have hsa:a.shaped=true:=by rw[Rw.wu,Rw.FM,show Rw.dI [a]=(a.shaped&&Rw.dI [])from Rw.pM (l:=[a]) (k:=0) (by simp)]at Cq;simp only[auq]at Cq;exact Cq.2.1);(have zm:Rw.gC [a]=a.total:=by simp[Rw.gC]);(have htz:=t.size_pos;rw[zm]at hrt;have hi:=ih a st (x++[t]) v l u d s y cn e (by omega) (by omega) hta Pw.1 hsa (λw hw=>(auU.1 hw).elim (hx w) λh=>by rw[auD.1 h];exact htS) (by rw[aut,avm];omega) hmt;have yy:[AV.agg [.sl (t.args.map Ty.enc),nI t.base]]=[t].map Ty.enc:=zl t;rw[auY,<-yy]at hi;have hL:A3 (x.map Ty.enc) (t.args.map Ty.enc) t.base b (c.map Ty.enc) (m.map Ty.enc) a.kind (a.type.args.map Ty.enc) a.type.base a.index (a.kids.map Rw.enc) l u d 0 s y cn e (λr hp'=>∃r2,aX r r2/\vn (S+(Rw.mk k t i [a]).total) (CW t (Rw.cQ c m st (x++[t]) [a])).1 (CW t (Rw.cQ c m st (x++[t]) [a])).2 r2 hp'):=by (refine⟨rfl,_,hi,λr q ⟨⟨l',u',d',s',y',c',e',e2,sn⟩,t',e1,Ss,HR⟩=>⟨l',u',d',0,s',y',c',e',_,_,_,_,⟨e1,e2⟩,?_⟩⟩;have CB:=gN (ll:=[[t],t'.binds]) (by simp) (by simp;omega);simp only[ff,auR,au1,av0,av4,auF]at CB;rw[Ty.aP]at CB;refine⟨_,CB,_,aX.refl _,?_⟩;rw[Rw.cQ,Rw.cQ];have xq:(CW t ((Rw.dO c m st (x++[t]) a).1,[(Rw.dO c m st (x++[t]) a).2])).1=(Rw.dO c m st (x++[t]) a).1:=by unfold CW;split<;>rfl);refine⟨(by rw[xq];exact⟨l',u',d',s',y',c',e',rfl,sn⟩),.mk (t::t'.binds) t'.kind t'.index t'.args,?_,λh0=>?_,?_⟩;simp only[Tm.uW,Tm.FG,Tm.A8,Tm.jc,auR,Ty.aP,av7,avN,avF];simp only at h0 ⊢;rw[xq]at h0;rw[Ss h0];unfold CW;rw[if_neg (by simp[h0])];rfl;rw[Tm.uW,auy,Rw.total,zm];omega);have hap:∀{dd:TD},dd.size=2->dd.bytes<=1000->bC dd (ab (x.map Ty.enc++[.agg [.sl (t.args.map Ty.enc),nI t.base]])) (x.map Ty.enc) [.agg [.sl (t.args.map Ty.enc),nI t.base]]:=λhz hd=> ku (λz Sz=>by rw[hz];exact Ty.lN z Sz) (λz Sz=>by simp at Sz;subst Sz;rw[hz];rfl) (by simp;omega) hd;refine⟨_,xO,by omega,by simp,_,_,_,_,_,Rw.bx (l:=[a]) (k:=0) (by simp),⟨λh=>by simp at h,hap rfl (by decide),hL,hL⟩,⟨λh=>by simp at h,hap rfl (by decide),hL⟩⟩;(have h3:¬k=3:=by simpa using h);rw[if_neg h3];refine aA.intro (λh=>?_) λh=>?_;(have h4:k=4:=by simpa using h);(rw[if_pos h4];rw[Rw.mR,if_neg h3,if_pos h4]at dP;obtain⟨_,v,dP⟩:=dP;obtain⟨f,a,rfl,htf,hta⟩:=sa dP;have hdf:=sq f (by simp);have hda:=sq a (by simp);have akD:f.shaped=true/\a.shaped=true:=by rw[Rw.wu,Rw.FM,show Rw.dI [f,a]=(f.shaped&&Rw.dI [a])from Rw.pM (l:=[f,a]) (k:=0) (by simp),show Rw.dI [a]=(a.shaped&&Rw.dI [])from Rw.pM (l:=[a]) (k:=0) (by simp)]at Cq;simp only[auq]at Cq;exact⟨Cq.2.1,Cq.2.2.1⟩);have zm:Rw.gC [f,a]=f.total+a.total:=by simp[Rw.gC]
   have htz:=t.size_pos;have hfp:=f.lO;have hap:=a.lO;rw[zm]at hrt;have hf1:=ih f st x _ l u d s y cn e (by omega) (by omega) htf Pw.1 akD.1 hx (by omega) hmt;have as6:=Rw.vl c m f st x;have hff:=λh=>(jQ hS f st x _ htf Pw.1 h).1;have hL:A4 b (c.map Ty.enc) (m.map Ty.enc) (x.map Ty.enc) f.kind (f.type.args.map Ty.enc) f.type.base f.index (f.kids.map Rw.enc) l u d 0 s y cn e ([f,a].map Rw.enc) (λr hp'=>∃r2,aX r r2/\vn (S+(Rw.mk k t i [f,a]).total) (wJ (Rw.cQ c m st x [f,a])).1 (wJ (Rw.cQ c m st x [f,a])).2 r2 hp'):=by
    refine⟨_,hf1,λr q ⟨⟨l',u',d',s',y',c',e',e2,sn⟩,tf,e1,acu,as7⟩=>⟨l',u',d',0,s',y',c',e',_,_,_,_,⟨e1,e2⟩,by omega,by simp,_,_,_,_,_,Rw.bx (l:=[f,a]) (k:=1) (by simp),?_⟩⟩;have ha1:=ih a (Rw.dO c m st x f).1 x _ l' u' d' s' y' c' e' (by omega) (by omega) hta Pw.2.1 akD.2 hx (by omega) sn;have acs:=Rw.vl c m a (Rw.dO c m st x f).1 x;have haf:=λh=>(jQ hS a (Rw.dO c m st x f).1 x _ hta Pw.2.1 h).1;simp only[Rw.cQ];have YI:wj b (c.map Ty.enc) (m.map Ty.enc) (x.map Ty.enc) a.kind (a.type.args.map Ty.enc) a.type.base a.index (a.kids.map Rw.enc) l' u' d' 0 s' y' c' e'
      (λr hp'=>∃r2,aX r r2/\vn (S+(Rw.mk k t i [f,a]).total) (wJ ((Rw.dO c m (Rw.dO c m st x f).1 x a).1,[(Rw.dO c m st x f).2,(Rw.dO c m (Rw.dO c m st x f).1 x a).2])).1 (wJ ((Rw.dO c m (Rw.dO c m st x f).1 x a).1,[(Rw.dO c m st x f).2,(Rw.dO c m (Rw.dO c m st x f).1 x a).2])).2 r2 hp') (tf.binds.map Ty.enc) tf.kind tf.index (tf.args.map Tm.enc):=by
     refine⟨_,ha1,λr q ⟨⟨l2,u2,d2,s2,y2,c2,Z6,e2,sj⟩,ta,e1,acv,_⟩=>⟨l2,u2,d2,0,s2,y2,c2,Z6,_,_,_,_,⟨e1,e2⟩,?_⟩⟩;have KX:=sj.err;generalize hm3:(Rw.dO c m (Rw.dO c m st x f).1 x a).1=M at *;refine aA.intro (λh=>?_) λh=>?_
     ·have h5:¬Z6=0:=by simpa using h
      have hM:M.err≠0:=by rw[<-KX];exact h5
      have:wJ (M,[(Rw.dO c m st x f).2,(Rw.dO c m (Rw.dO c m st x f).1 x a).2])=(M,di):=by unfold wJ;rw[if_pos hM]
      rw[this];exact jk ⟨l2,u2,d2,s2,y2,c2,Z6,rfl,sj⟩ hM
     ·have h5:Z6=0:=by simpa using h
      have hM:M.err=0:=by rw[<-KX];exact h5
      have hF:=acs.ok hM;have hff:=hff hF;have haf:=haf hM;have acu:=acu hF;have acv:=acv hM;generalize (Rw.dO c m (Rw.dO c m st x f).1 x a).2=TA at haf acv ⊢;generalize (Rw.dO c m st x f).2=TF at hff acu ⊢;subst acu;subst acv;have:wJ (M,[tf,ta])=iB 100001 M tf [ta]:=by unfold wJ;rw[if_neg (by simp[hM])];rfl
      rw[this];have hq:=hff.nodes;have hq2:=haf.nodes;have hp:=ao4 (B:=2*S) (by omega) 100001 M tf [ta] l2 u2 d2 s2 y2 c2 Z6 sj (λ_=>by omega) (Tm.Gr (by omega) hff.lo) (λ_=>⟨⟨Tm.Gr (by omega) haf.lo,ai⟩,λt ht=>by
       rw[auD.1 ht];have:=sj.sC
       omega⟩) (by omega)
      have yy:AV.clip [.agg [.sl (ta.binds.map Ty.enc),nI ta.kind,nI ta.index,.sl (ta.args.map Tm.enc)]]=.clip ([ta].map Tm.enc):=by rw[auR,au1,Tm.aP]
      refine⟨_,aY.args (by rw[yy];exact⟨aX.refl _,aX.refl _,RR _,ai⟩) hp,λr q ⟨⟨l3,u3,d3,s3,y3,c3,e3',e2,hm3⟩,tp,e1,htp,as8⟩=>⟨l3,u3,d3,0,s3,y3,c3,e3',_,_,_,_,⟨e1,e2⟩,_,aX.refl _,⟨l3,u3,d3,s3,y3,c3,e3',rfl,hm3⟩,tp,rfl,htp,?_⟩⟩;rw[Rw.total,zm];omega
    exact⟨YI,YI⟩
   exact⟨by omega,by simp,_,_,_,_,_,Rw.bx (l:=[f,a]) (k:=0) (by simp),hL,hL⟩;(have h4:¬k=4:=by simpa using h);rw[if_neg h4];have hh:=X2 h3 h4 dP.typ;have cY:ty.size<=S:=(tm hh).elim (hx _) λh=>h.elim (hc _) (hm _);have hht:=ru (b:=b) (c:=c) (m:=m) (x:=x) (k:=k) Du (by omega) (λt ht=>by rw[hh]at ht;obtain rfl:=auo ht;omega);rw[hh]at hht;have akG:=MD ty.size ty k i (aur _) (by omega) (λh=>by subst h;have:=RX hh;omega);rw[Ty.aP,Tm.aP]at akG;refine⟨_,_,_,hht,_,rq (t:=ty) (by omega),_,tG ty.size (by omega) hmt,λr q ⟨e1,l',u',d',s',y',c',e',e2,sn⟩=>⟨l',u',d',0,s',y',c',e',_,⟨e1,e2⟩,?_⟩⟩;unfold Ef;rw[hh,avj];have hu:=Mt.vk ty.size st;refine aA.intro (λh=>?_) λh=>?_;(have h5:(st.eg ty.size).2=false:=by simpa using h);rw[if_pos h5];exact jk ⟨l',u',d',s',y',c',e',rfl,sn⟩ (λh=>by have:=hu.1.2 h;rw[h5]at this;cases this);(have h5:(st.eg ty.size).2=true:=by simpa using h);rw[if_neg (by rw[h5];simp)];refine⟨_,_,_,_,akG,_,aX.refl _,⟨l',u',d',s',y',c',e',rfl,sn⟩,sy k i ty,rfl,λ_=>rfl,?_⟩;rw[FU,Tm.uW];have:=Ty.aZ ty.args;have:=ty.size_eq;omega
theorem CY{b:Int}{c m:List Ty}{t:Ty}(h:t.size<=500000000):az aj 216 [.agg [.sl (t.args.map Ty.enc),nI t.base],.aU (.agg [nI b,.sl (c.map Ty.enc),.sl (m.map Ty.enc)]) 0] (nB (!(t.bJ b))):=Wv ⟨_,lz h,rfl⟩
theorem Gw{b:Int}{c m l:List Ty}(h:Ty.sizes l<=500000000):az aj 225 [.sl (l.map Ty.enc),.bz 216 [.aU (.agg [nI b,.sl (c.map Ty.enc),.sl (m.map Ty.enc)]) 0]] (nI (fQ b 0 l)):=by have hl:=Ty.aZ l;refine Fw ⟨rfl,?_⟩;refine aI.intro (λk:Nat=>((l.map Ty.enc,((),()),(l.length:Int),(k:Int),()),())) (λk=>k<=l.length/\fQ b 0 l=fQ b k (l.drop k)) (λk=>l.length-k) 0 (by rw[aum];rfl) ⟨auv _,rfl⟩ ?_;intro k ⟨hk,hs⟩ again bQ;dsimp only;rw[aum];refine aA.intro (λh=>?_) λh=>?_;(have aF:k<l.length:=by simpa using h);rw[auw aF,fQ]at hs;refine⟨by omega,by omega,_,_,Ty.bx aF,_,CY (by have:=Ty.dp (auz aF);omega),aA.intro (λh=>?_) λh=>⟨rfl,?_⟩⟩;rw[hs,if_neg (by simpa using h)];rw[if_pos (by simpa using h)]at hs;rw[bc (by omega)];exact bQ (k+1) ⟨by omega,hs⟩ (by omega);(have:l.length<=k:=by simpa using h);rw[auH this]at hs;rw[hs];rfl
def kA(b:Int)(c m x:List Ty):Bool:=(!(decide (fQ b 0 (c++m)>=0)))&&(decide (x.length<=900)&&!(decide (fQ b 0 x>=0)))
theorem Gx{b:Int}{c m x:List Ty}(hc:c.length<=500)(hm:m.length<=500)(h:Ty.sizes (c++m)<=500000000)(hx:Ty.sizes x<=500000000): az aj 205 [.agg [nI b,.sl (c.map Ty.enc),.sl (m.map Ty.enc)],.sl (x.map Ty.enc)] (nB (kA b c m x)):=by refine Ww ⟨_,wz hc hm h,aA.intro (λh1=>?_) λh1=>?_⟩;refine aA.intro (λh2=>⟨_,yJ ⟨_,Gw hx,rfl⟩,?_⟩) λh2=>?_;rw[kA,h1,au5,decide_eq_true (by have:=of_decide_eq_true h2;rw[aum]at this;omega),au5];rw[kA,h1,au5,decide_eq_false (by have:=of_decide_eq_false h2;rw[aum]at this;omega),avk];rw[kA,h1,avk]
def Rw.inf(b:Int)(c m x:List Ty)(r:Rw):Ty×Int:=if r.bJ=true then r.infer b c m x else(kL,1)
def gR(b:Int)(c m x:List Ty)(r:Rw)(left:Nat):Mt×Tm:=if kA b c m x=false then(⟨left,0,1⟩,di)else if(r.inf b c m x).2≠0 then(⟨left,0,(r.inf b c m x).2⟩,di)else iq (Rw.dO c m ⟨left,0,0⟩ x r)
mutual
theorem Rw.Ke(b:Int)(c m:List Ty):∀(r:Rw)(x:List Ty),(r.infer b c m x).2≠11
 | .mk k t i l,x=>by
  rw[Rw.infer];split;split;have:=Rw.wL b c m l (x++[t]);generalize Rw.eB b c m (x++[t]) l=q at this;unfold rv;split
  ·rename_i p l';have hp:=this p auC;(repeat' split)<;>first|assumption|(simp;done)
  decide;decide;split;have:=Rw.wL b c m l x;generalize Rw.eB b c m x l=q at this;unfold pO;split
  ·rename_i p q l';have hp:=this p auC;have hq:=this q (auG _ auC);(repeat' split)<;>first|assumption|(simp;done)
  decide;unfold np;(repeat' split)<;>simp
theorem Rw.wL(b:Int)(c m:List Ty):∀(l:List Rw)(x:List Ty),∀p∈Rw.eB b c m x l,p.2≠11
 | [],x,p,hp=>by simp[Rw.eB]at hp|r::l,x,p,hp=>by rw[Rw.eB]at hp;rcases auJ.1 hp with rfl|hp;exact Rw.Ke b c m r x;exact Rw.wL b c m l x p hp
end
theorem lC{S:Nat}:∀{l:List Ty},(∀t∈l,t.size<=S)->Ty.sizes l<=l.length*S
 | [],_=>by simp[Ty.sizes]|t::l,h=>by have h1:=h t auC;have h2:=lC λu hu=>h u (auG t hu);rw[Ty.sizes,auy,avr];omega
structure nW(c m x:List Ty)(r:Rw):Prop where
 hc:∀t∈c,t.size<=1000
 hm:∀t∈m,t.size<=1000
 hx:∀t∈x,t.size<=1000
 cl:c.length<=500
 ml:m.length<=500
 xl:x.length<=1000
 hr:r.total<=90000000
 ok:r.Ok
theorem nW.sizes{c m x:List Ty}{r:Rw}(h:nW c m x r):Ty.sizes (c++m)<=500000000/\Ty.sizes x<=300000000:=by have h1:=lC h.hc;have h2:=lC h.hm;have h3:=lC h.hx;have h4:=au6 1000 h.cl;have h5:=au6 1000 h.ml;have h6:=au6 1000 h.xl;rw[Ty.cO];exact⟨by omega,by omega⟩
theorem RZ{x y:AV}{n k:Int}(h:aX x y):aX (.aG [x,nI n,nI k]) (.aG [y,nI n,nI k]):=aX.aG ⟨h,aX.refl _,aX.refl _,ai⟩
def Found(L:Mt×Tm)(r:AV)(hp':List ax):Prop:=∃(cnt l u d s y:Int),hp'=[.box (aW l u d 0 s y)]/\x9 L.1.left l u d y/\(L.1.err=11->y≠0)/\(L.1.err=0->cnt=L.1.count)/\ r=.aG [.agg [.sl (L.2.binds.map Ty.enc),nI L.2.kind,nI L.2.index,.sl (L.2.args.map Tm.enc)],nI cnt,nI L.1.err]
theorem Eh{b:Int}{c m x:List Ty}{r:Rw}(eG:nW c m x r):az aj 140 [.agg [nI b,.sl (c.map Ty.enc),.sl (m.map Ty.enc)],.sl (x.map Ty.enc),r.enc] (PA (r.inf b c m x)):=JB (b:=b) (λt ht=>by have:=eG.hc t ht;omega) (λt ht=>by have:=eG.hm t ht;omega) eG.ok (by have:=eG.sizes;have:=eG.hr;omega)
theorem Kf{b:Int}{c m x:List Ty}{r:Rw}{left:Nat}{l u d s y:Int}(eG:nW c m x r)(hb:x9 left l u d y): aY aj 193 [.agg [nI b,.sl (c.map Ty.enc),.sl (m.map Ty.enc)],.sl (x.map Ty.enc),.agg [nI r.kind,.sl (r.type.args.map Ty.enc),nI r.type.base,nI r.index,.sl (r.kids.map Rw.enc)],.ptr 0 0] [.box (aW l u d 0 s y)] (Found (gR b c m x r left)):=by (have cY:=eG.sizes;have hi:=Eh (b:=b) eG;rw[Rw.aP]at hi;have zero:∀(e:Int),e≠0->e≠11->gR b c m x r left=(⟨left,0,e⟩,di)->∃r2,aX (.aG [.agg [.ay (.slice none 0 0),nI 0,nI 0,.ay (.slice none 0 0)],nI 0,nI e]) r2/\Found (gR b c m x r left) r2 [.box (aW l u d 0 s y)]:=by intro e he KX h;rw[h];exact⟨_,RZ tE,0,l,u,d,s,y,rfl,hb,λh=>(KX h).elim,λh=>(he h).elim,rfl⟩);refine aY.Ka (Wx ⟨_,Gx (by have:=eG.cl;omega) (by have:=eG.ml;omega) cY.1 (by omega),aA.intro (λh=>?_) λh=>?_⟩);(have h:kA b c m x=false:=by simpa using h);exact zero 1 (by decide) (by decide) (by unfold gR;rw[if_pos h]);(have h1:kA b c m x=true:=by simpa using h);(have hL:gR b c m x r left=if(r.inf b c m x).2≠0 then(⟨left,0,(r.inf b c m x).2⟩,di)else iq (Rw.dO c m ⟨left,0,0⟩ x r):=by unfold gR;rw[if_neg (by rw[h1];simp)]);refine⟨_,_,_,hi,aA.intro (λh=>?_) λh=>?_⟩;(have h2:(r.inf b c m x).2≠0:=by simpa using h);refine zero _ h2 ?_ (by rw[hL,if_pos h2]);unfold Rw.inf;split;exact Rw.Ke b c m r x;decide;(have h2:(r.inf b c m x).2=0:=by simpa using h);(rw[hL,if_neg (by simp[h2])];have Ei:r.bJ=true:=by cases Ei:r.bJ with|true=>rfl|false=>rw[Rw.inf,Ei]at h2;simp at h2);(have Cq:r.shaped=true:=by rw[Rw.bJ,auq]at Ei;exact Ei.1);have dP:Rw.mR 1000 c m x r (r.infer b c m x).1:=p7 b c m r x _ Cq (by rw[Rw.inf,if_pos Ei]at h2;rw[<-h2]);(have hmt:yQ ⟨left,0,0⟩ l u d y 0 0:=⟨hb,rfl,auv _,λ_=>rfl,λh=>by simp at h⟩;have ao7:r.depth<=60:=by rw[Rw.bJ,auq,auq,decide_eq_true_eq,decide_eq_true_eq]at Ei;exact Ei.2.2);(have hx9:x.length<=900:=by unfold kA at h1;simp only[auq,decide_eq_true_eq]at h1;exact h1.2.1);have adN:=Kd (b:=b) eG.hc eG.hm (aur _) _ r ⟨left,0,0⟩ x _ l u d s y 0 0 (aur _) (by have:=eG.hr;omega) dP eG.ok Cq eG.hx (by omega) hmt;have kU:=λh=>(jQ (aur _) r ⟨left,0,0⟩ x _ dP eG.ok h).1;generalize Rw.dO c m ⟨left,0,0⟩ x r=Q at adN kU;refine⟨_,adN,λr1 q ⟨⟨l1,u1,d1,s1,y1,c1,e1',e2,C7⟩,t1,e1,ht1,_⟩=>⟨l1,u1,d1,0,s1,y1,c1,e1',_,_,_,_,⟨e1,e2⟩,?_⟩⟩;have Of:=Kb (s:=s1) C7 ht1 (λh0=>by have hf:=kU h0;have hn:=hf.nodes;have PU:=C7.sC;have hs:=Tm.zq hf.lo;have:Q.2.nodes*(1+1000)<=100000*1001:=avM (by omega) (by omega);exact⟨by omega,Tm.J6 hf.lo⟩);rw[show (Q.1,Q.2)=Q from rfl]at Of;refine⟨_,Of,λr2 q ⟨⟨l2,u2,d2,s2,y2,c2,Z6,e2,sj⟩,e1⟩=>⟨l2,u2,d2,0,s2,y2,c2,Z6,_,_,_,_,_,⟨e1,e2⟩,?_⟩⟩;exact⟨_,aX.refl _,c2,l2,u2,d2,s2,y2,rfl,sj.bud,sj.fuel,sj.count,rfl⟩
def afH(L:Mt×Tm)(r:AV)(hp':List ax):Prop:=∃l u d s y,hp'=[.box (aW l u d 0 s y)]/\x9 L.1.left l u d y/\(L.1.err=11->y≠0)/\ r=.aG [.agg [.sl (L.2.binds.map Ty.enc),nI L.2.kind,nI L.2.index,.sl (L.2.args.map Tm.enc)],nI L.1.err]
theorem Kg{b:Int}{c m x:List Ty}{r:Rw}{left:Nat}{l u d s y:Int}(eG:nW c m x r)(hb:x9 left l u d y): aY aj 173 [.agg [nI b,.sl (c.map Ty.enc),.sl (m.map Ty.enc)],.sl (x.map Ty.enc),.agg [nI r.kind,.sl (r.type.args.map Ty.enc),nI r.type.base,nI r.index,.sl (r.kids.map Rw.enc)],.ptr 0 0] [.box (aW l u d 0 s y)] (afH (gR b c m x r left)):=Wy ⟨_,Kf eG hb,λr1 q ⟨cnt,l1,u1,d1,s1,y1,e2,xq,hf,hc,e1⟩=>⟨l1,u1,d1,0,s1,y1,_,_,_,_,_,_,⟨e1,e2⟩,l1,u1,d1,s1,y1,rfl,xq,hf,rfl⟩⟩
theorem R0{n:Nat}(hn:n<=1000000):aY aj 174 [nI n] [] (λr hp'=>r=.ptr 0 0/\hp'=[.box (aW n 0 0 0 0 0)]):=(acp n []).mono λr hp' ⟨e1,e2⟩=>⟨e1,by rw[e2,if_neg (by omega)];rfl⟩
theorem Kh{n:Nat}(hn:n<=1000000):x9 n n 0 0 0:=⟨rfl,by decide,by omega,av9,λh=>(h rfl).elim⟩
def afI(t:Tm)(e:Int):AV:=.aG [.agg [.sl (t.binds.map Ty.enc),nI t.kind,nI t.index,.sl (t.args.map Tm.enc)],nI e]
theorem R1{b:Int}{c m x:List Ty}{r:Rw}(eG:nW c m x r): az aj 141 [.agg [nI b,.sl (c.map Ty.enc),.sl (m.map Ty.enc)],.sl (x.map Ty.enc),.agg [nI r.kind,.sl (r.type.args.map Ty.enc),nI r.type.base,nI r.index,.sl (r.kids.map Rw.enc)]] (afI (gR b c m x r 100000).2 (gR b c m x r 100000).1.err):=Wz ⟨_,R0 (n:=100000) (by omega),λr1 q ⟨e1,e2⟩=>⟨_,_,_,_,_,_,⟨e1,e2⟩,_,Kg eG (Kh (by omega)),λr2 q2 ⟨l1,u1,d1,s1,y1,e2,xq,hf,e1⟩=>⟨l1,u1,d1,0,s1,y1,_,_,_,_,_,⟨e1,e2⟩,rfl⟩⟩⟩
section
structure Mn where
 base:Bool
 kind:Int
 idx:Int
def Mn.val(x:Mn):Value:=.agg #[.bool x.base,.int .i64 x.kind,.int .i64 x.idx]
def ao8:Mn:=⟨false,0,0⟩
abbrev PV:=List (aw×Mn)
def dm(l:PV):List (aw×Value):=l.map λp=>(p.1,p.2.val)
def kN:PV->aw->Option Mn
 | [],_=>none|(k,v)::r,a=>if a=k then some v else kN r a
def Gy:PV->aw->Mn->PV
 | [],a,v=>[(a,v)]|(k,u)::r,a,v=>if a=k then(k,v)::r else(k,u)::Gy r a v
theorem wM(a:aw):∀l:PV,aK (dm l) a=(kN l a).map Mn.val
 | []=>rfl|(k,v)::r=>by show (if a=k then some v.val else aK (dm r) a)=(if a=k then some v else kN r a).map Mn.val;split;rfl;exact wM a r
theorem Ej(a:aw)(v:Mn):∀l:PV,cD (dm l) a v.val=dm (Gy l a v)
 | []=>rfl|(k,u)::r=>by show (if a=k then(k,v.val)::dm r else(k,u.val)::cD (dm r) a v.val)=dm (if a=k then(k,v)::r else(k,u)::Gy r a v);split;rfl;rw[Ej a v r];rfl
def yR(l:PV)(a:aw):Mn:=(kN l a).getD ao8
theorem zu(a:aw)(l:PV):ak (aK (dm l) a) rX=(yR l a).val:=by rw[wM,yR];cases kN l a<;>rfl
theorem sc(a:aw)(l:PV):Option.isSome (aK (dm l) a)=(kN l a).isSome:=by rw[wM];cases kN l a<;>rfl
structure wN where
 name:aw
 left:Tm
 right:Tm
structure Gz where
 kind:Int
 num:Int
 left:Tm
 right:Tm
 X3:Int
structure Mk where
 aJ:List aw
 consts:List (aw×Ty)
 aO:List aw
 types:List Ty
 eqs:List wN
 rules:List wN
 prec:List (Int×Int)
 status:List (Int×Int)
 bO:List Gz
 words:PV
 fault:Fa
def Ki:Mk:=⟨[],[],[],[],[],[],[],[],[],[],pW⟩
def akH:wN:=⟨⟨#[]⟩,di,di⟩
def eZ(m:Mk):Bool:=m.fault.1==0
section
variable (s:aw)
def ya(c a:Int)(m:Mk):Mk:=if eZ m=true then { m with fault:=M1 s c a.toNat (F8 (s.extract a.toNat s.size)) } else m
def cF(b:Bool)(c a:Int)(m:Mk):Mk:=if b=true then m else ya s c a m
def yb(w:aw)(x:Mn)(m:Mk):Mk:=if eZ m=true then { m with words:=Gy m.words w x } else m
def fT(w:aw)(x:Mn)(a:Int)(m:Mk):Mk:=yb w x (cF s (!(kN m.words w).isSome) 4 a m)
def BO(m:Mk)(w:aw):Bool:=(kN m.words w).isSome&&(yR m.words w).base
def BP(m:Mk)(w:aw):Bool:=(kN m.words w).isSome&&!(yR m.words w).base
def isConst(m:Mk)(w:aw):Bool:=(kN m.words w).isSome&&(!(yR m.words w).base&&(yR m.words w).kind==1)
def R2(a b:Ty):Ty:=.mk (a::b.args) b.base
def dG:Nat->Nd->Mk->Ty×Mk
 |0,_,m=>(kL,m)|f+1,n,m=>if n.kind=1 then(.mk [] (yR m.words n.word).idx,cF s (BO m n.word) 4 n.at_ m)
  else match n.kids with
   |x::y::_=>(R2 (dG f x m).1 (dG f y (dG f x m).2).1,(dG f y (dG f x m).2).2)
   |_=>(kL,m)
def vo(n:Nd)(r:Ty×Mk):Mk:=if eZ r.2=true then cF s (r.1.bJ r.2.aJ.length) 2 n.at_ r.2 else r.2
def ju(n:Nd)(m:Mk):Ty×Mk:=(if eZ (vo s n (dG s n.size n m))=true then(dG s n.size n m).1 else kL,vo s n (dG s n.size n m))
def Kj(w:aw)(l:List aw):Nat->Option Nat
 |0=>none|k+1=>if l.getD k ⟨#[]⟩=w then some (l.length-1-k)else Kj w l k
def vp(n:Nd)(bound:List aw)(m:Mk):Rw×Mk:=
 match Kj n.word bound bound.length with
 |some j=>(jL 0 (j:Int),m)
 |none=>(jL (yR m.words n.word).kind (yR m.words n.word).idx,cF s (BP m n.word) 4 n.at_ m)
def fD:Nat->Nd->List aw->Mk->Rw×Mk
 |0,_,_,m=>(jL 0 0,m)|f+1,n,bound,m=>if eZ m=false then(jL 0 0,m)
  else if n.kind=1 then vp s n bound m
  else match n.kids with
   |x::y::_=>if n.kind=3 then(.mk 3 (ju s x m).1 0 [(fD f y (bound++[n.word]) (ju s x m).2).1],(fD f y (bound++[n.word]) (ju s x m).2).2)
    else(.mk 4 kL 0 [(fD f x bound m).1,(fD f y bound (fD f x bound m).2).1],(fD f y bound (fD f x bound m).2).2)
   |_=>(jL 0 0,m)
def cT(m:Mk):List Ty:=m.consts.map (·.2)
def R3(m:Mk)(r:Rw):Int:=if(r.inf m.aJ.length (cT m) m.types []).2=1 then 2 else(r.inf m.aJ.length (cT m) m.types []).2
def kV(m:Mk)(r:Rw):Tm×Int:=if R3 m r=0 then((gR m.aJ.length (cT m) m.types [] r 100000).2,(gR m.aJ.length (cT m) m.types [] r 100000).1.err)else(di,R3 m r)
def yc(n:Nd)(r:Rw×Mk):(Tm×Ty)×Mk:=if eZ r.2=true then(((kV r.2 r.1).1,(r.1.inf r.2.aJ.length (cT r.2) r.2.types []).1),cF s ((kV r.2 r.1).2==0) (kV r.2 r.1).2 n.at_ r.2)else((di,kL),r.2)
def dH(n:Nd)(m:Mk):(Tm×Ty)×Mk:=yc s n (fD s n.size n [] m)
def akI(x y:Nd)(base:Bool)(a b:Tm×Ty)(m:Mk):Mk:=cF s (a.2.same b.2) 5 y.at_ (cF s (!base||a.2.args.length==0) 5 x.at_ m)
def kC(x y:Nd)(base:Bool)(m:Mk):(Tm×Tm)×Mk:=(((dH s x m).1.1,(dH s y (dH s x m).2).1.1),akI s x y base (dH s x m).1 (dH s y (dH s x m).2).1 (dH s y (dH s x m).2).2)
def nu(n:Nat)(a:Int)(m:Mk):Mk:=cF s (decide ((n:Int)<200)) 2 a m
def ga(w:aw)(l:List wN):Bool:=l.any λe=>decide (e.name=w)
def X4(t:Tm):Bool:=(t.uses [] []).isSome
def eqF(x:It)(r:(Tm×Tm)×Mk):Mk:=if eZ r.2=true then cF s (X4 r.1.1||(x.kind==4&&X4 r.1.2)) 6 x.at_ r.2 else r.2
def ek(x:It)(k:Nat):aw:=x.words.getD k ⟨#[]⟩
def dU(x:It)(k:Nat):Nd:=x.nodes.getD k xQ
def eqG(x:It)(m:Mk):wN×Mk:=if eZ m=true then(⟨ek x 0,(kC s (dU x 0) (dU x 1) true m).1.1,(kC s (dU x 0) (dU x 1) true m).1.2⟩,eqF s x (kC s (dU x 0) (dU x 1) true m))else(akH,m)
def Cr(x:It)(m:Mk):wN×Mk:=eqG s x (cF s (!(ga (ek x 0) m.eqs)&&!(ga (ek x 0) m.rules)) 4 x.at_ m)
def eV(w:aw)(a:Int)(m:Mk):Int×Mk:=((yR m.words w).idx,cF s (isConst m w) 4 a m)
def dR(a:Int):List aw->Mk->List Int×Mk
 | [],m=>([],m)|w::l,m=>((eV s w a m).1::(dR a l (eV s w a m).2).1,(dR a l (eV s w a m).2).2)
def ft:List Int->List (Int×Int)
 |a::b::l=>(a,b)::ft (b::l)|_=>[]
def Nc(l:List Int)(a:Int)(m:Mk):Mk:=cF s (!(l.any λc=>nO m.prec c c)) 8 a m
def GA(l:List Int)(a:Int)(m:Mk):Mk:=if eZ m=true then Nc s l a { m with prec:=m.prec++ft l } else m
def BQ(x:It)(m:Mk):Mk:=GA s (dR s x.at_ x.words m).1 x.at_ (cF s (decide (((dR s x.at_ x.words m).1.length:Int)-1<=200-((dR s x.at_ x.words m).2.prec.length:Int))) 2 x.at_ (dR s x.at_ x.words m).2)
abbrev X5:aw:=⟨#[108,101,120]⟩
abbrev X6:aw:=⟨#[109,117,108]⟩
def yd(w:aw):Int:=sB w [X5,X6] 0
def PW(x:It)(c:Int)(m:Mk):Mk:={ cF s (decide (yd (ek x 1)>=0)) 3 x.at_ m with status:=m.status++[(c,yd (ek x 1))] }
def Ek(x:It)(m:Mk):Mk:=PW s x (eV s (ek x 0) x.at_ m).1 (cF s (!((eV s (ek x 0) x.at_ m).2.status.any λp=>p.1==(eV s (ek x 0) x.at_ m).1)) 4 x.at_ (eV s (ek x 0) x.at_ m).2)
def mT(w:aw):List wN->Nat->Int
 | [],_ => -1|e::l,k=>if e.name=w then(k:Int)else mT w l (k+1)
def BR(c:Gz)(m:Mk):Mk:={ m with bO:=m.bO++[c] }
def X7(x:It)(m:Mk):Mk:=
 if eZ m=false then m
 else if x.kind=9 then BR ⟨x.kind,x.num,(dH s (dU x 0) m).1.1,di,0⟩ (dH s (dU x 0) m).2
 else if x.kind=10 then BR ⟨x.kind,x.num,(kC s (dU x 0) (dU x 1) false m).1.1,(kC s (dU x 0) (dU x 1) false m).1.2,0⟩ (kC s (dU x 0) (dU x 1) false m).2
 else if x.kind=12 then BR ⟨x.kind,x.num,di,di,mT (ek x 0) m.eqs 0⟩ (cF s (decide (mT (ek x 0) m.eqs 0>=0)) 4 x.at_ m)
 else BR ⟨x.kind,x.num,di,di,0⟩ m
def X8(x:It)(m:Mk):Mk:=X7 s x (nu s m.bO.length x.at_ m)
def Kk(w:aw)(m:Mk):Mk:={ m with aJ:=m.aJ++[w] }
def nX(a:Int):List aw->Mk->Mk
 | [],m=>m|w::l,m=>nX a l (Kk w (fT s w ⟨true,0,m.aJ.length⟩ a m))
def GB(x:It)(m:Mk):Mk:=if eZ m=true then { (ju s (dU x 0) m).2 with consts:=m.consts++[(ek x 0,(ju s (dU x 0) m).1)] } else m
def acw(x:It)(m:Mk):Mk:=if eZ m=true then { (ju s (dU x 0) { m with aO:=m.aO++[ek x 0] }).2 with types:=m.types++[(ju s (dU x 0) { m with aO:=m.aO++[ek x 0] }).1] } else m
def eqP(x:It)(m:Mk):Mk:=if eZ m=true then { (Cr s x m).2 with eqs:=m.eqs++[(Cr s x m).1] } else m
def PX(x:It)(m:Mk):Mk:=if eZ m=true then { (Cr s x m).2 with rules:=m.rules++[(Cr s x m).1] } else m
def nv(x:It)(m:Mk):Mk:=
 if x.kind=1 then nX s x.at_ x.words m
 else if x.kind=2 then GB s x (fT s (ek x 0) ⟨false,1,m.consts.length⟩ x.at_ m)
 else if x.kind=3 then acw s x (fT s (ek x 0) ⟨false,2,m.aO.length⟩ x.at_ m)
 else if x.kind=4 then eqP s x (nu s m.eqs.length x.at_ m)
 else if x.kind=5 then PX s x (nu s m.rules.length x.at_ m)
 else if x.kind=6 then BQ s x m
 else if x.kind=7 then Ek s x m
 else X8 s x m
def mL:List It->Mk->Mk
 | [],m=>m|x::l,m=>if eZ (nv s x m)=true then mL l (nv s x m)else nv s x m
end
def acx(m:Mk):Mk×Fa:=if eZ m=true then(m,pW)else(Ki,m.fault)
def kD(s:aw):Mk×Fa:=if(dN s).2.1=0 then acx (mL s (dN s).1 Ki)else(Ki,(dN s).2)
end
section
abbrev cg(l:List (aw×Ty)):List AV:=l.map λp=>.agg [nS p.1,.sl (p.2.args.map Ty.enc),nI p.2.base]
abbrev aM(l:List wN):List AV:=l.map λe=>.agg [nS e.name,.sl (e.left.binds.map Ty.enc),nI e.left.kind,nI e.left.index,.sl (e.left.args.map Tm.enc),.sl (e.right.binds.map Ty.enc),nI e.right.kind,nI e.right.index,.sl (e.right.args.map Tm.enc)]
abbrev bK(l:List Gz):List AV:=l.map λc=>.agg [nI c.kind,nI c.num,.sl (c.left.binds.map Ty.enc),nI c.left.kind,nI c.left.index,.sl (c.left.args.map Tm.enc),.sl (c.right.binds.map Ty.enc),nI c.right.kind,nI c.right.index,.sl (c.right.args.map Tm.enc),nI c.X3]
abbrev MO(s:aw)(m:Mk):List ax:=bY (m.aJ.map nS) (cg m.consts) (m.aO.map nS) (aM m.eqs) (aM m.rules) (bg m.prec) (bg m.status) (bK m.bO) (m.types.map Ty.enc) (dm m.words) s m.fault.1 m.fault.2.1 m.fault.2.2.1 m.fault.2.2.2
abbrev MR(s:aw)(x:AV)(m:Mk):AV->List ax->Prop:=XO x (MO s m)
abbrev PY(t:Ty):AV:=.agg [.sl (t.args.map Ty.enc),nI t.base]
abbrev Su(t:Tm):AV:=.agg [.sl (t.binds.map Ty.enc),nI t.kind,nI t.index,.sl (t.args.map Tm.enc)]
abbrev X9(r:Rw):AV:=.agg [nI r.kind,.sl (r.type.args.map Ty.enc),nI r.type.base,nI r.index,.sl (r.kids.map Rw.enc)]
def ye(s:aw)(a:Int):Prop:=0<=a/\a<(s.size:Int)
variable {s w:aw} {m m':Mk} {f:Nat} {a:List AV} {H:List ax}
section
variable {N0:List AV->List AV->List AV->List AV->List AV->List AV->List AV->List AV->List AV->List (aw×Value)->aw->Int->Int->Int->aw->Prop}
theorem qx(h:aY aj f a H (λr q=>r=.aG []/\q=MO s m'))(hn:N0 (m'.aJ.map nS) (cg m'.consts) (m'.aO.map nS) (aM m'.eqs) (aM m'.rules) (bg m'.prec) (bg m'.status) (bK m'.bO) (m'.types.map Ty.enc) (dm m'.words) s m'.fault.1 m'.fault.2.1 m'.fault.2.2.1 m'.fault.2.2.2):eY f a H N0:=⟨_,h,λr q ⟨e1,e2⟩=>⟨_,_,_,_,_,_,_,_,_,_,_,_,_,_,_,⟨e1,e2⟩,hn⟩⟩
end
section
variable {N0:List AV->List AV->List AV->List AV->List AV->List AV->List AV->List AV->List AV->List (aw×Value)->aw->Int->Int->Int->aw->Bool->Prop} {b:Bool}
theorem KY(h:aY aj f a H (λr q=>r=nB b/\q=MO s m'))(hn:N0 (m'.aJ.map nS) (cg m'.consts) (m'.aO.map nS) (aM m'.eqs) (aM m'.rules) (bg m'.prec) (bg m'.status) (bK m'.bO) (m'.types.map Ty.enc) (dm m'.words) s m'.fault.1 m'.fault.2.1 m'.fault.2.2.1 m'.fault.2.2.2 b):jA f a H N0:=⟨_,h,λr q ⟨e1,e2⟩=>⟨_,_,_,_,_,_,_,_,_,_,_,_,_,_,_,_,⟨e1,e2⟩,hn⟩⟩
end
section
variable {N0:List AV->List AV->List AV->List AV->List AV->List AV->List AV->List AV->List AV->List (aw×Value)->aw->Int->Int->Int->aw->Int->Prop} {b:Int}
theorem mcI(h:aY aj f a H (λr q=>r=nI b/\q=MO s m'))(hn:N0 (m'.aJ.map nS) (cg m'.consts) (m'.aO.map nS) (aM m'.eqs) (aM m'.rules) (bg m'.prec) (bg m'.status) (bK m'.bO) (m'.types.map Ty.enc) (dm m'.words) s m'.fault.1 m'.fault.2.1 m'.fault.2.2.1 m'.fault.2.2.2 b):Uu f a H N0:=⟨_,h,λr q ⟨e1,e2⟩=>⟨_,_,_,_,_,_,_,_,_,_,_,_,_,_,_,_,⟨e1,e2⟩,hn⟩⟩
end
section
variable {N0:List AV->List AV->List AV->List AV->List AV->List AV->List AV->List AV->List AV->List (aw×Value)->aw->Int->Int->Int->aw->List AV->Int->Prop} {t:Ty}
theorem mcT(h:aY aj f a H (λr q=>r=PY t/\q=MO s m'))(hn:N0 (m'.aJ.map nS) (cg m'.consts) (m'.aO.map nS) (aM m'.eqs) (aM m'.rules) (bg m'.prec) (bg m'.status) (bK m'.bO) (m'.types.map Ty.enc) (dm m'.words) s m'.fault.1 m'.fault.2.1 m'.fault.2.2.1 m'.fault.2.2.2 (t.args.map Ty.enc) t.base):nK f a H N0:=⟨_,h,λr q ⟨e1,e2⟩=>⟨_,_,_,_,_,_,_,_,_,_,_,_,_,_,_,_,_,⟨e1,e2⟩,hn⟩⟩
end
section
variable {N0:List AV->List AV->List AV->List AV->List AV->List AV->List AV->List AV->List AV->List (aw×Value)->aw->Int->Int->Int->aw->Int->List AV->Int->Int->List AV->Prop} {x:Rw}
theorem mcR(h:aY aj f a H (λr q=>r=X9 x/\q=MO s m'))(hn:N0 (m'.aJ.map nS) (cg m'.consts) (m'.aO.map nS) (aM m'.eqs) (aM m'.rules) (bg m'.prec) (bg m'.status) (bK m'.bO) (m'.types.map Ty.enc) (dm m'.words) s m'.fault.1 m'.fault.2.1 m'.fault.2.2.1 m'.fault.2.2.2 x.kind (x.type.args.map Ty.enc) x.type.base x.index (x.kids.map Rw.enc)):lM f a H N0:=⟨_,h,λr q ⟨e1,e2⟩=>⟨_,_,_,_,_,_,_,_,_,_,_,_,_,_,_,_,_,_,_,_,⟨e1,e2⟩,hn⟩⟩
end
theorem dq:aY aj 12 [.ptr 10 0] (MO s m) (λr q=>r=nB (eZ m)/\q=MO s m):=abu ⟨rfl,rfl⟩
theorem Kl{c a:Int}(hs:s.size<=1000000000)(ha:ye s a):aY aj 134 [.ptr 10 0,nI c,nI a] (MO s m) (λr q=>r=.aG []/\q=MO s (ya s c a m)):=by (obtain⟨n,rfl⟩:∃n:Nat,a=n:=⟨a.toNat,by have:=ha.1;omega⟩;have hn:n<s.size:=by have:=ha.2;omega);refine WN (KY dq (aA.intro (λh=>?_) λh=>?_));(have h:eZ m=false:=by simpa using h);rw[ya,if_neg (by rw[h];decide)];exact⟨rfl,rfl⟩;(have h:eZ m=true:=by simpa using h);rw[ya,if_pos h];refine⟨_,_,_,nT (i:=n) (by omega) hs,⟨by omega,by omega,by omega⟩,_,F9 ?_ ?_,rfl,rfl⟩;rw[avP];simp only[avp];omega;rw[avP];simp only[avp];omega
theorem bt{b:Bool}{c a:Int}(hs:s.size<=1000000000)(ha:ye s a):aY aj 73 [.ptr 10 0,nB b,nI c,nI a] (MO s m) (λr q=>r=.aG []/\q=MO s (cF s b c a m)):=by refine abv (aA.intro (λh=>?_) λh=>?_);(have h:b=false:=by simpa using h);rw[cF,if_neg (by rw[h];decide)];exact qx (Kl hs ha) ⟨rfl,rfl⟩;(have h:b=true:=by simpa using h);rw[cF,if_pos h];exact⟨rfl,rfl⟩
theorem acz(l:PV)(w:aw):ak (aK (dm l) w) rX=.agg #[.bool (Te (ak (aK (dm l) w) rX)),.int .i64 (Tf (ak (aK (dm l) w) rX)),.int .i64 (LD (ak (aK (dm l) w) rX))]:=by rw[zu];rfl
theorem rN{x:Mn}{a:Int}(hs:s.size<=1000000000)(ha:ye s a):aY aj 40 [.ptr 10 0,nS w,.agg [nB x.base,nI x.kind,nI x.idx],nI a] (MO s m) (λr q=>r=.aG []/\q=MO s (fT s w x a m)):=by refine abw ⟨acz _ _,?_⟩;rw[sc];refine qx (bt hs ha) (KY dq (aA.intro (λh=>?_) λh=>?_));have h:eZ _=true:=h;rw[fT,yb,if_pos h];refine⟨rfl,?_⟩;show bY _ _ _ _ _ _ _ _ _ (cD (dm _) w x.val) _ _ _ _ _=_;rw[Ej];have h:eZ _=false:=h;rw[fT,yb,if_neg (by rw[h];decide)];exact⟨rfl,rfl⟩
def El(s:aw):Nat->Nd->Bool
 |0,_=>false|k+1,n=>(decide (0<=n.at_)&&decide (n.at_<(s.size:Int)))&&(n.kind==1||match n.kids with|x::y::_=>El s k x&&El s k y|_=>false)
theorem Nf{k:Nat}{n:Nd}(h:El s k n=true):ye s n.at_:=by cases k with|zero=>cases h|succ k=>rw[El,auq,auq]at h;exact⟨of_decide_eq_true h.1.1,of_decide_eq_true h.1.2⟩
theorem acA{k:Nat}{n:Nd}(h:El s (k+1) n=true)(hk:n.kind≠1):∃x y l,n.kids=x::y::l/\El s k x=true/\El s k y=true:=by rw[El,auq,avo]at h;have h2:=h.2.resolve_left (by simpa using hk);revert h2;split;rename_i x y l e;intro h2;rw[auq]at h2;exact⟨x,y,l,e,h2⟩;intro h2;cases h2
theorem R4(a b:Ty):(R2 a b).size=a.size+b.size:=by rw[R2,Ty.size_eq,Ty.jc,Ty.sizes,Ty.size_eq b];omega
theorem mM:∀(k:Nat)(n:Nd)(m:Mk),(dG s k n m).1.size<=n.size
 |0,n,m=>by have:=n.size_pos;rw[dG];simpa [Ty.size,Ty.sizes]using this|k+1,n,m=>by have h0:=n.size_pos;rw[dG];split;simpa [Ty.size,Ty.sizes]using h0;split;rename_i x y l e;have h1:=mM k x m;have h2:=mM k y (dG s k x m).2;have h3:=n.size_eq;rw[e,Nd.sizes,Nd.sizes]at h3;show (R2 _ _).size<=_;rw[R4];omega;simpa [Ty.size,Ty.sizes]using h0
theorem Ya{n x y:Nd}{l:List Nd}(h:n.kids=x::y::l):ae (n.kids.map Nd.enc) (af 0) .top=dZ x/\ae (n.kids.map Nd.enc) (af 1) .top=dZ y/\2<=(n.kids.map Nd.enc).length/\x.size<n.size/\y.size<n.size:=by have h3:=n.size_eq;rw[h,Nd.sizes,Nd.sizes]at h3;have:=x.size_pos;have:=y.size_pos;rw[h];exact⟨Nd.aP x,Nd.aP y,by simp,by omega,by omega⟩
theorem rO(hs:s.size<=1000000000):∀(k:Nat)(n:Nd)(m:Mk),El s k n=true->n.size<=1000000->aY aj 74 [.ptr 10 0,dZ n] (MO s m) (λr q=>r=PY (dG s k n m).1/\q=MO s (dG s k n m).2)
 |0,n,m,h,_=>by cases h|k+1,n,m,h,hz=>by have ha:=Nf h;refine abx (aA.intro (λh1=>⟨acz _ _,?_⟩) λh1=>?_);(have h1:n.kind=1:=by simpa using h1);rw[dG,if_pos h1,sc,zu];refine aA.intro (λh2=>?_) λh2=>?_;(have e:BO m n.word=(yR m.words n.word).base:=by unfold BO;rw[h2,au5]);rw[e];exact qx (bt hs ha) ⟨_,_,pQ _,rfl,rfl⟩;(have e:BO m n.word=false:=by unfold BO;rw[h2,avk]);rw[e];exact qx (bt hs ha) ⟨_,_,pQ _,rfl,rfl⟩;(have h1:¬n.kind=1:=by simpa using h1);(obtain⟨x,y,l,e,hx,hy⟩:=acA h h1;obtain⟨g1,g2,g3,g4,g5⟩:=Ya e;have hv:dG s (k+1) n m=(R2 (dG s k x m).1 (dG s k y (dG s k x m).2).1,(dG s k y (dG s k x m).2).2):=by rw[dG,if_neg h1,e]);rw[hv];refine⟨by omega,by omega,_,_,_,_,g1,mcT (rO hs k x m hx (by omega)) ⟨by omega,by omega,_,_,_,_,g2,mcT (rO hs k y _ hy (by omega)) ⟨_,?_,rfl,rfl⟩⟩⟩;have cY:=mM (s:=s) k y (dG s k x m).2;have hq:=Ty.aZ (dG s k y (dG s k x m).2).1.args;have hw:=(dG s k y (dG s k x m).2).1.size_eq;have:=gN (ll:=[[(dG s k x m).1],(dG s k y (dG s k x m).2).1.args]) (by simp) (by simp;omega);simpa [ff,Ty.aP,R2,Ty.jc]using this
theorem tH{k:Nat}{n:Nd}(hs:s.size<=1000000000)(h:El s n.size n=true)(hz:n.size<=1000000):aY aj 41 [.ptr 10 0,dZ n] (MO s m) (λr q=>r=PY (ju s n m).1/\q=MO s (ju s n m).2):=by (have ha:=Nf h;have cY:=mM (s:=s) n.size n m;have hb:=rO hs n.size n m h hz;unfold ju;generalize dG s n.size n m=p at cY hb;have fin:∀{b:Bool}{m1:Mk},vo s n p=m1->eZ m1=b->aA (!b) (MR s (PY (if eZ (vo s n p)=true then p.1 else kL)) (vo s n p) (.agg [.ay (.slice none 0 0),nI 0]) (MO s m1)) (MR s (PY (if eZ (vo s n p)=true then p.1 else kL)) (vo s n p) (PY p.1) (MO s m1)):=by intro b m1 e1 e2;subst e1 e2;refine aA.intro (λh=>?_) λh=>?_;rw[if_neg (by simpa using h)];exact⟨aX.agg ⟨bX,aX.refl _,ai⟩,rfl⟩;rw[if_pos (by simpa using h)];exact⟨aX.refl _,rfl⟩);refine aY.M4 (aby (mcT hb (KY dq (aA.intro (λh1=>⟨rfl,_,lz (by omega),qx (bt hs ha) (KY dq (fin ?_ rfl))⟩) λh1=>KY dq (fin ?_ rfl)))));rw[aum,vo,if_pos h1];rw[vo,if_neg (by rw[h1];decide)]
end
theorem GC:∀(n:Nat)(t u:Tm),t.size<=n->n<=500000000->az aj 54 [.agg [.sl (t.binds.map Ty.enc),nI t.kind,nI t.index,.sl (t.args.map Tm.enc)],.agg [.sl (u.binds.map Ty.enc),nI u.kind,nI u.index,.sl (u.args.map Tm.enc)]] (nB (Tm.same t u)):=by intro n;induction n with|zero=>intro t u h;have:=t.size_pos;omega|succ n ih=>(intro t u h hn;have hq:=Tm.aZ t.args;have Mj:=t.size_eq;have hb:=jd (l:=t.binds) (m:=u.binds) (by have:=Ty.aZ t.binds;omega) λk h1 h2=>gB _ t.binds[k] u.binds[k] (aur _) (by have:=Ty.dp (auz h1);omega);rw[Tm.FF];have bl:az aj 101 [.sl (t.args.map Tm.enc),.sl (u.args.map Tm.enc),.bz 54 []] (nB (Tm.cB t.args u.args)):=by refine WH (aA.intro (λh=>?_) λh=>?_);rw[Tm.wo (by simp at h;omega)];(have hlm:t.args.length=u.args.length:=by simp at h;omega);refine aI.intro (λk:Nat=>((u.args.map Tm.enc,(),t.args.map Tm.enc,(t.args.length:Int),(k:Int),()),())) (λk=>k<=t.args.length/\Tm.cB t.args u.args=Tm.cB (t.args.drop k) (u.args.drop k)) (λk=>t.args.length-k) 0 (by rw[aum];rfl) ⟨auv _,rfl⟩ ?_;intro k ⟨hk,hs⟩ again bQ;dsimp only;refine aA.intro (λh=>?_) λh=>?_;(have aF:k<t.args.length:=by simpa using h);rw[Tm.tj aF (by omega)]at hs;have hi:=ih t.args[k] (u.args[k]'(by omega)) (by have:=Tm.eR aF;omega) (by omega);refine⟨by omega,by rw[aum];omega,_,_,_,_,Tm.bx aF,by omega,by rw[aum];omega,_,_,_,_,Tm.bx (by omega),_,hi,aA.intro (λh=>?_) λh=>?_⟩;(have:Tm.same t.args[k] u.args[k]=false:=by simpa using h);rw[hs,this,avk];(have he:Tm.same t.args[k] u.args[k]=true:=by simpa using h);rw[he,au5]at hs;rw[bc (by omega)];exact bQ (k+1) ⟨by omega,hs⟩ (by omega);(have:t.args.length<=k:=by simpa using h);rw[auH this,auH (by omega)]at hs;rw[hs];rfl);refine abt (aA.intro (λh=>⟨_,hb,aA.intro (λh2=>⟨_,bl,?_⟩) λh2=>?_⟩) λh=>?_);rw[h,h2,au5,au5];rw[h,h2,au5,avk];rw[h,avk]
theorem Ng{b:Int}{c m x:List Ty}{r:Rw}{left:Nat}(eG:nW c m x r):(gR b c m x r left).2.size<=300000000/\(gR b c m x r left).2.Ok:=by have hno:di.size<=300000000/\di.Ok:=⟨by simp[di,Tm.size,Tm.sizes,Ty.sizes],⟨⟨by decide,by decide⟩,⟨by decide,by decide⟩,ai⟩⟩;unfold gR;split;exact hno;split;exact hno;(rename_i h1 h2;have h2:(r.inf b c m x).2=0:=by simpa using h2);(have Ei:r.bJ=true:=by cases Ei:r.bJ with|true=>rfl|false=>rw[Rw.inf,Ei]at h2;simp at h2);(have Cq:r.shaped=true:=by rw[Rw.bJ,auq]at Ei;exact Ei.1);(have Na:=Rw.vl c m r ⟨left,0,0⟩ x;have qz:r.inf b c m x=r.infer b c m x:=by rw[Rw.inf,if_pos Ei]);have dP:Rw.mR 1000 c m x r (r.infer b c m x).1:=p7 b c m r x _ Cq (by rw[qz]at h2;rw[<-h2]);have kU:=λh=>(jQ (aur _) r ⟨left,0,0⟩ x _ dP eG.ok h).1;generalize Rw.dO c m ⟨left,0,0⟩ x r=Q at Na kU;unfold iq;split;exact hno;rename_i h0;have hf:=kU (by simpa using h0);split;have hn:=hf.nodes;have PU:=Na.sC (by simp only;omega);have hs:=Tm.zq hf.lo;have:Q.2.nodes*(1+1000)<=100000*1001:=avM (by omega) (by omega);exact⟨by omega,Tm.J6 hf.lo⟩;exact hno
section
variable {s w:aw} {m m':Mk} {f:Nat} {a:List AV} {H:List ax}
def bwW(l:List aw):Nat->List (Nat×aw)
 |0=>[]|k+1=>(k,l.getD k ⟨#[]⟩)::bwW l k
theorem acB{l:List aw}{k:Nat}(h:k<l.length):l.getD k ⟨#[]⟩=l[k]:=by simp[ae,h]
theorem PZ{l:List aw}{k:Nat}(h:k<l.length):ae (l.map nS) (af (k:Int)) .top=nS (l.getD k ⟨#[]⟩):=by rw[getD_map h,acB h]
def wdP(p:Nat×aw):List AV:=[nI p.1,nS p.2]
def wdE(p:Nat×aw):Int×aw×Unit:=(p.1,p.2,())
theorem R5(l:List aw):az aj 186 [.sl (l.map nS)] (.bz 203 [.aU (.sl (l.map nS)) 0]):=WL rfl
theorem Nh{l:List aw}(h:l.length<=1000000000):vL aj 203 (λv=>[v,.aU (.sl (l.map nS)) 0]) ((bwW l l.length).map wdP) false:=by refine WK λyv more=>⟨rfl,?_⟩;refine aI.intro (λk:Nat=>(((yv,(),(k:Int)-1,()),()),some ((bwW l k).map wdP++more))) (λk=>k<=l.length) (λk=>k) l.length (by rw[aum,ba (by omega) (by omega)]) (aur _) ?_;intro k hk again bQ;dsimp only;unfold I8;rw[aum];refine aA.intro (λh=>?_) λh=>?_;(have h':(k:Int)-1>=0:=of_decide_eq_true h;obtain⟨j,rfl⟩:∃j,k=j+1:=⟨k-1,by omega⟩;have aF:j<l.length:=by omega);(have e:((j+1:Nat):Int)-1=(j:Int):=by omega);rw[e];refine⟨by omega,by omega,_,PZ aF,rfl,(bwW l j).map wdP++more,rfl,λb=>aA.intro (λh=>?_) λh=>?_⟩;(have:b=false:=by simpa using h);subst this;exact⟨false,rfl⟩;(have:b=true:=by simpa using h);subst this;refine⟨rfl,?_⟩;rw[ba (n:=(j:Int)-1) (by omega) (by omega)];exact bQ j (by omega) (by omega);(have h':¬(k:Int)-1>=0:=of_decide_eq_false h;have:k=0:=by omega);subst this;exact⟨true,rfl⟩
theorem acC{l:List aw}(h:l.length<=1000000000):kR aj 203 [.aU (.sl (l.map nS)) 0] [.v (.c (.i .i64)),.v (.c (.s))] ((bwW l l.length).map wdE):=rb (prm:=[.v (.c (.i .i64)),.v (.c (.s))]) wdE (Nh h)
theorem Km{n:Nd}{bound:List aw}(hs:s.size<=1000000000)(ha:ye s n.at_)(hb:bound.length<=1000000):aY aj 169 [.ptr 10 0,dZ n,.sl (bound.map nS)] (MO s m) (λr q=>r=X9 (vp s n bound m).1/\q=MO s (vp s n bound m).2):=by refine WO ⟨R5 bound,rfl,rfl,rfl,rfl,rfl,rfl,rfl,rfl,rfl,?_⟩;unfold vp;generalize hX:Kj n.word bound bound.length=X;refine fK.rf (λ_:Unit=>(m.aJ.map nS,cg m.consts,m.aO.map nS,aM m.eqs,aM m.rules,bg m.prec,bg m.status,bK m.bO,m.types.map Ty.enc,dm m.words,((),(),(),(),(),(),(),(),(),s,(),m.fault.1,m.fault.2.1,m.fault.2.2.1,m.fault.2.2.2,()),(n.kind,n.word,n.at_,n.kids.map Nd.enc,()),(bound.map nS,()),(0,(),0,0,(),()),())) wdE (bwW bound bound.length) (acC (by omega)) (λrest _=>∃k,k<=bound.length/\rest=bwW bound k/\Kj n.word bound k=X) () rfl ⟨_,aur _,rfl,hX⟩ (λg rest _ ⟨k,hk,he,hp⟩ again bQ=>?_) λ_ ⟨k,hk,he,hp⟩=>?_;(cases k with|zero=>cases he|succ k=>(simp only[bwW,List.cons.injEq]at he;obtain⟨rfl,rfl⟩:=he;have aF:k<bound.length:=by omega);rw[Kj]at hp;dsimp only[wdE];rw[ei,aum];refine aA.intro (λh=>?_) λh=>?_;(have h:bound.getD k ⟨#[]⟩=n.word:=by simpa using h);rw[if_pos h]at hp;subst hp;rw[ba (n:=(bound.length:Int)-1) (by omega) (by omega),ba (n:=(bound.length:Int)-1-(k:Int)) (by omega) (by omega),show (bound.length:Int)-1-(k:Int)=((bound.length-1-k:Nat):Int) by omega];exact⟨_,_,_,_,_,tn _ _,rfl,rfl⟩;(have h:¬bound.getD k ⟨#[]⟩=n.word:=by simpa using h);rw[if_neg h]at hp;exact⟨rfl,rfl,rfl,rfl,rfl,rfl,rfl,rfl,rfl,bQ () ⟨k,by omega,rfl,hp⟩⟩);cases k with|succ k=>cases he|zero=>rw[Kj]at hp;subst hp;refine⟨acz _ _,?_⟩;dsimp only;rw[sc,zu];refine aA.intro (λh2=>?_) λh2=>?_;(have e:BP m n.word=!(yR m.words n.word).base:=by unfold BP;rw[h2,au5]);rw[e];exact qx (bt hs ha) ⟨_,_,_,_,_,tn _ _,rfl,rfl⟩;(have e:BP m n.word=false:=by unfold BP;rw[h2,avk]);rw[e];exact qx (bt hs ha) ⟨_,_,_,_,_,tn _ _,rfl,rfl⟩
def tN(s:aw):Nat->Nd->Bool
 |0,_=>false|k+1,n=>(decide (0<=n.at_)&&decide (n.at_<(s.size:Int)))&&(n.kind==1||match n.kids with|x::y::_=>if n.kind=3 then El s x.size x&&tN s k y else tN s k x&&tN s k y|_=>false)
theorem tI{k:Nat}{n:Nd}(h:tN s k n=true):ye s n.at_:=by cases k with|zero=>cases h|succ k=>rw[tN,auq,auq]at h;exact⟨of_decide_eq_true h.1.1,of_decide_eq_true h.1.2⟩
theorem acD{k:Nat}{n:Nd}(h:tN s (k+1) n=true)(hk:n.kind≠1):∃x y l,n.kids=x::y::l/\tN s k y=true/\(n.kind=3->El s x.size x=true)/\(n.kind≠3->tN s k x=true):=by rw[tN,auq,avo]at h;have h2:=h.2.resolve_left (by simpa using hk);revert h2;split;rename_i x y l e;split;rename_i h3;intro h2;rw[auq]at h2;exact⟨x,y,l,e,h2.2,λ_=>h2.1,λh=>(h h3).elim⟩;rename_i h3;intro h2;rw[auq]at h2;exact⟨x,y,l,e,h2.2,λh=>(h3 h).elim,λ_=>h2.1⟩;intro h2;cases h2
theorem Kn{l:List aw}:az aj 170 [.sl (l.map nS)] (.clip (l.map nS)):=by refine Pure.of_heap (WM ⟨⟨by omega,by omega,rfl,by omega,λx hx=>by obtain⟨t,_,rfl⟩:=avs.1 hx;rfl⟩,rfl,?_⟩);simp[auE]
theorem apa{k b i:Int}{l:List Ty}{x:Rw}:aX (.agg [nI k,.sl (l.map Ty.enc),nI b,nI i,.clip [X9 x]]) (X9 (.mk k (.mk l b) i [x])):=by (refine aX.agg ⟨aX.refl _,aX.refl _,aX.refl _,aX.refl _,?_,ai⟩;have:[X9 x]=[x].map Rw.enc:=by simp[Rw.aP]);rw[this];exact fV _
theorem apb{k i:Int}{x y:Rw}:aX (.agg [nI k,.ay (.slice none 0 0),nI 0,nI i,.clip [X9 x,X9 y]]) (X9 (.mk k kL i [x,y])):=by (refine aX.agg ⟨aX.refl _,bX,aX.refl _,aX.refl _,?_,ai⟩;have:[X9 x,X9 y]=[x,y].map Rw.enc:=by simp[Rw.aP]);rw[this];exact fV _
theorem qa(hs:s.size<=1000000000):∀(k:Nat)(n:Nd)(bound:List aw)(m:Mk),tN s k n=true->n.size+bound.length<=1000000->aY aj 139 [.ptr 10 0,dZ n,.sl (bound.map nS)] (MO s m) (λr q=>r=X9 (fD s k n bound m).1/\q=MO s (fD s k n bound m).2)
 |0,n,bound,m,h,_=>by cases h|k+1,n,bound,m,h,hz=>by have ha:=tI h;have Zb:=n.size_pos;refine aY.M4 (WQ (KY dq (aA.intro (λh0=>?_) λh0=>aA.intro (λh1=>?_) λh1=>?_)));(have h0:eZ m=false:=by simpa using h0);rw[fD,if_pos h0];exact⟨aX.agg ⟨aX.refl _,bX,aX.refl _,aX.refl _,bX,ai⟩,rfl⟩;(have h0:¬eZ m=false:=by simpa using h0);(have h1:n.kind=1:=by simpa using h1);rw[fD,if_neg h0,if_pos h1];exact mcR (Km hs ha (by omega)) ⟨aX.refl _,rfl⟩;(have h0:¬eZ m=false:=by simpa using h0);(have h1:¬n.kind=1:=by simpa using h1);obtain⟨x,y,l,e,hy,hx3,hx4⟩:=acD h h1;obtain⟨g1,g2,g3,g4,g5⟩:=Ya e;refine aA.intro (λh3=>?_) λh3=>?_;(have h3:n.kind=3:=by simpa using h3);(have hv:fD s (k+1) n bound m=(.mk 3 (ju s x m).1 0 [(fD s k y (bound++[n.word]) (ju s x m).2).1],(fD s k y (bound++[n.word]) (ju s x m).2).2):=by rw[fD,if_neg h0,if_neg h1,e];exact if_pos h3);rw[hv];have hr:=qa hs k y (bound++[n.word]) (ju s x m).2 hy (by simp;omega);rw[auY]at hr;exact⟨by omega,by omega,_,_,_,_,g1,mcT (tH (k:=0) hs (hx3 h3) (by omega)) ⟨by omega,by omega,_,_,_,_,g2,_,Kn,(λh=>by cases h),ku (λx hx=>by obtain⟨t,_,rfl⟩:=avs.1 hx;rfl) (λx hx=>by rw[auD.1 hx];rfl) (by simp;omega) (by decide),rfl,mcR hr ⟨apa,rfl⟩⟩⟩;(have h3:¬n.kind=3:=by simpa using h3);(have hv:fD s (k+1) n bound m=(.mk 4 kL 0 [(fD s k x bound m).1,(fD s k y bound (fD s k x bound m).2).1],(fD s k y bound (fD s k x bound m).2).2):=by rw[fD,if_neg h0,if_neg h1,e];exact if_neg h3);rw[hv];exact⟨by omega,by omega,_,_,_,_,g1,mcR (qa hs k x bound m (hx4 h3) (by omega)) ⟨by omega,by omega,_,_,_,_,g2,mcR (qa hs k y bound _ hy (by omega)) ⟨apb,rfl⟩⟩⟩
theorem zv{l:List (aw×Ty)}{k:Nat}(h:k<l.length):ae (cg l) (af (k:Int)) .top=.agg [nS l[k].1,.sl (l[k].2.args.map Ty.enc),nI l[k].2.base]:=getD_map h
def wTy(m:Mk):AV:=.agg [nI (m.aJ.length:Int),.sl ((cT m).map Ty.enc),.sl (m.types.map Ty.enc)]
theorem GD{b:List aw}{e r p t c:List AV}{g:List AV}{cs:List (aw×Ty)}{ts:List Ty}(hc:∀q∈cs,q.2.size<=1000)(ht:∀q∈ts,q.size<=1000)(hl:cs.length<=1000000)(sS:ts.length<=1000000): aY aj 14 [.agg [.sl (b.map nS),.sl (cg cs),.sl g,.own 0 (ab (ts.map Ty.enc)),.sl e,.sl r,.sl p,.sl t,.sl c]] (mtO (ts.map Ty.enc)) (λx q=>x=.agg [nI (b.length:Int),.sl ((cs.map (·.2)).map Ty.enc),.sl (ts.map Ty.enc)]/\q=mtO (ts.map Ty.enc)):=by have ej:(cg cs).length=cs.length:=aum _;have HR:(ts.map Ty.enc).length=ts.length:=aum _;refine FD ⟨rfl,rfl,?_⟩;refine aI.intro (λk:Nat=>(((),(),(),cg cs,(cs.length:Int),(k:Int),()),(ts.map Ty.enc,(b.map nS,cg cs,g,(),e,r,p,t,c,()),(0,(),(),()),((b.length:Int),(),(),()),((cs.take k).map (·.2)).map Ty.enc,()))) (λk=>k<=cs.length) (λk=>cs.length-k) 0 (by rw[ej,aum];rfl) (auv _) ?_;intro k hk again bQ;dsimp only;unfold uV;rw[ej];refine aA.intro (λh=>?_) λh=>?_;(have aF:k<cs.length:=by simpa using h);(have cY:=hc _ (auz aF);refine⟨by omega,by omega,_,_,_,zv aF,_,_,oI (t:=cs[k].2) (by omega),rfl,bH rfl (by simp;omega) (by decide),rfl,rfl,?_⟩;have e:((cs.take k).map (·.2)).map Ty.enc++[PY cs[k].2]=((cs.take (k+1)).map (·.2)).map Ty.enc:=by rw[<-bP aF,auY,auY];show _=_++[Ty.enc cs[k].2];rw[Ty.aP]);rw[e,bc (by omega)];exact bQ (k+1) (by omega) (by omega);(have fb:cs.length<=k:=by simpa using h);rw[auE fb];refine⟨rfl,rfl,rfl,rfl,rfl,?_⟩;clear bQ;refine aI.intro (λk:Nat=>(((),(),(),(ts.length:Int),(k:Int),()),(ts.map Ty.enc,(b.map nS,cg cs,g,(),e,r,p,t,c,()),(0,(),(),()),((b.length:Int),(),(),()),(cs.map (·.2)).map Ty.enc,(ts.take k).map Ty.enc,()))) (λk=>k<=ts.length) (λk=>ts.length-k) 0 (by rw[HR];rfl) (auv _) ?_;intro k hk again bQ;dsimp only;unfold uU;rw[HR];refine aA.intro (λh=>?_) λh=>?_;(have aF:k<ts.length:=by simpa using h);(have cY:=ht _ (auz aF);refine⟨⟨by omega,by omega,rfl⟩,rfl,by simpa using aF,_,_,Ty.bx aF,_,_,oI (t:=ts[k]) (by omega),rfl,bH rfl (by simp;omega) (by decide),rfl,rfl,rfl,rfl,?_⟩;have e:(ts.take k).map Ty.enc++[PY ts[k]]=(ts.take (k+1)).map Ty.enc:=by rw[<-bP aF,auY];show _=_++[Ty.enc ts[k]];rw[Ty.aP]);rw[e,bc (by omega)];exact bQ (k+1) (by omega) (by omega);(have fb:ts.length<=k:=by simpa using h);rw[auE fb];exact⟨rfl,rfl,rfl,rfl⟩
end
section
variable {s w:aw} {m m':Mk} {f:Nat} {a:List AV} {H:List ax}
def Fo(m m':Mk):Prop:=∃f,m'={ m with fault:=f }
theorem Fo.refl(m:Mk):Fo m m:=⟨m.fault,rfl⟩
theorem Fo.trans{a b c:Mk}(h:Fo a b)(k:Fo b c):Fo a c:=by obtain⟨f,rfl⟩:=h;obtain⟨g,rfl⟩:=k;exact⟨g,rfl⟩
theorem Yb(c a:Int)(m:Mk):Fo m (ya s c a m):=by unfold ya;split;exact⟨_,rfl⟩;exact Fo.refl m
theorem bB(b:Bool)(c a:Int)(m:Mk):Fo m (cF s b c a m):=by unfold cF;split;exact Fo.refl m;exact Yb c a m
theorem vq:∀(k:Nat)(n:Nd)(m:Mk),Fo m (dG s k n m).2
 |0,n,m=>Fo.refl m|k+1,n,m=>by rw[dG];split;exact bB _ _ _ _;split;exact(vq k _ m).trans (vq k _ _);exact Fo.refl m
theorem lD(n:Nd)(m:Mk):Fo m (ju s n m).2:=by refine(vq (s:=s) n.size n m).trans ?_;show Fo _ (vo s n _);unfold vo;split;exact bB _ _ _ _;exact Fo.refl _
theorem Yc(n:Nd)(bound:List aw)(m:Mk):Fo m (vp s n bound m).2:=by unfold vp;split;exact Fo.refl m;exact bB _ _ _ _
theorem jW:∀(k:Nat)(n:Nd)(bound:List aw)(m:Mk),Fo m (fD s k n bound m).2
 |0,n,bound,m=>Fo.refl m|k+1,n,bound,m=>by rw[fD];split;exact Fo.refl m;split;exact Yc n bound m;split;split;exact(lD _ m).trans (jW k _ _ _);exact(jW k _ _ m).trans (jW k _ _ _);exact Fo.refl m
theorem kE(n:Nd)(m:Mk):Fo m (dH s n m).2:=by refine(jW (s:=s) n.size n [] m).trans ?_;unfold dH yc;split;exact bB _ _ _ _;exact Fo.refl _
theorem zw(x y:Nd)(b:Bool)(m:Mk):Fo m (kC s x y b m).2:=((kE x m).trans (kE y _)).trans ((bB _ _ _ _).trans (bB _ _ _ _))
structure MI(L:Nat)(m:Mk):Prop where
 hc:∀q∈m.consts,q.2.size<=1000
 hm:∀t∈m.types,t.size<=1000
 cl:m.consts.length<=L
 ml:m.types.length<=L
 wk:∀p∈m.words,jo p.2.kind/\jo p.2.idx
theorem MI.fo{L:Nat}(h:MI L m)(k:Fo m m'):MI L m':=by obtain⟨f,rfl⟩:=k;exact⟨h.hc,h.hm,h.cl,h.ml,h.wk⟩
theorem fu:jo 0:=⟨by decide,by decide⟩
theorem MI.mn{L:Nat}(h:MI L m)(w:aw):jo (yR m.words w).kind/\jo (yR m.words w).idx:=by (have key:∀l:PV,(∀p∈l,jo p.2.kind/\jo p.2.idx)->jo (yR l w).kind/\jo (yR l w).idx:=by intro l;induction l with|nil=>intro _;exact⟨fu,fu⟩|cons p l ih=>intro hp;obtain⟨k,v⟩:=p;unfold yR at ih ⊢;rw[kN];split;exact hp _ auC;exact ih λq hq=>hp q (auG _ hq));exact key _ h.wk
theorem P0{w:aw}{l:List aw}:∀{k j:Nat},Kj w l k=some j->j<=l.length
 |0,j,h=>by cases h|k+1,j,h=>by rw[Kj]at h;split at h;obtain rfl:=auo h;omega;exact P0 h
theorem R6(n:Nd)(m:Mk):(ju s n m).1.size<=n.size:=by show (if _ then _ else _:Ty).size<=_;split;exact mM _ n m;have:=n.size_pos;simpa [Ty.size,Ty.sizes]using this
theorem oP:kL.size=1:=by simp[Ty.size,Ty.sizes]
theorem lE(k i:Int):(jL k i).total=2:=by simp[Rw.total,Rw.gC,oP]
theorem zz{L:Nat}:∀(k:Nat)(n:Nd)(bound:List aw)(m:Mk),MI L m->bound.length+n.size<=1000000->(fD s k n bound m).1.Ok/\(fD s k n bound m).1.total<=2*n.size
 |0,n,bound,m,hm,hb=>by have:=n.size_pos;refine⟨⟨fu,fu,ai⟩,?_⟩;show (jL 0 0).total<=_;rw[lE];omega|k+1,n,bound,m,hm,hb=>by have hp:=n.size_pos;have h0:(jL 0 0).Ok/\(jL 0 0).total<=2*n.size:=⟨⟨fu,fu,ai⟩,by rw[lE];omega⟩;rw[fD];split;exact h0;split;unfold vp;split;rename_i j hj;have:=P0 hj;refine⟨⟨fu,⟨by omega,by omega⟩,ai⟩,?_⟩;show (jL _ _).total<=_;rw[lE];omega;refine⟨⟨(hm.mn _).1,(hm.mn _).2,ai⟩,?_⟩;show (jL _ _).total<=_;rw[lE];omega;split;rename_i x y l e;have h3:=n.size_eq;rw[e,Nd.sizes,Nd.sizes]at h3;split;have ht:=R6 (s:=s) x m;have h1:=zz k y (bound++[n.word]) (ju s x m).2 (hm.fo (lD x m)) (by simp;have:=x.size_pos;omega);refine⟨⟨⟨by decide,by decide⟩,fu,h1.1,ai⟩,?_⟩;show (Rw.mk _ _ _ _).total<=_;simp only[Rw.total,Rw.gC];have:=h1.2;have:=x.size_pos;omega;have h1:=zz k x bound m hm (by have:=y.size_pos;omega);have h2:=zz k y bound (fD s k x bound m).2 (hm.fo (jW k x bound m)) (by have:=x.size_pos;omega);refine⟨⟨⟨by decide,by decide⟩,fu,h1.1,h2.1,ai⟩,?_⟩;show (Rw.mk _ _ _ _).total<=_;simp only[Rw.total,Rw.gC,oP];have:=h1.2;have:=h2.2;omega;exact h0
theorem MI.nok{k:Nat}{n:Nd}(h:MI 500 m)(hz:n.size<=900000):nW (cT m) m.types [] (fD s k n [] m).1:=by (have h1:=zz (s:=s) k n [] m h (by simp;omega);have h2:∀t∈cT m,t.size<=1000:=λt ht=>by obtain⟨q,hq,rfl⟩:=avs.1 ht;exact h.hc q hq);have h3:(cT m).length=m.consts.length:=aum _;exact⟨h2,h.hm,(λt ht=>by cases ht),by rw[h3];exact h.cl,h.ml,auv _,by omega,h1.1⟩
section
variable {N0:List AV->List AV->List AV->List AV->List AV->List AV->List AV->List AV->List AV->List (aw×Value)->aw->Int->Int->Int->aw->List AV->Int->Int->List AV->List AV->Int->Prop} {t:Tm} {u:Ty}
theorem mcM(h:aY aj f a H (λr q=>r=.aG [Su t,PY u]/\q=MO s m'))(hn:N0 (m'.aJ.map nS) (cg m'.consts) (m'.aO.map nS) (aM m'.eqs) (aM m'.rules) (bg m'.prec) (bg m'.status) (bK m'.bO) (m'.types.map Ty.enc) (dm m'.words) s m'.fault.1 m'.fault.2.1 m'.fault.2.2.1 m'.fault.2.2.2 (t.binds.map Ty.enc) t.kind t.index (t.args.map Tm.enc) (u.args.map Ty.enc) u.base):pB f a H N0:=⟨_,h,λr q ⟨e1,e2⟩=>⟨_,_,_,_,_,_,_,_,_,_,_,_,_,_,_,_,_,_,_,_,_,⟨e1,e2⟩,hn⟩⟩
end
section
variable {N0:List AV->List AV->List AV->List AV->List AV->List AV->List AV->List AV->List AV->List (aw×Value)->aw->Int->Int->Int->aw->List AV->Int->Int->List AV->List AV->Int->Int->List AV->Prop} {t u:Tm}
theorem mcW(h:aY aj f a H (λr q=>r=.aG [Su t,Su u]/\q=MO s m'))(hn:N0 (m'.aJ.map nS) (cg m'.consts) (m'.aO.map nS) (aM m'.eqs) (aM m'.rules) (bg m'.prec) (bg m'.status) (bK m'.bO) (m'.types.map Ty.enc) (dm m'.words) s m'.fault.1 m'.fault.2.1 m'.fault.2.2.1 m'.fault.2.2.2 (t.binds.map Ty.enc) t.kind t.index (t.args.map Tm.enc) (u.binds.map Ty.enc) u.kind u.index (u.args.map Tm.enc)):pC f a H N0:=⟨_,h,λr q ⟨e1,e2⟩=>⟨_,_,_,_,_,_,_,_,_,_,_,_,_,_,_,_,_,_,_,_,_,_,_,⟨e1,e2⟩,hn⟩⟩
end
theorem Yd:aX (.agg [.ay (.slice none 0 0),nI 0,nI 0,.ay (.slice none 0 0)]) (Su di):=aX.agg ⟨bX,aX.refl _,aX.refl _,bX,ai⟩
theorem ape:aX (.agg [.ay (.slice none 0 0),nI 0]) (PY kL):=aX.agg ⟨bX,aX.refl _,ai⟩
theorem Ye{x y u v:AV}(h:aX x u)(k:aX y v):aX (.aG [x,y]) (.aG [u,v]):=aX.aG ⟨h,k,ai⟩
theorem rP{n:Nd}(hs:s.size<=1000000000)(hm:MI 500 m)(h:tN s n.size n=true)(hz:n.size<=900000):aY aj 88 [.ptr 10 0,dZ n] (MO s m) (λr q=>r=.aG [Su (dH s n m).1.1,PY (dH s n m).1.2]/\q=MO s (dH s n m).2):=by (have ha:=tI h;have hr:=qa hs n.size n [] m h (by simp;omega);have hf:=jW (s:=s) n.size n [] m;have afK:=hm.nok (s:=s) (k:=n.size) hz;unfold dH;generalize fD s n.size n [] m=p at hr hf afK;obtain⟨r,m1⟩:=p;have C7:MI 500 m1:=hm.fo hf;have aN:nW (cT m1) m1.types [] r:=by obtain⟨g,rfl⟩:∃g,m1={ m with fault:=g }:=hf;exact afK);clear afK hf hm;have hi:=Eh (b:=m1.aJ.length) aN;have hn:=R1 (b:=m1.aJ.length) aN;have hw:=GD (b:=m1.aJ) (e:=aM m1.eqs) (r:=aM m1.rules) (p:=bg m1.prec) (t:=bg m1.status) (c:=bK m1.bO) (g:=m1.aO.map nS) C7.hc C7.hm (by have:=C7.cl;omega) (by have:=C7.ml;omega);rw[Rw.aP]at hi;dsimp only at hr ⊢;refine aY.M4 (abz (mcR (aY.xA (ys:=[.ptr 10 0,dZ n,.sl []]) ⟨aX.refl _,aX.refl _,bX,ai⟩ hr) (KY dq (aA.intro (λh1=>?_) λh1=>?_))));(have h1:¬eZ m1=true:=by simpa using h1);unfold yc;rw[if_neg h1];exact⟨Ye Yd ape,rfl⟩;(have h1:eZ m1=true:=by simpa using h1);unfold yc;rw[if_pos h1];refine⟨rfl,rfl,rfl,rfl,rfl,rfl,rfl,rfl,_,hw,λr2 q ⟨e1,e2⟩=>⟨_,_,_,_,⟨e1,e2⟩,_,_,_,hi,aA.intro (λh2=>?_) λh2=>aA.intro (λh3=>⟨_,_,_,_,_,hn,?_⟩) λh3=>?_⟩⟩;(have h2:(r.inf m1.aJ.length (cT m1) m1.types []).2=1:=by simpa using h2);(have he:R3 m1 r=2:=if_pos h2;have hf:kV m1 r=(di,2):=by unfold kV;rw[he];rfl);rw[hf];exact qx (bt (m:=m1) (b:=false) hs ha) ⟨Ye Yd (aX.refl _),rfl⟩;(have h3:(r.inf m1.aJ.length (cT m1) m1.types []).2=0:=by simpa using h3);(have he:R3 m1 r=0:=by unfold R3;rw[h3];rfl);have hf:kV m1 r=((gR m1.aJ.length (cT m1) m1.types [] r 100000).2,(gR m1.aJ.length (cT m1) m1.types [] r 100000).1.err):=if_pos he;rw[hf];exact qx (bt (m:=m1) hs ha) ⟨aX.refl _,rfl⟩;(have h2:¬(r.inf m1.aJ.length (cT m1) m1.types []).2=1:=by simpa using h2);(have h3:¬(r.inf m1.aJ.length (cT m1) m1.types []).2=0:=by simpa using h3);(have he:R3 m1 r=(r.inf m1.aJ.length (cT m1) m1.types []).2:=if_neg h2;have hf:kV m1 r=(di,(r.inf m1.aJ.length (cT m1) m1.types []).2):=by unfold kV;rw[he,if_neg h3]);rw[hf];exact qx (bt (m:=m1) hs ha) ⟨Ye Yd (aX.refl _),rfl⟩
end
end Go.Proofs.YthnnplohnceogaaGreatDoor
