/- Texts of ours laid together for a claim: Sig. -/
import Derived.Test.YtjhanogfpkbamaaGreatDoorQ31
namespace Go.Proofs.YtjhanogfpkbamaaGreatDoor
open Go
set_option linter.unusedSimpArgs false
set_option linter.unusedVariables false
def A6 {α:Type}:List (Nat×α)→Nat→Option α
 | [],_=>none
 |p::l,k=>(match Nat.beq p.1 k with|true=>some p.2|false=>A6 l k)
def acL:List (Nat×tD):=[(3,.c (.i .i64)),(4,.c (.b)),(5,.c (.i .u8)),(9,.c (.s)),(42,.c (.l)),(43,.c (.l)),(48,.a [.l,.i .i64,.i .i64,.l]),(53,.a [.l,.i .i64,.i .i64,.l,.l,.i .i64,.i .i64,.l,.l,.l]),(58,.a [.l,.i .i64,.i .i64,.l]),(63,.a [.l,.i .i64,.i .i64,.l,.l,.i .i64,.i .i64,.l,.l,.l]),(101,.a [.l,.i .i64]),(107,.a [.i .i64,.b,.l,.l]),(121,.a [.i .i64,.b,.l,.l]),(124,.a [.i .i64,.l,.i .i64,.i .i64,.l]),(134,.a [.i .i64,.s,.i .i64]),(163,.a [.l,.i .i64]),(177,.a [.i .i64,.l,.i .i64,.i .i64,.l])]
def Mk (T:Nat):tD:=(match A6 acL T with|some x=>x|none=>.c (.k .top))
def acM:List (Nat×Sh):=[(0,.t []),(3,.v (.c (.i .i64))),(4,.v (.c (.b))),(5,.v (.c (.i .u8))),(9,.v (.c (.s))),(22,.v (.c (.l))),(25,.v (.c (.l))),(27,.v (.a [.l])),(30,.t [.c (.s),.c (.i .i64)]),(32,.t [.c (.s),.c (.b)]),(36,.v (.a [.i .i64,.i .i64])),(38,.v (.a [.i .i64,.i .i64,.i .i64,.s])),(39,.t [.a [.l],.a [.i .i64,.i .i64,.i .i64,.s]]),(42,.v (.c (.l))),(43,.v (.c (.l))),(45,.v (.a [.i .i64,.i .i64])),(46,.v (.c (.l))),(48,.v (.a [.l,.i .i64,.i .i64,.l])),(50,.v (.a [.l,.i .i64,.i .i64,.l,.l,.i .i64,.i .i64,.l,.l])),(51,.v (.c (.l))),(53,.v (.a [.l,.i .i64,.i .i64,.l,.l,.i .i64,.i .i64,.l,.l,.l])),(54,.v (.c (.l))),(56,.v (.c (.l))),(58,.v (.a [.l,.i .i64,.i .i64,.l])),(60,.v (.a [.l,.i .i64,.i .i64,.l,.l,.i .i64,.i .i64,.l,.l])),(61,.v (.c (.l))),(71,.t [.a [.l,.i .i64,.i .i64,.l,.l,.i .i64,.i .i64,.l,.l],.c (.b)]),(94,.v (.c (.l))),(101,.v (.a [.l,.i .i64])),(104,.v (.c (.l))),(105,.v (.c (.l))),(107,.v (.a [.i .i64,.b,.l,.l])),(110,.v (.c (.k .top))),(119,.v (.c (.l))),(125,.v (.c (.l))),(126,.t [.c (.l),.a [.i .i64,.i .i64,.i .i64,.s]]),(129,.v (.c (.k .top))),(134,.v (.a [.i .i64,.s,.i .i64])),(156,.t [.c (.i .i64),.c (.b)]),(163,.v (.a [.l,.i .i64])),(173,.t [.c (.i .i64),.c (.k .top)]),(177,.v (.a [.i .i64,.l,.i .i64,.i .i64,.l])),(178,.v (.c (.k .top))),(180,.t [.a [.i .i64,.i .i64],.c (.i .i64)]),(185,.t [.c (.i .i64),.c (.i .i64)]),(210,.v (.c (.k .top))),(248,.t [.c (.l),.c (.s)]),(260,.t [.c (.i .i64),.c (.k .top)]),(262,.v (.c (.k .top))),(266,.t [.c (.i .u64),.c (.k .top)])]
def rsh (T:Nat):Sh:=(match A6 acM T with|some x=>x|none=>.v (.c (.k .top)))
def acN:List (Nat×sv):=[]
def sig (f T:Nat):sv:=(match A6 acN f with|some x=>x|none=>.one (rsh T))
def WH:Nat→Option QB
 |116=>some (.same)
 |_=>none
theorem WI:∀f x,WH f=some x→XOk Tryz.prog f x:=by
 intro f x h
 unfold WH at h
 split at h
 ·obtain rfl:=Option.some.inj h;exact⟨_,Tryz.func116,by kernel_rfl,by kernel_rfl,by kernel_rfl,by kernel_rfl⟩
 ·cases h
abbrev RD:=List (Nat×List (Option (List Nat))×List (Option (List Nat)))
abbrev RE:=List (Nat×List Nat)
abbrev RF:=List (Nat×sv)
abbrev RG:=List (Nat×ni)
noncomputable def cfg (nt:Nat) (dr:RD) (sg:RF) (hc:RE) (br:RG) (mt:Bool) (eH:Option (List Nat)) (rm:List (Nat×Nat)):cW:={ P:=Tryz.prog,az:=az,Mk:=Mk,sig:=(fun f T=>match A6 sg f with|some x=>x|none=>sig f T),nt:=nt,dr:=dr,hc:=hc,br:=br,mt:=mt,eH:=eH,rm:=rm,sgd:=(fun d=>A6 sg (1000000+d)),ext:=⟨WH,WI⟩ }
theorem xE (nt:Nat) (dr:RD) (sg:RF) (hc:RE) (br:RG) (mt:Bool) (eH:Option (List Nat)) (rm:List (Nat×Nat)):aT (cfg nt dr sg hc br mt eH rm).P (cfg nt dr sg hc br mt eH rm).az:=WG
theorem xF (nt:Nat) (dr:RD) (sg:RF) (hc:RE) (br:RG) (mt:Bool) (eH:Option (List Nat)) (rm:List (Nat×Nat)):(cfg nt dr sg hc br mt eH rm).P.follows .mixedOrders=true:=by show Tryz.prog.follows .mixedOrders=true;kernel_rfl
def lv (l:List Nat):List (Nat×Option Sh):=l.map fun t=>(t,none)
def la (k:Nat) (l:List Nat) (rows:List (Nat×Nat):=[]):j4:={ key:=k,live:=lv l,rows:=rows }
theorem A7 {fn:Func} {n:Nat} (h:(!(fn.name == "runtime.NumGoroutine")&&Nat.ble n fn.ntmps)=true):(fn.name == "runtime.NumGoroutine")=false∧Nat.ble n fn.ntmps=true:=by
 rw[ahZ,aiA] at h;exact h
theorem pkq (dr:RD) (sg:RF) (hc:RE) (br:RG) (mt:Bool) (eH:Option (List Nat)) (rm:List (Nat×Nat)) (L:List j4) {f:FuncId} {fn:Func} {c:Code} {p:Prop} {args:List AV} {R:AV→Prop} (hf:Tryz.prog.funcs[f]?=some fn) (hb:fn.body=some c) (h0:(!(fn.name == "runtime.NumGoroutine")&&Nat.ble args.length fn.ntmps)=true) (he:p=dX (cfg fn.ntmps dr sg hc br mt eH rm) L c 0 true (Rx az fn.results.toList R) ⟨cV 0 args,[],()⟩) (h:p):Pure Tryz.prog f args R:=
 Cj (C:=cfg fn.ntmps dr sg hc br mt eH rm) (xE fn.ntmps dr sg hc br mt eH rm) (xF fn.ntmps dr sg hc br mt eH rm) (L:=L) hf hb (A7 h0).1 (A7 h0).2 rfl (of_eq he h)
theorem JA (dr:RD) (sg:RF) (hc:RE) (br:RG) (L:List j4) {f:FuncId} {fn:Func} {c:Code} {p:Prop} {args:List AV} {R:AV→Prop} (hf:Tryz.prog.funcs[f]?=some fn) (hb:fn.body=some c) (h0:(!(fn.name == "runtime.NumGoroutine")&&Nat.ble args.length fn.ntmps)=true) (he:p=dX (cfg fn.ntmps dr sg hc br false none []) L c 0 true (Rx az fn.results.toList R) ⟨cV 0 args,[],()⟩) (h:p):Pure Tryz.prog f args R:=pkq dr sg hc br false none [] L hf hb h0 he h
theorem fj (L:List j4) {f:FuncId} {fn:Func} {c:Code} {p:Prop} {args:List AV} {R:AV→Prop} (hf:Tryz.prog.funcs[f]?=some fn) (hb:fn.body=some c) (h0:(!(fn.name == "runtime.NumGoroutine")&&Nat.ble args.length fn.ntmps)=true) (he:p=dX (cfg fn.ntmps [] [] [] [] false none []) L c 0 true (Rx az fn.results.toList R) ⟨cV 0 args,[],()⟩) (h:p):Pure Tryz.prog f args R:=pkq [] [] [] [] false none [] L hf hb h0 he h
theorem Zh (dr:RD) (sg:RF) (hc:RE) (br:RG) (mt:Bool) (eH:Option (List Nat)) (rm:List (Nat×Nat)) (m:Nat) (L:List j4) {f:FuncId} {fn:Func} {c:Code} {p:Prop} {args:List AV} {hp:List af} {R:AV→List af→Prop} (hf:Tryz.prog.funcs[f]?=some fn) (hb:fn.body=some c) (h0:(!(fn.name == "runtime.NumGoroutine")&&Nat.ble args.length fn.ntmps)=true) (he:p=dX (cfg fn.ntmps dr sg hc br mt eH rm) L c hp.length true (Jx az m fn.results.toList R) ⟨cV 0 args,hp,()⟩) (h:p) (hm:Nat.ble hp.length m=true:=by rfl):cG Tryz.prog f args hp R:=
 wW (C:=cfg fn.ntmps dr sg hc br mt eH rm) (xE fn.ntmps dr sg hc br mt eH rm) (xF fn.ntmps dr sg hc br mt eH rm) (L:=L) m hm hf hb (A7 h0).1 (A7 h0).2 rfl (of_eq he h)
theorem pJ (dr:RD) (sg:RF) (hc:RE) (br:RG) (m:Nat) (L:List j4) {f:FuncId} {fn:Func} {c:Code} {p:Prop} {args:List AV} {hp:List af} {R:AV→List af→Prop} (hf:Tryz.prog.funcs[f]?=some fn) (hb:fn.body=some c) (h0:(!(fn.name == "runtime.NumGoroutine")&&Nat.ble args.length fn.ntmps)=true) (he:p=dX (cfg fn.ntmps dr sg hc br false none []) L c hp.length true (Jx az m fn.results.toList R) ⟨cV 0 args,hp,()⟩) (h:p) (hm:Nat.ble hp.length m=true:=by rfl):cG Tryz.prog f args hp R:=Zh dr sg hc br false none [] m L hf hb h0 he h hm
theorem MB (m:Nat) (L:List j4) {f:FuncId} {fn:Func} {c:Code} {p:Prop} {args:List AV} {hp:List af} {R:AV→List af→Prop} (hf:Tryz.prog.funcs[f]?=some fn) (hb:fn.body=some c) (h0:(!(fn.name == "runtime.NumGoroutine")&&Nat.ble args.length fn.ntmps)=true) (he:p=dX (cfg fn.ntmps [] [] [] [] false none []) L c hp.length true (Jx az m fn.results.toList R) ⟨cV 0 args,hp,()⟩) (h:p) (hm:Nat.ble hp.length m=true:=by rfl):cG Tryz.prog f args hp R:=Zh [] [] [] [] false none [] m L hf hb h0 he h hm
theorem mkq (dr:RD) (sg:RF) (hc:RE) (br:RG) (mt:Bool) (eH:Option (List Nat)) (rm:List (Nat×Nat)) (L:List j4) {f:FuncId} {fn:Func} {c:Code} {p:Prop} {args:List AV} {e size:Nat} {els:List AV} (hf:Tryz.prog.funcs[f]?=some fn) (hb:fn.body=some c) (h0:(!(fn.name == "runtime.NumGoroutine")&&Nat.ble args.length fn.ntmps)=true) (he:p=dX (cfg fn.ntmps dr sg hc br mt eH rm) L c 0 true (Nl az fn.results.toList e size els) ⟨cV 0 args,[],()⟩) (h:p):Rc Tryz.prog f args e size els:=
 EZ (C:=cfg fn.ntmps dr sg hc br mt eH rm) (xE fn.ntmps dr sg hc br mt eH rm) (xF fn.ntmps dr sg hc br mt eH rm) (L:=L) hf hb (A7 h0).1 (A7 h0).2 rfl (of_eq he h)
theorem ykq (dr:RD) (sg:RF) (hc:RE) (br:RG) (mt:Bool) (eH:Option (List Nat)) (rm:List (Nat×Nat)) (L:List j4) {f:FuncId} {fn:Func} {c:Code} {args:AV→List AV} {Ls:List (List AV)} {kind:Bool} (hf:Tryz.prog.funcs[f]?=some fn) (hb:fn.body=some c) (h0:(fn.name == "runtime.NumGoroutine")=false) (hn:∀v,Nat.ble (args v).length fn.ntmps=true) (h:∀(yv:Value) (more:List (List AV)),iq (cfg fn.ntmps dr sg hc br mt eH rm) L yv c (Oc az fn.results.toList kind (RY kind more)) ⟨cV 0 (args (.fn yv)),[],()⟩ (some (Ls++more))):NP Tryz.prog f args Ls kind:=E2 (C:=cfg fn.ntmps dr sg hc br mt eH rm) (xE fn.ntmps dr sg hc br mt eH rm) (xF fn.ntmps dr sg hc br mt eH rm) (L:=L) hf hb h0 hn rfl h
theorem yk0 (L:List j4) {f:FuncId} {fn:Func} {c:Code} {args:AV→List AV} {Ls:List (List AV)} {kind:Bool} (hf:Tryz.prog.funcs[f]?=some fn) (hb:fn.body=some c) (h0:(fn.name == "runtime.NumGoroutine")=false) (hn:∀v,Nat.ble (args v).length fn.ntmps=true) (h:∀(yv:Value) (more:List (List AV)),iq (cfg fn.ntmps [] [] [] [] false none []) L yv c (Oc az fn.results.toList kind (RY kind more)) ⟨cV 0 (args (.fn yv)),[],()⟩ (some (Ls++more))):NP Tryz.prog f args Ls kind:=ykq [] [] [] [] false none [] L hf hb h0 hn h
abbrev pI (f:Nat) (a:List AV) (r:AV):Prop:=av Tryz.prog f a r
abbrev aC (f:Nat) (a:List AV) (H:List af) (N:AV→List af→Prop):Prop:=∃S:AV→List af→Prop,cG Tryz.prog f a H S∧∀r q,S r q→N r q
abbrev jc (rl:List AV) (rs:ByteArray) (ra:Int):List af:=[.box [.sl rl,nS rs,nI ra]]
abbrev A8 (s0:ByteArray) (fc:Int) (fl:Int) (fm:Int) (fw:ByteArray) (un:Nat) (ha:Int) (us:List AV):List af:=[.box [nS s0],.box [nI fc,nI fl,nI fm,nS fw],.box [.own 4 un],.box [nI ha],.row 134 3 us]
abbrev dQ (un:Nat) (us:List AV) (pe:Int):List af:=[.dD 1 un,.row 5 1 us,.box [.ptr 0 0,nI pe]]
abbrev bq (rl:List AV) (rs:ByteArray) (ra:Int) (fc:Int) (fl:Int) (fm:Int) (fw:ByteArray):List af:=[.box [.sl rl,nS rs,nI ra],.box [.ptr 0 0,nI fc,nI fl,nI fm,nS fw]]
abbrev Ad (rl:List AV) (rs:ByteArray) (ra:Int) (fc:Int) (fl:Int) (fm:Int) (fw:ByteArray):List af:=[.box [.sl rl,nS rs,nI ra],.box [.ptr 0 0,nI fc,nI fl,nI fm,nS fw],.box [.ptr 1 0]]
abbrev rC (rl:List AV) (rs:ByteArray) (ra:Int) (fc:Int) (fl:Int) (fm:Int) (fw:ByteArray) (op:Int):List af:=[.box [.sl rl,nS rs,nI ra],.box [.ptr 0 0,nI fc,nI fl,nI fm,nS fw],.box [.ptr 1 0],.box [nI op]]
end Go.Proofs.YtjhanogfpkbamaaGreatDoor
