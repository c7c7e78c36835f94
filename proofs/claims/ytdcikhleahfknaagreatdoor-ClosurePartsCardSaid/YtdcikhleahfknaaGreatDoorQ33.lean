/- Texts of ours laid together for a claim: Sig. -/
import Derived.Test.YtdcikhleahfknaaGreatDoorQ32
namespace Go.Proofs.YtdcikhleahfknaaGreatDoor
open Go
set_option linter.unusedSimpArgs false
set_option linter.unusedVariables false
def wC {α:Type}:List (Nat×α)→Nat→Option α
 | [],_=>none
 |p::l,k=>(match Nat.beq p.1 k with|true=>some p.2|false=>wC l k)
def Xw:List (Nat×pD):=[(3,.c (.i .i64)),(5,.c (.i .u8)),(28,.a [.i .i64,.i .i64]),(31,.a [.l,.i .i64,.i .i64,.l]),(33,.a [.l,.i .i64,.i .i64,.l,.l,.i .i64,.i .i64,.l,.l]),(42,.c (.l)),(46,.a [.l,.i .i64,.i .i64,.l]),(48,.a [.l,.i .i64,.i .i64,.l,.l,.i .i64,.i .i64,.l,.l]),(80,.a [.i .i64,.i .i64]),(81,.a [.i .i64,.i .i64]),(88,.a [.l,.i .i64]),(90,.a [.i .i64,.i .i64]),(116,.a [.l,.i .i64]),(182,.c (.l)),(192,.c (.l)),(262,.c (.i .u64))]
def Hl (T:Nat):pD:=(match wC Xw T with|some x=>x|none=>.c (.k .top))
def Xx:List (Nat×Sh):=[(0,.t []),(2,.v (.c (.i .i64))),(3,.v (.c (.i .i64))),(4,.v (.c (.b))),(9,.v (.c (.s))),(21,.v (.c (.i .i32))),(22,.v (.c (.l))),(26,.v (.c (.l))),(29,.v (.c (.l))),(31,.v (.a [.l,.i .i64,.i .i64,.l])),(33,.v (.a [.l,.i .i64,.i .i64,.l,.l,.i .i64,.i .i64,.l,.l])),(35,.v (.c (.i .i64))),(36,.t [.c (.k .top),.a [.i .i64,.l,.l],.c (.i .i64)]),(42,.v (.c (.l))),(44,.v (.c (.l))),(46,.v (.a [.l,.i .i64,.i .i64,.l])),(48,.v (.a [.l,.i .i64,.i .i64,.l,.l,.i .i64,.i .i64,.l,.l])),(52,.t [.c (.l),.c (.l),.c (.b)]),(63,.v (.a [.i .i64,.l,.l])),(66,.v (.a [.i .i64,.l,.l])),(68,.t [.a [.l,.i .i64,.i .i64,.l,.l,.i .i64,.i .i64,.l,.l],.c (.i .i64)]),(70,.t [.a [.l,.i .i64,.i .i64,.l,.l,.i .i64,.i .i64,.l,.l],.c (.i .i64)]),(78,.v (.c (.l))),(82,.t [.c (.k .top),.c (.i .i64)]),(84,.v (.c (.l))),(88,.v (.a [.l,.i .i64])),(97,.v (.c (.i .u32))),(116,.v (.a [.l,.i .i64])),(128,.v (.c (.l))),(142,.v (.c (.l))),(150,.t [.c (.i .i64),.c (.b)]),(164,.t [.a [.l,.i .i64],.c (.i .i64)]),(173,.t [.a [.l,.i .i64],.c (.b)]),(176,.t [.a [.l,.i .i64,.i .i64,.l,.l,.i .i64,.i .i64,.l,.l],.c (.b)]),(179,.v (.c (.l))),(180,.t [.c (.l),.c (.b)]),(182,.v (.c (.l))),(198,.v (.c (.l))),(202,.v (.c (.k .top))),(204,.t [.c (.i .i64),.c (.k .top)]),(228,.t [.a [.l,.i .i64],.c (.b)]),(242,.v (.c (.l))),(244,.t [.a [.l,.i .i64,.i .i64,.l],.c (.l),.c (.b)]),(246,.t [.c (.l),.c (.i .i64)]),(250,.v (.c (.l))),(252,.v (.c (.l))),(253,.t [.c (.l),.c (.i .i64)]),(262,.v (.c (.i .u64))),(264,.v (.c (.k .top))),(275,.t [.a [.i .i64,.i .i64],.c (.b)]),(281,.v (.c (.i .u64))),(289,.v (.c (.k .top))),(294,.t [.c (.l),.c (.i .i64)]),(300,.t [.c (.i .i64),.c (.i .i64)]),(312,.t [.c (.l),.c (.s)]),(315,.t [.a [.i .i64,.i .i64],.c (.b)]),(333,.t [.c (.i .i64),.c (.i .i64)])]
def rsh (T:Nat):Sh:=(match wC Xx T with|some x=>x|none=>.v (.c (.k .top)))
def Xy:List (Nat×Ab):=[(200,.one (.v (.c .c)))]
def sig (f T:Nat):Ab:=(match wC Xy f with|some x=>x|none=>.one (rsh T))
def Q0:Nat→Option Lz
 |189=>some (.add .i64)
 |190=>some (.load .u32)
 |194=>some (.same)
 |214=>some (.store)
 |228=>some (.Wy .i32)
 |233=>some (.add .i32)
 |_=>none
theorem Q1:∀f x,Q0 f=some x→Wz Tryz.prog f x:=by
 intro f x h
 unfold Q0 at h
 split at h
 ·obtain rfl:=Option.some.inj h;exact⟨_,Tryz.func189,by kernel_rfl,by kernel_rfl,by kernel_rfl,by kernel_rfl⟩
 ·obtain rfl:=Option.some.inj h;exact⟨_,Tryz.func190,by kernel_rfl,by kernel_rfl,by kernel_rfl,by kernel_rfl⟩
 ·obtain rfl:=Option.some.inj h;exact⟨_,Tryz.func194,by kernel_rfl,by kernel_rfl,by kernel_rfl,by kernel_rfl⟩
 ·obtain rfl:=Option.some.inj h;exact⟨_,Tryz.func214,by kernel_rfl,by kernel_rfl,by kernel_rfl,by kernel_rfl⟩
 ·obtain rfl:=Option.some.inj h;exact⟨_,Tryz.func228,by kernel_rfl,by kernel_rfl,by kernel_rfl,by kernel_rfl⟩
 ·obtain rfl:=Option.some.inj h;exact⟨_,Tryz.func233,by kernel_rfl,by kernel_rfl,by kernel_rfl,by kernel_rfl⟩
 ·cases h
abbrev LC:=List (Nat×List (Option (List Nat))×List (Option (List Nat)))
abbrev LD:=List (Nat×List Nat)
abbrev LF:=List (Nat×Ab)
abbrev LG:=List (Nat×kz)
noncomputable def cfg (nt:Nat) (dr:LC) (sg:LF) (hc:LD) (br:LG) (mt:Bool) (dh:Option (List Nat)) (rm:List (Nat×Nat)):ck:={ P:=Tryz.prog,tab:=tab,Hl:=Hl,sig:=(fun f T=>match wC sg f with|some x=>x|none=>sig f T),nt:=nt,dr:=dr,hc:=hc,br:=br,mt:=mt,dh:=dh,rm:=rm,Zl:=(fun d=>wC sg (1000000+d)),ext:=⟨Q0,Q1⟩ }
theorem sS (nt:Nat) (dr:LC) (sg:LF) (hc:LD) (br:LG) (mt:Bool) (dh:Option (List Nat)) (rm:List (Nat×Nat)):aL (cfg nt dr sg hc br mt dh rm).P (cfg nt dr sg hc br mt dh rm).tab:=Dg
theorem sT (nt:Nat) (dr:LC) (sg:LF) (hc:LD) (br:LG) (mt:Bool) (dh:Option (List Nat)) (rm:List (Nat×Nat)):(cfg nt dr sg hc br mt dh rm).P.follows .mixedOrders=true:=by show Tryz.prog.follows .mixedOrders=true;kernel_rfl
def lv (l:List Nat):List (Nat×Option Sh):=l.map fun t=>(t,none)
def la (k:Nat) (l:List Nat) (rows:List (Nat×Nat):=[]):gG:={ key:=k,live:=lv l,rows:=rows }
theorem wE {fn:Func} {n:Nat} (h:(!(fn.name == "runtime.NumGoroutine")&&Nat.ble n fn.ntmps)=true):(fn.name == "runtime.NumGoroutine")=false∧Nat.ble n fn.ntmps=true:=by
 rw[Bool.and_eq_true,Bool.not_eq_true'] at h;exact h
theorem VN (dr:LC) (sg:LF) (hc:LD) (br:LG) (mt:Bool) (dh:Option (List Nat)) (rm:List (Nat×Nat)) (L:List gG) {f:FuncId} {fn:Func} {c:Code} {p:Prop} {args:List AV} {R:AV→Prop} (hf:Tryz.prog.funcs[f]?=some fn) (hb:fn.body=some c) (h0:(!(fn.name == "runtime.NumGoroutine")&&Nat.ble args.length fn.ntmps)=true) (he:p=cP (cfg fn.ntmps dr sg hc br mt dh rm) L c 0 true (Mw tab fn.results.toList R) ⟨cj 0 args,[],()⟩) (h:p):Pure Tryz.prog f args R:=
 xV (C:=cfg fn.ntmps dr sg hc br mt dh rm) (sS fn.ntmps dr sg hc br mt dh rm) (sT fn.ntmps dr sg hc br mt dh rm) (L:=L) hf hb (wE h0).1 (wE h0).2 rfl (of_eq he h)
theorem zc (dr:LC) (sg:LF) (hc:LD) (br:LG) (L:List gG) {f:FuncId} {fn:Func} {c:Code} {p:Prop} {args:List AV} {R:AV→Prop} (hf:Tryz.prog.funcs[f]?=some fn) (hb:fn.body=some c) (h0:(!(fn.name == "runtime.NumGoroutine")&&Nat.ble args.length fn.ntmps)=true) (he:p=cP (cfg fn.ntmps dr sg hc br false none []) L c 0 true (Mw tab fn.results.toList R) ⟨cj 0 args,[],()⟩) (h:p):Pure Tryz.prog f args R:=VN dr sg hc br false none [] L hf hb h0 he h
theorem eE (L:List gG) {f:FuncId} {fn:Func} {c:Code} {p:Prop} {args:List AV} {R:AV→Prop} (hf:Tryz.prog.funcs[f]?=some fn) (hb:fn.body=some c) (h0:(!(fn.name == "runtime.NumGoroutine")&&Nat.ble args.length fn.ntmps)=true) (he:p=cP (cfg fn.ntmps [] [] [] [] false none []) L c 0 true (Mw tab fn.results.toList R) ⟨cj 0 args,[],()⟩) (h:p):Pure Tryz.prog f args R:=VN [] [] [] [] false none [] L hf hb h0 he h
theorem Xz (dr:LC) (sg:LF) (hc:LD) (br:LG) (mt:Bool) (dh:Option (List Nat)) (rm:List (Nat×Nat)) (m:Nat) (L:List gG) {f:FuncId} {fn:Func} {c:Code} {p:Prop} {args:List AV} {hp:List af} {R:AV→List af→Prop} (hf:Tryz.prog.funcs[f]?=some fn) (hb:fn.body=some c) (h0:(!(fn.name == "runtime.NumGoroutine")&&Nat.ble args.length fn.ntmps)=true) (he:p=cP (cfg fn.ntmps dr sg hc br mt dh rm) L c hp.length true (E1 tab m fn.results.toList R) ⟨cj 0 args,hp,()⟩) (h:p) (hm:Nat.ble hp.length m=true:=by rfl):bJ Tryz.prog f args hp R:=
 sA (C:=cfg fn.ntmps dr sg hc br mt dh rm) (sS fn.ntmps dr sg hc br mt dh rm) (sT fn.ntmps dr sg hc br mt dh rm) (L:=L) m hm hf hb (wE h0).1 (wE h0).2 rfl (of_eq he h)
theorem iT (dr:LC) (sg:LF) (hc:LD) (br:LG) (m:Nat) (L:List gG) {f:FuncId} {fn:Func} {c:Code} {p:Prop} {args:List AV} {hp:List af} {R:AV→List af→Prop} (hf:Tryz.prog.funcs[f]?=some fn) (hb:fn.body=some c) (h0:(!(fn.name == "runtime.NumGoroutine")&&Nat.ble args.length fn.ntmps)=true) (he:p=cP (cfg fn.ntmps dr sg hc br false none []) L c hp.length true (E1 tab m fn.results.toList R) ⟨cj 0 args,hp,()⟩) (h:p) (hm:Nat.ble hp.length m=true:=by rfl):bJ Tryz.prog f args hp R:=Xz dr sg hc br false none [] m L hf hb h0 he h hm
theorem FL (m:Nat) (L:List gG) {f:FuncId} {fn:Func} {c:Code} {p:Prop} {args:List AV} {hp:List af} {R:AV→List af→Prop} (hf:Tryz.prog.funcs[f]?=some fn) (hb:fn.body=some c) (h0:(!(fn.name == "runtime.NumGoroutine")&&Nat.ble args.length fn.ntmps)=true) (he:p=cP (cfg fn.ntmps [] [] [] [] false none []) L c hp.length true (E1 tab m fn.results.toList R) ⟨cj 0 args,hp,()⟩) (h:p) (hm:Nat.ble hp.length m=true:=by rfl):bJ Tryz.prog f args hp R:=Xz [] [] [] [] false none [] m L hf hb h0 he h hm
theorem XA (dr:LC) (sg:LF) (hc:LD) (br:LG) (mt:Bool) (dh:Option (List Nat)) (rm:List (Nat×Nat)) (L:List gG) {f:FuncId} {fn:Func} {c:Code} {p:Prop} {args:List AV} {e size:Nat} {els:List AV} (hf:Tryz.prog.funcs[f]?=some fn) (hb:fn.body=some c) (h0:(!(fn.name == "runtime.NumGoroutine")&&Nat.ble args.length fn.ntmps)=true) (he:p=cP (cfg fn.ntmps dr sg hc br mt dh rm) L c 0 true (Ie tab fn.results.toList e size els) ⟨cj 0 args,[],()⟩) (h:p):CU Tryz.prog f args e size els:=
 Az (C:=cfg fn.ntmps dr sg hc br mt dh rm) (sS fn.ntmps dr sg hc br mt dh rm) (sT fn.ntmps dr sg hc br mt dh rm) (L:=L) hf hb (wE h0).1 (wE h0).2 rfl (of_eq he h)
theorem ykq (dr:LC) (sg:LF) (hc:LD) (br:LG) (mt:Bool) (dh:Option (List Nat)) (rm:List (Nat×Nat)) (L:List gG) {f:FuncId} {fn:Func} {c:Code} {args:AV→List AV} {Ls:List (List AV)} {kind:Bool} (hf:Tryz.prog.funcs[f]?=some fn) (hb:fn.body=some c) (h0:(fn.name == "runtime.NumGoroutine")=false) (hn:∀v,Nat.ble (args v).length fn.ntmps=true) (h:∀(yv:Value) (more:List (List AV)),eX (cfg fn.ntmps dr sg hc br mt dh rm) L yv c (Ja tab fn.results.toList kind (RY kind more)) ⟨cj 0 (args (.fn yv)),[],()⟩ (some (Ls++more))):vz Tryz.prog f args Ls kind:=AE (C:=cfg fn.ntmps dr sg hc br mt dh rm) (sS fn.ntmps dr sg hc br mt dh rm) (sT fn.ntmps dr sg hc br mt dh rm) (L:=L) hf hb h0 hn rfl h
theorem VO (dr:LC) (sg:LF) (hc:LD) (br:LG) (L:List gG) {f:FuncId} {fn:Func} {c:Code} {args:AV→List AV} {Ls:List (List AV)} {kind:Bool} (hf:Tryz.prog.funcs[f]?=some fn) (hb:fn.body=some c) (h0:(fn.name == "runtime.NumGoroutine")=false) (hn:∀v,Nat.ble (args v).length fn.ntmps=true) (h:∀(yv:Value) (more:List (List AV)),eX (cfg fn.ntmps dr sg hc br false none []) L yv c (Ja tab fn.results.toList kind (RY kind more)) ⟨cj 0 (args (.fn yv)),[],()⟩ (some (Ls++more))):vz Tryz.prog f args Ls kind:=ykq dr sg hc br false none [] L hf hb h0 hn h
abbrev pI (f:Nat) (a:List AV) (r:AV):Prop:=ag Tryz.prog f a r
abbrev bf (f:Nat) (a:List AV) (H:List af) (N:AV→List af→Prop):Prop:=∃S:AV→List af→Prop,bJ Tryz.prog f a H S∧∀r q,S r q→N r q
abbrev iL (ke:List (Int×Value)) (kn:Int) (kp:List AV) (kd:Int) (km:Int) (ks:Int) (kr:List AV) (ka:Int) (kt:List AV):List af:=[.aP (.i ke),.box [nI kn,.sl kp,.mp 0,.ae (.int .u32 kd),.ae (.int .i32 km),.ae (.int .u32 ks),.sl kr,nI ka,.sl kt]]
abbrev hM (hn:Int):List af:=[.box [nI hn],.box [.aS 63 [.ptr 0 0]]]
abbrev E3 (un:Nat) (us:List AV):List af:=[.cA 1 un,.row 5 1 us,.box [.ptr 0 0]]
abbrev Py (un:Nat) (us:List AV):List af:=[.cA 1 un,.row 5 1 us,.box [.ptr 0 0],.box [.aS 122 [.ptr 2 0]],.box [.aS 126 [.ptr 3 0,.ptr 4 0]]]
abbrev Pz (un:Nat) (us:List AV):List af:=[.cA 1 un,.row 5 1 us,.box [.ptr 0 0],.box [.aS 122 [.ptr 2 0]],.box [.aS 126 [.ptr 3 0,.ptr 4 0]],.box [.aS 127 [.ptr 4 0,.ptr 3 0,.ptr 5 0]]]
abbrev xW (hm:List AV):List af:=[.box [.sl hm],.box [.aS 84 [.ptr 0 0]]]
abbrev mJ (ke:List (Int×Value)) (kn:Int) (kp:List AV) (kd:Int) (km:Int) (ks:Int) (kr:List AV) (ka:Int) (kt:List AV) (fe:List (ByteArray×Value)) (iX:List AV) (iY:Int) (iZ:Int) (ja:List AV) (jb:List AV) (jc:Int) (jd:Int) (je:List AV) (pm:List AV) (ac:List AV) (od:Int) (om:Int) (ow:Int):List af:=[.aP (.i ke),.box [nI kn,.sl kp,.mp 0,.ae (.int .u32 kd),.ae (.int .i32 km),.ae (.int .u32 ks),.sl kr,nI ka,.sl kt],.aP (.s fe),.box [.sl iX,nI iY,nI iZ,.sl ja,.sl jb,nI jc,nI jd,.sl je,.sl pm,.ptr 1 0,.sl ac,.ae (.int .u32 od),.ae (.int .i32 om),.ae (.int .u32 ow),.mp 2]]
abbrev pV (ke:List (Int×Value)) (kn:Int) (kp:List AV) (kd:Int) (km:Int) (ks:Int) (kr:List AV) (ka:Int) (kt:List AV) (fe:List (ByteArray×Value)) (iX:List AV) (iY:Int) (iZ:Int) (ja:List AV) (jb:List AV) (jc:Int) (jd:Int) (je:List AV) (pm:List AV) (ac:List AV) (od:Int) (om:Int) (ow:Int):List af:=[.aP (.i ke),.box [nI kn,.sl kp,.mp 0,.ae (.int .u32 kd),.ae (.int .i32 km),.ae (.int .u32 ks),.sl kr,nI ka,.sl kt],.aP (.s fe),.box [.sl iX,nI iY,nI iZ,.sl ja,.sl jb,nI jc,nI jd,.sl je,.sl pm,.ptr 1 0,.sl ac,.ae (.int .u32 od),.ae (.int .i32 om),.ae (.int .u32 ow),.mp 2],.box [.ptr 3 0]]
abbrev oP (ke:List (Int×Value)) (kn:Int) (kp:List AV) (kd:Int) (km:Int) (ks:Int) (kr:List AV) (ka:Int) (kt:List AV) (fe:List (ByteArray×Value)) (iX:List AV) (iY:Int) (iZ:Int) (ja:List AV) (jb:List AV) (jc:Int) (jd:Int) (je:List AV) (pm:List AV) (ac:List AV) (od:Int) (om:Int) (ow:Int) (t0:List AV) (t1:Int) (t2:Int) (t3:List AV):List af:=[.aP (.i ke),.box [nI kn,.sl kp,.mp 0,.ae (.int .u32 kd),.ae (.int .i32 km),.ae (.int .u32 ks),.sl kr,nI ka,.sl kt],.aP (.s fe),.box [.sl iX,nI iY,nI iZ,.sl ja,.sl jb,nI jc,nI jd,.sl je,.sl pm,.ptr 1 0,.sl ac,.ae (.int .u32 od),.ae (.int .i32 om),.ae (.int .u32 ow),.mp 2],.box [.ptr 3 0],.box [.sl t0,nI t1,nI t2,.sl t3]]
abbrev Ua (ke:List (Int×Value)) (kn:Int) (kp:List AV) (kd:Int) (km:Int) (ks:Int) (kr:List AV) (ka:Int) (kt:List AV) (iX:List AV) (iY:Int) (iZ:Int) (ja:List AV) (jb:List AV) (jc:Int) (jd:Int) (je:List AV) (pm:List AV) (ac:List AV) (od:Int) (om:Int) (ow:Int):List af:=[.aP (.i ke),.box [nI kn,.sl kp,.mp 0,.ae (.int .u32 kd),.ae (.int .i32 km),.ae (.int .u32 ks),.sl kr,nI ka,.sl kt],.box [.sl iX,nI iY,nI iZ,.sl ja,.sl jb,nI jc,nI jd,.sl je,.sl pm,.ptr 1 0,.sl ac,.ae (.int .u32 od),.ae (.int .i32 om),.ae (.int .u32 ow),.ae (.map none)]]
abbrev PA (ke:List (Int×Value)) (kn:Int) (kp:List AV) (kd:Int) (km:Int) (ks:Int) (kr:List AV) (ka:Int) (kt:List AV) (iX:List AV) (iY:Int) (iZ:Int) (ja:List AV) (jb:List AV) (jc:Int) (jd:Int) (je:List AV) (pm:List AV) (ac:List AV) (od:Int) (om:Int) (ow:Int) (t0:List AV) (t1:Int) (t2:Int) (t3:List AV):List af:=[.aP (.i ke),.box [nI kn,.sl kp,.mp 0,.ae (.int .u32 kd),.ae (.int .i32 km),.ae (.int .u32 ks),.sl kr,nI ka,.sl kt],.box [.sl iX,nI iY,nI iZ,.sl ja,.sl jb,nI jc,nI jd,.sl je,.sl pm,.ptr 1 0,.sl ac,.ae (.int .u32 od),.ae (.int .i32 om),.ae (.int .u32 ow),.ae (.map none)],.box [.ptr 2 0],.box [.sl t0,nI t1,nI t2,.sl t3]]
end Go.Proofs.YtdcikhleahfknaaGreatDoor
