/- Texts of ours laid together for a claim: Sig. -/
import Derived.Test.YtjhanogfpkbamaaGreatDoorQ30
namespace Go.Proofs.YtjhanogfpkbamaaGreatDoor
open Go
set_option linter.unusedSimpArgs false
set_option linter.unusedVariables false
def findN {α:Type}:List (Nat×α)→Nat→Option α
 | [],_=>none
 |p::l,k=>(match Nat.beq p.1 k with|true=>some p.2|false=>findN l k)
def shtL:List (Nat×ShV):=[(3,.c (.i .i64)),(4,.c (.b)),(5,.c (.i .u8)),(9,.c (.s)),(42,.c (.l)),(43,.c (.l)),(48,.a [.l,.i .i64,.i .i64,.l]),(53,.a [.l,.i .i64,.i .i64,.l,.l,.i .i64,.i .i64,.l,.l,.l]),(58,.a [.l,.i .i64,.i .i64,.l]),(63,.a [.l,.i .i64,.i .i64,.l,.l,.i .i64,.i .i64,.l,.l,.l]),(101,.a [.l,.i .i64]),(107,.a [.i .i64,.b,.l,.l]),(121,.a [.i .i64,.b,.l,.l]),(124,.a [.i .i64,.l,.i .i64,.i .i64,.l]),(134,.a [.i .i64,.s,.i .i64]),(163,.a [.l,.i .i64]),(177,.a [.i .i64,.l,.i .i64,.i .i64,.l])]
def sht (T:Nat):ShV:=(match findN shtL T with|some x=>x|none=>.c (.k .top))
def rshL:List (Nat×Sh):=[(0,.t []),(3,.v (.c (.i .i64))),(4,.v (.c (.b))),(5,.v (.c (.i .u8))),(9,.v (.c (.s))),(22,.v (.c (.l))),(25,.v (.c (.l))),(27,.v (.a [.l])),(30,.t [.c (.s),.c (.i .i64)]),(32,.t [.c (.s),.c (.b)]),(36,.v (.a [.i .i64,.i .i64])),(38,.v (.a [.i .i64,.i .i64,.i .i64,.s])),(39,.t [.a [.l],.a [.i .i64,.i .i64,.i .i64,.s]]),(42,.v (.c (.l))),(43,.v (.c (.l))),(45,.v (.a [.i .i64,.i .i64])),(46,.v (.c (.l))),(48,.v (.a [.l,.i .i64,.i .i64,.l])),(50,.v (.a [.l,.i .i64,.i .i64,.l,.l,.i .i64,.i .i64,.l,.l])),(51,.v (.c (.l))),(53,.v (.a [.l,.i .i64,.i .i64,.l,.l,.i .i64,.i .i64,.l,.l,.l])),(54,.v (.c (.l))),(56,.v (.c (.l))),(58,.v (.a [.l,.i .i64,.i .i64,.l])),(60,.v (.a [.l,.i .i64,.i .i64,.l,.l,.i .i64,.i .i64,.l,.l])),(61,.v (.c (.l))),(71,.t [.a [.l,.i .i64,.i .i64,.l,.l,.i .i64,.i .i64,.l,.l],.c (.b)]),(94,.v (.c (.l))),(101,.v (.a [.l,.i .i64])),(104,.v (.c (.l))),(105,.v (.c (.l))),(107,.v (.a [.i .i64,.b,.l,.l])),(110,.v (.c (.k .top))),(119,.v (.c (.l))),(125,.v (.c (.l))),(126,.t [.c (.l),.a [.i .i64,.i .i64,.i .i64,.s]]),(129,.v (.c (.k .top))),(134,.v (.a [.i .i64,.s,.i .i64])),(156,.t [.c (.i .i64),.c (.b)]),(163,.v (.a [.l,.i .i64])),(173,.t [.c (.i .i64),.c (.k .top)]),(177,.v (.a [.i .i64,.l,.i .i64,.i .i64,.l])),(178,.v (.c (.k .top))),(180,.t [.a [.i .i64,.i .i64],.c (.i .i64)]),(185,.t [.c (.i .i64),.c (.i .i64)]),(210,.v (.c (.k .top))),(248,.t [.c (.l),.c (.s)]),(260,.t [.c (.i .i64),.c (.k .top)]),(262,.v (.c (.k .top))),(266,.t [.c (.i .u64),.c (.k .top)])]
def rsh (T:Nat):Sh:=(match findN rshL T with|some x=>x|none=>.v (.c (.k .top)))
def sigL:List (Nat×Sig):=[]
def sig (f T:Nat):Sig:=(match findN sigL f with|some x=>x|none=>.one (rsh T))
def extN:Nat→Option XOp
 |116=>some (.same)
 |_=>none
theorem ext_ok:∀f x,extN f=some x→XOk Tryz.prog f x:=by
 intro f x h
 unfold extN at h
 split at h
 ·obtain rfl:=Option.some.inj h;exact⟨_,Tryz.func116,by kernel_rfl,by kernel_rfl,by kernel_rfl,by kernel_rfl⟩
 ·cases h
noncomputable def cfg (nt:Nat) (dr:List (Nat×List (Option (List Nat))×List (Option (List Nat))):=[]) (sg:List (Nat×Sig):=[]) (hc:List (Nat×List Nat):=[]) (br:List (Nat×Plan):=[]):VCfg:={ P:=Tryz.prog,tab:=tab,sht:=sht,sig:=(fun f T=>match findN sg f with|some x=>x|none=>sig f T),nt:=nt,dr:=dr,hc:=hc,br:=br,sgd:=(fun d=>findN sg (1000000+d)),ext:=⟨extN,ext_ok⟩ }
theorem cfg_tab (nt:Nat) (dr:List (Nat×List (Option (List Nat))×List (Option (List Nat)))) (sg:List (Nat×Sig)) (hc:List (Nat×List Nat)) (br:List (Nat×Plan)):TabOk (cfg nt dr sg hc br).P (cfg nt dr sg hc br).tab:=tab_ok
theorem cfg_ord (nt:Nat) (dr:List (Nat×List (Option (List Nat))×List (Option (List Nat)))) (sg:List (Nat×Sig)) (hc:List (Nat×List Nat)) (br:List (Nat×Plan)):(cfg nt dr sg hc br).P.follows .mixedOrders=true:=by show Tryz.prog.follows .mixedOrders=true;kernel_rfl
abbrev pI (f:Nat) (a:List AV) (r:AV):Prop:=PureIs Tryz.prog f a r
abbrev callX (f:Nat) (a:List AV) (H:List AObj) (N:AV→List AObj→Prop):Prop:=∃S:AV→List AObj→Prop,HFn Tryz.prog f a H S∧∀r q,S r q→N r q
abbrev rdO (rl:List AV) (rs:ByteArray) (ra:Int):List AObj:=[.box [.sl rl,nS rs,nI ra]]
abbrev spO (s0:ByteArray) (fc:Int) (fl:Int) (fm:Int) (fw:ByteArray) (un:Nat) (ha:Int) (us:List AV):List AObj:=[.box [nS s0],.box [nI fc,nI fl,nI fm,nS fw],.box [.own 4 un],.box [nI ha],.row 134 3 us]
abbrev prO (un:Nat) (us:List AV) (pe:Int):List AObj:=[.bld 1 un,.row 5 1 us,.box [.ptr 0 0,nI pe]]
abbrev dcO (rl:List AV) (rs:ByteArray) (ra:Int) (fc:Int) (fl:Int) (fm:Int) (fw:ByteArray):List AObj:=[.box [.sl rl,nS rs,nI ra],.box [.ptr 0 0,nI fc,nI fl,nI fm,nS fw]]
abbrev dc3 (rl:List AV) (rs:ByteArray) (ra:Int) (fc:Int) (fl:Int) (fm:Int) (fw:ByteArray):List AObj:=[.box [.sl rl,nS rs,nI ra],.box [.ptr 0 0,nI fc,nI fl,nI fm,nS fw],.box [.ptr 1 0]]
abbrev dc4 (rl:List AV) (rs:ByteArray) (ra:Int) (fc:Int) (fl:Int) (fm:Int) (fw:ByteArray) (op:Int):List AObj:=[.box [.sl rl,nS rs,nI ra],.box [.ptr 0 0,nI fc,nI fl,nI fm,nS fw],.box [.ptr 1 0],.box [nI op]]
end Go.Proofs.YtjhanogfpkbamaaGreatDoor
