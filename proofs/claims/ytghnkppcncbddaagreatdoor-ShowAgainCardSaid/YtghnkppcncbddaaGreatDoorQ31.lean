/- Texts of ours laid together for a claim: Sig. -/
import Derived.Test.YtghnkppcncbddaaGreatDoorQ30
namespace Go.Proofs.YtghnkppcncbddaaGreatDoor
open Go
set_option linter.unusedSimpArgs false
set_option linter.unusedVariables false
def findN {α:Type}:List (Nat×α)→Nat→Option α
 | [],_=>none
 |p::l,k=>(match Nat.beq p.1 k with|true=>some p.2|false=>findN l k)
def shtL:List (Nat×ShV):=[(5,.c (.i .u8)),(9,.c (.s)),(22,.c (.l)),(30,.a [.l,.i .i64,.i .i64,.l]),(32,.a [.l,.i .i64]),(41,.a [.i .i64,.s,.i .i64,.l]),(45,.c (.l)),(47,.a [.l,.i .i64]),(51,.a [.i .i64,.s,.i .i64,.l]),(58,.a [.l,.i .i64,.i .i64,.l]),(73,.a [.i .i64,.l,.l,.i .i64,.i .i64]),(76,.a [.i .i64,.l,.l,.i .i64,.i .i64]),(129,.a [.i .i64,.s,.i .i64]),(201,.a [.i .i64,.s,.i .i64])]
def sht (T:Nat):ShV:=(match findN shtL T with|some x=>x|none=>.c (.k .top))
def rshL:List (Nat×Sh):=[(0,.t []),(3,.v (.c (.i .i64))),(4,.v (.c (.b))),(9,.v (.c (.s))),(22,.v (.c (.l))),(24,.v (.a [.l,.l,.l])),(25,.v (.c (.l))),(32,.v (.a [.l,.i .i64])),(36,.v (.a [.l,.l,.l])),(39,.v (.c (.l))),(41,.v (.a [.i .i64,.s,.i .i64,.l])),(43,.t [.a [.i .i64,.s,.i .i64,.l],.c (.i .i64)]),(45,.v (.c (.l))),(47,.v (.a [.l,.i .i64])),(49,.v (.c (.l))),(51,.v (.a [.i .i64,.s,.i .i64,.l])),(52,.t [.a [.i .i64,.s,.i .i64,.l],.c (.b)]),(56,.v (.c (.l))),(58,.v (.a [.l,.i .i64,.i .i64,.l])),(60,.t [.a [.i .i64,.s,.i .i64,.l],.c (.i .i64)]),(62,.t [.c (.s),.c (.i .i64)]),(70,.v (.c (.l))),(76,.v (.a [.i .i64,.l,.l,.i .i64,.i .i64])),(81,.v (.a [.i .i64,.i .i64])),(83,.v (.a [.i .i64,.i .i64,.i .i64,.s])),(84,.t [.c (.l),.a [.i .i64,.i .i64,.i .i64,.s]]),(96,.t [.a [.i .i64,.s,.i .i64,.l],.c (.b)]),(112,.v (.c (.l))),(118,.v (.c (.l))),(129,.v (.a [.i .i64,.s,.i .i64])),(131,.v (.c (.k .top))),(164,.t [.a [.s,.i .i64,.i .i64,.i .i64,.b,.b],.c (.b)]),(170,.t [.c (.i .i64),.c (.k .top)]),(173,.v (.c (.k .top))),(174,.v (.c (.l))),(175,.t [.c (.l),.a [.i .i64,.i .i64,.i .i64,.s]]),(195,.v (.c (.l))),(196,.v (.a [.i .i64,.i .i64])),(199,.t [.c (.l),.a [.i .i64,.i .i64,.i .i64,.s]]),(207,.t [.a [.i .i64,.i .i64],.c (.i .i64)]),(211,.t [.c (.i .i64),.c (.i .i64)]),(220,.t [.c (.i .i64),.c (.i .i64)]),(227,.v (.c (.k .top))),(239,.t [.c (.l),.c (.s)])]
def rsh (T:Nat):Sh:=(match findN rshL T with|some x=>x|none=>.v (.c (.k .top)))
def sigL:List (Nat×Sig):=[]
def sig (f T:Nat):Sig:=(match findN sigL f with|some x=>x|none=>.one (rsh T))
def extN:Nat→Option XOp
 |158=>some (.same)
 |_=>none
theorem ext_ok:∀f x,extN f=some x→XOk Tryz.prog f x:=by
 intro f x h
 unfold extN at h
 split at h
 ·obtain rfl:=Option.some.inj h;exact⟨_,Tryz.func158,by kernel_rfl,by kernel_rfl,by kernel_rfl,by kernel_rfl⟩
 ·cases h
noncomputable def cfg (nt:Nat) (dr:List (Nat×List (Option (List Nat))×List (Option (List Nat))):=[]) (sg:List (Nat×Sig):=[]) (hc:List (Nat×List Nat):=[]) (br:List (Nat×Plan):=[]):VCfg:={ P:=Tryz.prog,tab:=tab,sht:=sht,sig:=(fun f T=>match findN sg f with|some x=>x|none=>sig f T),nt:=nt,dr:=dr,hc:=hc,br:=br,sgd:=(fun d=>findN sg (1000000+d)),ext:=⟨extN,ext_ok⟩ }
theorem cfg_tab (nt:Nat) (dr:List (Nat×List (Option (List Nat))×List (Option (List Nat)))) (sg:List (Nat×Sig)) (hc:List (Nat×List Nat)) (br:List (Nat×Plan)):TabOk (cfg nt dr sg hc br).P (cfg nt dr sg hc br).tab:=tab_ok
theorem cfg_ord (nt:Nat) (dr:List (Nat×List (Option (List Nat))×List (Option (List Nat)))) (sg:List (Nat×Sig)) (hc:List (Nat×List Nat)) (br:List (Nat×Plan)):(cfg nt dr sg hc br).P.follows .mixedOrders=true:=by show Tryz.prog.follows .mixedOrders=true;kernel_rfl
abbrev pI (f:Nat) (a:List AV) (r:AV):Prop:=PureIs Tryz.prog f a r
abbrev callX (f:Nat) (a:List AV) (H:List AObj) (N:AV→List AObj→Prop):Prop:=∃S:AV→List AObj→Prop,HFn Tryz.prog f a H S∧∀r q,S r q→N r q
abbrev rdO (rl:List AV) (rs:ByteArray) (ra:Int):List AObj:=[.box [.sl rl,nS rs,nI ra]]
abbrev psO (rl:List AV) (rs:ByteArray) (ra:Int) (po:Int) (fc:Int) (fl:Int) (fm:Int) (fw:ByteArray):List AObj:=[.box [.sl rl,nS rs,nI ra],.box [.ptr 0 0,nI po,nI fc,nI fl,nI fm,nS fw]]
abbrev psQ (rl:List AV) (rs:ByteArray) (ra:Int) (po:Int) (fc:Int) (fl:Int) (fm:Int) (fw:ByteArray):List AObj:=[.box [.sl rl,nS rs,nI ra],.box [.ptr 0 0,nI po,nI fc,nI fl,nI fm,nS fw],.box [.ptr 1 0]]
abbrev spO (s0:ByteArray) (fc:Int) (fl:Int) (fm:Int) (fw:ByteArray) (un:Nat) (ha:Int) (us:List AV):List AObj:=[.box [nS s0],.box [nI fc,nI fl,nI fm,nS fw],.box [.own 4 un],.box [nI ha],.row 129 3 us]
end Go.Proofs.YtghnkppcncbddaaGreatDoor
