/- Texts of ours laid together for a claim: FilR. -/
import Derived.KernelRfl
import Derived.IntWalk
import Derived.Test.YtjhanogfpkbamaaGreatDoorQ05
namespace Go.Proofs.YtjhanogfpkbamaaGreatDoor
open Go
set_option linter.unusedSimpArgs false
set_option linter.unusedVariables false
variable {P:Program}
def fitsB (P:Program) (u:TypeDesc):TK→Bool
 | .other=>!aggD u
 | .int k=>(match u with | .int k'=>k==k' | _=>false)
 | .str=>(match u with | .string=>true|_=>false)
 | .bool=>(match u with | .bool=>true|_=>false)
 | .strct fs=>(match u with
  | .struct fields=>fields.toList.map (fun f=>(f.offset,(P.info? f.type).map (·.size),(P.underlying f.type).map aggD))==fs.map fun p=>(p.1,some p.2.1,some p.2.2)
  |_=>false)
 | .slc e=>(match u with | .slice e'=>e==e' | _=>false)
 | .mapk k e=>(match u with | .map k' e'=>k==k'&&e==e' | _=>false)
 | .ptr e=>(match u with | .pointer e'=>e==e' | _=>false)
 | .arr n=>(match u with | .array n' e=>n==n'&&(P.info? e).map (·.size)==some 1|_=>false)
 | .ifc=>(match u with | .interface _=>true|_=>false)
theorem fitsB_fits {u:TypeDesc} {k:TK} (h:fitsB P u k=true):k.fits P u:=by
 cases k with
 |other=>cases u<;>simp_all [fitsB,TK.fits,aggD]
 |int k=>cases u<;>simp_all [fitsB,TK.fits]
 |str=>cases u<;>simp_all [fitsB,TK.fits]
 |bool=>cases u<;>simp_all [fitsB,TK.fits]
 |strct fs=>cases u with
  |struct fields=>exact⟨fields,rfl,by simpa [fitsB] using h⟩
  |_=>simp[fitsB] at h
 |slc e=>cases u<;>simp_all [fitsB,TK.fits]
 |mapk k e=>cases u<;>simp_all [fitsB,TK.fits]
 |ptr e=>cases u<;>simp_all [fitsB,TK.fits]
 |arr n=>cases u with
  |array n' e=>
   simp only[fitsB,Bool.and_eq_true,beq_iff_eq] at h
   obtain⟨rfl,h⟩:=h
   obtain⟨i,h1,h2⟩:=Option.map_eq_some_iff.1 h
   exact⟨e,i,rfl,h1,h2⟩
  |_=>simp[fitsB] at h
 |ifc=>cases u<;>simp_all [fitsB,TK.fits]
def zeroB (d:TD):Bool:=
 (d.zero.cells.size==d.size)&&d.zero.cells.toList.all (·.oneCell')&&(if d.kind.agg=true then(match d.zero with | .agg _=>true|_=>false) else d.size==1&&d.zero.oneCell')
theorem tyOk_core {T:TypeId} {d:TD} (hi:(P.info? T).map (fun i=>(i.size,i.bytes,i.zero))=some (d.size,d.bytes,some d.zero)) (hu:(P.underlying T).map (fun u=>fitsB P u d.kind)=some true) (hz:zeroB d=true)
  (hf:d.flat=true→P.eqGuardType P.depth T=false∧∀(w:World) (a1 a2 b1 b2:Int),(Op.equalIn 10000 T (.agg #[.int .i64 a1,.int .i64 a2]) (.agg #[.int .i64 b1,.int .i64 b2])).run P w=.ok (a1==b1&&a2==b2) w):TyOk P T d:=by
 simp only[zeroB,Bool.and_eq_true,beq_iff_eq] at hz
 obtain⟨⟨z1,z2⟩,z3⟩:=hz
 refine⟨?_,?_,z1,fun v hv=>?_,fun ha=>?_,fun ha=>?_,hf⟩
 ·cases h:P.info? T with
  |none=>rw[h] at hi;cases hi
  |some i=>
   rw[h] at hi
   simp only[Option.map_some,Option.some.injEq,Prod.mk.injEq] at hi
   exact⟨i,rfl,hi.1,hi.2.1,hi.2.2⟩
 ·cases h:P.underlying T with
  |none=>rw[h] at hu;cases hu
  |some u=>
   rw[h] at hu
   exact⟨u,rfl,fitsB_fits (Option.some.inj hu)⟩
 ·exact List.all_eq_true.1 z2 v (Array.mem_toList_iff.2 hv)
 ·rw[if_pos ha] at z3
  cases hz:d.zero<;>rw[hz] at z3<;>first|exact⟨_,rfl⟩|cases z3
 ·rw[if_neg (by rw[ha];simp)] at z3
  simp only[Bool.and_eq_true,beq_iff_eq] at z3;exact z3
theorem tyOk_mk {T:TypeId} {d:TD} (hi:(P.info? T).map (fun i=>(i.size,i.bytes,i.zero))=some (d.size,d.bytes,some d.zero)) (hu:(P.underlying T).map (fun u=>fitsB P u d.kind)=some true) (hz:zeroB d=true) (hf:d.flat=false):TyOk P T d:=
 tyOk_core hi hu hz fun h=>by rw[hf] at h;cases h
theorem tyOk_flat {T:TypeId} {d:TD} (hi:(P.info? T).map (fun i=>(i.size,i.bytes,i.zero))=some (d.size,d.bytes,some d.zero)) (hu:(P.underlying T).map (fun u=>fitsB P u d.kind)=some true) (hz:zeroB d=true) (_hf:d.flat=true)
  (hg:P.eqGuardType P.depth T=false) (hs:P.stoodInHeld T=false) (hu2:(match P.underlying T with|some (.struct _)=>true|_=>false)=true)
  (hfs:(P.fieldsOf T).toList.map (fun f=>(f.name == "_",f.offset,(match P.underlying f.type with|some (.int .i64)=>true|_=>false)))=[(false,0,true),(false,1,true)]):TyOk P T d:=by
 refine tyOk_core hi hu hz fun _=>⟨hg,fun w a1 a2 b1 b2=>?_⟩
 have ht:P.underlying T=some (.struct (P.fieldsOf T)):=by
  unfold Program.fieldsOf
  split at hu2
  ·rename_i h;rw[h]
  ·cases hu2
 rw[run_equalIn_struct (P:=P) w 9999 T _ _ ht hs]
 generalize (P.fieldsOf T).toList=l at hfs
 cases l with
 |nil=>simp at hfs
 |cons f1 l=>cases l with
 |nil=>simp at hfs
 |cons f2 l=>cases l with
 |cons f3 l=>simp at hfs
 |nil=>
  simp only[List.map_cons,List.map_nil,List.cons.injEq,Prod.mk.injEq,and_true] at hfs
  obtain⟨⟨n1,o1,u1⟩,n2,o2,u2⟩:=hfs
  have hu1:P.underlying f1.type=some (.int .i64):=by
   split at u1
   ·assumption
   ·cases u1
  have hu2:P.underlying f2.type=some (.int .i64):=by
   split at u2
   ·assumption
   ·cases u2
  have m1:f1.name ≠ "_":=by intro h;rw[h] at n1;simp at n1
  have m2:f2.name ≠ "_":=by intro h;rw[h] at n2;simp at n2
  have q1:=fun w=>run_equalIn_int (P:=P) w 9998 f1.type .i64 .i64 a1 b1 hu1
  have q2:=fun w=>run_equalIn_int (P:=P) w 9998 f2.type .i64 .i64 a2 b2 hu2
  have g1:∀(w:World) (x y:Value),(part f1.type #[x,y] f1.offset).run P w=.ok x w:=fun w x y=>by simp[part,isAgg,run_underlying hu1,o1]
  have g2:∀(w:World) (x y:Value),(part f2.type #[x,y] f2.offset).run P w=.ok y w:=fun w x y=>by simp[part,isAgg,run_underlying hu2,o2]
  simp only[Op.eqFields,if_pos m1,if_pos m2,Sem.run_bind,g1,g2,Result.andThen_ok,q1]
  cases h1:a1==b1
  ·simp
  ·simp only[Bool.not_true,Bool.false_eq_true,if_false,Sem.run_bind,g2,Result.andThen_ok,q2]
   cases h2:a2==b2<;>simp
theorem tabOk_of {l:List (Nat×TD)} (h:∀p∈l,TyOk P p.1 p.2):TabOk P (fun T=>(l.find? (fun p=>p.1==T)).map (·.2)):=by
 intro T d hd
 simp only[Option.map_eq_some_iff] at hd
 obtain⟨p,h1,h2⟩:=hd
 have h3:=List.find?_some h1
 simp only[beq_iff_eq] at h3
 have h4:=h p (List.mem_of_find?_eq_some h1)
 rw[h3,h2] at h4
 exact h4
theorem wrap_succ {k:Nat} (h:k<4611686018427387904):IntKind.i64.wrap ((k:Int)+1)=((k+1:Nat):Int):=by
 rw[IntWalk.i64_in _ (by omega)];omega
theorem cells_top :AV.cells AV.top=[AV.top]:=rfl
theorem stor_top :AV.stor AV.top=false:=rfl
theorem isAgg_top :AV.isAgg AV.top=false:=rfl
theorem dataC_top (hp:List AObj) :AV.dataC hp AV.top=.top:=rfl
theorem dataV_top (hp:List AObj) :AV.dataV hp AV.top=AV.dataC hp AV.top:=rfl
theorem toData_top (hp:List AObj) :AV.toData hp AV.top=AV.dataV hp AV.top:=rfl
theorem cells_prim (v:Value):AV.cells (AV.prim v)=[(AV.prim v)]:=rfl
theorem stor_prim (v:Value):AV.stor (AV.prim v)=v.oneCell':=rfl
theorem isAgg_prim (v:Value):AV.isAgg (AV.prim v)=false:=rfl
theorem dataV_prim (hp:List AObj) (v:Value):AV.dataV hp (AV.prim v)=AV.dataC hp (AV.prim v):=rfl
theorem toData_prim (hp:List AObj) (v:Value):AV.toData hp (AV.prim v)=AV.dataV hp (AV.prim v):=rfl
theorem cells_fn (v:Value):AV.cells (AV.fn v)=[(AV.fn v)]:=rfl
theorem stor_fn (v:Value):AV.stor (AV.fn v)=true:=rfl
theorem isAgg_fn (v:Value):AV.isAgg (AV.fn v)=false:=rfl
theorem dataC_fn (hp:List AObj) (v:Value):AV.dataC hp (AV.fn v)=.fn v:=rfl
theorem dataV_fn (hp:List AObj) (v:Value):AV.dataV hp (AV.fn v)=AV.dataC hp (AV.fn v):=rfl
theorem toData_fn (hp:List AObj) (v:Value):AV.toData hp (AV.fn v)=AV.dataV hp (AV.fn v):=rfl
theorem cells_sl (l:List AV):AV.cells (AV.sl l)=[(AV.sl l)]:=rfl
theorem stor_sl (l:List AV):AV.stor (AV.sl l)=true:=rfl
theorem isAgg_sl (l:List AV):AV.isAgg (AV.sl l)=false:=rfl
theorem dataC_sl (hp:List AObj) (l:List AV):AV.dataC hp (AV.sl l)=.sl l:=rfl
theorem dataV_sl (hp:List AObj) (l:List AV):AV.dataV hp (AV.sl l)=AV.dataC hp (AV.sl l):=rfl
theorem toData_sl (hp:List AObj) (l:List AV):AV.toData hp (AV.sl l)=AV.dataV hp (AV.sl l):=rfl
theorem cells_clip (l:List AV):AV.cells (AV.clip l)=[(AV.clip l)]:=rfl
theorem stor_clip (l:List AV):AV.stor (AV.clip l)=true:=rfl
theorem isAgg_clip (l:List AV):AV.isAgg (AV.clip l)=false:=rfl
theorem dataC_clip (hp:List AObj) (l:List AV):AV.dataC hp (AV.clip l)=.sl l:=rfl
theorem dataV_clip (hp:List AObj) (l:List AV):AV.dataV hp (AV.clip l)=AV.dataC hp (AV.clip l):=rfl
theorem toData_clip (hp:List AObj) (l:List AV):AV.toData hp (AV.clip l)=AV.dataV hp (AV.clip l):=rfl
theorem cells_own (r n:Nat):AV.cells (AV.own r n)=[(AV.own r n)]:=rfl
theorem stor_own (r n:Nat):AV.stor (AV.own r n)=true:=rfl
theorem isAgg_own (r n:Nat):AV.isAgg (AV.own r n)=false:=rfl
theorem dataV_own (hp:List AObj) (r n:Nat):AV.dataV hp (AV.own r n)=AV.dataC hp (AV.own r n):=rfl
theorem toData_own (hp:List AObj) (r n:Nat):AV.toData hp (AV.own r n)=AV.dataV hp (AV.own r n):=rfl
theorem cells_ptr (r o:Nat):AV.cells (AV.ptr r o)=[(AV.ptr r o)]:=rfl
theorem stor_ptr (r o:Nat):AV.stor (AV.ptr r o)=true:=rfl
theorem isAgg_ptr (r o:Nat):AV.isAgg (AV.ptr r o)=false:=rfl
theorem dataC_ptr (hp:List AObj) (r o:Nat):AV.dataC hp (AV.ptr r o)=.top:=rfl
theorem dataV_ptr (hp:List AObj) (r o:Nat):AV.dataV hp (AV.ptr r o)=AV.dataC hp (AV.ptr r o):=rfl
theorem toData_ptr (hp:List AObj) (r o:Nat):AV.toData hp (AV.ptr r o)=AV.dataV hp (AV.ptr r o):=rfl
theorem cells_eptr (e:AV) (o:Nat):AV.cells (AV.eptr e o)=[(AV.eptr e o)]:=rfl
theorem stor_eptr (e:AV) (o:Nat):AV.stor (AV.eptr e o)=true:=rfl
theorem isAgg_eptr (e:AV) (o:Nat):AV.isAgg (AV.eptr e o)=false:=rfl
theorem dataC_eptr (hp:List AObj) (e:AV) (o:Nat):AV.dataC hp (AV.eptr e o)=.eptr e o:=rfl
theorem dataV_eptr (hp:List AObj) (e:AV) (o:Nat):AV.dataV hp (AV.eptr e o)=AV.dataC hp (AV.eptr e o):=rfl
theorem toData_eptr (hp:List AObj) (e:AV) (o:Nat):AV.toData hp (AV.eptr e o)=AV.dataV hp (AV.eptr e o):=rfl
theorem cells_agg (l:List AV):AV.cells (AV.agg l)=l:=rfl
theorem stor_agg (l:List AV):AV.stor (AV.agg l)=true:=rfl
theorem isAgg_agg (l:List AV):AV.isAgg (AV.agg l)=true:=rfl
theorem dataC_agg (hp:List AObj) (l:List AV):AV.dataC hp (AV.agg l)=.top:=rfl
theorem dataV_agg (hp:List AObj) (l:List AV):AV.dataV hp (.agg l)=.agg (l.map (AV.dataC hp)):=rfl
theorem toData_agg (hp:List AObj) (l:List AV):AV.toData hp (AV.agg l)=AV.dataV hp (AV.agg l):=rfl
theorem cells_tup (l:List AV):AV.cells (AV.tup l)=[(AV.tup l)]:=rfl
theorem stor_tup (l:List AV):AV.stor (AV.tup l)=false:=rfl
theorem isAgg_tup (l:List AV):AV.isAgg (AV.tup l)=false:=rfl
theorem dataC_tup (hp:List AObj) (l:List AV):AV.dataC hp (AV.tup l)=.top:=rfl
theorem dataV_tup (hp:List AObj) (l:List AV):AV.dataV hp (AV.tup l)=AV.dataC hp (AV.tup l):=rfl
theorem toData_tup (hp:List AObj) (l:List AV):AV.toData hp (.tup l)=.tup (l.map (AV.dataV hp)):=rfl
theorem cells_clo (f:Nat) (l:List AV):AV.cells (AV.clo f l)=[(AV.clo f l)]:=rfl
theorem stor_clo (f:Nat) (l:List AV):AV.stor (AV.clo f l)=true:=rfl
theorem isAgg_clo (f:Nat) (l:List AV):AV.isAgg (AV.clo f l)=false:=rfl
theorem dataC_clo (hp:List AObj) (f:Nat) (l:List AV):AV.dataC hp (AV.clo f l)=(match l with | []=>.clo f []|_=>.top):=rfl
theorem dataV_clo (hp:List AObj) (f:Nat) (l:List AV):AV.dataV hp (AV.clo f l)=AV.dataC hp (AV.clo f l):=rfl
theorem toData_clo (hp:List AObj) (f:Nat) (l:List AV):AV.toData hp (.clo f l)=.clo f (l.map (AV.dataV hp)):=rfl
theorem cells_mp (r:Nat):AV.cells (AV.mp r)=[(AV.mp r)]:=rfl
theorem stor_mp (r:Nat):AV.stor (AV.mp r)=true:=rfl
theorem isAgg_mp (r:Nat):AV.isAgg (AV.mp r)=false:=rfl
theorem dataC_mp (hp:List AObj) (r:Nat):AV.dataC hp (AV.mp r)=.top:=rfl
theorem dataV_mp (hp:List AObj) (r:Nat):AV.dataV hp (AV.mp r)=AV.dataC hp (AV.mp r):=rfl
theorem toData_mp (hp:List AObj) (r:Nat):AV.toData hp (AV.mp r)=AV.dataV hp (AV.mp r):=rfl
theorem cells_mapv (es:ME):AV.cells (AV.mapv es)=[(AV.mapv es)]:=rfl
theorem stor_mapv (es:ME):AV.stor (AV.mapv es)=true:=rfl
theorem isAgg_mapv (es:ME):AV.isAgg (AV.mapv es)=false:=rfl
theorem dataC_mapv (hp:List AObj) (es:ME):AV.dataC hp (AV.mapv es)=.mapv es:=rfl
theorem dataV_mapv (hp:List AObj) (es:ME):AV.dataV hp (AV.mapv es)=AV.dataC hp (AV.mapv es):=rfl
theorem toData_mapv (hp:List AObj) (es:ME):AV.toData hp (AV.mapv es)=AV.dataV hp (AV.mapv es):=rfl
theorem dataC_prim_int (hp:List AObj) (k:IntKind) (n:Int):AV.dataC hp (.prim (Value.int k n))=.prim (Value.int k n):=rfl
theorem one_int (k:IntKind) (n:Int):Value.oneCell' (Value.int k n)=true:=rfl
theorem asSl_prim_int (hp:List AObj) (k:IntKind) (n:Int):AV.asSl hp (.prim (Value.int k n))=none:=rfl
theorem dataC_prim_bool (hp:List AObj) (b:Bool):AV.dataC hp (.prim (Value.bool b))=.prim (Value.bool b):=rfl
theorem one_bool (b:Bool):Value.oneCell' (Value.bool b)=true:=rfl
theorem asSl_prim_bool (hp:List AObj) (b:Bool):AV.asSl hp (.prim (Value.bool b))=none:=rfl
theorem dataC_prim_str (hp:List AObj) (s:ByteArray):AV.dataC hp (.prim (Value.string s))=.prim (Value.string s):=rfl
theorem one_str (s:ByteArray):Value.oneCell' (Value.string s)=true:=rfl
theorem asSl_prim_str (hp:List AObj) (s:ByteArray):AV.asSl hp (.prim (Value.string s))=none:=rfl
theorem dataC_prim_nilf (hp:List AObj) :AV.dataC hp (.prim Value.nilFunc)=.prim Value.nilFunc:=rfl
theorem one_nilf :Value.oneCell' Value.nilFunc=true:=rfl
theorem asSl_prim_nilf (hp:List AObj) :AV.asSl hp (.prim Value.nilFunc)=none:=rfl
theorem dataC_prim_nili (hp:List AObj) :AV.dataC hp (.prim Value.nilIface)=.prim Value.nilIface:=rfl
theorem one_nili :Value.oneCell' Value.nilIface=true:=rfl
theorem asSl_prim_nili (hp:List AObj) :AV.asSl hp (.prim Value.nilIface)=none:=rfl
theorem dataC_nil (hp:List AObj):AV.dataC hp (.prim (.slice none 0 0))=.sl []:=rfl
theorem one_slice (a:Option Addr) (n c:Nat):Value.oneCell' (.slice a n c)=true:=rfl
theorem one_map (a:Option Nat):Value.oneCell' (.map a)=true:=rfl
theorem one_ptr (a:Option Addr):Value.oneCell' (.pointer a)=true:=rfl
theorem asSl_nil (hp:List AObj):AV.asSl hp (.prim (.slice none 0 0))=some []:=rfl
theorem asSl_sl (hp:List AObj) (l:List AV):AV.asSl hp (.sl l)=some l:=rfl
theorem asSl_clip (hp:List AObj) (l:List AV):AV.asSl hp (.clip l)=some l:=rfl
theorem asSl_own (hp:List AObj) (r n:Nat):AV.asSl hp (.own r n)=(match hp[r]? with|some (.row _ _ els)=>if n=els.length then some els else none|_=>none):=rfl
theorem dataC_own (hp:List AObj) (r n:Nat):AV.dataC hp (.own r n)=(match AV.asSl hp (.own r n) with|some els=>.sl els|none=>.top):=rfl
theorem asSl_top (hp:List AObj) :AV.asSl hp AV.top=none:=rfl
theorem asSl_fn (hp:List AObj) (v:Value):AV.asSl hp (AV.fn v)=none:=rfl
theorem asSl_ptr (hp:List AObj) (r o:Nat):AV.asSl hp (AV.ptr r o)=none:=rfl
theorem asSl_eptr (hp:List AObj) (e:AV) (o:Nat):AV.asSl hp (AV.eptr e o)=none:=rfl
theorem asSl_agg (hp:List AObj) (l:List AV):AV.asSl hp (AV.agg l)=none:=rfl
theorem asSl_tup (hp:List AObj) (l:List AV):AV.asSl hp (AV.tup l)=none:=rfl
theorem asSl_clo (hp:List AObj) (f:Nat) (l:List AV):AV.asSl hp (AV.clo f l)=none:=rfl
theorem asSl_mp (hp:List AObj) (r:Nat):AV.asSl hp (AV.mp r)=none:=rfl
theorem asSl_mapv (hp:List AObj) (es:ME):AV.asSl hp (AV.mapv es)=none:=rfl
theorem asMap_mapv (hp:List AObj) (es:ME):AV.asMap hp (AV.mapv es)=some es:=rfl
theorem asMap_mp (hp:List AObj) (r:Nat):AV.asMap hp (AV.mp r)=(match hp[r]? with|some (.mapo es)=>some es|_=>none):=rfl
theorem obo1:(AV.cells AV.top=[AV.top])∧(AV.stor AV.top=false)∧(AV.isAgg AV.top=false)∧(∀(hp:List AObj),AV.dataC hp AV.top=.top)∧(∀(hp:List AObj),AV.dataV hp AV.top=AV.dataC hp AV.top)∧(∀(hp:List AObj),AV.toData hp AV.top=AV.dataV hp AV.top)∧(∀(v:Value),AV.cells (AV.prim v)=[(AV.prim v)])∧(∀(v:Value),AV.stor (AV.prim v)=v.oneCell')∧(∀(v:Value),AV.isAgg (AV.prim v)=false)∧(∀(hp:List AObj) (v:Value),AV.dataV hp (AV.prim v)=AV.dataC hp (AV.prim v))∧(∀(hp:List AObj) (v:Value),AV.toData hp (AV.prim v)=AV.dataV hp (AV.prim v))∧(∀(v:Value),AV.cells (AV.fn v)=[(AV.fn v)])∧(∀(v:Value),AV.stor (AV.fn v)=true)∧(∀(v:Value),AV.isAgg (AV.fn v)=false)∧(∀(hp:List AObj) (v:Value),AV.dataC hp (AV.fn v)=.fn v)∧(∀(hp:List AObj) (v:Value),AV.dataV hp (AV.fn v)=AV.dataC hp (AV.fn v))∧(∀(hp:List AObj) (v:Value),AV.toData hp (AV.fn v)=AV.dataV hp (AV.fn v))∧(∀(l:List AV),AV.cells (AV.sl l)=[(AV.sl l)])∧(∀(l:List AV),AV.stor (AV.sl l)=true)∧(∀(l:List AV),AV.isAgg (AV.sl l)=false)∧(∀(hp:List AObj) (l:List AV),AV.dataC hp (AV.sl l)=.sl l)∧(∀(hp:List AObj) (l:List AV),AV.dataV hp (AV.sl l)=AV.dataC hp (AV.sl l))∧(∀(hp:List AObj) (l:List AV),AV.toData hp (AV.sl l)=AV.dataV hp (AV.sl l))∧(∀(l:List AV),AV.cells (AV.clip l)=[(AV.clip l)])∧(∀(l:List AV),AV.stor (AV.clip l)=true)∧(∀(l:List AV),AV.isAgg (AV.clip l)=false)∧(∀(hp:List AObj) (l:List AV),AV.dataC hp (AV.clip l)=.sl l)∧(∀(hp:List AObj) (l:List AV),AV.dataV hp (AV.clip l)=AV.dataC hp (AV.clip l))∧(∀(hp:List AObj) (l:List AV),AV.toData hp (AV.clip l)=AV.dataV hp (AV.clip l))∧(∀(r n:Nat),AV.cells (AV.own r n)=[(AV.own r n)])∧(∀(r n:Nat),AV.stor (AV.own r n)=true)∧(∀(r n:Nat),AV.isAgg (AV.own r n)=false)∧(∀(hp:List AObj) (r n:Nat),AV.dataV hp (AV.own r n)=AV.dataC hp (AV.own r n))∧(∀(hp:List AObj) (r n:Nat),AV.toData hp (AV.own r n)=AV.dataV hp (AV.own r n))∧(∀(r o:Nat),AV.cells (AV.ptr r o)=[(AV.ptr r o)])∧(∀(r o:Nat),AV.stor (AV.ptr r o)=true)∧(∀(r o:Nat),AV.isAgg (AV.ptr r o)=false)∧(∀(hp:List AObj) (r o:Nat),AV.dataC hp (AV.ptr r o)=.top)∧(∀(hp:List AObj) (r o:Nat),AV.dataV hp (AV.ptr r o)=AV.dataC hp (AV.ptr r o))∧(∀(hp:List AObj) (r o:Nat),AV.toData hp (AV.ptr r o)=AV.dataV hp (AV.ptr r o)):=
 ⟨@cells_top,@stor_top,@isAgg_top,@dataC_top,@dataV_top,@toData_top,@cells_prim,@stor_prim,@isAgg_prim,@dataV_prim,@toData_prim,@cells_fn,@stor_fn,@isAgg_fn,@dataC_fn,@dataV_fn,@toData_fn,@cells_sl,@stor_sl,@isAgg_sl,@dataC_sl,@dataV_sl,@toData_sl,@cells_clip,@stor_clip,@isAgg_clip,@dataC_clip,@dataV_clip,@toData_clip,@cells_own,@stor_own,@isAgg_own,@dataV_own,@toData_own,@cells_ptr,@stor_ptr,@isAgg_ptr,@dataC_ptr,@dataV_ptr,@toData_ptr⟩
theorem obo2:(∀(e:AV) (o:Nat),AV.cells (AV.eptr e o)=[(AV.eptr e o)])∧(∀(e:AV) (o:Nat),AV.stor (AV.eptr e o)=true)∧(∀(e:AV) (o:Nat),AV.isAgg (AV.eptr e o)=false)∧(∀(hp:List AObj) (e:AV) (o:Nat),AV.dataC hp (AV.eptr e o)=.eptr e o)∧(∀(hp:List AObj) (e:AV) (o:Nat),AV.dataV hp (AV.eptr e o)=AV.dataC hp (AV.eptr e o))∧(∀(hp:List AObj) (e:AV) (o:Nat),AV.toData hp (AV.eptr e o)=AV.dataV hp (AV.eptr e o))∧(∀(l:List AV),AV.cells (AV.agg l)=l)∧(∀(l:List AV),AV.stor (AV.agg l)=true)∧(∀(l:List AV),AV.isAgg (AV.agg l)=true)∧(∀(hp:List AObj) (l:List AV),AV.dataC hp (AV.agg l)=.top)∧(∀(hp:List AObj) (l:List AV),AV.dataV hp (.agg l)=.agg (l.map (AV.dataC hp)))∧(∀(hp:List AObj) (l:List AV),AV.toData hp (AV.agg l)=AV.dataV hp (AV.agg l))∧(∀(l:List AV),AV.cells (AV.tup l)=[(AV.tup l)])∧(∀(l:List AV),AV.stor (AV.tup l)=false)∧(∀(l:List AV),AV.isAgg (AV.tup l)=false)∧(∀(hp:List AObj) (l:List AV),AV.dataC hp (AV.tup l)=.top)∧(∀(hp:List AObj) (l:List AV),AV.dataV hp (AV.tup l)=AV.dataC hp (AV.tup l))∧(∀(hp:List AObj) (l:List AV),AV.toData hp (.tup l)=.tup (l.map (AV.dataV hp)))∧(∀(f:Nat) (l:List AV),AV.cells (AV.clo f l)=[(AV.clo f l)])∧(∀(f:Nat) (l:List AV),AV.stor (AV.clo f l)=true)∧(∀(f:Nat) (l:List AV),AV.isAgg (AV.clo f l)=false)∧(∀(hp:List AObj) (f:Nat) (l:List AV),AV.dataC hp (AV.clo f l)=(match l with | []=>.clo f []|_=>.top))∧(∀(hp:List AObj) (f:Nat) (l:List AV),AV.dataV hp (AV.clo f l)=AV.dataC hp (AV.clo f l))∧(∀(hp:List AObj) (f:Nat) (l:List AV),AV.toData hp (.clo f l)=.clo f (l.map (AV.dataV hp)))∧(∀(r:Nat),AV.cells (AV.mp r)=[(AV.mp r)])∧(∀(r:Nat),AV.stor (AV.mp r)=true)∧(∀(r:Nat),AV.isAgg (AV.mp r)=false)∧(∀(hp:List AObj) (r:Nat),AV.dataC hp (AV.mp r)=.top)∧(∀(hp:List AObj) (r:Nat),AV.dataV hp (AV.mp r)=AV.dataC hp (AV.mp r))∧(∀(hp:List AObj) (r:Nat),AV.toData hp (AV.mp r)=AV.dataV hp (AV.mp r))∧(∀(es:ME),AV.cells (AV.mapv es)=[(AV.mapv es)])∧(∀(es:ME),AV.stor (AV.mapv es)=true)∧(∀(es:ME),AV.isAgg (AV.mapv es)=false)∧(∀(hp:List AObj) (es:ME),AV.dataC hp (AV.mapv es)=.mapv es)∧(∀(hp:List AObj) (es:ME),AV.dataV hp (AV.mapv es)=AV.dataC hp (AV.mapv es))∧(∀(hp:List AObj) (es:ME),AV.toData hp (AV.mapv es)=AV.dataV hp (AV.mapv es))∧(∀(hp:List AObj) (k:IntKind) (n:Int),AV.dataC hp (.prim (Value.int k n))=.prim (Value.int k n))∧(∀(k:IntKind) (n:Int),Value.oneCell' (Value.int k n)=true)∧(∀(hp:List AObj) (k:IntKind) (n:Int),AV.asSl hp (.prim (Value.int k n))=none)∧(∀(hp:List AObj) (b:Bool),AV.dataC hp (.prim (Value.bool b))=.prim (Value.bool b)):=
 ⟨@cells_eptr,@stor_eptr,@isAgg_eptr,@dataC_eptr,@dataV_eptr,@toData_eptr,@cells_agg,@stor_agg,@isAgg_agg,@dataC_agg,@dataV_agg,@toData_agg,@cells_tup,@stor_tup,@isAgg_tup,@dataC_tup,@dataV_tup,@toData_tup,@cells_clo,@stor_clo,@isAgg_clo,@dataC_clo,@dataV_clo,@toData_clo,@cells_mp,@stor_mp,@isAgg_mp,@dataC_mp,@dataV_mp,@toData_mp,@cells_mapv,@stor_mapv,@isAgg_mapv,@dataC_mapv,@dataV_mapv,@toData_mapv,@dataC_prim_int,@one_int,@asSl_prim_int,@dataC_prim_bool⟩
theorem obo3:(∀(b:Bool),Value.oneCell' (Value.bool b)=true)∧(∀(hp:List AObj) (b:Bool),AV.asSl hp (.prim (Value.bool b))=none)∧(∀(hp:List AObj) (s:ByteArray),AV.dataC hp (.prim (Value.string s))=.prim (Value.string s))∧(∀(s:ByteArray),Value.oneCell' (Value.string s)=true)∧(∀(hp:List AObj) (s:ByteArray),AV.asSl hp (.prim (Value.string s))=none)∧(∀(hp:List AObj),AV.dataC hp (.prim Value.nilFunc)=.prim Value.nilFunc)∧(Value.oneCell' Value.nilFunc=true)∧(∀(hp:List AObj),AV.asSl hp (.prim Value.nilFunc)=none)∧(∀(hp:List AObj),AV.dataC hp (.prim Value.nilIface)=.prim Value.nilIface)∧(Value.oneCell' Value.nilIface=true)∧(∀(hp:List AObj),AV.asSl hp (.prim Value.nilIface)=none)∧(∀(hp:List AObj),AV.dataC hp (.prim (.slice none 0 0))=.sl [])∧(∀(a:Option Addr) (n c:Nat),Value.oneCell' (.slice a n c)=true)∧(∀(a:Option Nat),Value.oneCell' (.map a)=true)∧(∀(a:Option Addr),Value.oneCell' (.pointer a)=true)∧(∀(hp:List AObj),AV.asSl hp (.prim (.slice none 0 0))=some [])∧(∀(hp:List AObj) (l:List AV),AV.asSl hp (.sl l)=some l)∧(∀(hp:List AObj) (l:List AV),AV.asSl hp (.clip l)=some l)∧(∀(hp:List AObj) (r n:Nat),AV.asSl hp (.own r n)=(match hp[r]? with|some (.row _ _ els)=>if n=els.length then some els else none|_=>none))∧(∀(hp:List AObj) (r n:Nat),AV.dataC hp (.own r n)=(match AV.asSl hp (.own r n) with|some els=>.sl els|none=>.top))∧(∀(hp:List AObj),AV.asSl hp AV.top=none)∧(∀(hp:List AObj) (v:Value),AV.asSl hp (AV.fn v)=none)∧(∀(hp:List AObj) (r o:Nat),AV.asSl hp (AV.ptr r o)=none)∧(∀(hp:List AObj) (e:AV) (o:Nat),AV.asSl hp (AV.eptr e o)=none)∧(∀(hp:List AObj) (l:List AV),AV.asSl hp (AV.agg l)=none)∧(∀(hp:List AObj) (l:List AV),AV.asSl hp (AV.tup l)=none)∧(∀(hp:List AObj) (f:Nat) (l:List AV),AV.asSl hp (AV.clo f l)=none)∧(∀(hp:List AObj) (r:Nat),AV.asSl hp (AV.mp r)=none)∧(∀(hp:List AObj) (es:ME),AV.asSl hp (AV.mapv es)=none)∧(∀(hp:List AObj) (es:ME),AV.asMap hp (AV.mapv es)=some es)∧(∀(hp:List AObj) (r:Nat),AV.asMap hp (AV.mp r)=(match hp[r]? with|some (.mapo es)=>some es|_=>none)):=
 ⟨@one_bool,@asSl_prim_bool,@dataC_prim_str,@one_str,@asSl_prim_str,@dataC_prim_nilf,@one_nilf,@asSl_prim_nilf,@dataC_prim_nili,@one_nili,@asSl_prim_nili,@dataC_nil,@one_slice,@one_map,@one_ptr,@asSl_nil,@asSl_sl,@asSl_clip,@asSl_own,@dataC_own,@asSl_top,@asSl_fn,@asSl_ptr,@asSl_eptr,@asSl_agg,@asSl_tup,@asSl_clo,@asSl_mp,@asSl_mapv,@asMap_mapv,@asMap_mp⟩
theorem core1:(∀{α:Type} {x:Decidable True} (t e:α),(if True then t else e)=t)∧(∀{α:Type} {x:Decidable False} (t e:α),(if False then t else e)=e)∧(∀{α:Type} (a b:α),(if True then a else b)=a)∧(∀{α:Type} (a b:α),(if False then a else b)=b)∧(∀{α:Type} {a:α} {l:List α},(a::l)[0]?=some a)∧(∀{α:Type} {a:α} {i:Nat} {l:List α},(a::l)[i+1]?=l[i]?)∧(∀{α:Type} {a:α} {as:List α},(a::as).length=as.length+1)∧(∀{α:Type} {as bs:List α},(as++bs).length=as.length+bs.length)∧(∀{α:Type} {a:α} {as bs:List α},a::as++bs=a::(as++bs))∧(∀{α:Type} {x:α} {xs:List α} {a:α},(x::xs).set 0 a=a::xs)∧(∀{α:Type} {x:α} {xs:List α} {i:Nat} {a:α},(x::xs).set (i+1) a=x::xs.set i a)∧(∀{α:Type} {a:α} {as:List α} {i:Nat},List.take (i+1) (a::as)=a::List.take i as)∧(∀{α:Type} {l:List α},List.drop 0 l=l)∧(∀{α:Type} {a:α} {l:List α} {i:Nat},List.drop (i+1) (a::l)=List.drop i l)∧(∀{α β:Type} {f:α→β} {a:α} {l:List α},List.map f (a::l)=f a::List.map f l)∧(∀{α:Type} {as:List α},as.toArray.toList=as)∧(∀{α:Type} {xs:List α} {i:Nat},xs.toArray[i]?=xs[i]?)∧(∀{α:Type} {as:List α},as.toArray.size=as.length)∧(∀{α β:Type} (a:α) (f:α→β),Option.map f (some a)=some (f a))∧(∀{α β:Type} (a:α) (f:α→Option β),(some a).bind f=f a)∧(∀{α:Type} {a:α},(some a).isSome=true)∧(∀(p:Prop),(True∧p)=p)∧(∀(p:Prop),(p∧True)=p)∧(∀(p:Prop),(True→p)=p):=
 ⟨@if_true.{1},@if_false.{1},@ite_true.{1},@ite_false.{1},@List.getElem?_cons_zero.{0},@List.getElem?_cons_succ.{0},@List.length_cons.{0},@List.length_append.{0},@List.cons_append.{0},@List.set_cons_zero.{0},@List.set_cons_succ.{0},@List.take_succ_cons.{0},@List.drop_zero.{0},@List.drop_succ_cons.{0},@List.map_cons.{0,0},@List.toList_toArray.{0},@List.getElem?_toArray.{0},@List.size_toArray.{0},@Option.map_some.{0,0},@Option.bind_some.{0,0},@Option.isSome_some.{0},@true_and,@and_true,@true_implies⟩
theorem core2:(∀{b:Prop} (α:Type) [i:Nonempty α],(∀(a:α),b)↔b)∧(∀{b:Prop} (α:Prop) [i:Nonempty α],α→b↔b)∧((¬True)=False)∧((¬False)=True)∧(∀(p:Prop),(False→p)=True)∧(∀(n:Nat),0+n=n)∧(∀(n:Nat),n+0=n)∧(∀(h:Decidable True),decide True=true)∧(∀(h:Decidable False),decide False=false)∧((false=true)=False)∧((!true)=false)∧((!false)=true)∧(∀(n:Nat),0<n.succ)∧(∀{α:Type} (a b:α),(a≠b)=¬a=b)∧(∀(b:Bool),(true&&b)=b)∧(∀(b:Bool),(b&&true)=b)∧(∀{α:Type} [inst:BEq α] [ReflBEq α] (a:α),(a==a)=true)∧(∀{α:Type} (val val_1:α),(some val=some val_1)=(val=val_1))∧(¬False↔True)∧(∀(a b:Bool),((a&&b)=true)=(a=true∧b=true))∧(∀{α:Type} [inst:BEq α] [LawfulBEq α] {a b:α},(a==b)=true↔a=b)∧(∀(p:Prop),(p∧p)=p)∧(∀(p:Prop),(p∨True)=True)∧(∀(p:Prop),(True∨p)=True):=
 ⟨@forall_const.{1},@forall_const.{0},@not_true_eq_false,@not_false_eq_true,@false_implies,@Nat.zero_add,@Nat.add_zero,@decide_true,@decide_false,@Bool.false_eq_true,@Bool.not_true,@Bool.not_false,@Nat.zero_lt_succ,@ne_eq.{1},@Bool.true_and,@Bool.and_true,@beq_self_eq_true.{0},@Option.some.injEq.{0},@not_false_iff,@Bool.and_eq_true,@beq_iff_eq.{0},@and_self,@or_true,@true_or⟩
theorem core3:(∀(p:Prop),(p∨False)=p)∧(∀(p:Prop),(False∨p)=p)∧(∀(n:Nat),n≤n)∧(∀(n:Nat),0≤n)∧(∀(α:Type),(∀(a:α),True)=True)∧(∀(α:Prop),(α→True)=True)∧(∀{α β:Type} {as:List α} (f:α→β),(List.map f as).length=as.length)∧(∀{α:Type} {p:α→Prop} {a:α} {l:List α},(∀(x:α),x∈a::l→p x)↔p a∧∀(x:α),x∈l→p x)∧(∀{p:Prop} [inst:Decidable p],(decide p=true)=p)∧(∀{p:Prop} {x:Decidable p},decide p=false↔¬p)∧(∀(b:Bool),(¬b=true)=(b=false))∧(∀{α:Type} {p:α→Prop} {a':α},(∀(a:α),a=a'→p a)↔p a')∧(∀{a b c:Prop},a∧b→c↔a→b→c)∧(∀{α β:Type} {f:α→β} {l:List α} {i:Nat},(List.map f l)[i]?=Option.map f l[i]?):=
 ⟨@or_false,@false_or,@Nat.le_refl,@Nat.zero_le,@implies_true.{1},@implies_true.{0},@List.length_map.{0,0},@List.forall_mem_cons.{0},@decide_eq_true_eq,@decide_eq_false_iff_not,@Bool.not_eq_true,@forall_eq.{1},@and_imp,@List.getElem?_map.{0,0}⟩
end Go.Proofs.YtjhanogfpkbamaaGreatDoor
