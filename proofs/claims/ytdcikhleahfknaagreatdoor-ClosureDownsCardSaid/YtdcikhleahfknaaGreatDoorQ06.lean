/- Texts of ours laid together for a claim: FilR. -/
import Derived.KernelRfl
import Derived.IntWalk
import Derived.Test.YtdcikhleahfknaaGreatDoorQ05
namespace Go.Proofs.YtdcikhleahfknaaGreatDoor
open Go
set_option linter.unusedSimpArgs false
set_option linter.unusedVariables false
variable {P:Program}
def iX (P:Program) (u:TypeDesc):TK->Bool
 | .other=>!M9 u
 | .int k=>(match u with | .int k'=>k==k' | _=>false)
 | .str=>(match u with | .string=>true|_=>false)
 | .bool=>(match u with | .bool=>true|_=>false)
 | .cr fs=>(match u with
  | .struct fields=>fields.toList.map (fun f=>(f.offset,(P.info? f.type).map (·.size),(P.underlying f.type).map M9))==fs.map fun p=>(p.1,some p.2.1,some p.2.2)
  |_=>false)
 | .jS e=>(match u with | .slice e'=>e==e' | _=>false)
 | .oh k e=>(match u with | .map k' e'=>k==k'&&e==e' | _=>false)
 | .ptr e=>(match u with | .pointer e'=>e==e' | _=>false)
 | .arr n=>(match u with | .array n' e=>n==n'&&(P.info? e).map (·.size)==some 1|_=>false)
 | .ifc=>(match u with | .interface _=>true|_=>false)
theorem Ht {u:TypeDesc} {k:TK} (h:iX P u k=true):k.fits P u:=by
 cases k with
 |other=>cases u<;>simp_all [iX,TK.fits,M9]
 |int k=>cases u<;>simp_all [iX,TK.fits]
 |str=>cases u<;>simp_all [iX,TK.fits]
 |bool=>cases u<;>simp_all [iX,TK.fits]
 |cr fs=>cases u with
  |struct fields=>exact⟨fields,rfl,by simpa [iX] using h⟩
  |_=>simp[iX] at h
 |jS e=>cases u<;>simp_all [iX,TK.fits]
 |oh k e=>cases u<;>simp_all [iX,TK.fits]
 |ptr e=>cases u<;>simp_all [iX,TK.fits]
 |arr n=>cases u with
  |array n' e=>
   simp only[iX,alB,beq_iff_eq] at h;obtain⟨rfl,h⟩:=h;obtain⟨i,h1,h2⟩:=amv.1 h;exact⟨e,i,rfl,h1,h2⟩
  |_=>simp[iX] at h
 |ifc=>cases u<;>simp_all [iX,TK.fits]
def DN (d:TD):Bool:=
 (d.zero.cells.size==d.size)&&d.zero.cells.toList.all (·.oneCell')&&(if d.kind.agg=true then(match d.zero with | .agg _=>true|_=>false) else d.size==1&&d.zero.oneCell')
theorem zQ {T:TypeId} {d:TD} (hi:(P.info? T).map (fun i=>(i.size,i.bytes,i.zero))=some (d.size,d.bytes,some d.zero)) (hu:(P.underlying T).map (fun u=>iX P u d.kind)=some true) (hz:DN d=true)
  (hf:d.flat=true->P.eqGuardType P.depth T=false/\∀(w:World) (a1 a2 b1 b2:Int),(Op.equalIn 10000 T (.agg #[.int .i64 a1,.int .i64 a2]) (.agg #[.int .i64 b1,.int .i64 b2])).run P w=.ok (a1==b1&&a2==b2) w):fN P T d:=by
 simp only[DN,alB,beq_iff_eq] at hz;obtain⟨⟨z1,z2⟩,z3⟩:=hz;refine⟨?_,?_,z1,fun v hv=>?_,fun ha=>?_,fun ha=>?_,hf⟩
 ·cases h:P.info? T with
  |none=>rw[h] at hi;cases hi
  |some i=>
   rw[h] at hi;simp only[al7,als,alx] at hi;exact⟨i,rfl,hi.1,hi.2.1,hi.2.2⟩
 ·cases h:P.underlying T with
  |none=>rw[h] at hu;cases hu
  |some u=>
   rw[h] at hu;exact⟨u,rfl,Ht (alw hu)⟩
 ·exact alK.1 z2 v (amZ.2 hv)
 ·rw[if_pos ha] at z3
  cases hz:d.zero<;>rw[hz] at z3<;>first|exact⟨_,rfl⟩|cases z3
 ·rw[if_neg (by rw[ha];simp)] at z3;simp only[alB,beq_iff_eq] at z3;exact z3
theorem S9 {T:TypeId} {d:TD} (hi:(P.info? T).map (fun i=>(i.size,i.bytes,i.zero))=some (d.size,d.bytes,some d.zero)) (hu:(P.underlying T).map (fun u=>iX P u d.kind)=some true) (hz:DN d=true) (hf:d.flat=false):fN P T d:=
 zQ hi hu hz fun h=>by rw[hf] at h;cases h
theorem mg {T:TypeId} {d:TD} (hi:(P.info? T).map (fun i=>(i.size,i.bytes,i.zero))=some (d.size,d.bytes,some d.zero)) (hu:(P.underlying T).map (fun u=>iX P u d.kind)=some true) (hz:DN d=true) (_hf:d.flat=true)
  (hg:P.eqGuardType P.depth T=false) (hs:P.stoodInHeld T=false) (W3:(match P.underlying T with|some (.struct _)=>true|_=>false)=true)
  (SV:(P.fieldsOf T).toList.map (fun f=>(f.name == "_",f.offset,(match P.underlying f.type with|some (.int .i64)=>true|_=>false)))=[(false,0,true),(false,1,true)]):fN P T d:=by
 refine zQ hi hu hz fun _=>⟨hg,fun w a1 a2 b1 b2=>?_⟩;have ht:P.underlying T=some (.struct (P.fieldsOf T)):=by
  unfold Program.fieldsOf;split at W3
  ·rename_i h;rw[h]
  ·cases W3
 rw[run_equalIn_struct (P:=P) w 9999 T _ _ ht hs];generalize (P.fieldsOf T).toList=l at SV
 cases l with
 |nil=>simp at SV
 |cons f1 l=>cases l with
 |nil=>simp at SV
 |cons f2 l=>cases l with
 |cons f3 l=>simp at SV
 |nil=>
  simp only[al3,aml,List.cons.injEq,alx,and_true] at SV;obtain⟨⟨n1,o1,u1⟩,n2,o2,u2⟩:=SV;have hu1:P.underlying f1.type=some (.int .i64):=by
   split at u1
   ·assumption
   ·cases u1
  have W3:P.underlying f2.type=some (.int .i64):=by
   split at u2
   ·assumption
   ·cases u2
  have m1:f1.name ≠ "_":=by intro h;rw[h] at n1;simp at n1
  have m2:f2.name ≠ "_":=by intro h;rw[h] at n2;simp at n2
  have q1:=fun w=>run_equalIn_int (P:=P) w 9998 f1.type .i64 .i64 a1 b1 hu1;have q2:=fun w=>run_equalIn_int (P:=P) w 9998 f2.type .i64 .i64 a2 b2 W3;have g1:∀(w:World) (x y:Value),(part f1.type #[x,y] f1.offset).run P w=.ok x w:=fun w x y=>by simp[part,isAgg,run_underlying hu1,o1]
  have g2:∀(w:World) (x y:Value),(part f2.type #[x,y] f2.offset).run P w=.ok y w:=fun w x y=>by simp[part,isAgg,run_underlying W3,o2]
  simp only[Op.eqFields,if_pos m1,if_pos m2,Sem.run_bind,g1,g2,Result.andThen_ok,q1]
  cases h1:a1==b1
  ·simp
  ·simp only[amX,alQ,if_false,Sem.run_bind,g2,Result.andThen_ok,q2]
   cases h2:a2==b2<;>simp
theorem Nu {l:List (Nat×TD)} (h:∀p∈l,fN P p.1 p.2):aZ P (fun T=>(l.find? (fun p=>p.1==T)).map (·.2)):=by
 intro T d hd;simp only[amv] at hd;obtain⟨p,h1,h2⟩:=hd;have h3:=List.find?_some h1;simp only[beq_iff_eq] at h3;have h4:=h p (List.mem_of_find?_eq_some h1);rw[h3,h2] at h4;exact h4
theorem Ll {k:Nat} (h:k<4611686018427387904):IntKind.i64.wrap ((k:Int)+1)=((k+1:Nat):Int):=by
 rw[IntWalk.i64_in _ (by omega)];omega
end Go.Proofs.YtdcikhleahfknaaGreatDoor
