/- Texts of ours laid together for a claim: FilR. -/
import Derived.KernelRfl
import Derived.IntWalk
import Derived.Test.YtnkjkpmbgoehkaaGreatQ05
namespace Go.Proofs.YtnkjkpmbgoehkaaGreat
open Go
set_option linter.unusedSimpArgs false
set_option linter.unusedVariables false
variable {P:Program}
def iE (P:Program) (u:TypeDesc):TK->Bool
 | .other=>!MY u
 | .int k=>(match u with | .int k'=>k==k' | _=>false)
 | .str=>(match u with | .string=>true|_=>false)
 | .bool=>(match u with | .bool=>true|_=>false)
 | .bj fs=>(match u with
  | .struct fields=>fields.toList.map (fun f=>(f.offset,(P.info? f.type).map (·.size),(P.underlying f.type).map MY))==fs.map fun p=>(p.1,some p.2.1,some p.2.2)
  |_=>false)
 | .kC e=>(match u with | .slice e'=>e==e' | _=>false)
 | .oy k e=>(match u with | .map k' e'=>k==k'&&e==e' | _=>false)
 | .ptr e=>(match u with | .pointer e'=>e==e' | _=>false)
 | .arr n=>(match u with | .array n' e=>n==n'&&(P.info? e).map (·.size)==some 1|_=>false)
 | .ifc=>(match u with | .interface _=>true|_=>false)
theorem G8 {u:TypeDesc} {k:TK} (h:iE P u k=true):k.fits P u:=by
 cases k with
 |other=>cases u<;>simp_all [iE,TK.fits,MY]
 |int k=>cases u<;>simp_all [iE,TK.fits]
 |str=>cases u<;>simp_all [iE,TK.fits]
 |bool=>cases u<;>simp_all [iE,TK.fits]
 |bj fs=>cases u with
  |struct fields=>exact⟨fields,rfl,by simpa [iE] using h⟩
  |_=>simp[iE] at h
 |kC e=>cases u<;>simp_all [iE,TK.fits]
 |oy k e=>cases u<;>simp_all [iE,TK.fits]
 |ptr e=>cases u<;>simp_all [iE,TK.fits]
 |arr n=>cases u with
  |array n' e=>
   simp only[iE,aln,beq_iff_eq] at h;obtain⟨rfl,h⟩:=h;obtain⟨i,h1,h2⟩:=amb.1 h;exact⟨e,i,rfl,h1,h2⟩
  |_=>simp[iE] at h
 |ifc=>cases u<;>simp_all [iE,TK.fits]
def z8 (d:TD):Bool:=
 (d.zero.cells.size==d.size)&&d.zero.cells.toList.all (·.oneCell')&&(if d.kind.agg=true then(match d.zero with | .agg _=>true|_=>false) else d.size==1&&d.zero.oneCell')
theorem tN {T:TypeId} {d:TD} (hi:(P.info? T).map (fun i=>(i.size,i.bytes,i.zero))=some (d.size,d.bytes,some d.zero)) (hu:(P.underlying T).map (fun u=>iE P u d.kind)=some true) (hz:z8 d=true)
  (hf:d.flat=true->P.eqGuardType P.depth T=false/\∀(w:World) (a1 a2 b1 b2:Int),(Op.equalIn 10000 T (.agg #[.int .i64 a1,.int .i64 a2]) (.agg #[.int .i64 b1,.int .i64 b2])).run P w=.ok (a1==b1&&a2==b2) w)
  (hf4:d.four=true->P.eqGuardType P.depth T=false/\∀(w:World) (a0 a1 a2 b0 b1 b2:Int) (s t:ByteArray),(Op.equalIn 10000 T (.agg #[.int .i64 a0,.int .i64 a1,.int .i64 a2,.string s]) (.agg #[.int .i64 b0,.int .i64 b1,.int .i64 b2,.string t])).run P w=.ok (a0==b0&&((a1==b1&&a2==b2)&&s.toList==t.toList)) w):eZ P T d:=by
 simp only[z8,aln,beq_iff_eq] at hz;obtain⟨⟨z1,z2⟩,z3⟩:=hz;refine⟨?_,?_,z1,fun v hv=>?_,fun ha=>?_,fun ha=>?_,hf,hf4⟩
 ·cases h:P.info? T with
  |none=>rw[h] at hi;cases hi
  |some i=>
   rw[h] at hi;simp only[alN,alh,alk] at hi;exact⟨i,rfl,hi.1,hi.2.1,hi.2.2⟩
 ·cases h:P.underlying T with
  |none=>rw[h] at hu;cases hu
  |some u=>
   rw[h] at hu;exact⟨u,rfl,G8 (alj hu)⟩
 ·exact alv.1 z2 v (amH.2 hv)
 ·rw[if_pos ha] at z3
  cases hz:d.zero<;>rw[hz] at z3<;>first|exact⟨_,rfl⟩|cases z3
 ·rw[if_neg (by rw[ha];simp)] at z3;simp only[aln,beq_iff_eq] at z3;exact z3
theorem Tr {T:TypeId} {d:TD} (hi:(P.info? T).map (fun i=>(i.size,i.bytes,i.zero))=some (d.size,d.bytes,some d.zero)) (hu:(P.underlying T).map (fun u=>iE P u d.kind)=some true) (hz:z8 d=true) (hf:(d.flat||d.four)=false):eZ P T d:=
 tN hi hu hz (fun h=>by rw[h] at hf;cases hf) fun h=>by rw[h,Bool.or_true] at hf;cases hf
theorem gC {T:TypeId} {d:TD} (hi:(P.info? T).map (fun i=>(i.size,i.bytes,i.zero))=some (d.size,d.bytes,some d.zero)) (hu:(P.underlying T).map (fun u=>iE P u d.kind)=some true) (hz:z8 d=true) (_hf:d.flat=true) (h4:d.four=false)
  (hg:P.eqGuardType P.depth T=false) (hs:P.stoodInHeld T=false) (zo:(match P.underlying T with|some (.struct _)=>true|_=>false)=true)
  (uC:(P.fieldsOf T).toList.map (fun f=>(f.name == "_",f.offset,(match P.underlying f.type with|some (.int .i64)=>true|_=>false)))=[(false,0,true),(false,1,true)]):eZ P T d:=by
 refine tN hi hu hz (fun _=>⟨hg,fun w a1 a2 b1 b2=>?_⟩) fun h=>by rw[h4] at h;cases h
 have ht:P.underlying T=some (.struct (P.fieldsOf T)):=by
  unfold Program.fieldsOf;split at zo
  ·rename_i h;rw[h]
  ·cases zo
 rw[run_equalIn_struct (P:=P) w 9999 T _ _ ht hs];generalize (P.fieldsOf T).toList=l at uC
 cases l with
 |nil=>simp at uC
 |cons f1 l=>cases l with
 |nil=>simp at uC
 |cons f2 l=>cases l with
 |cons f3 l=>simp at uC
 |nil=>
  simp only[alQ,ama,List.cons.injEq,alk,and_true] at uC;obtain⟨⟨n1,o1,u1⟩,n2,o2,u2⟩:=uC;have Nr:P.underlying f1.type=some (.int .i64):=by
   split at u1
   ·assumption
   ·cases u1
  have zo:P.underlying f2.type=some (.int .i64):=by
   split at u2
   ·assumption
   ·cases u2
  have m1:f1.name ≠ "_":=by intro h;rw[h] at n1;simp at n1
  have m2:f2.name ≠ "_":=by intro h;rw[h] at n2;simp at n2
  have q1:=fun w=>run_equalIn_int (P:=P) w 9998 f1.type .i64 .i64 a1 b1 Nr;have q2:=fun w=>run_equalIn_int (P:=P) w 9998 f2.type .i64 .i64 a2 b2 zo;have g1:∀(w:World) (x y:Value),(part f1.type #[x,y] f1.offset).run P w=.ok x w:=fun w x y=>by simp[part,isAgg,run_underlying Nr,o1]
  have g2:∀(w:World) (x y:Value),(part f2.type #[x,y] f2.offset).run P w=.ok y w:=fun w x y=>by simp[part,isAgg,run_underlying zo,o2]
  simp only[Op.eqFields,if_pos m1,if_pos m2,Sem.run_bind,g1,g2,Result.andThen_ok,q1]
  cases h1:a1==b1
  ·simp
  ·simp only[aml,alx,if_false,Sem.run_bind,g2,Result.andThen_ok,q2]
   cases h2:a2==b2<;>simp
theorem tO {T:TypeId} (zo:(match P.underlying T with|some (.struct _)=>true|_=>false)=true):P.underlying T=some (.struct (P.fieldsOf T)):=by
 unfold Program.fieldsOf;split at zo
 ·rename_i h;rw[h]
 ·cases zo
def r5 (P:Program) (t:TypeId):Nat:=match P.underlying t with
 |some (.int .i64)=>1
 |some .string=>2
 |some (.struct _)=>3
 |_=>0
theorem G9 {t:TypeId} (h:r5 P t=1):P.underlying t=some (.int .i64):=by
 unfold r5 at h
 split at h<;>first|assumption|simp at h
theorem Xi {t:TypeId} (h:r5 P t=2):P.underlying t=some .string:=by
 unfold r5 at h
 split at h<;>first|assumption|simp at h
theorem Xj {T:TypeId} (hs:P.stoodInHeld T=false) (zo:(match P.underlying T with|some (.struct _)=>true|_=>false)=true)
  (uC:(P.fieldsOf T).toList.map (fun f=>(f.name == "_",f.offset,r5 P f.type))=[(false,0,1),(false,1,1)]) (d:Nat) (w:World) (a1 a2 b1 b2:Int):
  (Op.equalIn (d+2) T (.agg #[.int .i64 a1,.int .i64 a2]) (.agg #[.int .i64 b1,.int .i64 b2])).run P w=.ok (a1==b1&&a2==b2) w:=by
 have ht:=tO zo;rw[run_equalIn_struct (P:=P) w (d+1) T _ _ ht hs];generalize (P.fieldsOf T).toList=l at uC
 cases l with
 |nil=>simp at uC
 |cons f1 l=>cases l with
 |nil=>simp at uC
 |cons f2 l=>cases l with
 |cons f3 l=>simp at uC
 |nil=>
  simp only[alQ,ama,List.cons.injEq,alk,and_true] at uC;obtain⟨⟨n1,o1,u1⟩,n2,o2,u2⟩:=uC;have Nr:=G9 u1;have zo:=G9 u2;have m1:f1.name ≠ "_":=by intro h;rw[h] at n1;simp at n1
  have m2:f2.name ≠ "_":=by intro h;rw[h] at n2;simp at n2
  have q1:=fun w=>run_equalIn_int (P:=P) w d f1.type .i64 .i64 a1 b1 Nr;have q2:=fun w=>run_equalIn_int (P:=P) w d f2.type .i64 .i64 a2 b2 zo;have g1:∀(w:World) (x y:Value),(part f1.type #[x,y] f1.offset).run P w=.ok x w:=fun w x y=>by simp[part,isAgg,run_underlying Nr,o1]
  have g2:∀(w:World) (x y:Value),(part f2.type #[x,y] f2.offset).run P w=.ok y w:=fun w x y=>by simp[part,isAgg,run_underlying zo,o2]
  simp only[Op.eqFields,if_pos m1,if_pos m2,Sem.run_bind,g1,g2,Result.andThen_ok,q1]
  cases h1:a1==b1
  ·simp
  ·simp only[aml,alx,if_false,Sem.run_bind,g2,Result.andThen_ok,q2]
   cases h2:a2==b2<;>simp
theorem Ts {T:TypeId} (hs:P.stoodInHeld T=false) (zo:(match P.underlying T with|some (.struct _)=>true|_=>false)=true)
  (uC:(P.fieldsOf T).toList.map (fun f=>(f.name == "_",f.offset,r5 P f.type))=[(false,0,1),(false,1,3),(false,3,2)])
  (ee:∀f∈(P.fieldsOf T).toList,f.offset=1->P.stoodInHeld f.type=false/\(match P.underlying f.type with|some (.struct _)=>true|_=>false)=true/\(P.fieldsOf f.type).toList.map (fun f=>(f.name == "_",f.offset,r5 P f.type))=[(false,0,1),(false,1,1)]/\∀w:World,(sizeOf f.type).run P w=.ok 2 w)
  (w:World) (a0 a1 a2 b0 b1 b2:Int) (s t:ByteArray):
  (Op.equalIn 10000 T (.agg #[.int .i64 a0,.int .i64 a1,.int .i64 a2,.string s]) (.agg #[.int .i64 b0,.int .i64 b1,.int .i64 b2,.string t])).run P w=.ok (a0==b0&&((a1==b1&&a2==b2)&&s.toList==t.toList)) w:=by
 have ht:=tO zo;rw[run_equalIn_struct (P:=P) w 9999 T _ _ ht hs];generalize (P.fieldsOf T).toList=l at uC ee
 cases l with
 |nil=>simp at uC
 |cons f1 l=>cases l with
 |nil=>simp at uC
 |cons f2 l=>cases l with
 |nil=>simp at uC
 |cons f3 l=>cases l with
 |cons f4 l=>simp at uC
 |nil=>
  simp only[alQ,ama,List.cons.injEq,alk,and_true] at uC;obtain⟨⟨n1,o1,u1⟩,⟨n2,o2,u2⟩,n3,o3,u3⟩:=uC;obtain⟨k1,k2,k3,k4⟩:=ee f2 (by simp) o2;have Nr:=G9 u1;have hu3:=Xi u3;have aeL:=tO k2;have m1:f1.name ≠ "_":=by intro h;rw[h] at n1;simp at n1
  have m2:f2.name ≠ "_":=by intro h;rw[h] at n2;simp at n2
  have m3:f3.name ≠ "_":=by intro h;rw[h] at n3;simp at n3
  have q1:=fun w=>run_equalIn_int (P:=P) w 9998 f1.type .i64 .i64 a0 b0 Nr;have q2:=fun w=>Xj k1 k2 k3 9997 w a1 a2 b1 b2;have q3:=fun w=>run_equalIn_string (P:=P) w 9998 f3.type s t hu3;have g1:∀(w:World) (x0 x1 x2 x3:Value),(part f1.type #[x0,x1,x2,x3] f1.offset).run P w=.ok x0 w:=fun w x0 x1 x2 x3=>by simp[part,isAgg,run_underlying Nr,o1]
  have g2:∀(w:World) (x0 x1 x2 x3:Value),(part f2.type #[x0,x1,x2,x3] f2.offset).run P w=.ok (.agg #[x1,x2]) w:=fun w x0 x1 x2 x3=>by simp[part,isAgg,run_underlying aeL,o2,k4]
  have g3:∀(w:World) (x0 x1 x2 x3:Value),(part f3.type #[x0,x1,x2,x3] f3.offset).run P w=.ok x3 w:=fun w x0 x1 x2 x3=>by simp[part,isAgg,run_underlying hu3,o3]
  simp only[Op.eqFields,if_pos m1,if_pos m2,if_pos m3,Sem.run_bind,g1,Result.andThen_ok,q1]
  cases h1:a0==b0
  ·simp
  ·simp only[aml,alx,if_false,Sem.run_bind,g2,Result.andThen_ok,q2]
   cases h2:(a1==b1&&a2==b2)
   ·simp
   ·simp only[aml,alx,if_false,Sem.run_bind,g3,Result.andThen_ok,q3]
    cases h3:s.toList==t.toList<;>simp
theorem Aa {T T2 t1 t3:TypeId} {d:TD} (hi:(P.info? T).map (fun i=>(i.size,i.bytes,i.zero))=some (d.size,d.bytes,some d.zero)) (hu:(P.underlying T).map (fun u=>iE P u d.kind)=some true) (hz:z8 d=true) (hf:d.flat=false)
  (hg:P.eqGuardType P.depth T=false) (hs:P.stoodInHeld T=false) (zo:(match P.underlying T with|some (.struct _)=>true|_=>false)=true)
  (uC:(P.fieldsOf T).toList.map (fun f=>(f.name == "_",f.offset,r5 P f.type))=[(false,0,1),(false,1,3),(false,3,2)])
  (ht2:(P.fieldsOf T).toList.map (fun f=>(f.offset,f.type))=[(0,t1),(1,T2),(3,t3)])
  (V4:P.stoodInHeld T2=false) (hv:(match P.underlying T2 with|some (.struct _)=>true|_=>false)=true)
  (aeM:(P.fieldsOf T2).toList.map (fun f=>(f.name == "_",f.offset,r5 P f.type))=[(false,0,1),(false,1,1)]) (SU:(P.info? T2).map (·.size)=some 2):eZ P T d:=by
 refine tN hi hu hz (fun h=>by rw[hf] at h;cases h) fun _=>⟨hg,fun w a0 a1 a2 b0 b1 b2 s t=>Ts hs zo uC (fun f hfm ho=>?_) w a0 a1 a2 b0 b1 b2 s t⟩;have hm:(f.offset,f.type)∈(P.fieldsOf T).toList.map (fun f=>(f.offset,f.type)):=amg.2 ⟨f,hfm,rfl⟩;rw[ht2,ho] at hm;have he:f.type=T2:=by simpa using hm
 rw[he];refine⟨V4,hv,aeM,fun w=>?_⟩
 cases Xk:P.info? T2 with
 |none=>rw[Xk] at SU;cases SU
 |some i=>
  rw[Xk] at SU;have:i.size=2:=alj SU;simp[sizeOf,typeInfo,Xk,this]
theorem Ns {l:List (Nat×TD)} (h:∀p∈l,eZ P p.1 p.2):aL P (fun T=>(l.find? (fun p=>p.1==T)).map (·.2)):=by
 intro T d hd;simp only[amb] at hd;obtain⟨p,h1,h2⟩:=hd;have h3:=List.find?_some h1;simp only[beq_iff_eq] at h3;have h4:=h p (List.mem_of_find?_eq_some h1);rw[h3,h2] at h4;exact h4
theorem K0 {k:Nat} (h:k<4611686018427387904):IntKind.i64.wrap ((k:Int)+1)=((k+1:Nat):Int):=by
 rw[IntWalk.i64_in _ (by omega)];omega
end Go.Proofs.YtnkjkpmbgoehkaaGreat
