/- Lemmas. -/
import Derived.KernelRfl
import Derived.IntWalk
import Derived.Test.YtnkjkpmbgoehkaaGreatQ05
namespace Go.Proofs.YtnkjkpmbgoehkaaGreat
open Go
open Go.Result renaming andThen_ok->al
open Go.Sem renaming run_bind->ao
set_option linter.unusedSimpArgs false
set_option linter.unusedVariables false
variable {P:Program}
def jE (P:Program) (u:TypeDesc):TK->Bool
 | .other=>!QS u
 | .int k=>(match u with | .int k'=>k==k' | _=>false)
 | .str=>(match u with | .string=>true|_=>false)
 | .bool=>(match u with | .bool=>true|_=>false)
 | .bH fs=>(match u with
  | .struct fields=>fields.toList.map (fun f=>(f.offset,(P.info? f.type).map (·.size),(P.underlying f.type).map QS))==fs.map fun p=>(p.1,some p.2.1,some p.2.2)
  |_=>false)
 | .lU e=>(match u with | .slice e'=>e==e' | _=>false)
 | .qo k e=>(match u with | .map k' e'=>k==k'&&e==e' | _=>false)
 | .ptr e=>(match u with | .pointer e'=>e==e' | _=>false)
 | .arr n=>(match u with | .array n' e=>n==n'&&(P.info? e).map (·.size)==some 1|_=>false)
 | .ifc=>(match u with | .interface _=>true|_=>false)
theorem J4 {u:TypeDesc} {k:TK} (h:jE P u k=true):k.fits P u:=by
 cases k with
 |other=>cases u<;>simp_all [jE,TK.fits,QS]
 |int k=>cases u<;>simp_all [jE,TK.fits]
 |str=>cases u<;>simp_all [jE,TK.fits]
 |bool=>cases u<;>simp_all [jE,TK.fits]
 |bH fs=>cases u with
  |struct fields=>exact⟨fields,rfl,by simpa [jE] using h⟩
  |_=>simp[jE] at h
 |lU e=>cases u<;>simp_all [jE,TK.fits]
 |qo k e=>cases u<;>simp_all [jE,TK.fits]
 |ptr e=>cases u<;>simp_all [jE,TK.fits]
 |arr n=>cases u with
  |array n' e=>
   simp only[jE,aqv,beq_iff_eq] at h;obtain⟨rfl,h⟩:=h;obtain⟨i,h1,h2⟩:=aro.1 h;exact⟨e,i,rfl,h1,h2⟩
  |_=>simp[jE] at h
 |ifc=>cases u<;>simp_all [jE,TK.fits]
def Ct (d:TD):Bool:=
 (d.zero.cells.size==d.size)&&d.zero.cells.toList.all (·.oneCell')&&(if d.kind.agg=true then(match d.zero with | .agg _=>true|_=>false) else d.size==1&&d.zero.oneCell')
theorem vO {T:TypeId} {d:TD} (hi:(P.info? T).map (fun i=>(i.size,i.bytes,i.zero))=some (d.size,d.bytes,some d.zero)) (hu:(P.underlying T).map (fun u=>jE P u d.kind)=some true) (hz:Ct d=true)
  (hf:d.flat=true->P.eqGuardType P.depth T=false/\∀(w:World) (a1 a2 b1 b2:Int),(Op.equalIn 10000 T (.agg #[.int .i64 a1,.int .i64 a2]) (.agg #[.int .i64 b1,.int .i64 b2])).run P w=.ok (a1==b1&&a2==b2) w)
  (hf4:d.four=true->P.eqGuardType P.depth T=false/\∀(w:World) (a0 a1 a2 b0 b1 b2:Int) (s t:ByteArray),(Op.equalIn 10000 T (.agg #[.int .i64 a0,.int .i64 a1,.int .i64 a2,.string s]) (.agg #[.int .i64 b0,.int .i64 b1,.int .i64 b2,.string t])).run P w=.ok (a0==b0&&((a1==b1&&a2==b2)&&s.toList==t.toList)) w):fM P T d:=by
 simp only[Ct,aqv,beq_iff_eq] at hz;obtain⟨⟨z1,z2⟩,z3⟩:=hz;refine⟨?_,?_,z1,fun v hv=>?_,fun ha=>?_,fun ha=>?_,hf,hf4⟩
 ·cases h:P.info? T with
  |none=>rw[h] at hi;cases hi
  |some i=>
   rw[h] at hi;simp only[aq1,aqq,aqt] at hi;exact⟨i,rfl,hi.1,hi.2.1,hi.2.2⟩
 ·cases h:P.underlying T with
  |none=>rw[h] at hu;cases hu
  |some u=>
   rw[h] at hu;exact⟨u,rfl,J4 (aqs hu)⟩
 ·exact aqF.1 z2 v (arV.2 hv)
 ·rw[if_pos ha] at z3
  cases hz:d.zero<;>rw[hz] at z3<;>first|exact⟨_,rfl⟩|cases z3
 ·rw[if_neg (by rw[ha];simp)] at z3;simp only[aqv,beq_iff_eq] at z3;exact z3
theorem Xz {T:TypeId} {d:TD} (hi:(P.info? T).map (fun i=>(i.size,i.bytes,i.zero))=some (d.size,d.bytes,some d.zero)) (hu:(P.underlying T).map (fun u=>jE P u d.kind)=some true) (hz:Ct d=true) (hf:(d.flat||d.four)=false):fM P T d:=
 vO hi hu hz (fun h=>by rw[h] at hf;cases hf) fun h=>by rw[h,Bool.or_true] at hf;cases hf
theorem iJ {T:TypeId} {d:TD} (hi:(P.info? T).map (fun i=>(i.size,i.bytes,i.zero))=some (d.size,d.bytes,some d.zero)) (hu:(P.underlying T).map (fun u=>jE P u d.kind)=some true) (hz:Ct d=true) (_hf:d.flat=true) (h4:d.four=false)
  (hg:P.eqGuardType P.depth T=false) (hs:P.stoodInHeld T=false) (BN:(match P.underlying T with|some (.struct _)=>true|_=>false)=true)
  (wL:(P.fieldsOf T).toList.map (fun f=>(f.name == "_",f.offset,(match P.underlying f.type with|some (.int .i64)=>true|_=>false)))=[(false,0,true),(false,1,true)]):fM P T d:=by
 refine vO hi hu hz (fun _=>⟨hg,fun w a1 a2 b1 b2=>?_⟩) fun h=>by rw[h4] at h;cases h
 have ht:P.underlying T=some (.struct (P.fieldsOf T)):=by
  unfold Program.fieldsOf;split at BN
  ·rename_i h;rw[h]
  ·cases BN
 rw[run_equalIn_struct (P:=P) w 9999 T _ _ ht hs];generalize (P.fieldsOf T).toList=l at wL
 cases l with
 |nil=>simp at wL
 |cons f1 l=>cases l with
 |nil=>simp at wL
 |cons f2 l=>cases l with
 |cons f3 l=>simp at wL
 |nil=>
  simp only[aqS,arl,List.cons.injEq,aqt,and_true] at wL;obtain⟨⟨n1,o1,u1⟩,n2,o2,u2⟩:=wL;have Re:P.underlying f1.type=some (.int .i64):=by
   split at u1
   ·assumption
   ·cases u1
  have BN:P.underlying f2.type=some (.int .i64):=by
   split at u2
   ·assumption
   ·cases u2
  have m1:f1.name ≠ "_":=by intro h;rw[h] at n1;simp at n1
  have m2:f2.name ≠ "_":=by intro h;rw[h] at n2;simp at n2
  have q1:=fun w=>run_equalIn_int (P:=P) w 9998 f1.type .i64 .i64 a1 b1 Re;have q2:=fun w=>run_equalIn_int (P:=P) w 9998 f2.type .i64 .i64 a2 b2 BN;have g1:∀(w:World) (x y:Value),(part f1.type #[x,y] f1.offset).run P w=.ok x w:=fun w x y=>by simp[part,isAgg,run_underlying Re,o1]
  have g2:∀(w:World) (x y:Value),(part f2.type #[x,y] f2.offset).run P w=.ok y w:=fun w x y=>by simp[part,isAgg,run_underlying BN,o2]
  simp only[Op.eqFields,if_pos m1,if_pos m2,ao,g1,g2,al,q1]
  cases h1:a1==b1
  ·simp
  ·simp only[arC,aqH,if_false,ao,g2,al,q2]
   cases h2:a2==b2<;>simp
theorem vP {T:TypeId} (BN:(match P.underlying T with|some (.struct _)=>true|_=>false)=true):P.underlying T=some (.struct (P.fieldsOf T)):=by
 unfold Program.fieldsOf;split at BN
 ·rename_i h;rw[h]
 ·cases BN
def ud (P:Program) (t:TypeId):Nat:=match P.underlying t with
 |some (.int .i64)=>1
 |some .string=>2
 |some (.struct _)=>3
 |_=>0
theorem J5 {t:TypeId} (h:ud P t=1):P.underlying t=some (.int .i64):=by
 unfold ud at h
 split at h<;>first|assumption|simp at h
theorem abN {t:TypeId} (h:ud P t=2):P.underlying t=some .string:=by
 unfold ud at h
 split at h<;>first|assumption|simp at h
theorem abO {T:TypeId} (hs:P.stoodInHeld T=false) (BN:(match P.underlying T with|some (.struct _)=>true|_=>false)=true)
  (wL:(P.fieldsOf T).toList.map (fun f=>(f.name == "_",f.offset,ud P f.type))=[(false,0,1),(false,1,1)]) (d:Nat) (w:World) (a1 a2 b1 b2:Int):
  (Op.equalIn (d+2) T (.agg #[.int .i64 a1,.int .i64 a2]) (.agg #[.int .i64 b1,.int .i64 b2])).run P w=.ok (a1==b1&&a2==b2) w:=by
 have ht:=vP BN;rw[run_equalIn_struct (P:=P) w (d+1) T _ _ ht hs];generalize (P.fieldsOf T).toList=l at wL
 cases l with
 |nil=>simp at wL
 |cons f1 l=>cases l with
 |nil=>simp at wL
 |cons f2 l=>cases l with
 |cons f3 l=>simp at wL
 |nil=>
  simp only[aqS,arl,List.cons.injEq,aqt,and_true] at wL;obtain⟨⟨n1,o1,u1⟩,n2,o2,u2⟩:=wL;have Re:=J5 u1;have BN:=J5 u2;have m1:f1.name ≠ "_":=by intro h;rw[h] at n1;simp at n1
  have m2:f2.name ≠ "_":=by intro h;rw[h] at n2;simp at n2
  have q1:=fun w=>run_equalIn_int (P:=P) w d f1.type .i64 .i64 a1 b1 Re;have q2:=fun w=>run_equalIn_int (P:=P) w d f2.type .i64 .i64 a2 b2 BN;have g1:∀(w:World) (x y:Value),(part f1.type #[x,y] f1.offset).run P w=.ok x w:=fun w x y=>by simp[part,isAgg,run_underlying Re,o1]
  have g2:∀(w:World) (x y:Value),(part f2.type #[x,y] f2.offset).run P w=.ok y w:=fun w x y=>by simp[part,isAgg,run_underlying BN,o2]
  simp only[Op.eqFields,if_pos m1,if_pos m2,ao,g1,g2,al,q1]
  cases h1:a1==b1
  ·simp
  ·simp only[arC,aqH,if_false,ao,g2,al,q2]
   cases h2:a2==b2<;>simp
theorem XA {T:TypeId} (hs:P.stoodInHeld T=false) (BN:(match P.underlying T with|some (.struct _)=>true|_=>false)=true)
  (wL:(P.fieldsOf T).toList.map (fun f=>(f.name == "_",f.offset,ud P f.type))=[(false,0,1),(false,1,3),(false,3,2)])
  (ep:∀f∈(P.fieldsOf T).toList,f.offset=1->P.stoodInHeld f.type=false/\(match P.underlying f.type with|some (.struct _)=>true|_=>false)=true/\(P.fieldsOf f.type).toList.map (fun f=>(f.name == "_",f.offset,ud P f.type))=[(false,0,1),(false,1,1)]/\∀w:World,(sizeOf f.type).run P w=.ok 2 w)
  (w:World) (a0 a1 a2 b0 b1 b2:Int) (s t:ByteArray):
  (Op.equalIn 10000 T (.agg #[.int .i64 a0,.int .i64 a1,.int .i64 a2,.string s]) (.agg #[.int .i64 b0,.int .i64 b1,.int .i64 b2,.string t])).run P w=.ok (a0==b0&&((a1==b1&&a2==b2)&&s.toList==t.toList)) w:=by
 have ht:=vP BN;rw[run_equalIn_struct (P:=P) w 9999 T _ _ ht hs];generalize (P.fieldsOf T).toList=l at wL ep
 cases l with
 |nil=>simp at wL
 |cons f1 l=>cases l with
 |nil=>simp at wL
 |cons f2 l=>cases l with
 |nil=>simp at wL
 |cons f3 l=>cases l with
 |cons f4 l=>simp at wL
 |nil=>
  simp only[aqS,arl,List.cons.injEq,aqt,and_true] at wL;obtain⟨⟨n1,o1,u1⟩,⟨n2,o2,u2⟩,n3,o3,u3⟩:=wL;obtain⟨k1,k2,k3,k4⟩:=ep f2 (by simp) o2;have Re:=J5 u1;have hu3:=abN u3;have ajE:=vP k2;have m1:f1.name ≠ "_":=by intro h;rw[h] at n1;simp at n1
  have m2:f2.name ≠ "_":=by intro h;rw[h] at n2;simp at n2
  have m3:f3.name ≠ "_":=by intro h;rw[h] at n3;simp at n3
  have q1:=fun w=>run_equalIn_int (P:=P) w 9998 f1.type .i64 .i64 a0 b0 Re;have q2:=fun w=>abO k1 k2 k3 9997 w a1 a2 b1 b2;have q3:=fun w=>run_equalIn_string (P:=P) w 9998 f3.type s t hu3;have g1:∀(w:World) (x0 x1 x2 x3:Value),(part f1.type #[x0,x1,x2,x3] f1.offset).run P w=.ok x0 w:=fun w x0 x1 x2 x3=>by simp[part,isAgg,run_underlying Re,o1]
  have g2:∀(w:World) (x0 x1 x2 x3:Value),(part f2.type #[x0,x1,x2,x3] f2.offset).run P w=.ok (.agg #[x1,x2]) w:=fun w x0 x1 x2 x3=>by simp[part,isAgg,run_underlying ajE,o2,k4]
  have g3:∀(w:World) (x0 x1 x2 x3:Value),(part f3.type #[x0,x1,x2,x3] f3.offset).run P w=.ok x3 w:=fun w x0 x1 x2 x3=>by simp[part,isAgg,run_underlying hu3,o3]
  simp only[Op.eqFields,if_pos m1,if_pos m2,if_pos m3,ao,g1,al,q1]
  cases h1:a0==b0
  ·simp
  ·simp only[arC,aqH,if_false,ao,g2,al,q2]
   cases h2:(a1==b1&&a2==b2)
   ·simp
   ·simp only[arC,aqH,if_false,ao,g3,al,q3]
    cases h3:s.toList==t.toList<;>simp
theorem Cu {T T2 t1 t3:TypeId} {d:TD} (hi:(P.info? T).map (fun i=>(i.size,i.bytes,i.zero))=some (d.size,d.bytes,some d.zero)) (hu:(P.underlying T).map (fun u=>jE P u d.kind)=some true) (hz:Ct d=true) (hf:d.flat=false)
  (hg:P.eqGuardType P.depth T=false) (hs:P.stoodInHeld T=false) (BN:(match P.underlying T with|some (.struct _)=>true|_=>false)=true)
  (wL:(P.fieldsOf T).toList.map (fun f=>(f.name == "_",f.offset,ud P f.type))=[(false,0,1),(false,1,3),(false,3,2)])
  (ht2:(P.fieldsOf T).toList.map (fun f=>(f.offset,f.type))=[(0,t1),(1,T2),(3,t3)])
  (hs2:P.stoodInHeld T2=false) (hv:(match P.underlying T2 with|some (.struct _)=>true|_=>false)=true)
  (ajF:(P.fieldsOf T2).toList.map (fun f=>(f.name == "_",f.offset,ud P f.type))=[(false,0,1),(false,1,1)]) (W4:(P.info? T2).map (·.size)=some 2):fM P T d:=by
 refine vO hi hu hz (fun h=>by rw[hf] at h;cases h) fun _=>⟨hg,fun w a0 a1 a2 b0 b1 b2 s t=>XA hs BN wL (fun f hfm ho=>?_) w a0 a1 a2 b0 b1 b2 s t⟩;have hm:(f.offset,f.type)∈(P.fieldsOf T).toList.map (fun f=>(f.offset,f.type)):=arx.2 ⟨f,hfm,rfl⟩;rw[ht2,ho] at hm;have he:f.type=T2:=by simpa using hm
 rw[he];refine⟨hs2,hv,ajF,fun w=>?_⟩
 cases abP:P.info? T2 with
 |none=>rw[abP] at W4;cases W4
 |some i=>
  rw[abP] at W4;have:i.size=2:=aqs W4;simp[sizeOf,typeInfo,abP,this]
theorem Rf {l:List (Nat×TD)} (h:∀p∈l,fM P p.1 p.2):bc P (fun T=>(l.find? (fun p=>p.1==T)).map (·.2)):=by
 intro T d hd;simp only[aro] at hd;obtain⟨p,h1,h2⟩:=hd;have h3:=List.find?_some h1;simp only[beq_iff_eq] at h3;have h4:=h p (List.mem_of_find?_eq_some h1);rw[h3,h2] at h4;exact h4
theorem OW {k:Nat} (h:k<4611686018427387904):IntKind.i64.wrap ((k:Int)+1)=((k+1:Nat):Int):=by
 rw[IntWalk.i64_in _ (by omega)];omega
end Go.Proofs.YtnkjkpmbgoehkaaGreat
