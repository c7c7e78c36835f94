/- Texts of ours laid together for a claim: P6R P6A P1O P69 P6C P6D P6E P6F P46 P6S P6W P13 P14 P6X P6Y P35 P43 P6Z P6N P6O P6G P6H P65 P66 P67 P68 P6I P6P P6T P6U P6V P8A P8B. -/
import Derived.WalkKit
import Derived.Deep.RegionLaw
import Derived.Deep.Upon
import Derived.Lib.SliceRun
import Derived.KernelRfl
import Derived.Test.YtdcikhleahfknaaGreatDoorQ51
namespace Go.Proofs.YtdcikhleahfknaaGreatDoor
open Go
set_option linter.unusedSimpArgs false
set_option linter.unusedVariables false
set_option maxRecDepth 100000
open Go Go.RowKit
theorem nE {w w':World} {F:Nat->Nat->Prop} {e:TypeId} {v v2:Value} {zs ys:List Int} {jQ:List Value} {mO:List af} {r:AV} {rv:Value} (aR:kE w F [v] [.aQ e 1 (ai zs)])
  (hk:bE (fun b=>ct v=some b) w w') (lP:∀F' η hp,fM w' F' η hp (.aQ e 1 (ai ys)) v2) (hb:∀b,ct v2=some b->ct v=some b) (h1c:v2.oneCell'=true)
  (J8:(jQ=[v]/\v2=v/\mO=[.aQ e 1 (ai ys)]/\r=.aL []/\rv=.tuple #[]/\ys.length=zs.length)\/(jQ=[v,v2]/\mO=[.dead,.aQ e 1 (ai ys)]/\r=.own 1 (ai ys).length/\rv=v2)):
  dU w F [v] [.aQ e 1 (ai zs)] w' jQ mO r rv:=by
 have LL:∀b o,ct v=some b->¬F b o:=fun b o hb hf=>(aR.bg b o hf).2 0 _ rfl hb;have ak:∀b o,F b o->b<w.heap.size/\¬ct v=some b:=fun b o hf=>⟨(aR.bg b o hf).1,fun e=>LL b o e hf⟩;have live:∀b,ct v=some b->aG [v] [.aQ e 1 (ai zs)] b:=fun b hb=>⟨0,_,_,rfl,True.intro,rfl,hb⟩;have cell:∀b o u,F b o->w.cell? ⟨b,o,none⟩=some u->w'.cell? ⟨b,o,none⟩=some u:=fun b o u hf hc=>by
  simp only[World.cell?] at hc ⊢;rw[hk.block b (ak b o hf).1 (ak b o hf).2];exact hc
 have ir:∀b es c,F b 0->w.heap[b]?=some (.map es c)->w'.heap[b]?=some (.map es c):=fun b es c hf hc=>by
  rw[hk.block b (ak b 0 hf).1 (ak b 0 hf).2];exact hc
 have sj:bE (aG [v] [.aQ e 1 (ai zs)]) w w':=⟨hk.os,hk.tape,hk.output,hk.size,fun k h1 h2=>hk.block k h1 fun h=>h2 (live k h)⟩;rcases J8 with⟨rfl,rfl,rfl,rfl,rfl,hlen⟩|⟨rfl,rfl,rfl,rfl⟩
 ·have ew:∀b o,F b o->bO F w [v2] [.aQ e 1 (ai zs)] w' [v2] [.aQ e 1 (ai ys)] b o:=fun b o hf=>⟨.inl hf,al8 (ak b o hf).1 hk.size,fun r u h1 h2=>by
   match r,h1 with
   |0,h1=>cases h1;exact absurd hf (LL b o h2)⟩
  have cA:Ext w F [v2] [.aQ e 1 (ai zs)] w' (bO F w [v2] [.aQ e 1 (ai zs)] w' [v2] [.aQ e 1 (ai ys)]) [v2] [.aQ e 1 (ai ys)]:=by
   refine⟨cell,ir,ew,fun r a h=>h,fun r a h=>h,fun r n u h=>?_⟩
   match r,h with
   |0,h=>
    unfold aT at h ⊢;simp only[amp,ai,alv] at h ⊢;rw[hlen];exact h
  refine⟨sj,cA,⟨rfl,fun r o u h1 h2=>?_,fun r r' o o' u u' b bu h1 h2 l1 l2 e1 e2 hb=>?_⟩,fun b ⟨r,o,u,h1,h2,h3,h4⟩=>?_,.aL [] #[] rfl fun j y u hy _=>by cases hy⟩
  ·match r,h1,h2 with
   |0,h1,h2=>cases h1;cases h2;exact lP _ _ _
  ·match r,r',h1,h2 with
   |0,0,_,_=>exact(bu rfl).elim
  ·match r,h1,h3 with
   |0,_,h3=>cases h3;exact .inr (live b h4)
 ·have ew:∀b o,F b o->bO F w [v] [.aQ e 1 (ai zs)] w' [v,rv] [.dead,.aQ e 1 (ai ys)] b o:=fun b o hf=>⟨.inl hf,al8 (ak b o hf).1 hk.size,fun r u h1 h2=>by
   match r,h1 with
   |0,_=>exact True.intro
   |1,h1=>cases h1;exact absurd hf (LL b o (hb b h2))⟩
  have cA:Ext w F [v] [.aQ e 1 (ai zs)] w' (bO F w [v] [.aQ e 1 (ai zs)] w' [v,rv] [.dead,.aQ e 1 (ai ys)]) [v,rv] [.dead,.aQ e 1 (ai ys)]:=by
   refine⟨cell,ir,ew,fun r a h=>?_,fun r a h=>?_,fun r n u h=>?_⟩
   ·match r,h with
    |0,h=>exact h
   ·match r,h with
    |0,h=>exact h
   ·match r,h with
    |0,_=>exact True.intro
  refine⟨sj,cA,⟨rfl,fun r o u h1 h2=>?_,fun r r' o o' u u' b bu h1 h2 l1 l2 e1 e2 hb=>?_⟩,fun b ⟨r,o,u,h1,h2,h3,h4⟩=>?_,.own _ _ _ h1c ?_⟩
  ·match r,h1,h2 with
   |0,h1,_=>cases h1;exact True.intro
   |1,h1,h2=>cases h1;cases h2;exact lP _ _ _
  ·match r,r',h1,h2 with
   |0,_,h1,_=>cases h1;exact l1.elim
   |1,0,_,h2=>cases h2;exact l2.elim
   |1,1,_,_=>exact(bu rfl).elim
  ·match r,h1,h3 with
   |0,h1,_=>cases h1;exact h2.elim
   |1,_,h3=>cases h3;exact .inr (live b (hb b h4))
  ·unfold aT;simp[ai]
theorem RN {zs:List Int} {i:Nat} {el:AV} (h:(ai zs)[i]?=some el):∃z,zs[i]?=some z/\el=nI z:=by
 rw[ai,alM] at h
 cases hz:zs[i]? with
 |none=>rw[hz] at h;cases h
 |some z=>rw[hz] at h;exact⟨z,rfl,(alw h).symm⟩
theorem Gc {w:World} {e:TypeId} {g cap:Nat} {cur:Array Value} {ys:List Int} (h0:0<cap) (hm:cap<=maxLen) (hh:w.heap[g]?=some (.cells cur e (0,0))) (hs:cur.size=cap) (hy:ys.length<=cap)
  (cq:∀(k:Nat) (z:Int),ys[k]?=some z->cur[k]?=some (.int .i64 z)) (F:Nat->Nat->Prop) (η:List Value) (hp:List af):fM w F η hp (.aQ e 1 (ai ys)) (.slice (some ⟨g,0,none⟩) ys.length cap):=by
 have hl:(ai ys).length=ys.length:=by simp[ai]
 refine⟨by omega,cur.toList.take (ys.length*1),⟨by rw[hl];have e:=amg (xs:=cur);rw[amd];omega,.inr ⟨g,cap,cur,by rw[hl],h0,⟨0,alA _,hh⟩,by rw[hl];exact hy,hm,by omega,by rw[hl]⟩⟩,fun i el hi=>?_⟩;obtain⟨z,hz,rfl⟩:=RN hi;refine⟨rfl,fun j x hx=>?_⟩;have hil:=(alu.1 hz).1
 match j,hx with
 |0,hx=>
  cases hx;exact⟨.int .i64 z,by rw[alO,if_pos (by omega),amO,show i*1+0=i by omega];exact cq i z hz,.ae _,rfl⟩
 |j+1,hx=>simp[AV.cells,nI] at hx
theorem yk {w:World} {F:Nat->Nat->Prop} {e:TypeId} {v:Value} {zs:List Int} (h:fM w F [v] [.aQ e 1 (ai zs)] (.aQ e 1 (ai zs)) v):(zs=[]/\(∃a,v=.slice a 0 0)/\ct v=none)\/
  ∃g cap cur,v=.slice (some ⟨g,0,none⟩) zs.length cap/\0<cap/\w.heap[g]?=some (.cells cur e (0,0))/\zs.length<=cap/\cap<=maxLen/\cur.size=cap/\∀(k:Nat) (z:Int),zs[k]?=some z->cur[k]?=some (.int .i64 z):=by
 have hl:(ai zs).length=zs.length:=by simp[ai]
 obtain⟨_,xs,⟨hxl,cy⟩,cS⟩:=h;rcases cy with⟨h0,hv⟩|⟨g,cap,cur,rfl,h0,⟨hi,y3,hh⟩,hn,hm,fO,zP⟩
 ·rw[hl] at h0;refine .inl ⟨am6.1 h0,?_,?_⟩
  ·rcases hv with rfl|⟨ad,rfl⟩
   ·exact⟨_,rfl⟩
   ·exact⟨_,rfl⟩
  ·rcases hv with rfl|⟨ad,rfl⟩<;>simp[ct]
 ·obtain rfl:hi=0:=by omega
  refine .inr ⟨g,cap,cur,by rw[hl],h0,hh,by omega,hm,by omega,fun k z hz=>?_⟩;have tO:=(alu.1 hz).1;obtain⟨_,hx⟩:=cS k (nI z) (by rw[ai,alM,hz];rfl);obtain⟨u,g1,g2,_⟩:=hx 0 _ rfl;obtain rfl:=ft g2;rw[show k*1+0=k by omega,<-zP,alO,if_pos (by omega),amO] at g1;exact g1
theorem AE {w:World} {g:Nat} {cur:Array Value} {e:TypeId} (hg:w.heap[g]?=some (.cells cur e (0,0))) (d:List Int) (n:Nat) (os:Array Obj):
  bE (fun b=>b=g) w (Sort.grow (Sort.putRow (Value.int .i64) (Sort.ahead w n) g 0 d.toArray) os)/\
   ∃c2,(Sort.grow (Sort.putRow (Value.int .i64) (Sort.ahead w n) g 0 d.toArray) os).heap[g]?=some (.cells c2 e (0,0))/\c2.size=cur.size/\∀(k:Nat) (z:Int),d[k]?=some z->k<cur.size->c2[k]?=some (.int .i64 z):=by
 have Tv:g<w.heap.size:=bo hg;refine⟨⟨rfl,rfl,rfl,by simp[Sort.putRow,Sort.mapBlock,Sort.ahead],fun k hk bu=>?_⟩,Sort.putCells (Value.int .i64) 0 d.toArray cur,?_,by simp[Sort.putCells],fun k z hz hk=>?_⟩
 ·rw[Sort.heap_grow_old _ _ (by simpa [Sort.putRow,Sort.mapBlock,Sort.ahead] using hk)];simp only[Sort.putRow,Sort.mapBlock,Sort.ahead,ane];rw[if_neg (fun e=>bu e.symm)]
 ·rw[Sort.heap_grow_old _ _ (by simpa [Sort.putRow,Sort.mapBlock,Sort.ahead] using Tv)];simp only[Sort.putRow,Sort.mapBlock,Sort.ahead,ane,if_true,hg];rfl
 ·have tO:=(alu.1 hz).1;simp only[Sort.putCells,Array.getElem?_mapIdx,alX hk,al7];rw[if_pos ⟨alE _,by simpa using tO⟩];have:(d.toArray[k-0]!)=z:=by
   rw[ant,getElem!_pos _ k (by simpa using tO)];simpa using (alu.1 hz).2
  rw[this]
theorem XT {g n cap:Nat} (h:0<cap):(fun b=>b=g)=fun b=>ct (.slice (some ⟨g,0,none⟩) n cap)=some b:=by
 funext b
 rw[bp h];exact propext ⟨fun h=>by rw[h],fun h=>(alw h).symm⟩
theorem IK {zs:List Int} (hl:zs.length<=1000000000):bH Tryz.prog 161 [.own 0 (ai zs).length] [.aQ 3 1 (ai zs)]
  (fun r q=>r=.aL []/\q=[.aQ 3 1 (ai (zs.mergeSort fun x y=>decide (x<=y)))]):=by
 have Dq:(ai zs).length=zs.length:=by simp[ai]
 refine⟨⟨_,Tryz.func161,by kernel_rfl,by kernel_rfl⟩,fun w F η bb aR hv=>?_⟩
 match bb,hv with
 | [v0],⟨r0,_⟩=>
  obtain⟨v,rfl⟩:∃v,η=[v]:=by
   have:=aR.heap.len
   match η,this with
   | [v],_=>exact⟨v,rfl⟩
  obtain rfl:v=v0:=by
   cases r0 with
   |own _ _ _ h1 h2=>exact alw (h2.2 rfl)
  rcases yk (aR.heap.obj 0 _ _ rfl rfl) with⟨rfl,⟨a,rfl⟩,hb⟩|⟨g,cap,cur,rfl,h0,hh,hn,hm,hs,cq⟩
  ·refine callsIn_wide.2 ((Any.slices_Sort_int_none Q2 a 0 w).mono ?_)
   rintro e w' ⟨rfl,rfl⟩
   exact⟨_,.aL [],_,_,rfl,⟨rfl,by simp⟩,nE (v2:=.slice a 0 0) aR (bE.refl _ _) (fun F' η hp=>⟨by omega,[],⟨rfl,.inl ⟨rfl,by cases a<;>simp⟩⟩,fun i el hi=>by simp[ai] at hi⟩) (fun b h=>h) rfl (.inl ⟨rfl,rfl,rfl,rfl,rfl,rfl⟩)⟩
  ·have hH:Sort.Holds (Value.int .i64) w g 0 zs.toArray:=fun j hj=>by
    have rB:j<zs.length:=by simpa using hj
    refine⟨?_,by simp[World.frozen?,hh]⟩;have:=cq j zs[j] (aly rB);simp only[World.cell?,hh,al2];rw[getElem!_pos _ j hj];simpa using this
   refine callsIn_wide.2 ((Any.slices_Sort_int Q2 g 0 cap zs w hH (bo hh) (by omega)).mono ?_)
   rintro e w' ⟨rfl,n,os,rfl⟩
   have Ln:(zs.mergeSort fun x y=>decide (x<=y)).length=zs.length:=List.length_mergeSort ..;obtain⟨hk,c2,k1,k2,k3⟩:=AE hh (zs.mergeSort fun x y=>decide (x<=y)) n os;rw[XT (n:=zs.length) h0] at hk;refine⟨_,.aL [],_,_,rfl,⟨rfl,rfl⟩,nE aR hk ?_ (fun b h=>h) rfl (.inl ⟨rfl,rfl,rfl,rfl,rfl,Ln⟩)⟩;have:=Gc (ys:=zs.mergeSort fun x y=>decide (x<=y)) h0 hm k1 (by omega) (by omega) (fun k z hz=>k3 k z hz (by have:=(alu.1 hz).1;omega))
   rwa [Ln] at this
theorem vf (zs:List Int):(Lib.compact zs).length<=zs.length:=by
 unfold Lib.compact Lib.compactUpTo;rw[alv];exact amf (anv _ _) (by simp)
theorem Gd {zs:List Int} {x:Int}:x∈Lib.compact zs↔x∈zs:=by
 unfold Lib.compact Lib.compactUpTo;simp only[amz,List.mem_filter,amR];constructor
 ·rintro⟨j,⟨hj,_⟩,rfl⟩
  rw[getElem!_pos _ j (by simpa using hj)];simp
 ·intro hx;obtain⟨j,hj⟩:=amC hx;have key:∀j:Nat,zs[j]?=some x->∃a,(a<zs.length/\Lib.keeps zs.toArray a=true)/\(zs.toArray[a]!)=x:=by
   intro j
   induction j with
   |zero=>
    intro h;have hl:=(alu.1 h).1;refine⟨0,⟨hl,by simp[Lib.keeps]⟩,?_⟩;rw[getElem!_pos _ 0 (by simpa using hl)];simpa using (alu.1 h).2
   |succ j ih=>
    intro h;obtain⟨hl,he⟩:=alu.1 h;have e1:(zs.toArray[j+1]!)=x:=by
     rw[getElem!_pos _ (j+1) (by simpa using hl)];simpa using he
    by_cases hk:Lib.keeps zs.toArray (j+1)=true
    ·exact⟨j+1,⟨hl,hk⟩,e1⟩
    ·have oX:(zs.toArray[j+1]!)=(zs.toArray[j]!):=by
      simp only[Lib.keeps,decide_eq_true_eq,not_or,Nat.add_sub_cancel] at hk;exact Classical.not_not.1 hk.2
     refine ih ?_;rw[e1,getElem!_pos _ j (by simpa using (by omega:j<zs.length))] at oX;rw[aly (by omega:j<zs.length),oX];simp
  exact key j hj
theorem zx {zs:List Int} {n:Nat} (l8:n=(ai zs).length) (hl:zs.length<=1000000000):bH Tryz.prog 162 [.own 0 n] [.aQ 3 1 (ai zs)]
  (fun r q=>r=.own 1 (ai (Lib.compact zs)).length/\q=[.dead,.aQ 3 1 (ai (Lib.compact zs))]):=by
 have dx:=vf zs;subst l8;refine⟨⟨_,Tryz.func162,by kernel_rfl,by kernel_rfl⟩,fun w F η bb aR hv=>?_⟩
 match bb,hv with
 | [v0],⟨r0,_⟩=>
  obtain⟨v,rfl⟩:∃v,η=[v]:=by
   have:=aR.heap.len
   match η,this with
   | [v],_=>exact⟨v,rfl⟩
  obtain rfl:v=v0:=by
   cases r0 with
   |own _ _ _ h1 h2=>exact alw (h2.2 rfl)
  rcases yk (aR.heap.obj 0 _ _ rfl rfl) with⟨rfl,⟨a,rfl⟩,hb⟩|⟨g,cap,cur,rfl,h0,hh,hn,hm,hs,cq⟩
  ·refine callsIn_wide.2 ((Any.slices_Compact_int_empty Q3 a 0 w).mono ?_)
   rintro e w' ⟨rfl,rfl⟩
   exact⟨_,_,_,_,rfl,⟨rfl,rfl⟩,nE (v2:=.slice a 0 0) aR (bE.refl _ _) (fun F' η hp=>⟨by omega,[],⟨rfl,.inl ⟨rfl,by cases a<;>simp⟩⟩,fun i el hi=>by simp[ai,Lib.compact,Lib.compactUpTo] at hi⟩) (fun b h=>h) rfl (.inr ⟨rfl,rfl,rfl,rfl⟩)⟩
  ·have hH:Sort.Holds (Value.int .i64) w g 0 zs.toArray:=fun j hj=>by
    have rB:j<zs.length:=by simpa using hj
    refine⟨?_,by simp[World.frozen?,hh]⟩;have:=cq j zs[j] (aly rB);simp only[World.cell?,hh,al2];rw[getElem!_pos _ j hj];simpa using this
   refine callsIn_wide.2 ((Any.slices_Compact_int Q3 g 0 cap zs w hH (by omega) hn).mono ?_)
   rintro e w' ⟨rfl,n,rfl⟩
   obtain⟨hk,c2,k1,k2,k3⟩:=AE hh (Lib.compact zs++List.replicate (zs.length-(Lib.compact zs).length) 0) n #[];rw[Sort.grow_empty] at hk k1;rw[XT (n:=zs.length) h0] at hk;refine⟨_,_,_,_,rfl,⟨rfl,rfl⟩,nE aR hk ?_ (fun b h=>by rw[bp h0] at h ⊢;exact h) rfl (.inr ⟨rfl,rfl,rfl,rfl⟩)⟩;exact Gc h0 hm k1 (by omega) (by omega) (fun k z hz=>k3 k z (by rw[alH (alu.1 hz).1];exact hz) (by have:=(alu.1 hz).1;omega))
instance aiF:DecidableEq Tm:=fun a b=>decidable_of_iff (Tm.same a b=true) (Tm.fo a b)
theorem Tm.RO (a b:Tm):Tm.same a b=decide (a=b):=by
 by_cases h:a=b
 ·rw[decide_eq_true h];exact(Tm.fo a b).2 h
 ·rw[decide_eq_false h];exact Bool.eq_false_iff.2 fun h1=>h ((Tm.fo a b).1 h1)
mutual
def Tm.inner:Tm->List Tm
 | .mk b k i a=>Tm.mk b k i a::(if b.isEmpty&&(k==1) then Tm.dF a else[])
def Tm.dF:List Tm->List Tm
 | []=>[]
 |t::l=>(if t.binds.isEmpty then Tm.inner t else[])++Tm.dF l
end
theorem Tm.mH (t:Tm):t.inner=t::(if t.binds.isEmpty&&(t.kind==1) then Tm.dF t.args else[]):=by cases t;rfl
mutual
theorem Tm.pY:∀t:Tm,t.inner.length<=t.size
 | .mk b k i a=>by
  have:=Tm.nF a;simp only[Tm.inner,Tm.size]
  split<;>simp only[alJ,al4]<;>omega
theorem Tm.nF:∀l:List Tm,(Tm.dF l).length<=Tm.sizes l
 | []=>alA _
 |t::l=>by
  have h1:=Tm.pY t;have h2:=Tm.nF l;simp only[Tm.dF,Tm.sizes,alz];split
  ·omega
  ·simp only[al4];omega
end
mutual
theorem Tm.rh:∀(t x:Tm),x∈t.inner->x.size<=t.size
 | .mk b k i a,x,h=>by
  simp only[Tm.inner,al6] at h;rcases h with rfl|h
  ·exact alA _
  ·split at h
   ·have:=Tm.vg a x h;simp only[Tm.size];omega
   ·cases h
theorem Tm.vg:∀(l:List Tm) (x:Tm),x∈Tm.dF l->x.size<=Tm.sizes l
 | [],x,h=>by cases h
 |t::l,x,h=>by
  simp only[Tm.dF,amn] at h;rcases h with h|h
  ·split at h
   ·have:=Tm.rh t x h;simp only[Tm.sizes];omega
   ·cases h
  ·have:=Tm.vg l x h;simp only[Tm.sizes];omega
end
def gI (l:List Tm):List Tm:=l.flatMap Tm.inner
theorem sS:∀l:List Tm,(gI l).length<=Tm.sizes l
 | []=>alA _
 |t::l=>by
  have h1:=t.pY;have h2:=sS l;simp only[gI,ann,alz,Tm.sizes] at h2 ⊢;omega
theorem AF {l:List Tm} {x:Tm} (h:x∈gI l):x.size<=Tm.sizes l:=by
 obtain⟨t,h1,h2⟩:=List.mem_flatMap.1 h;exact amf (t.rh x h2) (Tm.aK h1)
def jh (a b:Tm):Bool:=decide (b∈a.inner.drop 1)
def CO:List Tm->List Tm->Bool
 |a::l,b::m=>if a=b then CO l m else jh a b
 |_,_=>false
def di:List Tm->List Tm->List Tm
 | [],_=>[]
 |t::a,l=>if t∈l then di a (l.erase t) else t::di a l
theorem ri:∀(a l:List Tm) (x:Tm),(di a l).count x=a.count x-l.count x
 | [],l,x=>by simp[di]
 |t::a,l,x=>by
  rw[di];split
  ·rename_i h;rw[ri a _ x,List.count_erase,List.count_cons];have:=anj.2 h
   by_cases e:t=x
   ·subst e;simp;omega
   ·simp[e]
  ·rename_i h;rw[List.count_cons,ri a l x,List.count_cons]
   by_cases e:t=x
   ·subst e;have:=List.count_eq_zero_of_not_mem h;simp;omega
   ·simp[e]
theorem ky {a l:List Tm} {x:Tm}:x∈di a l↔l.count x<a.count x:=by
 rw[<-anj,ri];omega
theorem ui:∀(a l:List Tm),(di a l).length<=a.length
 | [],l=>alA _
 |t::a,l=>by
  rw[di];split
  ·have:=ui a (l.erase t);simp only[alJ];omega
  ·have:=ui a l;simp only[alJ];omega
theorem pZ {a l:List Tm} {x:Tm} (h:x∈di a l):x∈a:=anj.1 (by have:=ky.1 h;omega)
def IL (a b:List Tm) (y:Tm):Bool:=(di a b).any fun x=>jh x y
def Mm (a b:List Tm):Bool:=!(di a b).isEmpty&&(di b a).all (IL a b)
def vh (k:Int) (a b:List Tm):Bool:=if a.length=b.length then(if k=1 then Mm a b else CO a b) else false
def AG (a b:List Tm):Bool:=a.any fun x=>decide (b.count x<a.count x)
def yl (a b:List Tm) (y:Tm):Bool:=a.any fun x=>decide (b.count x<a.count x)&&jh x y
def ZH (a b:List Tm):Bool:=AG a b&&b.all fun y=>decide (b.count y<=a.count y)||yl a b y
theorem RP (a b:List Tm):AG a b=!(di a b).isEmpty:=by
 rw[amE,AG,List.any_eq_true]
 cases h:di a b with
 |nil=>
  simp only[List.isEmpty_nil,amX,alQ,iff_false]
  rintro⟨x,hx,h2⟩
  have:x∈di a b:=ky.2 (by simpa using h2);rw[h] at this;cases this
 |cons x l=>
  simp only[List.isEmpty_cons,Bool.not_false,iff_true];have:x∈di a b:=by rw[h];exact alS
  exact⟨x,pZ this,by simpa using ky.1 this⟩
theorem AH (a b:List Tm) (y:Tm):yl a b y=IL a b y:=by
 rw[amE,yl,IL,List.any_eq_true,List.any_eq_true];constructor
 ·rintro⟨x,hx,h⟩
  rw[alB,decide_eq_true_eq] at h;exact⟨x,ky.2 h.1,h.2⟩
 ·rintro⟨x,hx,h⟩
  exact⟨x,pZ hx,by rw[alB,decide_eq_true_eq];exact⟨ky.1 hx,h⟩⟩
theorem WA (a b:List Tm):ZH a b=Mm a b:=by
 rw[ZH,Mm,RP]
 congr 1
 rw[amE,alK,alK];constructor
 ·intro h y hy;have:=h y (pZ hy);have h2:=ky.1 hy;rw[amo,decide_eq_true_eq,AH] at this;rcases this with h3|h3
  ·omega
  ·exact h3
 ·intro h y hy;rw[amo,decide_eq_true_eq,AH]
  by_cases h2:b.count y<=a.count y
  ·exact .inl h2
  ·exact .inr (h y (ky.2 (by omega)))
structure Cx where
 fk:Int
 fi:Int
 la:List Tm
 ms:List Ty
 ab:Int->Int->Bool
 st:Int->Int
def Cx.var (C:Cx) (m:Int):Bool:=decide (0<=m/\m<C.ms.length)&&decide (nz 2 m (C.ms.getD m.toNat (.mk [] 0))∈gI C.la)
def vi (C:Cx) (k i:Int) (a:List Tm):Bool:=
 if k=0 then true else if k=2 then C.var i else if k=1 then(if C.fk=1 then(if i=C.fi then vh (C.st C.fi) C.la a else C.ab C.fi i) else false) else false
mutual
def tD (C:Cx):Tm->Bool
 | .mk b k i a=>(decide (Tm.mk b k i a∈gI C.la)||decide (Tm.mk [] k i a∈gI C.la))||(vi C k i a&&rj C a)
def rj (C:Cx):List Tm->Bool
 | []=>true
 |t::l=>tD C t&&rj C l
end
theorem RQ (C:Cx) (t:Tm):tD C t=((decide (t∈gI C.la)||decide (Tm.mk [] t.kind t.index t.args∈gI C.la))||(vi C t.kind t.index t.args&&rj C t.args)):=by cases t;rfl
theorem RR (C:Cx) (l:List Tm):rj C l=l.all (tD C):=by
 induction l with
 |nil=>rfl
 |cons t l ih=>rw[rj,ih,amj]
theorem mI:∀(n:Nat) (t u:Tm),t.size<=n->n<=500000000->ag Tryz.prog 88 [.agg [.sl (t.binds.map Ty.enc),nI t.kind,nI t.index,.sl (t.args.map Tm.enc)],.agg [.sl (u.binds.map Ty.enc),nI u.kind,nI u.index,.sl (u.args.map Tm.enc)]] (nB (Tm.same t u)):=by
 intro n
 induction n with
 |zero=>intro t u h;have:=t.size_pos;omega
 |succ n ih=>
  intro t u h hn;have hq:=Tm.aw t.args;have pU:=t.size_eq;have hb:=ig (l:=t.binds) (m:=u.binds) (by have:=Ty.aw t.binds;omega) fun k h1 h2=>ld _ t.binds[k] u.binds[k] (alA _) (by have:=Ty.aK (alG h1);omega);rw[Tm.sH];have aF:ag Tryz.prog 139 [.sl (t.args.map Tm.enc),.sl (u.args.map Tm.enc),.aY 88 []] (nB (Tm.bA t.args u.args)):=by
   refine Q9 (ah.intro (fun h=>?_) fun h=>?_)
   ·rw[Tm.iH (by simp at h;omega)]
   ·have hlm:t.args.length=u.args.length:=by simp at h;omega
    refine av.intro (fun k:Nat=>((u.args.map Tm.enc,(),t.args.map Tm.enc,(t.args.length:Int),(k:Int),()),())) (fun k=>k<=t.args.length/\Tm.bA t.args u.args=Tm.bA (t.args.drop k) (u.args.drop k)) (fun k=>t.args.length-k) 0 (by rw[alv];rfl) ⟨alE _,rfl⟩ ?_;intro k ⟨hk,hs⟩ again bw;dsimp only;refine ah.intro (fun h=>?_) fun h=>?_
    ·have ak:k<t.args.length:=by simpa using h
     rw[Tm.iG ak (by omega)] at hs;have hi:=ih t.args[k] (u.args[k]'(by omega)) (by have:=Tm.bY ak;omega) (by omega);refine⟨by omega,by rw[alv];omega,_,_,_,_,Tm.aq ak,by omega,by rw[alv];omega,_,_,_,_,Tm.aq (by omega),_,hi,ah.intro (fun h=>?_) fun h=>?_⟩
     ·have:Tm.same t.args[k] u.args[k]=false:=by simpa using h
      rw[hs,this,alP]
     ·have he:Tm.same t.args[k] u.args[k]=true:=by simpa using h
      rw[he,alN] at hs;rw[aA (by omega)];exact bw (k+1) ⟨by omega,hs⟩ (by omega)
    ·have:t.args.length<=k:=by simpa using h
     rw[alD this,alD (by omega)] at hs;rw[hs];rfl
  refine VJ (ah.intro (fun h=>⟨_,hb,ah.intro (fun h2=>⟨_,aF,?_⟩) fun h2=>?_⟩) fun h=>?_)
  ·rw[h,h2,alN,alN]
  ·rw[h,h2,alN,alP]
  ·rw[h,alP]
abbrev cB (t:Tm):AV:=.agg [.sl (t.binds.map Ty.enc),nI t.kind,nI t.index,.sl (t.args.map Tm.enc)]
theorem bR (t:Tm):cB t=t.enc:=t.aC.symm
theorem Tm.zy (l m:List Tm):Tm.dF (l++m)=Tm.dF l++Tm.dF m:=by
 induction l with
 |nil=>rfl
 |cons t l ih=>rw[amh,Tm.dF,Tm.dF,ih,alU]
theorem Tm.vj {l:List Tm} {k:Nat} (h:k<l.length):Tm.dF (l.take (k+1))=Tm.dF (l.take k)++(if l[k].binds.isEmpty then l[k].inner else[]):=by
 rw[alL h,Tm.zy];simp[Tm.dF]
theorem Tm.fw (l:List Tm) (k:Nat):Tm.sizes (l.take k)<=Tm.sizes l:=by
 have:=Tm.bQ (l.take k) (l.drop k);rw[amk] at this;omega
theorem vk:∀(n:Nat) (t:Tm),t.size<=n->n<=1000000->ag Tryz.prog 52 [cB t] (.sl (t.inner.map Tm.enc)):=by
 intro n
 induction n with
 |zero=>intro t h;have:=t.size_pos;omega
 |succ n ih=>
  intro t h hn;have pU:=t.size_eq;have hlen:=Tm.aw t.args;have one:([cB t]:List AV)=[t].map Tm.enc:=by rw[bR];rfl
  have stop:(t.binds.isEmpty&&(t.kind==1))=false->AV.sl [cB t]=AV.sl (t.inner.map Tm.enc):=fun e=>by rw[Tm.mH,e,one];rfl
  refine Uw (ah.intro (fun h1=>⟨rfl,stop ?_⟩) fun h1=>ah.intro (fun h2=>⟨rfl,stop ?_⟩) fun h2=>⟨rfl,?_⟩)
  ·have:0<t.binds.length:=by simpa using h1
   cases hb:t.binds with
   |nil=>rw[hb] at this;simp at this
   |cons=>rfl
  ·have:¬t.kind=1:=by simpa using h2
   simp[this]
  ·have hb:t.binds.isEmpty=true:=by
    have:¬0<t.binds.length:=by simpa using h1
    cases hb:t.binds with
    |nil=>rfl
    |cons=>rw[hb] at this;simp at this
   have hk:(t.kind==1)=true:=by simpa using h2
   refine av.intro (fun k:Nat=>(((),t.args.map Tm.enc,(t.args.length:Int),(k:Int),()),((t.binds.map Ty.enc,t.kind,t.index,t.args.map Tm.enc,()),(t::Tm.dF (t.args.take k)).map Tm.enc,()))) (fun k=>k<=t.args.length) (fun k=>t.args.length-k) 0 (by rw[alv,one];rfl) (alE _) ?_;intro k tO again bw;dsimp only;refine ah.intro (fun h=>?_) fun h=>⟨rfl,?_⟩
   ·have ak:k<t.args.length:=by simpa using h
    have FI:=Tm.vj ak;refine⟨by omega,by rw[alv];omega,_,_,_,_,Tm.aq ak,ah.intro (fun h3=>?_) fun h3=>⟨rfl,?_⟩⟩
    ·have SA:t.args[k].binds.isEmpty=true:=by
      have:t.args[k].binds.length=0:=by
       have h4:((List.length (t.args[k].binds.map Ty.enc):Nat):Int)=0:=by simpa using h3
       rw[alv] at h4;omega
      cases hb:t.args[k].binds with
      |nil=>rfl
      |cons=>rw[hb] at this;simp at this
     have bN:=Tm.bY ak;have l5:=t.args[k].pY;have rC:=Tm.nF (t.args.take k);have qv:=Tm.fw t.args k;refine⟨_,ih t.args[k] (by omega) (by omega),rfl,cg Tm.eN (by rw[alz,alv,alv,alJ];omega) (by decide),rfl,?_⟩;have e:(t::Tm.dF (t.args.take k)).map Tm.enc++t.args[k].inner.map Tm.enc=(t::Tm.dF (t.args.take (k+1))).map Tm.enc:=by
      rw[FI,SA,<-ama];rfl
     rw[e,aA (by omega)];exact bw (k+1) (by omega) (by omega)
    ·have SA:t.args[k].binds.isEmpty=false:=by
      cases hb:t.args[k].binds with
      |nil=>rw[hb] at h3;simp at h3
      |cons=>rfl
     have e:(t::Tm.dF (t.args.take k)).map Tm.enc=(t::Tm.dF (t.args.take (k+1))).map Tm.enc:=by
      rw[FI,SA];simp
     rw[e,aA (by omega)];exact bw (k+1) (by omega) (by omega)
   ·have D9:k=t.args.length:=by
     have:t.args.length<=k:=by simpa using h
     omega
    subst D9;rw[amY,Tm.mH,hb,hk];rfl
def uj (t:Tm):List Tm->Nat->Int
 | [],_ => -1
 |x::l,k=>if Tm.same x t=true then k else uj t l (k+1)
theorem qa (t:Tm):∀(l:List Tm) (k:Nat),(uj t l k = -1/\t∉l)\/∃j,uj t l k=((k+j:Nat):Int)/\j<l.length/\l.eraseIdx j=l.erase t/\t∈l
 | [],k=>.inl ⟨rfl,by simp⟩
 |x::l,k=>by
  rw[uj]
  by_cases h:x=t
  ·subst h;rw[if_pos (Tm.mD x)];exact .inr ⟨0,by simp,by simp,by simp,by simp⟩
  ·rw[if_neg (fun e=>h ((Tm.fo x t).1 e))];rcases qa t l (k+1) with⟨h1,h2⟩|⟨j,h1,h2,h3,h4⟩
   ·exact .inl ⟨h1,by simp[h2];exact fun e=>h e.symm⟩
   ·refine .inr ⟨j+1,by rw[h1];omega,by simpa using h2,?_,by simp[h4]⟩;rw[List.eraseIdx_cons_succ,h3,List.erase_cons_tail (by simpa using h)]
theorem RS (t:Tm) (l:List Tm):decide (uj t l 0>=0)=decide (t∈l):=by
 rcases qa t l 0 with⟨h1,h2⟩|⟨j,h1,h2,h3,h4⟩
 ·rw[h1,decide_eq_false h2];rfl
 ·rw[h1,decide_eq_true h4,decide_eq_true (by omega)]
def cn (l:List Tm):Prop:=l.length<=1000000/\∀x∈l,x.size<=1000000
theorem Mn {x t:Tm} (hx:x.size<=1000000):ag Tryz.prog 89 [cB x,.aS (cB t) 0] (nB (Tm.same x t)):=
 UA ⟨_,mI 1000000 x t hx (by omega),rfl⟩
theorem Ge {l:List Tm} {t:Tm} (hl:cn l):ag Tryz.prog 134 [.sl (l.map Tm.enc),.aY 89 [.aS (cB t) 0]] (nI (uj t l 0)):=by
 obtain⟨A7,qg⟩:=hl;refine EV ⟨rfl,av.intro (fun k:Nat=>((l.map Tm.enc,((),()),(l.length:Int),(k:Int),()),())) (fun k=>k<=l.length/\uj t l 0=uj t (l.drop k) k) (fun k=>l.length-k) 0 (by rw[alv];rfl) ⟨alE _,rfl⟩ ?_⟩;intro k ⟨hk,hs⟩ again bw;dsimp only;refine ah.intro (fun h=>?_) fun h=>?_
 ·have ak:k<l.length:=by simpa using h
  rw[alC ak,uj] at hs;refine⟨by omega,by rw[alv];omega,_,_,_,_,Tm.aq ak,_,Mn (qg _ (alG ak)),ah.intro (fun h=>?_) fun h=>⟨rfl,?_⟩⟩
  ·rw[hs,if_pos h]
  ·rw[if_neg (by simp[h])] at hs;rw[aA (by omega)];exact bw (k+1) ⟨by omega,hs⟩ (by omega)
 ·have:l.length<=k:=by simpa using h
  rw[alD this] at hs;rw[hs];rfl
theorem lr {l:List Tm} {t:Tm} (hl:cn l):ag Tryz.prog 51 [.sl (l.map Tm.enc),cB t] (nB (decide (t∈l))):=
 UB ⟨_,EW ⟨_,Ge hl,rfl⟩,by rw[RS]⟩
theorem vl {t:Tm} (h:t.size<=1000000):cn t.inner:=⟨amf t.pY h,fun x hx=>amf (t.rh x hx) h⟩
theorem nG {a b:Tm} (ha:a.size<=1000000):ag Tryz.prog 20 [cB a,cB b] (nB (jh a b)):=by
 have hs:=vl ha;refine UC ⟨_,vk 1000000 a ha (by omega),⟨by omega,?_,by omega,Tm.eN⟩,?_⟩
 ·rw[alv,Tm.mH,alJ];omega
 ·have e:List.drop (Int.toNat 1) (List.take (Int.toNat ((List.length (a.inner.map Tm.enc):Nat):Int)) (a.inner.map Tm.enc))=(a.inner.drop 1).map Tm.enc:=by
   rw[amA,amY,List.map_drop];rfl
  rw[e];exact⟨_,lr ⟨by rw[amN];have:=hs.1;omega,fun x hx=>hs.2 x (List.mem_of_mem_drop hx)⟩,rfl⟩
theorem Mo {a b:List Tm} (ha:cn a) (hl:a.length=b.length):ag Tryz.prog 50 [.sl (a.map Tm.enc),.sl (b.map Tm.enc)] (nB (CO a b)):=by
 obtain⟨A7,qg⟩:=ha;refine UF (av.intro (fun k:Nat=>((a.map Tm.enc,b.map Tm.enc,(a.length:Int),(k:Int),()),())) (fun k=>k<=a.length/\CO a b=CO (a.drop k) (b.drop k)) (fun k=>a.length-k) 0 (by rw[alv];rfl) ⟨alE _,rfl⟩ ?_);intro k ⟨hk,hs⟩ again bw;dsimp only;refine ah.intro (fun h=>?_) fun h=>?_
 ·have ak:k<a.length:=by simpa using h
  have MW:k<b.length:=by omega
  rw[alC ak,alC MW,CO] at hs;have i1:0<=(k:Int):=by omega
  have i2:(k:Int)<((List.length (a.map Tm.enc):Nat):Int):=by rw[alv];omega
  have i3:(k:Int)<((List.length (b.map Tm.enc):Nat):Int):=by rw[alv];omega
  have bN:=qg _ (alG ak);refine⟨i1,i2,_,_,_,_,Tm.aq ak,i1,i3,_,_,_,_,Tm.aq MW,_,mI 1000000 _ _ bN (by omega),ah.intro (fun h=>?_) fun h=>?_⟩
  ·have bu:¬a[k]=b[k]:=fun e=>by rw[e,Tm.mD] at h;cases h
   rw[if_neg bu] at hs;exact⟨i1,i2,_,_,_,_,Tm.aq ak,i1,i3,_,_,_,_,Tm.aq MW,_,nG bN,by rw[hs]⟩
  ·have he:a[k]=b[k]:=(Tm.fo _ _).1 (by simpa using h);rw[if_pos he] at hs;rw[aA (by omega)];exact bw (k+1) ⟨by omega,hs⟩ (by omega)
 ·have:a.length<=k:=by simpa using h
  rw[alD this] at hs;rw[hs]
  cases b.drop k<;>rfl
theorem lF (b:Nat) {T:TypeId}:∀(vs:List Value) (o:Nat) (w:World) (cur:Array Value),w.heap[b]?=some (.cells cur T (0,0))->∃adE,(w.setCells b o vs).heap[b]?=some (.cells adE T (0,0))/\adE.size=cur.size
 | [],o,w,cur,h=>⟨cur,h,rfl⟩
 |v::vs,o,w,cur,h=>by
  obtain⟨c2,h1,h2⟩:=lF b vs (o+1) _ _ (heap_setCell_same w b o cur T v h);exact⟨c2,h1,by rw[h2];simp⟩
theorem lG (g:Nat):∀(vs:List Value) (o:Nat) (w:World),(w.setCells g o vs).os=w.os/\(w.setCells g o vs).tape=w.tape/\(w.setCells g o vs).output=w.output/\(w.setCells g o vs).heap.size=w.heap.size/\∀k,k≠g->(w.setCells g o vs).heap[k]?=w.heap[k]?
 | [],o,w=>⟨rfl,rfl,rfl,rfl,fun _ _=>rfl⟩
 |v::vs,o,w=>by
  obtain⟨h1,h2,h3,h4,h5⟩:=lG g vs (o+1) (w.setCell ⟨g,o,none⟩ v);exact⟨h1,h2,h3,h4.trans (by simp),fun k hk=>(h5 k hk).trans (heap_setCell_other _ _ _ _ hk)⟩
theorem uk {w:World} {b k:Nat} {cur:Array Value} {T:TypeId} {fr:Nat×Nat} (h:w.heap[b]?=some (.cells cur T fr)):w.cell? ⟨b,k,none⟩=cur[k]?:=by simp only[World.cell?,h];rfl
def lu:List Value:=[.slice none 0 0,.int .i64 0,.int .i64 0,.slice none 0 0]
theorem Mp (w:World) (ty:TypeId) (b o c:Nat) (hc:∀j,j<4->(w.cell? ⟨b,o+j,none⟩).isSome=true) (hf:∀j,j<4->w.frozen? ⟨b,o+j,none⟩=false):
  (Builtin.clear_ #[44] ty #[.slice (some ⟨b,o,none⟩) 1 c]).run Tryz.prog w=.ok (.tuple #[]) (w.setCells b o lu):=by
 have qv:=run_storeCells_cells (P:=Tryz.prog) b o lu 0 w (by simpa [lu] using hc) (by simpa [lu] using hf) (by intro v hv;simp[lu] at hv;rcases hv with rfl|rfl|rfl|rfl<;>rfl);simp only[amy] at qv;have hv:∀w,(zeroValue 46).run Tryz.prog w=.ok (.agg lu.toArray) w:=fun w=>(HW 46 _ rfl).gM w;have hzc:(Builtin.zeroCells (Value.agg lu.toArray).cells 1).toList=lu:=by kernel_rfl
 simp[Builtin.clear_,run_underlying Tryz.underlying44,hv,hzc,qv]
set_option maxHeartbeats 4000000 in
set_option maxRecDepth 1000000 in
theorem RT (g n cap i:Nat) (cur:Array Value) (T:TypeId) (w:World) (hg:w.heap[g]?=some (.cells cur T (0,0))) (hn:n<=cap) (fO:cur.size=cap*4) (G5:cap<=9223372036854775807) (hi:i<n)
  (wP:∀u∈cur.toList.take (n*4),u.oneCell'=true):
  Calls Tryz.prog 136 #[.slice (some ⟨g,0,none⟩) n cap,.int .i64 i,.int .i64 (i+1:Nat)] w fun e w'=>e=.returned (.slice (some ⟨g,0,none⟩) (n-1) cap)/\
   ∃q,w'=((q.setCells g (i*4) ((cur.toList.take (n*4)).drop ((i+1)*4))).setCells g ((n-1)*4) lu)/\q=w.drew:=by
 obtain⟨i0,y3,N0,_⟩:=(HW 46 _ rfl).info;obtain⟨news,nP⟩:∃news,news=(cur.toList.take (n*4)).drop ((i+1)*4):=⟨_,rfl⟩;have hlen:news.length=(n-(i+1))*4:=by rw[nP];simp;omega
 have aE:∀k,k<cap*4->(w.drew.cell? ⟨g,k,none⟩)=cur[k]?:=fun k hk=>by
  show w.cell? _=_;simp only[World.cell?,hg];rfl
 have ZI:∀k,w.drew.frozen? ⟨g,k,none⟩=false:=fun k=>by show w.frozen? _=_;simp[World.frozen?,hg]
 obtain⟨A,hA,ahx⟩:∃A:Addr,(if cap=i+1 then some (⟨g,0,none⟩:Addr) else some ⟨g,(i+1)*4,none⟩)=some A/\Hid (∀t u,news[t]?=some u->w.drew.cell? (A.add t)=some u):=by
  by_cases h:cap=i+1
  ·refine⟨⟨g,0,none⟩,by simp[h],fun t u hu=>?_⟩;have h0:news.length=0:=by rw[hlen];omega
   rw[am6.1 h0] at hu;simp at hu
  ·refine⟨⟨g,(i+1)*4,none⟩,by simp[h],fun t u hu=>?_⟩;have ht:t<news.length:=(alu.1 hu).1;rw[hlen] at ht;rw[nP,amx,alO] at hu;split at hu
   ·rw[Addr.add_lit,aE _ (by omega),<-hu];simp
   ·cases hu
 have s1:Hid (news.length=(n-(i+1))*4):=hlen;have s2:Hid (∀u∈news,u.oneCell'=true):=by
  intro u hu;rw[nP] at hu;exact wP u (List.mem_of_mem_drop hu)
 have s3:Hid (∀t,t<news.length->(w.drew.cell? ⟨g,0+i*4+t,none⟩).isSome=true/\w.drew.frozen? ⟨g,0+i*4+t,none⟩=false):=by
  intro t ht;rw[hlen] at ht;refine⟨?_,ZI _⟩;rw[aE _ (by omega),alX (by omega)];rfl
 obtain⟨W1,LB⟩:∃W1,W1=w.drew.setCells g (0+i*4) news:=⟨_,rfl⟩;have dx:∀ty,(Builtin.clear_ #[44] ty #[.slice (some ⟨g,(i+(n-(i+1)))*4,none⟩) (n-(i+(n-(i+1)))) (cap-(i+(n-(i+1))))]).run Tryz.prog W1=.ok (.tuple #[]) (W1.setCells g ((i+(n-(i+1)))*4) lu):=fun ty=>by
  rw[show n-(i+(n-(i+1)))=1 by omega];refine Mp W1 ty g _ _ (fun j hj=>?_) (fun j hj=>?_)
  ·rw[LB];have h1:(w.drew.cell? ⟨g,(i+(n-(i+1)))*4+j,none⟩).isSome=true:=by rw[aE _ (by omega),alX (by omega)];rfl
   rw[World.cell?_setCells_out g news (0+i*4) w.drew _ (fun _ _=>.inr (by rw[hlen];show 0+i*4+(n-(i+1))*4<=(i+(n-(i+1)))*4+j;omega))];exact h1
  ·rw[LB,World.frozen?_setCells];exact ZI _
 have hW:Hid (W1=w.drew.setCells g (0+i*4) news):=LB;have hic:i<=cap:=by omega
 have hjc:i+1<=cap:=by omega
 have hiz:(i:Int)+1<=(n:Int):=by omega
 have akt:0<=(i:Int)+1:=by omega
 clear LB aE ZI hlen wP hg
 go_enter Tryz.func136,Tryz.ntmps136
 go_wp2
 go_region_law (refine step_append_room rfl (.tmp 22) (.tmp 25) 44 rfl 46 i0 4 Tryz.underlying44 y3 N0 g 0 i cap (by simp[Act.eval,Act.put]) A (n-(i+1)) (cap-(i+1)) news (by simp[Act.eval,Act.put]) s1.out ahx.out s2.out (by omega) s3.out ?_;rw[<-hW.out])
 go_wp2
 go_ret
 refine⟨by rw[show n-1=i+(n-(i+1)) by omega];rfl,w.drew,?_,rfl⟩;rw[show i+(n-(i+1))=n-1 by omega,hW.out,nP,al2]
theorem CP {els:List AV} {i:Nat} (hi:i<els.length):bH Tryz.prog 136 [.own 0 els.length,nI i,nI ((i+1:Nat):Int)] [.aQ 46 4 els]
  (fun r q=>r=.own 1 (els.eraseIdx i).length/\q=[.dead,.aQ 46 4 (els.eraseIdx i)]):=by
 refine⟨⟨_,Tryz.func136,by kernel_rfl,by kernel_rfl⟩,fun w F η bb aR hv=>?_⟩
 match bb,hv with
 | [v0,v1,v2],⟨r0,r1,r2,_⟩=>
  obtain rfl:=ft r1;obtain rfl:=ft r2;obtain⟨v,rfl⟩:∃v,η=[v]:=by
   have:=aR.heap.len
   match η,this with
   | [v],_=>exact⟨v,rfl⟩
  obtain rfl:v=v0:=by
   cases r0 with
   |own _ _ _ h1 h2=>exact alw (h2.2 rfl)
  obtain⟨_,xs,cy,cS⟩:=aR.heap.obj 0 _ _ rfl rfl;obtain⟨hxl,cy⟩:=cy;rcases cy with⟨h0,_⟩|⟨g,cap,cur,rfl,tG,⟨y3,hh,hg⟩,hn,hm,fO,zP⟩
  ·omega
  obtain rfl:y3=0:=by omega
  have Sv:∀k,k<els.length*4->cur[k]?=xs[k]?:=fun k hk=>by
   rw[<-zP,alO,if_pos hk,amO]
  have wP:∀u∈cur.toList.take (els.length*4),u.oneCell'=true:=by
   intro u hu;rw[zP] at hu;obtain⟨k,hk⟩:=amC hu;have tO:k<els.length*4:=by rw[<-hxl];exact(alu.1 hk).1
   have ha:k / 4<els.length:=by omega
   obtain⟨hc,aE⟩:=cS (k / 4) _ (aly ha);have hj:k % 4<els[k / 4].cells.length:=by rw[hc];omega
   obtain⟨u2,h1,_,h3⟩:=aE (k % 4) _ (aly hj);rw[show k / 4*4+k % 4=k by omega,hk] at h1;rw[alw h1];exact h3
  refine callsIn_wide.2 ((RT g els.length cap i cur _ w hg hn fO (by simp only[maxLen] at hm;omega) hi wP).mono ?_)
  rintro e w' ⟨rfl,_,rfl,rfl⟩
  obtain⟨c1,k1,k2⟩:=lF g ((cur.toList.take (els.length*4)).drop ((i+1)*4)) (i*4) w.drew cur hg;obtain⟨c2,k3,k4⟩:=lF g lu ((els.length-1)*4) _ c1 k1;have Xh:((cur.toList.take (els.length*4)).drop ((i+1)*4)).length=(els.length-(i+1))*4:=by simp;omega
  have hle:(els.eraseIdx i).length=els.length-1:=by rw[List.length_eraseIdx,if_pos hi]
  have hgs:g<w.heap.size:=bo hg;obtain⟨q1,q2,q3,q4,q5⟩:=lG g ((cur.toList.take (els.length*4)).drop ((i+1)*4)) (i*4) w.drew;obtain⟨p1,p2,p3,p4,p5⟩:=lG g lu ((els.length-1)*4) (w.drew.setCells g (i*4) ((cur.toList.take (els.length*4)).drop ((i+1)*4)));have hd:w.drew.heap[g]?=some (.cells cur 46 (0,0)):=hg;generalize LB:w.drew.setCells g (i*4) ((cur.toList.take (els.length*4)).drop ((i+1)*4))=W1 at *;have l5:∀k,¬k<i*4->k<(els.length-1)*4->W1.cell? ⟨g,k,none⟩=xs[k+4]?:=fun k G0 hk=>by
   have l5:=World.cell?_setCells_in g ((cur.toList.take (els.length*4)).drop ((i+1)*4)) (i*4) w.drew (fun j hj=>by
    rw[Xh] at hj
    rw[uk hd,alX (by omega)];rfl) (k-i*4) (by rw[Xh];omega)
   rw[show i*4+(k-i*4)=k by omega,LB] at l5;rw[l5,<-aly,amx,zP]
   congr 1
   omega
  have aE:∀k,k<(els.length-1)*4->c2[k]?=if k<i*4 then xs[k]? else xs[k+4]?:=fun k hk=>by
   rw[<-uk k3,World.cell?_setCells_out g lu _ _ _ (fun _ _=>.inl hk)]
   by_cases G0:k<i*4
   ·rw[<-LB,World.cell?_setCells_out g _ _ _ _ (fun _ _=>.inl G0),if_pos G0,<-Sv k (by omega),uk hd]
   ·rw[if_neg G0];exact l5 k G0 hk
  generalize hW:W1.setCells g ((els.length-1)*4) lu=W at *;have iS:∀k,k≠g->W.heap[k]?=w.heap[k]?:=fun k hk=>(p5 k hk).trans (q5 k hk);have bN:W.heap.size=w.heap.size:=p4.trans q4;have LL:∀o,¬F g o:=fun o hf=>by
   have:=(aR.bg g o hf).2 0 _ rfl (bp tG);exact this
  have da:aG [Value.slice (some ⟨g,0,none⟩) els.length cap] [af.aQ 46 4 els] g:=⟨0,_,_,rfl,True.intro,rfl,bp tG⟩;have ew:∀b o,F b o->bO F w [Value.slice (some ⟨g,0,none⟩) els.length cap] [af.aQ 46 4 els] W [.slice (some ⟨g,0,none⟩) els.length cap,.slice (some ⟨g,0,none⟩) (els.length-1) cap] [.dead,.aQ 46 4 (els.eraseIdx i)] b o:=fun b o hf=>by
   refine⟨.inl hf,by rw[bN];exact(aR.bg b o hf).1,fun r v h1 h2=>?_⟩
   match r,h1 with
   |0,_=>exact True.intro
   |1,h1=>
    cases h1;rw[bp tG] at h2;obtain rfl:=alw h2;exact absurd hf (LL o)
  have cA:Ext w F [Value.slice (some ⟨g,0,none⟩) els.length cap] [af.aQ 46 4 els] W (bO F w [Value.slice (some ⟨g,0,none⟩) els.length cap] [af.aQ 46 4 els] W [.slice (some ⟨g,0,none⟩) els.length cap,.slice (some ⟨g,0,none⟩) (els.length-1) cap] [.dead,.aQ 46 4 (els.eraseIdx i)]) [.slice (some ⟨g,0,none⟩) els.length cap,.slice (some ⟨g,0,none⟩) (els.length-1) cap] [.dead,.aQ 46 4 (els.eraseIdx i)]:=by
   refine⟨fun b o v hf hc=>?_,fun b es c hf hc=>?_,ew,fun r a h=>?_,fun r a h=>?_,fun r n u h=>?_⟩
   ·have bu:b≠g:=fun e=>LL o (e▸hf);simp only[World.cell?] at hc ⊢;rw[iS b bu];exact hc
   ·have bu:b≠g:=fun e=>LL 0 (e▸hf);rw[iS b bu];exact hc
   ·match r,h with
    |0,h=>cases h
   ·match r,h with
    |0,h=>cases h
   ·match r,h with
    |0,_=>exact True.intro
  refine⟨_,_,_,[.slice (some ⟨g,0,none⟩) els.length cap,.slice (some ⟨g,0,none⟩) (els.length-1) cap],rfl,⟨rfl,rfl⟩,⟨p1.trans q1,p2.trans q2,p3.trans q3,by rw[bN];exact alA _,fun k _ hx=>iS k fun e=>hx (e▸da)⟩,cA,⟨rfl,fun r o v h1 h2=>?_,fun r r' o o' v v' b bu h1 h2 l1 l2 e1 e2 hb=>?_⟩,fun b ⟨r,o,v,h1,h2,h3,h4⟩=>?_,.own _ _ _ rfl ?_⟩
  ·match r,h1,h2 with
   |0,h1,_=>cases h1;exact True.intro
   |1,h1,h2=>
    cases h1;cases h2
    refine⟨by omega,c2.toList.take ((els.length-1)*4),⟨by have e:=amg (xs:=c2);rw[hle,amd];omega,.inr ⟨g,cap,c2,by rw[hle],tG,⟨0,alA _,k3⟩,by omega,hm,by omega,by rw[hle]⟩⟩,fun a el ha=>?_⟩;rw[List.getElem?_eraseIdx] at ha;have M5:a<els.length-1:=by
     split at ha
     ·omega
     ·have:=(alu.1 ha).1;omega
    have get:∀j,j<4->(c2.toList.take ((els.length-1)*4))[a*4+j]?=if a<i then xs[a*4+j]? else xs[(a+1)*4+j]?:=fun j hj=>by
     rw[alO,if_pos (by omega),amO,aE _ (by omega)]
     by_cases h:a<i
     ·rw[if_pos h,if_pos (by omega)]
     ·rw[if_neg h,if_neg (by omega)]
      congr 1;omega
    by_cases h:a<i
    ·rw[if_pos h] at ha;obtain⟨hc,hx⟩:=cS a el ha;refine⟨hc,fun j x hj=>?_⟩;obtain⟨u,z1,z2,z3⟩:=hx j x hj;have hj4:j<4:=by rw[<-hc];exact(alu.1 hj).1
     exact⟨u,by rw[get j hj4,if_pos h];exact z1,z2.ext cA.lN.ext,z3⟩
    ·rw[if_neg h] at ha;obtain⟨hc,hx⟩:=cS (a+1) el ha;refine⟨hc,fun j x hj=>?_⟩;obtain⟨u,z1,z2,z3⟩:=hx j x hj;have hj4:j<4:=by rw[<-hc];exact(alu.1 hj).1
     exact⟨u,by rw[get j hj4,if_neg h];exact z1,z2.ext cA.lN.ext,z3⟩
  ·match r,r',h1,h2 with
   |0,_,h1,_=>cases h1;exact l1.elim
   |1,0,_,h2=>cases h2;exact l2.elim
   |1,1,_,_=>exact(bu rfl).elim
  ·match r,h1,h3 with
   |0,h1,_=>cases h1;exact h2.elim
   |1,_,h3=>
    cases h3;rw[bp tG] at h4;obtain rfl:=alw h4;exact .inr da
  ·unfold aT;simp[hle]
abbrev bxT (t:Tm):af:=.box [.sl (t.binds.map Ty.enc),nI t.kind,nI t.index,.sl (t.args.map Tm.enc)]
theorem Mq {x t:Tm} (hx:x.size<=1000000):bH Tryz.prog 135 [cB x,.ptr 0 0] [bxT t] (fun r q=>r=nB (Tm.same x t)/\q=[bxT t]):=
 PW ⟨_,mI 1000000 x t hx (by omega),rfl,rfl⟩
theorem Gf {l:List Tm} {t:Tm} (hl:cn l):bH Tryz.prog 134 [.own 0 (l.map Tm.enc).length,.aY 135 [.ptr 1 0]] [.aQ 46 4 (l.map Tm.enc),bxT t] (fun r q=>r=nI (uj t l 0)/\q=[.aQ 46 4 (l.map Tm.enc),bxT t]):=by
 obtain⟨A7,qg⟩:=hl;refine EZ ⟨rfl,rfl,av.intro (fun k:Nat=>(((),((),()),(l.length:Int),(k:Int),()),(l.map Tm.enc,(t.binds.map Ty.enc,t.kind,t.index,t.args.map Tm.enc,()),()))) (fun k=>k<=l.length/\uj t l 0=uj t (l.drop k) k) (fun k=>l.length-k) 0 (by rw[alv];rfl) ⟨alE _,rfl⟩ ?_⟩;intro k ⟨hk,hs⟩ again bw;dsimp only;refine ah.intro (fun h=>?_) fun h=>?_
 ·have ak:k<l.length:=by simpa using h
  rw[alC ak,uj] at hs;refine⟨⟨by omega,by rw[alv];omega,rfl⟩,rfl,by rw[alv];omega,_,_,_,_,Tm.aq ak,_,Mq (qg _ (alG ak)),fun r q ⟨e1,e2⟩=>⟨_,_,_,_,_,⟨e1,e2⟩,ah.intro (fun h=>?_) fun h=>⟨rfl,?_⟩⟩⟩
  ·rw[hs,if_pos h];exact⟨rfl,rfl⟩
  ·rw[if_neg (by simp[h])] at hs;rw[aA (by omega)];exact bw (k+1) ⟨by omega,hs⟩ (by omega)
 ·have:l.length<=k:=by simpa using h
  rw[alD this] at hs;rw[hs];exact⟨rfl,rfl⟩
theorem Gg {l:List Tm} (h:l.length<=1000000000):MY Tryz.prog 133 [.sl (l.map Tm.enc)] 46 4 (l.map Tm.enc):=by
 refine zj fun b hb=>ah.intro (fun h1=>?_) fun h1=>?_
 ·subst h1;refine⟨am0 fun bu=>?_,by decide⟩;have:=hb bu;cases this
 ·exact⟨cg Tm.eN (by simp;omega) (by decide),rfl,rfl,by simp,by simp⟩
def mJ:List Tm->List Tm->List Tm
 | [],l=>l
 |t::a,l=>if t∈l then mJ a (l.erase t) else mJ a l
theorem Mr (a l:List Tm) (t:Tm):mJ (a++[t]) l=if t∈mJ a l then(mJ a l).erase t else mJ a l:=by
 induction a generalizing l with
 |nil=>rfl
 |cons x a ih=>
  rw[amh,mJ,mJ]
  split<;>exact ih _
theorem IM (a l:List Tm) (t:Tm):di (a++[t]) l=di a l++if t∈mJ a l then[] else[t]:=by
 induction a generalizing l with
 |nil=>
  rw[amq,di,di,mJ,di,amq]
  by_cases h:t∈l
  ·rw[if_pos h,if_pos h]
  ·rw[if_neg h,if_neg h,di]
 |cons x a ih=>
  rw[amh,di,di,mJ];split
  ·exact ih _
  ·rw[ih,amh]
theorem RU {a l:List Tm} {x:Tm} (h:x∈mJ a l):x∈l:=by
 induction a generalizing l with
 |nil=>exact h
 |cons y a ih=>
  rw[mJ] at h;split at h
  ·exact List.mem_of_mem_erase (ih h)
  ·exact ih h
theorem RV (a l:List Tm):(mJ a l).length<=l.length:=by
 induction a generalizing l with
 |nil=>exact alA _
 |cons y a ih=>
  rw[mJ];split
  ·exact amf (ih _) List.length_erase_le
  ·exact ih _
theorem cn.cut {l:List Tm} (h:cn l) (a:List Tm):cn (mJ a l):=⟨amf (RV a l) h.1,fun x hx=>h.2 x (RU hx)⟩
theorem cn.less {a:List Tm} (h:cn a) (l:List Tm):cn (di a l):=⟨amf (ui a l) h.1,fun x hx=>h.2 x (pZ hx)⟩
theorem map_eraseIdx {α β:Type} (f:α->β):∀(l:List α) (i:Nat),(l.map f).eraseIdx i=(l.eraseIdx i).map f
 | [],_=>rfl
 |_::_,0=>rfl
 |x::l,i+1=>by simp[map_eraseIdx f l i]
theorem ym {a l:List Tm} (ha:cn a) (hl:cn l):ag Tryz.prog 83 [.sl (a.map Tm.enc),.sl (l.map Tm.enc)] (.sl ((di a l).map Tm.enc)):=by
 refine U6 ⟨_,Gg (by have:=hl.1;omega),rfl,rfl,?_⟩;refine av.intro (fun k:Nat=>(((),(),a.map Tm.enc,(a.length:Int),(k:Int),()),((mJ (a.take k) l).map Tm.enc,(di (a.take k) l).map Tm.enc,()))) (fun k=>k<=a.length) (fun k=>a.length-k) 0 (by rw[alv];rfl) (alE _) ?_;intro k hk again bw;dsimp only;refine ah.intro (fun h=>?_) fun h=>⟨rfl,?_⟩
 ·have ak:k<a.length:=by simpa using h
  have e1:a.take (k+1)=a.take k++[a[k]]:=alL ak;have hc:=hl.cut (a.take k);have ho:=(cn.less (a:=a.take k) ⟨by rw[amd];have:=ha.1;omega,fun x hx=>ha.2 x (List.mem_of_mem_take hx)⟩ l).1;have Dg:=ha.1;have fF:=bw (k+1) (by omega) (by omega);rw[e1,Mr,IM] at fF;refine⟨by omega,by rw[alv];omega,_,_,_,_,Tm.aq ak,_,Gf hc,fun r q ⟨r1,r2⟩=>⟨_,_,_,_,_,_,⟨r1,r2⟩,ah.intro (fun h=>?_) fun h=>?_⟩⟩
  ·have hn:a[k]∉mJ (a.take k) l:=by
    rcases qa a[k] (mJ (a.take k) l) 0 with⟨_,h2⟩|⟨j,h1,_⟩
    ·exact h2
    ·rw[h1] at h;have:((0+j:Nat):Int)<0:=by simpa using h
     omega
   have e2:(di (a.take k) l).map Tm.enc++[cB a[k]]=((di (a.take k) l)++[a[k]]).map Tm.enc:=by rw[ama,bR];rfl
   refine⟨rfl,bc rfl (by rw[e2,alv,alz,alW];omega) (by decide),rfl,rfl,?_⟩;rw[if_neg hn,if_neg hn] at fF;rw[aA (by omega),e2];exact fF
  ·rcases qa a[k] (mJ (a.take k) l) 0 with⟨h1,h2⟩|⟨j,h1,h2,h3,h4⟩
   ·rw[h1] at h;simp at h
   ·rw[if_pos h4,if_pos h4,alV] at fF;have hj:=hc.1;rw[h1,al2,aA (by omega)];refine⟨_,CP (by rw[alv];exact h2),fun r q ⟨r1,r2⟩=>⟨_,⟨r1,r2⟩,rfl,rfl,?_⟩⟩;rw[aA (by omega),map_eraseIdx,h3];exact fF
 ·have:a.length<=k:=by simpa using h
  rw[alI this]
def pt (p:Tm->Bool):List Tm->Nat->Int
 | [],_ => -1
 |x::l,k=>if p x=true then k else pt p l (k+1)
theorem sT (p:Tm->Bool):∀(l:List Tm) (k:Nat),decide (pt p l k>=0)=l.any p
 | [],k=>rfl
 |x::l,k=>by
  rw[pt,am7]
  cases h:p x with
  |true=>rw[if_pos rfl,amW];exact decide_eq_true (by omega)
  |false=>rw[if_neg (by decide),amP];exact sT p l (k+1)
theorem Ms {x t:Tm} (hx:x.size<=1000000):ag Tryz.prog 86 [cB x,.aS (cB t) 0] (nB (jh x t)):=
 UG ⟨_,nG hx,rfl⟩
theorem Gi {l:List Tm} {t:Tm} (hl:cn l):ag Tryz.prog 134 [.sl (l.map Tm.enc),.aY 86 [.aS (cB t) 0]] (nI (pt (fun x=>jh x t) l 0)):=by
 obtain⟨A7,qg⟩:=hl;refine E2 ⟨rfl,av.intro (fun k:Nat=>((l.map Tm.enc,((),()),(l.length:Int),(k:Int),()),())) (fun k=>k<=l.length/\pt (fun x=>jh x t) l 0=pt (fun x=>jh x t) (l.drop k) k) (fun k=>l.length-k) 0 (by rw[alv];rfl) ⟨alE _,rfl⟩ ?_⟩;intro k ⟨hk,hs⟩ again bw;dsimp only;refine ah.intro (fun h=>?_) fun h=>?_
 ·have ak:k<l.length:=by simpa using h
  rw[alC ak,pt] at hs;refine⟨by omega,by rw[alv];omega,_,_,_,_,Tm.aq ak,_,Ms (qg _ (alG ak)),ah.intro (fun h=>?_) fun h=>⟨rfl,?_⟩⟩
  ·rw[hs,if_pos h]
  ·rw[if_neg (by simp[h])] at hs;rw[aA (by omega)];exact bw (k+1) ⟨by omega,hs⟩ (by omega)
 ·have:l.length<=k:=by simpa using h
  rw[alD this] at hs;rw[hs];rfl
theorem Gj {l:List Tm} {t:Tm} (hl:cn l):ag Tryz.prog 85 [.sl (l.map Tm.enc),.aY 86 [.aS (cB t) 0]] (nB (l.any fun x=>jh x t)):=
 E3 ⟨_,Gi hl,by rw[sT]⟩
def yn (l:List Tm) (y:Tm):Bool:=!(l.any fun x=>jh x y)
theorem RW {l:List Tm} {t:Tm} (hl:cn l):bH Tryz.prog 84 [cB t,.ptr 0 0] [.box [.sl (l.map Tm.enc)]] (fun r q=>r=nB (l.any fun x=>jh x t)/\q=[.box [.sl (l.map Tm.enc)]]):=
 UH ⟨_,Gj hl,rfl,rfl⟩
theorem Mu {l:List Tm} {t:Tm} (hl:cn l):bH Tryz.prog 87 [cB t,.ptr 1 0] (BT (l.map Tm.enc)) (fun r q=>r=nB (yn l t)/\q=BT (l.map Tm.enc)):=
 UI ⟨_,RW hl,fun r q ⟨e1,e2⟩=>⟨_,_,⟨e1,e2⟩,rfl,rfl⟩⟩
theorem Gk {l m:List Tm} (hl:cn l) (hm:m.length<=1000000000):bH Tryz.prog 134 [.sl (m.map Tm.enc),.aY 87 [.ptr 1 0]] (BT (l.map Tm.enc)) (fun r q=>r=nI (pt (yn l) m 0)/\q=BT (l.map Tm.enc)):=by
 refine E6 (av.intro (fun k:Nat=>((m.map Tm.enc,((),()),(m.length:Int),(k:Int),()),((l.map Tm.enc,()),((),()),()))) (fun k=>k<=m.length/\pt (yn l) m 0=pt (yn l) (m.drop k) k) (fun k=>m.length-k) 0 (by rw[alv];rfl) ⟨alE _,rfl⟩ ?_);intro k ⟨hk,hs⟩ again bw;dsimp only;refine ah.intro (fun h=>?_) fun h=>?_
 ·have ak:k<m.length:=by simpa using h
  rw[alC ak,pt] at hs;refine⟨by omega,by rw[alv];omega,_,_,_,_,Tm.aq ak,_,Mu hl,fun r q ⟨e1,e2⟩=>⟨_,_,⟨e1,e2⟩,ah.intro (fun h=>?_) fun h=>?_⟩⟩
  ·rw[hs,if_pos h];exact⟨rfl,rfl⟩
  ·rw[if_neg (by simp[h])] at hs;rw[aA (by omega)];exact bw (k+1) ⟨by omega,hs⟩ (by omega)
 ·have:m.length<=k:=by simpa using h
  rw[alD this] at hs;rw[hs];exact⟨rfl,rfl⟩
theorem Gl {l m:List Tm} (hl:cn l) (hm:m.length<=1000000000):bH Tryz.prog 85 [.sl (m.map Tm.enc),.aY 87 [.ptr 1 0]] (BT (l.map Tm.enc)) (fun r q=>r=nB (m.any (yn l))/\q=BT (l.map Tm.enc)):=
 E7 ⟨_,Gk hl hm,fun r q ⟨e1,e2⟩=>⟨_,_,⟨e1,e2⟩,by rw[sT],rfl⟩⟩
theorem RX (l m:List Tm):(!m.any (yn l))=m.all fun y=>l.any fun x=>jh x y:=by
 induction m with
 |nil=>rfl
 |cons y m ih=>rw[am7,amj,Bool.not_or,ih,yn,Bool.not_not]
theorem Mw {a b:List Tm} (ha:cn a) (hb:cn b):ag Tryz.prog 49 [.sl (a.map Tm.enc),.sl (b.map Tm.enc)] (nB (Mm a b)):=by
 refine UJ ⟨_,ym ha hb,_,ym hb ha,ah.intro (fun h=>?_) fun h=>?_⟩
 ·have bu:(di a b).isEmpty=false:=by
   cases he:di a b with
   |nil=>rw[he] at h;simp at h
   |cons=>rfl
  refine⟨_,Gl (ha.less b) (by have:=(hb.less a).1;omega),fun r q ⟨e1,e2⟩=>⟨_,_,⟨e1,e2⟩,?_⟩⟩;rw[RX,Mm,bu];rfl
 ·have bu:(di a b).isEmpty=true:=by
   cases he:di a b with
   |nil=>rfl
   |cons=>rw[he] at h;simp at h
  rw[Mm,bu];rfl
theorem IP {k:Int} {a b:List Tm} (ha:cn a) (hb:cn b):ag Tryz.prog 18 [nI k,.sl (a.map Tm.enc),.sl (b.map Tm.enc)] (nB (vh k a b)):=by
 refine UK (ah.intro (fun h=>?_) fun h=>?_)
 ·rw[vh,if_neg (by intro e;rw[alv,alv,e] at h;simp at h)]
 ·have hl:a.length=b.length:=by
   have h2:(a.length:Int)=(b.length:Int):=by simpa [bne] using h
   omega
  rw[vh,if_pos hl];refine ah.intro (fun h=>⟨_,Mw ha hb,?_⟩) fun h=>⟨_,Mo ha hl,?_⟩
  ·rw[if_pos (by simpa using h)]
  ·rw[if_neg (by simpa using h)]
theorem um {l:List Tm} {k:Nat} (h:k<l.length):gI (l.take (k+1))=gI (l.take k)++l[k].inner:=by
 rw[gI,gI,alL h,List.flatMap_append,ann,List.flatMap_nil,alV]
abbrev lx (l r:Tm) (ms:List Ty):AV:=.agg [.sl (l.binds.map Ty.enc),nI l.kind,nI l.index,.sl (l.args.map Tm.enc),.sl (r.binds.map Ty.enc),nI r.kind,nI r.index,.sl (r.args.map Tm.enc),.sl (ms.map Ty.enc)]
theorem Gm {l:List Tm} {k:Nat} (h:k<l.length) (hs:Tm.sizes l<=1000000):l[k].size<=1000000/\(gI (l.take k)).length+l[k].inner.length<=1000000:=by
 have h1:=Tm.aK (alG h);have h2:=sS (l.take (k+1));have h3:=Tm.fw l (k+1);rw[um h,alz] at h2;omega
theorem CQ {l r:Tm} {ms:List Ty} (h:Tm.sizes l.args<=1000000):ag Tryz.prog 38 [lx l r ms] (.sl ((gI l.args).map Tm.enc)):=by
 have hlen:=Tm.aw l.args;refine Uz ⟨rfl,av.intro (fun k:Nat=>(((),l.args.map Tm.enc,(l.args.length:Int),(k:Int),()),((l.binds.map Ty.enc,l.kind,l.index,l.args.map Tm.enc,r.binds.map Ty.enc,r.kind,r.index,r.args.map Tm.enc,ms.map Ty.enc,()),(gI (l.args.take k)).map Tm.enc,()))) (fun k=>k<=l.args.length) (fun k=>l.args.length-k) 0 (by rw[alv];rfl) (alE _) ?_⟩;intro k hk again bw;dsimp only;refine ah.intro (fun h1=>?_) fun h1=>⟨rfl,?_⟩
 ·have ak:k<l.args.length:=by simpa using h1
  obtain⟨s1,s2⟩:=Gm ak h;refine⟨by omega,by rw[alv];omega,_,_,_,_,Tm.aq ak,_,vk 1000000 _ s1 (by omega),rfl,cg Tm.eN (by rw[alz,alv,alv];omega) (by decide),rfl,?_⟩;rw[aA (by omega),<-ama,<-um ak];exact bw (k+1) (by omega) (by omega)
 ·have:l.args.length<=k:=by simpa using h1
  rw[alI this]
mutual
def Tm.nodes:Tm->Nat
 | .mk _ _ _ l=>1+Tm.cD l
def Tm.cD:List Tm->Nat
 | []=>0
 |t::l=>Tm.nodes t+Tm.cD l
end
theorem Tm.yo (t:Tm):t.nodes=1+Tm.cD t.args:=by cases t;rfl
theorem Tm.qb (t:Tm):1<=t.nodes:=by rw[t.yo];omega
theorem Tm.yp {l:List Tm} {t:Tm} (h:t∈l):t.nodes<=Tm.cD l:=by
 induction l with
 |nil=>cases h
 |cons u l ih=>
  simp only[Tm.cD];rcases al6.1 h with rfl|h
  ·omega
  ·have:=ih h;omega
theorem Tm.yq (l:List Tm):l.length<=Tm.cD l:=by
 induction l with
 |nil=>exact alE _
 |cons t l ih=>have:=t.qb;simp only[Tm.cD,alJ];omega
mutual
theorem Tm.yr:∀(t:Tm),t.nodes<=t.size
 | .mk bs k i l=>by have:=Tm.AI l;rw[Tm.nodes,Tm.size];omega
theorem Tm.AI:∀(l:List Tm),Tm.cD l<=Tm.sizes l
 | []=>alA _
 |t::l=>by have h1:=Tm.yr t;have h2:=Tm.AI l;rw[Tm.cD,Tm.sizes];omega
end
mutual
def Tm.deep:Tm->Nat
 | .mk _ _ _ l=>Tm.jA 0 l+1
def Tm.jA:Nat->List Tm->Nat
 |n,[]=>n
 |n,t::l=>Tm.jA (if Tm.deep t>n then Tm.deep t else n) l
end
theorem Tm.WB (t:Tm):t.deep=Tm.jA 0 t.args+1:=by cases t;rfl
theorem Tm.IQ {n:Nat} {l:List Tm} {k:Nat} (h:k<l.length):Tm.jA n (l.drop k)=Tm.jA (if Tm.deep l[k]>n then Tm.deep l[k] else n) (l.drop (k+1)):=by
 rw[alC h,Tm.jA]
mutual
theorem Tm.KY:∀(t:Tm),t.deep<=t.nodes
 | .mk _ _ _ l=>by rw[Tm.deep,Tm.nodes];have:=Tm.Gn 0 l;omega
theorem Tm.Gn:∀(n:Nat) (l:List Tm),Tm.jA n l<=n+Tm.cD l
 |n,[]=>by simp[Tm.jA,Tm.cD]
 |n,t::l=>by
  rw[Tm.jA,Tm.cD];have h1:=Tm.KY t;have h2:=Tm.Gn (if Tm.deep t>n then Tm.deep t else n) l
  split at h2<;>(rename_i hq;first|rw[if_pos hq]|rw[if_neg hq])<;>omega
end
theorem qG (l r:List Tm):Tm.cD (l++r)=Tm.cD l+Tm.cD r:=by
 induction l with
 |nil=>simp[Tm.cD]
 |cons t l ih=>rw[amh,Tm.cD,Tm.cD,ih];omega
theorem Gp:∀(n:Nat) (t:Tm),t.nodes<=n->n<=1000000000->ag Tryz.prog 151 [.agg [.sl (t.binds.map Ty.enc),nI t.kind,nI t.index,.sl (t.args.map Tm.enc)]] (nI (t.nodes:Nat)):=by
 intro n
 induction n with
 |zero=>intro t h;have:=t.qb;omega
 |succ n ih=>
  intro t h hn;have hq:=Tm.yq t.args;have ht:=t.yo;refine Q4 ?_;unfold XG Fs;refine av.intro (fun k:Nat=>(((),((1+Tm.cD (t.args.take k):Nat):Int),(k:Int),()),((t.binds.map Ty.enc,t.kind,t.index,t.args.map Tm.enc,()),())))
   (fun k=>k<=t.args.length) (fun k=>t.args.length-k) 0 rfl (alE _) ?_
  intro k hk again bw;dsimp only;rw[alv];have hle:∀j,Tm.cD (t.args.take j)<=Tm.cD t.args:=fun j=>by
   have:=qG (t.args.take j) (t.args.drop j);rw[amk] at this;omega
  refine ah.intro (fun h=>?_) fun h=>?_
  ·have ak:k<t.args.length:=by simpa using h
   have hz:=Tm.yp (alG ak);have hs:Tm.cD (t.args.take (k+1))=Tm.cD (t.args.take k)+t.args[k].nodes:=by
    rw[<-cY ak,qG];simp[Tm.cD]
   refine⟨by omega,by omega,_,_,_,_,Tm.aq ak,_,ih t.args[k] (by omega) (by omega),?_⟩;have h1:=hle (k+1);rw[aA (by omega),bV (by omega) (by omega),show (((1+Tm.cD (t.args.take k):Nat):Int)+((t.args[k].nodes:Nat):Int))=((1+Tm.cD (t.args.take (k+1)):Nat):Int) from by omega];exact bw (k+1) (by omega) (by omega)
  ·have:t.args.length<=k:=by simpa using h
   rw[alI this,ht]
theorem CR:∀(n:Nat) (t:Tm),t.nodes<=n->n<=1000000000->ag Tryz.prog 152 [.agg [.sl (t.binds.map Ty.enc),nI t.kind,nI t.index,.sl (t.args.map Tm.enc)]] (nI (t.deep:Nat)):=by
 intro n
 induction n with
 |zero=>intro t h;have:=t.qb;omega
 |succ n ih=>
  intro t h hn;have hq:=Tm.yq t.args;have ht:=t.yo;have hdd:=t.WB;have hd0:=Tm.KY t;refine Q5 ?_;unfold XH Ft;refine av.intro (fun b:Nat×Nat=>(((),(b.2:Int),(b.1:Int),()),((t.binds.map Ty.enc,t.kind,t.index,t.args.map Tm.enc,()),())))
   (fun b=>b.1<=t.args.length/\Tm.jA 0 t.args=Tm.jA b.2 (t.args.drop b.1)) (fun b=>t.args.length-b.1) (0,0) rfl ⟨alE _,rfl⟩ ?_
  rintro⟨k,v⟩ ⟨hk,hv⟩ again bw
  dsimp only at hk hv ⊢;rw[alv];refine ah.intro (fun h=>?_) fun h=>?_
  ·have ak:k<t.args.length:=by simpa using h
   have hz:=Tm.yp (alG ak);rw[Tm.IQ ak] at hv;refine⟨by omega,by omega,_,_,_,_,Tm.aq ak,_,ih t.args[k] (by omega) (by omega),?_⟩;rw[aA (by omega)];refine ah.intro (fun h=>?_) fun h=>?_
   ·have h1:t.args[k].deep>v:=by have:=of_decide_eq_true h;omega
    rw[if_pos h1] at hv;exact bw (k+1,t.args[k].deep) ⟨by omega,hv⟩ (by simp only;omega)
   ·have h1:¬t.args[k].deep>v:=by have:=of_decide_eq_false h;omega
    rw[if_neg h1] at hv;exact bw (k+1,v) ⟨by omega,hv⟩ (by simp only;omega)
  ·have:t.args.length<=k:=by simpa using h
   rw[alD this,Tm.jA] at hv;rw[aA (by omega),<-hv,<-hdd]
def Tm.bK (t:Tm):Bool:=decide (t.nodes<=5000)&&decide (t.deep<=60)
theorem sU {t:Tm} (h:t.nodes<=1000000000):ag Tryz.prog 101 [.agg [.sl (t.binds.map Ty.enc),nI t.kind,nI t.index,.sl (t.args.map Tm.enc)]] (nB t.bK):=by
 refine Q6 ⟨_,Gp _ t (alA _) h,ah.intro (fun h1=>⟨_,CR _ t (alA _) h,?_⟩) fun h1=>?_⟩
 ·have h1:t.nodes<=5000:=by have:=of_decide_eq_true h1;omega
  rw[Tm.bK,decide_eq_true h1,alN];have:decide (((t.deep:Nat):Int)<=60)=decide (t.deep<=60):=by
   by_cases h2:t.deep<=60
   ·rw[decide_eq_true h2,decide_eq_true (by omega)]
   ·rw[decide_eq_false h2,decide_eq_false (by omega)]
  rw[this]
 ·have h1:¬t.nodes<=5000:=by have:=of_decide_eq_false h1;omega
  rw[Tm.bK,decide_eq_false h1,alP]
theorem AJ:∀(l r:List ((Nat×Nat)×Tm)) (n:Nat),pj n (l++r)=if n+l.length>5000/\0<l.length\/(∃p∈l,p.1.2>60) then false else pj (n+l.length) r
 | [],r,n=>by simp
 |p::l,r,n=>by
  rw[amh,pj,AJ l r (n+1)]
  by_cases h1:n+1>5000
  ·rw[if_pos h1,if_pos (.inl ⟨by simp;omega,by simp⟩)]
  ·rw[if_neg h1]
   by_cases h2:p.1.2>60
   ·rw[if_pos h2,if_pos (.inr ⟨p,alS,h2⟩)]
   ·rw[if_neg h2]
    by_cases h3:n+1+l.length>5000/\0<l.length\/∃q∈l,q.1.2>60
    ·rw[if_pos h3,if_pos];rcases h3 with h3|⟨q,hq,h3⟩
     ·exact .inl ⟨by simp;omega,by simp⟩
     ·exact .inr ⟨q,alR _ hq,h3⟩
    ·rw[if_neg h3,if_neg]
     ·congr 1;simp;omega
     ·rintro(h4|⟨q,hq,h4⟩)
      ·have:=h4.1;simp only[alJ] at this
       by_cases hl:0<l.length
       ·exact h3 (.inl ⟨by omega,hl⟩)
       ·omega
      ·rcases al6.1 hq with rfl|hq
       ·exact h2 h4
       ·exact h3 (.inr ⟨q,hq,h4⟩)
mutual
theorem Tm.pW:∀(t:Tm) (a d:Nat),(t.pre a d).length=t.nodes
 | .mk _ _ _ l,a,d=>by rw[Tm.pre,alJ,Tm.nodes,Tm.pg l];omega
theorem Tm.pg:∀(l:List Tm) (a d:Nat),(Tm.fH a d l).length=Tm.cD l
 | [],a,d=>by simp[Tm.fH,Tm.cD]
 |t::l,a,d=>by rw[Tm.fH,alz,Tm.cD,Tm.pW t,Tm.pg l]
end
theorem Tm.yt {m:Nat}:∀(l:List Tm) (n:Nat),Tm.jA n l>m↔n>m\/∃t∈l,t.deep>m
 | [],n=>by simp[Tm.jA]
 |t::l,n=>by
  rw[Tm.jA,Tm.yt l];constructor
  ·rintro(h|⟨u,hu,h⟩)
   ·split at h
    ·exact .inr ⟨t,alS,h⟩
    ·exact .inl h
   ·exact .inr ⟨u,alR _ hu,h⟩
  ·rintro(h|⟨u,hu,h⟩)
   ·left;split<;>omega
   ·rcases al6.1 hu with rfl|hu
    ·left;split<;>omega
    ·exact .inr ⟨u,hu,h⟩
mutual
theorem Tm.Gq {m:Nat}:∀(t:Tm) (a d:Nat),d<=m+1->((∃p∈t.pre a d,p.1.2>m)↔t.deep+d>m+1)
 | .mk bs k i l,a,d,hd=>by
  rw[Tm.pre,Tm.deep];have hl:=Tm.AK (m:=m) l (a+bs.length) (d+1);constructor
  ·rintro⟨p,hp,h⟩
   rcases al6.1 hp with rfl|hp
   ·simp only at h;omega
   ·by_cases hdm:d<=m
    ·have:=(hl (by omega)).1 ⟨p,hp,h⟩;obtain⟨t,ht,h2⟩:=this;have:=(Tm.yt (m:=m-d) l 0).2 (.inr ⟨t,ht,by omega⟩);omega
    ·omega
  ·intro h
   by_cases hdm:d<=m
   ·have h1:Tm.jA 0 l>m-d:=by omega
    rcases (Tm.yt l 0).1 h1 with h2|⟨t,ht,h2⟩
    ·omega
    ·obtain⟨p,hp,h3⟩:=(hl (by omega)).2 ⟨t,ht,by omega⟩;exact⟨p,alR _ hp,h3⟩
   ·exact⟨_,alS,by simp only;omega⟩
theorem Tm.AK {m:Nat}:∀(l:List Tm) (a d:Nat),d<=m+1->((∃p∈Tm.fH a d l,p.1.2>m)↔∃t∈l,t.deep+d>m+1)
 | [],a,d,hd=>by simp[Tm.fH]
 |t::l,a,d,hd=>by
  have i1:=Tm.Gq t a d hd;have i2:=Tm.AK l a d hd;rw[Tm.fH];constructor
  ·rintro⟨p,hp,h⟩
   rcases amn.1 hp with hp|hp
   ·exact⟨t,alS,i1.1 ⟨p,hp,h⟩⟩
   ·obtain⟨u,hu,h2⟩:=i2.1 ⟨p,hp,h⟩;exact⟨u,alR _ hu,h2⟩
  ·rintro⟨u,hu,h⟩
   rcases al6.1 hu with hu|hu
   ·rw[hu] at h;obtain⟨p,hp,h2⟩:=i1.2 h;exact⟨p,amD _ hp,h2⟩
   ·obtain⟨p,hp,h2⟩:=i2.2 ⟨u,hu,h⟩;exact⟨p,amQ _ hp,h2⟩
end
theorem vm (t:Tm):pj 0 (t.pre 0 1)=t.bK:=by
 have h:=AJ (t.pre 0 1) [] 0;rw[alV,al2,pj,Tm.pW] at h;rw[h,Tm.bK];have hd:=Tm.Gq (m:=60) t 0 1 (by omega);have hp:=t.qb
 by_cases h1:t.nodes<=5000
 ·by_cases h2:t.deep<=60
  ·rw[if_neg,decide_eq_true h1,decide_eq_true h2];rfl
   rintro(h3|h3)
   ·omega
   ·have:=hd.1 h3;omega
  ·rw[if_pos (.inr (hd.2 (by omega))),decide_eq_false h2,amH]
 ·rw[if_pos (.inl ⟨by omega,by omega⟩),decide_eq_false h1,alP]
def uo (L:List ((Nat×Nat)×Tm)):List Int:=(L.filter fun p=>p.2.kind==2).map fun p=>p.2.index
def jB (t:Tm):List Int:=uo (t.pre 0 1)
def ji (l:List Tm):List Int:=l.flatMap jB
def pw (l:List Tm):List Int:=Lib.compact ((ji l).mergeSort fun x y=>decide (x<=y))
theorem IU {l:List Tm} {x:Int}:x∈pw l↔x∈ji l:=Gd.trans (List.mergeSort_perm _ _).mem_iff
mutual
theorem Tm.RZ (a d:Nat):∀t:Tm,(t.pre a d).length<=t.size
 | .mk b k i l=>by
  simp only[Tm.pre,alJ,Tm.size];have:=Tm.KZ (a+b.length) (d+1) l;omega
theorem Tm.KZ (a d:Nat):∀l:List Tm,(Tm.fH a d l).length<=Tm.sizes l
 | []=>alA _
 |t::l=>by
  have h1:=Tm.RZ a d t;have h2:=Tm.KZ a d l;simp only[Tm.fH,alz,Tm.sizes];omega
end
theorem uq (t:Tm):(jB t).length<=t.size:=by
 have h1:=Tm.RZ 0 1 t;have h2:=anv (fun p:(Nat×Nat)×Tm=>p.2.kind==2) (t.pre 0 1);rw[jB,uo,alv];omega
theorem ur:∀l:List Tm,(ji l).length<=Tm.sizes l
 | []=>alA _
 |t::l=>by
  have h1:=uq t;have h2:=ur l;simp only[ji,ann,alz,Tm.sizes] at h2 ⊢;omega
theorem IV {l:List Tm} {k:Nat} (h:k<l.length):ji (l.take (k+1))=ji (l.take k)++jB l[k]:=by
 rw[ji,ji,alL h,List.flatMap_append,ann,List.flatMap_nil,alV]
theorem aH (a:List Int):(ai a).length=a.length:=alv _
theorem CS {l:List Tm} (hl:Tm.sizes l<=100000000):MY Tryz.prog 110 [.sl (l.map Tm.enc)] 3 1 (ai (pw l)):=by
 have hll:=Tm.aw l;refine B6 ⟨rfl,av.intro (fun k:Nat=>(((),(),l.map Tm.enc,(l.length:Int),(k:Int),(),()),(((),()),ai (ji (l.take k)),()))) (fun k=>k<=l.length) (fun k=>l.length-k) 0 (by rw[alv];rfl) (alE _) ?_⟩;intro k hk again bw;dsimp only;have hb:=ur (l.take k);have Ww:=Tm.fw l k;refine ah.intro (fun h=>?_) fun h=>?_
 ·have ak:k<l.length:=by simpa using h
  have bN:=Tm.aK (alG ak);have M6:=uq l[k];refine⟨by omega,by rw[alv];omega,_,_,_,_,Tm.aq ak,vb l[k],rfl,?_⟩;refine nn.HY (fun m:List Int=>(((),()),ai (ji (l.take k)++m),(l[k].binds.map Ty.enc,l[k].kind,l[k].index,l[k].args.map Tm.enc,()),())) Ay (l[k].pre 0 1) (Az (by omega)) (fun r m=>m++uo r=jB l[k]) [] (by rw[alV]) rfl (fun p r m hI again xU=>?_) fun m hI=>?_
  ·dsimp only[Ay];have hI2:=congrArg List.length hI;rw[alz] at hI2;refine ah.intro (fun h1=>⟨rfl,bc rfl ?_ (by decide),rfl,?_⟩) fun h1=>⟨rfl,?_⟩
   ·rw[alz,aH,alz,alW];omega
   ·have e:ai (ji (l.take k)++m)++[nI p.2.index]=ai (ji (l.take k)++(m++[p.2.index])):=by simp[ai]
    rw[e];refine xU _ ?_;rw[<-hI,alU];simp only[uo,am4,h1,if_true];rfl
   ·refine xU _ ?_;rw[<-hI];simp only[uo,am4,h1];rfl
  ·rw[uo,List.filter_nil,aml,alV] at hI;refine⟨rfl,?_⟩;rw[hI,<-IV ak,aA (by omega)];exact bw (k+1) (by omega) (by omega)
 ·have:l.length<=k:=by simpa using h
  rw[alI this] at hb ⊢;have hs:=IK (zs:=ji l) (by omega);have Ln:((ji l).mergeSort fun x y=>decide (x<=y)).length=(ji l).length:=List.length_mergeSort ..;exact⟨_,hs,fun r q ⟨e1,e2⟩=>⟨_,⟨e1,e2⟩,_,zx (by rw[aH,aH,Ln]) (by omega),fun r q ⟨e1,e2⟩=>⟨_,⟨e1,e2⟩,rfl,rfl,rfl,rfl⟩⟩⟩
theorem vn {t:Tm} (h:t.size<=100000000):ag Tryz.prog 110 [.sl [cB t]] (.sl (ai (pw [t]))):=by
 have:=(CS (l:=[t]) (by simp only[Tm.sizes];omega)).pure
 rwa [al3,aml,<-bR] at this
def yu {α:Type} (p:α->Bool):List α->Nat->Int
 | [],_ => -1
 |x::l,k=>if p x=true then k else yu p l (k+1)
theorem yw {α:Type} (p:α->Bool):∀(l:List α) (k:Nat),decide (yu p l k>=0)=l.any p
 | [],k=>rfl
 |x::l,k=>by
  rw[yu,am7]
  cases h:p x with
  |true=>rw[if_pos rfl,amW];exact decide_eq_true (by omega)
  |false=>rw[if_neg (by decide),amP];exact yw p l (k+1)
theorem eO {l:List Int} {k:Nat} (h:k<l.length):List.getD (ai l) (Int.toNat (k:Int)) .top=nI l[k]:=by simp[ai,List.getD,h]
theorem Gr {l:List Int} {x:Int} (hl:l.length<=1000000000):ag Tryz.prog 164 [.sl (ai l),nI x] (nI (yu (fun y=>x==y) l 0)):=by
 refine Q0 (av.intro (fun k:Nat=>((ai l,x,(l.length:Int),(k:Int),()),())) (fun k=>k<=l.length/\yu (fun y=>x==y) l 0=yu (fun y=>x==y) (l.drop k) k) (fun k=>l.length-k) 0 (by rw[aH];rfl) ⟨alE _,rfl⟩ ?_);intro k ⟨hk,hs⟩ again bw;dsimp only;refine ah.intro (fun h=>?_) fun h=>?_
 ·have ak:k<l.length:=by simpa using h
  rw[alC ak,yu] at hs;refine⟨by omega,by rw[aH];omega,_,eO ak,ah.intro (fun h=>?_) fun h=>?_⟩
  ·rw[hs,if_pos h]
  ·rw[if_neg (by rw[h];decide)] at hs;rw[aA (by omega)];exact bw (k+1) ⟨by omega,hs⟩ (by omega)
 ·have:l.length<=k:=by simpa using h
  rw[alD this] at hs;rw[hs];rfl
theorem yx {l:List Int} {x:Int} (hl:l.length<=1000000000):ag Tryz.prog 113 [.sl (ai l),nI x] (nB (decide (x∈l))):=by
 refine Q1 ⟨_,Gr hl,?_⟩;rw[yw]
 congr 2
 rw[amE,List.any_eq_true,decide_eq_true_eq];exact⟨fun⟨y,h1,h2⟩=>by rw[eq_of_beq h2];exact h1,fun h=>⟨x,h,by simp⟩⟩
theorem CT {l:List Int} {x:Int} (hl:l.length<=1000000000):ag Tryz.prog 112 [nI x,.aS (.sl (ai l)) 0] (nB (!decide (x∈l))):=QV ⟨_,yx hl,rfl⟩
theorem Gs {l m:List Int} (hl:l.length<=1000000000) (hm:m.length<=1000000000):ag Tryz.prog 163 [.sl (ai m),.aY 112 [.aS (.sl (ai l)) 0]] (nI (yu (fun x=>!decide (x∈l)) m 0)):=by
 refine Fo ⟨rfl,av.intro (fun k:Nat=>((ai m,((),()),(m.length:Int),(k:Int),()),())) (fun k=>k<=m.length/\yu (fun x=>!decide (x∈l)) m 0=yu (fun x=>!decide (x∈l)) (m.drop k) k) (fun k=>m.length-k) 0 (by rw[aH];rfl) ⟨alE _,rfl⟩ ?_⟩;intro k ⟨hk,hs⟩ again bw;dsimp only;refine ah.intro (fun h=>?_) fun h=>?_
 ·have ak:k<m.length:=by simpa using h
  rw[alC ak,yu] at hs;refine⟨by omega,by rw[aH];omega,_,eO ak,_,CT hl,ah.intro (fun h=>?_) fun h=>⟨rfl,?_⟩⟩
  ·rw[hs,if_pos h]
  ·rw[if_neg (by rw[h];decide)] at hs;rw[aA (by omega)];exact bw (k+1) ⟨by omega,hs⟩ (by omega)
 ·have:m.length<=k:=by simpa using h
  rw[alD this] at hs;rw[hs];rfl
theorem Gt {l m:List Int} (hl:l.length<=1000000000) (hm:m.length<=1000000000):ag Tryz.prog 111 [.sl (ai m),.aY 112 [.aS (.sl (ai l)) 0]] (nB (!(m.all fun x=>decide (x∈l)))):=by
 refine Fp ⟨_,Gs hl hm,?_⟩;rw[yw]
 congr 2
 induction m with
 |nil=>rfl
 |cons x m ih=>rw[am7,amj,Bool.not_and,ih (by simp only[alJ] at hm;omega)]
theorem yy {b:Int}:∀(l:List Ty) (k:Nat),decide (jg b k l>=0)=!(l.all (Ty.bK b))
 | [],k=>rfl
 |t::l,k=>by
  rw[jg,amj];split
  ·rename_i h;rw[yy l (k+1),h,alN]
  ·rename_i h;rw[show Ty.bK b t=false from by simpa using h,alP,decide_eq_true (by omega)];rfl
structure px (c ms:List Ty) (l r:Tm):Prop where
 c1:c.length<=500
 m1:ms.length<=500
 sz:Ty.sizes (c++ms)<=200000000
 l1:l.size<=1000000
 r1:r.size<=1000000
 lo:l.Ok
 ro:r.Ok
theorem px.cs {c ms:List Ty} {l r:Tm} (h:px c ms l r):∀t∈c,t.size<=200000000:=fun t ht=>amf (Ty.aK (amD _ ht)) h.sz
theorem px.mss {c ms:List Ty} {l r:Tm} (h:px c ms l r):∀t∈ms,t.size<=200000000:=fun t ht=>amf (Ty.aK (amQ _ ht)) h.sz
def iq (b:Int) (c ms:List Ty) (l r:Tm):Int:=
 if(c++ms).all (Ty.bK b)=true then
  if l.bK=true/\r.bK=true then
   if(l.Aw c ms []).2=0/\(l.Aw c ms []).1.args=[]/\l.FR c ms [] (l.Aw c ms []).1=true/\r.FR c ms [] (l.Aw c ms []).1=true then 0 else 5
  else 2
 else 1
theorem sV {b:Int} {c ms:List Ty} {t:Tm} {of:Ty} (hc:∀t∈c,t.size<=200000000) (hm:∀t∈ms,t.size<=200000000) (ax:t.Ok) (ht:t.size<=1000000) (hr:t.bK=true) (ZA:of.size<=200000000):
  bH Tryz.prog 94 [cB t,.ptr 0 0,.ptr 1 0] [.box [nI b,.sl (c.map Ty.enc),.sl (ms.map Ty.enc)],.box [.sl (of.args.map Ty.enc),nI of.base]] (fun x q=>x=nB (t.FR c ms [] of)/\q=[.box [nI b,.sl (c.map Ty.enc),.sl (ms.map Ty.enc)],.box [.sl (of.args.map Ty.enc),nI of.base]]):=by
 refine VF ⟨_,FU (x:=[]) hc hm ax (fun _ h=>by cases h) (by simp only[al4];omega) ZA,?_,rfl⟩;rw[vm,hr,if_pos rfl]
 cases t.FR c ms [] of<;>rfl
theorem sW {b:Int} {c m0:List Ty} {ms:List Ty} {l r:Tm} (h:px c ms l r):ag Tryz.prog 55 [.agg [nI b,.sl (c.map Ty.enc),.sl (m0.map Ty.enc)],lx l r ms] (nI (iq b c ms l r)):=by
 have h1:=ue (b:=b) h.c1 h.m1 (by have:=h.sz;omega);have h2:=ny (t:=l) (by have:=h.l1;omega);have h3:=ny (t:=r) (by have:=h.r1;omega);have h4:=CD (b:=b) (c:=c) (m:=ms) (x:=[]) h.lo (by have:=h.l1;simp only[al4];omega);rw[yy,Bool.not_not] at h1;rw[vm] at h2 h3;refine VH ⟨_,h1,ah.intro (fun g=>?_) fun g=>?_⟩
 ·have g0:(c++ms).all (Ty.bK b)=false:=by simpa only[ame] using g
  rw[iq,if_neg (by rw[g0];decide)]
 have g1:(c++ms).all (Ty.bK b)=true:=by simpa only[amL] using g
 rw[iq,if_pos g1];refine⟨_,h2,ah.intro (fun g=>?_) fun g=>⟨_,h3,ah.intro (fun g'=>?_) fun g'=>?_⟩⟩
 ·rw[if_neg (fun e=>by rw[e.1] at g;simp at g)]
 ·rw[if_neg (fun e=>by rw[e.2] at g';simp at g')]
 have g2:l.bK=true:=by simpa using g
 have g3:r.bK=true:=by simpa using g'
 rw[if_pos ⟨g2,g3⟩];generalize hp:l.Aw c ms []=p at h4 ⊢;refine⟨_,_,_,h4,ah.intro (fun g=>?_) fun g=>?_⟩
 ·rw[if_neg (fun e=>by rw[e.1] at g;simp at g)]
 have g4:p.2=0:=by simpa using g
 refine ah.intro (fun g=>?_) fun g=>?_
 ·rw[if_neg (fun e=>by rw[e.2.1] at g;simp at g)]
 have g5:p.1.args=[]:=by
  have:p.1.args.length=0:=by simpa using g
  exact am6.1 this
 have ZA:p.1.size<=200000000:=by
  have:=p.1.size_eq;rw[g5,Ty.sizes] at this;omega
 refine⟨_,sV h.cs h.mss h.lo h.l1 g2 ZA,fun x q ⟨e1,e2⟩=>⟨_,_,_,_,_,_,⟨e1,e2⟩,ah.intro (fun g=>?_) fun g=>?_⟩⟩
 ·rw[if_neg (fun e=>by rw[e.2.2.1] at g;simp at g)]
 refine⟨_,sV h.cs h.mss h.ro h.r1 g3 ZA,fun x q ⟨e1,e2⟩=>⟨_,_,_,_,_,_,⟨e1,e2⟩,ah.intro (fun g'=>?_) fun g'=>?_⟩⟩
 ·rw[if_neg (fun e=>by rw[e.2.2.2] at g';simp at g')]
 ·rw[if_pos ⟨g4,g5,by simpa using g,by simpa using g'⟩]
def lH (b:Int) (c ms:List Ty) (l r:Tm):Int:=
 if iq b c ms l r=0 then
  if l.kind=1/\(l.uses [] []).isSome=true then
   if((jB r).all fun x=>decide (x∈jB l))=true then 0 else 7
  else 6
 else iq b c ms l r
theorem vo {t:Tm} (h:t.size<=1000000):(pw [t]).length<=1000000000:=by
 have h1:=ur [t];have h2:=vf ((ji [t]).mergeSort fun x y=>decide (x<=y));rw[List.length_mergeSort] at h2;simp only[Tm.sizes] at h1;rw[pw];omega
theorem AL (l r:Tm):((pw [r]).all fun x=>decide (x∈pw [l]))=((jB r).all fun x=>decide (x∈jB l)):=by
 have e:∀t:Tm,∀x,x∈pw [t]↔x∈jB t:=fun t x=>by rw[IU,ji,ann,List.flatMap_nil,alV]
 rw[amE,alK,alK];simp only[decide_eq_true_eq];exact⟨fun h x hx=>(e l x).1 (h x ((e r x).2 hx)),fun h x hx=>(e l x).2 (h x ((e r x).1 hx))⟩
theorem sX {b:Int} {c m0:List Ty} {ms:List Ty} {l r:Tm} (h:px c ms l r):ag Tryz.prog 60 [.agg [nI b,.sl (c.map Ty.enc),.sl (m0.map Ty.enc)],lx l r ms] (nI (lH b c ms l r)):=by
 have hi:=Rs (t:=l) (by have:=h.l1;omega);rw[<-bR] at hi;refine VI ⟨_,sW h,ah.intro (fun g=>?_) fun g=>?_⟩
 ·rw[lH,if_neg (by simpa using g)]
 rw[lH,if_pos (by simpa using g)];refine ah.intro (fun g=>?_) fun g=>⟨_,hi,ah.intro (fun g'=>?_) fun g'=>?_⟩
 ·rw[if_neg (fun e=>by rw[e.1] at g;simp at g)]
 ·rw[if_neg (fun e=>by rw[e.2] at g';simp at g')]
 rw[if_pos ⟨by simpa using g,by simpa using g'⟩];have hl:=h.l1;have hr:=h.r1;refine⟨_,vn (by omega),_,vn (by omega),_,Gt (vo hl) (vo hr),ah.intro (fun g=>?_) fun g=>?_⟩
 ·rw[AL] at g;rw[if_neg (by rw[(by simpa using g:((jB r).all fun x=>decide (x∈jB l))=false)];decide)]
 ·rw[AL] at g;rw[if_pos (by rw[<-amL];exact g)]
def wy:List Int->Int->Nat
 | [],_=>0
 |x::l,m=>if x=m then 0 else wy l m+1
theorem IW:∀(l:List Int) (m:Int),wy l m<=l.length
 | [],m=>alA _
 |x::l,m=>by
  have:=IW l m;rw[wy,alJ];split<;>omega
theorem CU:∀{l:List Int} {m:Int},¬m∈l->wy l m=l.length
 | [],m,_=>rfl
 |x::l,m,h=>by
  rw[wy,if_neg (fun e=>h (by rw[e];exact alS)),CU (fun e=>h (alR _ e)),alJ]
theorem CV:∀{l k:List Int} {m:Int},m∈l->wy (l++k) m=wy l m
 | [],k,m,h=>by cases h
 |x::l,k,m,h=>by
  rw[amh,wy,wy];split
  ·rfl
  ·rename_i hx;rw[CV ((al6.1 h).resolve_left fun e=>hx e.symm)]
theorem Gu {l:List Int} {m:Int} (h:¬m∈l):wy (l++[m]) m=l.length:=by
 induction l with
 |nil=>rw[amq,wy,if_pos rfl];rfl
 |cons x l ih=>
  rw[amh,wy,if_neg (fun e=>h (by rw[e];exact alS)),ih (fun e=>h (alR _ e)),alJ]
def iv (us:List Int) (m:Int):List Int:=if m∈us then us else us++[m]
theorem WC (us:List Int) (m:Int):wy (iv us m) m=wy us m:=by
 unfold iv;split
 ·rfl
 ·rename_i h;rw[Gu h,CU h]
theorem Gv (us:List Int) (m:Int):(iv us m).length<=us.length+1:=by
 unfold iv;split
 ·omega
 ·rw[alz,alW];omega
theorem Gw (us:List Int) (m:Int):m∈iv us m:=by
 unfold iv;split
 ·assumption
 ·exact amQ _ (amc.2 rfl)
theorem R0 (us:List Int) (m:Int):us <+: iv us m:=by
 unfold iv;split
 ·exact List.prefix_refl _
 ·exact List.prefix_append _ _
def bP (us:List Int) (l:List Int):List Int:=l.foldl iv us
theorem rk (us l m:List Int):bP us (l++m)=bP (bP us l) m:=ano ..
theorem gp:∀(l us:List Int),(bP us l).length<=us.length+l.length
 | [],us=>alA _
 |x::l,us=>by
  have h1:=gp l (iv us x);have h2:=Gv us x;rw[bP,amU,alJ];rw[bP] at h1;omega
theorem nH:∀(l us:List Int),us <+: bP us l
 | [],us=>List.prefix_refl _
 |x::l,us=>by
  rw[bP,amU];exact(R0 us x).trans (nH l (iv us x))
mutual
def Tm.uu:Tm->List Int
 | .mk _ k i a=>(if k=2 then[i] else[])++Tm.eR a
def Tm.eR:List Tm->List Int
 | []=>[]
 |t::l=>Tm.uu t++Tm.eR l
end
theorem R1 (l m:List ((Nat×Nat)×Tm)):uo (l++m)=uo l++uo m:=by rw[uo,List.filter_append,ama];rfl
mutual
theorem Gx:∀(t:Tm) (a d:Nat),uo (t.pre a d)=t.uu
 | .mk b k i l,a,d=>by
  have h:=AM l (a+b.length) (d+1);rw[Tm.pre,Tm.uu,<-h,uo,am4]
  by_cases hk:k=2
  ·subst hk;rfl
  ·have e:(((a+b.length,d),Tm.mk b k i l).2.kind==2)=false:=by
    show (k==2)=false;simpa using hk
   rw[e,if_neg (by decide),if_neg hk];rfl
theorem AM:∀(l:List Tm) (a d:Nat),uo (Tm.fH a d l)=Tm.eR l
 | [],_,_=>rfl
 |t::l,a,d=>by rw[Tm.fH,R1,Gx t a d,AM l a d,Tm.eR]
end
theorem AN (t:Tm):jB t=t.uu:=Gx t 0 1
theorem sY (t:Tm):t.uu.length<=t.size:=by rw[<-AN];exact uq t
theorem sZ:∀l:List Tm,(Tm.eR l).length<=Tm.sizes l
 | []=>alA _
 |t::l=>by
  have h1:=sY t;have h2:=sZ l;rw[Tm.eR,alz,Tm.sizes];omega
mutual
def gq (us:List Int):Tm->Tm×List Int
 | .mk b k i a=>(.mk b k (if k=2 then(wy us i:Int) else i) (cT (if k=2 then iv us i else us) a).1,(cT (if k=2 then iv us i else us) a).2)
def cT (us:List Int):List Tm->List Tm×List Int
 | []=>([],us)
 |t::l=>((gq us t).1::(cT (gq us t).2 l).1,(cT (gq us t).2 l).2)
end
theorem WD (us:List Int) (t:Tm):gq us t=(.mk t.binds t.kind (if t.kind=2 then(wy us t.index:Int) else t.index) (cT (if t.kind=2 then iv us t.index else us) t.args).1,(cT (if t.kind=2 then iv us t.index else us) t.args).2):=by cases t;rfl
theorem Mx (us:List Int):∀(l m:List Tm),cT us (l++m)=((cT us l).1++(cT (cT us l).2 m).1,(cT (cT us l).2 m).2):=by
 intro l
 induction l generalizing us with
 |nil=>intro m;rfl
 |cons t l ih=>intro m;rw[amh,cT,ih (gq us t).2 m,cT];rfl
theorem IX (us:List Int) {l:List Tm} {k:Nat} (h:k<l.length):cT us (l.take (k+1))=((cT us (l.take k)).1++[(gq (cT us (l.take k)).2 l[k]).1],(gq (cT us (l.take k)).2 l[k]).2):=by
 rw[alL h,Mx];rfl
mutual
theorem CW:∀(t:Tm) (us:List Int),(gq us t).2=bP us t.uu
 | .mk b k i a,us=>by
  rw[gq,Tm.uu,rk];dsimp only;rw[py a]
  congr 1
  split
  ·rfl
  ·rfl
theorem py:∀(l:List Tm) (us:List Int),(cT us l).2=bP us (Tm.eR l)
 | [],us=>rfl
 |t::l,us=>by rw[cT,Tm.eR,rk];dsimp only;rw[py l,CW t]
end
mutual
def iK (us:List Int):Tm->Tm
 | .mk b k i a=>.mk b k (if k=2/\i∈us then(wy us i:Int) else i) (kz us a)
def kz (us:List Int):List Tm->List Tm
 | []=>[]
 |t::l=>iK us t::kz us l
end
theorem uv (us:List Int) (l:List Tm):kz us l=l.map (iK us):=by
 induction l with
 |nil=>rfl
 |cons t l ih=>rw[kz,ih];rfl
mutual
theorem IY:∀(t:Tm) (us vs:List Int),(gq us t).2 <+: vs->(gq us t).1=iK vs t
 | .mk b k i a,us,vs,h=>by
  rw[gq] at h ⊢;rw[iK];dsimp only at h ⊢;rw[K0 a _ vs h]
  by_cases hk:k=2
  ·subst hk;rw[if_pos rfl] at h ⊢;rw[py] at h;obtain⟨w,hw⟩:=(nH (Tm.eR a) (iv us i)).trans h;have hm:i∈vs:=by rw[<-hw];exact amD _ (Gw us i)
   rw[if_pos ⟨rfl,hm⟩,<-WC us i,<-hw,CV (Gw us i)]
  ·rw[if_neg hk,if_neg (fun e=>hk e.1)]
theorem K0:∀(l:List Tm) (us vs:List Int),(cT us l).2 <+: vs->(cT us l).1=kz vs l
 | [],us,vs,h=>rfl
 |t::l,us,vs,h=>by
  rw[cT] at h ⊢;rw[kz];dsimp only at h ⊢;have h2:=h;rw[py] at h2;rw[K0 l _ vs h,IY t us vs ((nH (Tm.eR l) _).trans h2)]
end
mutual
theorem mK:∀(t:Tm) (us:List Int),(iK us t).size=t.size
 | .mk b k i a,us=>by rw[iK,Tm.size,Tm.size,yz a us]
theorem yz:∀(l:List Tm) (us:List Int),Tm.sizes (kz us l)=Tm.sizes l
 | [],us=>rfl
 |t::l,us=>by rw[kz,Tm.sizes,Tm.sizes,mK t us,yz l us]
end
mutual
theorem CX:∀(t:Tm) (us:List Int),us.length<=1000000000->t.Ok->(iK us t).Ok
 | .mk b k i a,us,hu,h=>by
  have:=IW us i;refine⟨h.1,?_,AO a us hu h.2.2⟩;split
  ·unfold jm;omega
  ·exact h.2.1
theorem AO:∀(l:List Tm) (us:List Int),us.length<=1000000000->Tm.L4 l->Tm.L4 (kz us l)
 | [],us,_,h=>True.intro
 |t::l,us,hu,h=>⟨CX t us hu h.1,AO l us hu h.2⟩
end
mutual
theorem yA:∀(t:Tm) (us:List Int),us.length<=1000000000->t.kP->(iK us t).kP
 | .mk b k i a,us,hu,h=>by
  have:=IW us i;refine⟨h.1,h.2.1,?_,AP a us hu h.2.2.2⟩;split
  ·unfold jm;omega
  ·exact h.2.2.1
theorem AP:∀(l:List Tm) (us:List Int),us.length<=1000000000->Tm.im l->Tm.im (kz us l)
 | [],us,_,h=>True.intro
 |t::l,us,hu,h=>⟨yA t us hu h.1,AP l us hu h.2⟩
end
def mL (ke:List (Int×Value)) (us:List Int):Prop:=∀m,aM ke m=if m∈us then some (.int .i64 (wy us m:Int)) else none
theorem mL.nil:mL [] []:=fun _=>rfl
theorem mL.put {ke:List (Int×Value)} {us:List Int} {m:Int} (h:mL ke us) (hm:¬m∈us):mL (bU ke m (.int .i64 (us.length:Int))) (us++[m]):=fun x=>by
 rw[q9]
 by_cases e:x=m
 ·subst e;rw[if_pos rfl,if_pos (amQ _ (amc.2 rfl)),Gu hm]
 ·rw[if_neg e,h x]
  by_cases hx:x∈us
  ·rw[if_pos hx,if_pos (amD _ hx),CV hx]
  ·rw[if_neg hx,if_neg (fun hh=>(amn.1 hh).elim hx fun h2=>e (amc.1 h2))]
abbrev nuU (ke:List (Int×Value)) (us:List Int):List af:=M3 ke (ai us) (ai us).length
theorem My {ke:List (Int×Value)} {us:List Int} {m:Int} (h:mL ke us) (hl:us.length<=1000000000):
  bH Tryz.prog 182 [.ptr 2 0,nI m] (nuU ke us) (fun x q=>x=nI (wy us m)/\∃Mz,mL Mz (iv us m)/\q=nuU Mz (iv us m)):=by
 have hm:=h m
 by_cases XU:m∈us
 ·rw[if_pos XU] at hm;refine Fb ⟨by rw[hm];rfl,ah.neg (by rw[hm];rfl) ⟨by rw[hm];rfl,ke,?_,?_⟩⟩
  ·rw[iv,if_pos XU];exact h
  ·rw[iv,if_pos XU]
 ·rw[if_neg XU] at hm;have e:ai us++[nI m]=ai (us++[m]):=by simp[ai]
  refine Fb ⟨by rw[hm];rfl,ah.pos (by rw[hm];rfl) ⟨rfl,rfl,bc rfl (by rw[alz,aH,alW];omega) (by decide),by rw[aH,CU XU],_,(by rw[iv,if_neg XU];exact h.put XU),?_⟩⟩;rw[iv,if_neg XU,e,aH us]
theorem AQ:∀(n:Nat) (t:Tm),t.size<=n->n<=1000000->∀(ke:List (Int×Value)) (us:List Int),mL ke us->us.length+t.size<=100000000->
  bH Tryz.prog 149 [.agg [.ptr 2 0],cB t] (nuU ke us) (fun x q=>x=cB (gq us t).1/\∃Mz,mL Mz (gq us t).2/\q=nuU Mz (gq us t).2):=by
 intro n
 induction n with
 |zero=>intro t h;have:=t.size_pos;omega
 |succ n ih=>
  intro t h hn ke us hk hu;have pU:=t.size_eq;have hla:=Tm.aw t.args;have hf:=q7 t;rw[<-bR] at hf;have mk:(0<=((List.length (t.args.map Tm.enc):Nat):Int)/\((List.length (t.args.map Tm.enc):Nat):Int)<=9223372036854775807/\(TD.bytes ss:Int)*((List.length (t.args.map Tm.enc):Nat):Int)<=281474976710656):=by
   rw[alv];refine⟨by omega,by omega,?_⟩;have:(TD.bytes ss:Int)<=1000:=by decide
   have h2:(TD.bytes ss:Int)*((t.args.length:Nat):Int)<=1000*1000000:=Int.mul_le_mul this (by omega) (by omega) (by omega);omega
  have loop:∀(i:Int) (Z2:List (Int×Value)) (Gy:List Int),mL Z2 Gy->Gy.length<=us.length+1->(gq us t).1=.mk t.binds t.kind i (cT Gy t.args).1->(gq us t).2=(cT Gy t.args).2->
    xP (((),(),(),(),t.args.map Tm.enc,((List.length (t.args.map Tm.enc):Nat):Int),0,()),(Z2,ai Gy,((),(),()),((),()),(t.binds.map Ty.enc,t.kind,i,t.args.map Tm.enc,()),((),0,0,(),()),[],())) (fun x q=>x=cB (gq us t).1/\∃Mz,mL Mz (gq us t).2/\q=nuU Mz (gq us t).2):=by
   intro i Z2 Gy gK hu1 e1 e2;rw[e1,e2];refine av.intro (fun p:Nat×List (Int×Value)=>(((),(),(),(),t.args.map Tm.enc,(t.args.length:Int),(p.1:Int),()),(p.2,ai (cT Gy (t.args.take p.1)).2,((),(),()),((),()),(t.binds.map Ty.enc,t.kind,i,t.args.map Tm.enc,()),((),0,0,(),()),(cT Gy (t.args.take p.1)).1.map Tm.enc,()))) (fun p=>p.1<=t.args.length/\mL p.2 (cT Gy (t.args.take p.1)).2) (fun p=>t.args.length-p.1) (0,Z2) (by rw[alv];rfl) ⟨alE _,gK⟩ ?_;intro ⟨k,ke2⟩ ⟨tO,oX⟩ again bw;dsimp only at tO oX ⊢;have S5:(cT Gy (t.args.take k)).2.length<=Gy.length+Tm.sizes (t.args.take k):=by
    have h1:=gp (Tm.eR (t.args.take k)) Gy;have h2:=sZ (t.args.take k);rw[py];omega
   have zP:=Tm.fw t.args k;refine ah.intro (fun h1=>?_) fun h1=>⟨rfl,?_⟩
   ·have ak:k<t.args.length:=by simpa using h1
    have bN:=Tm.aK (alG ak);have FI:=IX Gy ak;have akx:Tm.sizes (t.args.take k)+t.args[k].size<=Tm.sizes t.args:=by
     have h:=Tm.fw t.args (k+1);rw[alL ak,Tm.bQ] at h;simp only[Tm.sizes] at h;omega
    have M5:(cT Gy (t.args.take k)).1.length=k:=by
     have:∀(l:List Tm) (us:List Int),(cT us l).1.length=l.length:=by
      intro l
      induction l with
      |nil=>intro _;rfl
      |cons t l ih=>intro us;rw[cT,alJ,ih,alJ]
     rw[this,amd];omega
    refine⟨by omega,by rw[alv];omega,_,_,_,_,Tm.aq ak,_,ih t.args[k] (by omega) (by omega) ke2 _ oX (by omega),fun x q ⟨e3,Mz,rE,e4⟩=>⟨_,_,_,_,_,_,⟨e3,e4⟩,rfl,bc rfl (by rw[alz,alv,alW];omega) (by decide),rfl,rfl,?_⟩⟩;have e5:(cT Gy (t.args.take k)).1.map Tm.enc++[cB (gq (cT Gy (t.args.take k)).2 t.args[k]).1]=(cT Gy (t.args.take (k+1))).1.map Tm.enc:=by rw[FI,ama,al3,aml,bR]
    have:=bw (k+1,Mz) ⟨by dsimp only;omega,by rw[FI];exact rE⟩ (by dsimp only;omega);rw[aA (by omega)];dsimp only at this;rw[<-e5,FI] at this;exact this
   ·have:t.args.length<=k:=by simpa using h1
    rw[alI this] at oX ⊢;exact⟨rfl,ke2,oX,rfl⟩
  have hr:=WD us t;refine Qq ⟨_,hf,ah.intro (fun h1=>?_) fun h1=>?_⟩
  ·have h2:t.kind=2:=by simpa using h1
   rw[if_pos h2,if_pos h2] at hr;exact⟨_,My hk (by omega),fun x q ⟨e1,Mz,rE,e2⟩=>⟨_,_,_,⟨e1,e2⟩,mk,rfl,rfl,loop _ Mz _ rE (Gv _ _) (by rw[hr]) (by rw[hr])⟩⟩
  ·have h2:¬t.kind=2:=by simpa using h1
   rw[if_neg h2,if_neg h2] at hr;exact⟨mk,rfl,rfl,loop _ ke _ hk (by omega) (by rw[hr]) (by rw[hr])⟩
theorem Gz {t:Tm} {n:Int} (ht:t.size<=10000) (hk:t.Ok):ag Tryz.prog 158 [t.enc,nI n] (Rq (t.vars n)):=by
 obtain⟨_,_,XJ⟩:=Tm.ok_eq hk;have pU:=t.size_eq;have hq:=Tm.aw t.args;have bad:∀l:List Int,(if t.kind=2/\0<=n then(match ek n [] t.args with|some l=>(l,(0:Int))|none=>([],6)) else([],1))=t.vars n:=fun _=>rfl;rw[Tm.aC];refine Pg (ah.intro (fun h=>?_) fun h=>ah.intro (fun h2=>?_) fun h2=>⟨rfl,?_⟩)
 ·have:¬t.kind=2:=by simpa using h
  rw[Tm.vars,if_neg (fun h=>this h.1)];rfl
 ·have:¬0<=n:=by simpa using h2
  rw[Tm.vars,if_neg (fun h=>this h.2)];rfl
 ·have oX:t.kind=2:=by simpa using h
  have l8:0<=n:=by simpa using h2
  rw[Tm.vars,if_pos ⟨oX,l8⟩];refine av.intro (fun p:Nat×List Int=>((n,(),(),(p.1:Int),()),((t.binds.map Ty.enc,t.kind,t.index,t.args.map Tm.enc,()),ai p.2,())))
   (fun p=>p.1<=t.args.length/\p.2.length<=p.1/\ek n [] t.args=ek n p.2 (t.args.drop p.1)) (fun p=>t.args.length-p.1) (0,[]) rfl ⟨alE _,alA _,rfl⟩ ?_
  intro ⟨k,acc⟩ ⟨tO,M5,hs⟩ again bw;dsimp only at tO M5 hs ⊢;rw[alv];refine ah.intro (fun h=>?_) fun h=>?_
  ·have ak:k<t.args.length:=by simpa using h
   have hm:=Tm.aK (alG ak);have hv:=Iy (t:=t.args[k]) (by omega) (Tm.jJ XJ (alG ak));rw[alC ak,ek] at hs;rw[Tm.aC] at hv;refine⟨by omega,by omega,_,_,_,_,Tm.aq ak,?_⟩
   cases hvv:t.args[k].var with
   |none=>
    rw[hvv] at hv hs;dsimp only at hs;refine⟨_,_,_,hv,ah.pos rfl ?_⟩;rw[hs];rfl
   |some p=>
    obtain⟨q,i⟩:=p;rw[hvv] at hv hs;dsimp only at hs;refine⟨_,_,_,hv,ah.neg rfl (ah.intro (fun h=>?_) fun h=>ah.intro (fun h2=>?_) fun h2=>⟨rfl,_,iI (by omega),ah.intro (fun h3=>?_) fun h3=>⟨rfl,bc rfl (by simp[ai];omega) (by decide),rfl,?_⟩⟩)⟩
    ·have:¬q=0:=by simpa using h
     rw[if_neg (fun h=>this h.1)] at hs;rw[hs];rfl
    ·have:¬i<n:=by simpa using h2
     rw[if_neg (fun h=>this h.2.1)] at hs;rw[hs];rfl
    ·have:i∈acc:=amK.1 h3;rw[if_neg (fun h=>h.2.2 this)] at hs;rw[hs];rfl
    ·have h1:q=0:=by simpa using h
     have G1:i<n:=by simpa using h2
     have SI:¬i∈acc:=fun hm=>by rw[amK.2 hm] at h3;cases h3
     rw[if_pos ⟨h1,G1,SI⟩] at hs;rw[aA (by omega),ie];exact bw (k+1,acc++[i]) ⟨by dsimp only;omega,by dsimp only;rw[alz,alW];omega,hs⟩ (by dsimp only;omega)
  ·have hle:t.args.length<=k:=by simpa using h
   rw[alD hle,ek] at hs;refine⟨rfl,?_⟩;rw[hs];rfl
mutual
def Tm.all (front:List Int):Tm->List (List Int)
 | .mk _ _ _ a=>front::Tm.rl front 0 a
def Tm.rl (front:List Int) (n:Nat):List Tm->List (List Int)
 | []=>[]
 |t::l=>Tm.all (front++[(n:Int)]) t++Tm.rl front (n+1) l
end
theorem Tm.all_eq (front:List Int) (t:Tm):Tm.all front t=front::Tm.rl front 0 t.args:=by cases t;rw[Tm.all];rfl
theorem Tm.AR {front:List Int} {l:List Tm} {k:Nat} (h:k<l.length):Tm.rl front k (l.drop k)=Tm.all (front++[(k:Int)]) l[k]++Tm.rl front (k+1) (l.drop (k+1)):=by
 rw[alC h,Tm.rl]
mutual
theorem Tm.s8:∀(t:Tm) (front:List Int),(Tm.all front t).length<=t.size
 | .mk b k i a,front=>by
  rw[Tm.all,Tm.size,alJ];have:=Tm.GA a front 0;omega
theorem Tm.GA:∀(l:List Tm) (front:List Int) (n:Nat),(Tm.rl front n l).length<=Tm.sizes l
 | [],front,n=>by rw[Tm.rl];simp
 |t::l,front,n=>by
  rw[Tm.rl,Tm.sizes,alz];have:=Tm.s8 t (front++[(n:Int)]);have:=Tm.GA l front (n+1);omega
end
def yB (p:List Int):AV:=.sl (ai p)
theorem yC {l:List (List Int)}:∀x:AV,x∈l.map yB->x.cells.length=1:=by
 intro x h;obtain⟨t,_,rfl⟩:=amz.1 h;rfl
theorem AU:∀(d:Nat) (t:Tm) (front:List Int),t.size<=d->d<=100000000->front.length+t.size<=100000000->ag Tryz.prog 156 [t.enc,.sl (ai front)] (.sl ((Tm.all front t).map yB)):=by
 intro d
 induction d with
 |zero=>intro t front h;have:=t.size_pos;omega
 |succ d ih=>
  intro t front h hd hf;have pU:=t.size_eq;have hq:=Tm.aw t.args;have each:∀(k:Nat) (ak:k<t.args.length),ag Tryz.prog 156 [.agg [.sl (t.args[k].binds.map Ty.enc),nI t.args[k].kind,nI t.args[k].index,.sl (t.args[k].args.map Tm.enc)],.sl (ai front++[nI k])] (.sl ((Tm.all (front++[(k:Int)]) t.args[k]).map yB)):=by
   intro k ak;have hm:=Tm.aK (alG ak);have hi:=ih t.args[k] (front++[(k:Int)]) (by omega) (by omega) (by rw[alz,alW];omega);rw[Tm.aC] at hi;rw[ie];exact hi
  have M5:=Tm.s8 t front;rw[Tm.aC];refine Pj (ah.intro (fun h=>?_) fun h=>?_)
  ·have ak:0<t.args.length:=by simpa using h
   have FD:=Tm.all_eq front t;have hd0:=Tm.AR (front:=front) ak;rw[List.drop_zero] at hd0;rw[hd0] at FD;have Jt:=Tm.s8 t.args[0] (front++[((0:Nat):Int)]);have hm0:=Tm.aK (alG ak);refine⟨cg cC (by rw[dM];omega) (by decide),rfl,bc rfl (by simp[ai];omega) (by decide),by omega,by rw[alv];omega,_,_,_,_,Tm.aq ak,rfl,_,each 0 ak,
    fun h=>by rw[Tm.all_eq] at h;simp at h,xT (fun x hx=>by rw[amc.1 hx];rfl) yC (by rw[alz,alv,alW];omega) (by decide),rfl,?_⟩
   rw[show IntKind.wrap .i64 ((0:Int)+1)=((1:Nat):Int) from by decide];refine av.intro (fun p:Nat×List (List Int)=>((ai front,(),(),(p.1:Int),()),((t.binds.map Ty.enc,t.kind,t.index,t.args.map Tm.enc,()),ai front++[nI 0],p.2.map yB,())))
    (fun p=>p.1<=t.args.length/\Tm.all front t=p.2++Tm.rl front p.1 (t.args.drop p.1)) (fun p=>t.args.length-p.1) (1,front::Tm.all (front++[((0:Nat):Int)]) t.args[0]) rfl
    ⟨ak,by rw[FD];rfl⟩ ?_
   intro ⟨k,acc⟩ ⟨hk,hs⟩ again bw;dsimp only at hk hs ⊢;rw[alv];refine ah.intro (fun h=>?_) fun h=>?_
   ·have ak:k<t.args.length:=by simpa using h
    rw[Tm.AR ak,<-alU] at hs;have hle:(acc++Tm.all (front++[(k:Int)]) t.args[k]).length<=t.size:=by
     rw[hs,alz] at M5;omega
    refine⟨cg cC (by rw[dM];omega) (by decide),rfl,bc rfl (by simp[ai];omega) (by decide),by omega,by omega,_,_,_,_,Tm.aq ak,rfl,_,each k ak,
     rfl,cg yC (by rw[<-ama,alv];omega) (by decide),rfl,?_⟩
    rw[aA (by omega),<-ama];exact bw (k+1,acc++Tm.all (front++[(k:Int)]) t.args[k]) ⟨by dsimp only;omega,hs⟩ (by dsimp only;omega)
   ·have hle:t.args.length<=k:=by simpa using h
    rw[alD hle,Tm.rl,alV] at hs;exact⟨rfl,by rw[hs]⟩
  ·have hz:t.args=[]:=by
    have:¬0<t.args.length:=by simpa using h
    exact al1 (by omega)
   rw[Tm.all_eq,hz,Tm.rl];rfl
def Tm.at:Tm->List Int->Option (Tm×List Ty)
 |t,[]=>some (t,t.binds)
 |t,i::p=>if 0<=i then(match t.args[i.toNat]? with
  |some x=>(match Tm.at x p with
   |some (y,l)=>some (y,t.binds++l)
   |none=>none)
  |none=>none) else none
theorem Tm.IZ (t:Tm):Tm.at t []=some (t,t.binds):=by rw[Tm.at]
theorem Tm.wz (t:Tm) (i:Int) (p:List Int):Tm.at t (i::p)=if 0<=i then(match t.args[i.toNat]? with
  |some x=>(match Tm.at x p with
   |some (y,l)=>some (y,t.binds++l)
   |none=>none)
  |none=>none) else none:=by rw[Tm.at]
theorem Tm.at_len:∀(p:List Int) (t x:Tm) (l:List Ty),Tm.at t p=some (x,l)->l.length<=t.size/\x.size<=t.size/\(t.Ok->x.Ok)
 | [],t,x,l,h=>by
  rw[Tm.IZ] at h;cases h;have:=t.size_eq;have:=Ty.aw t.binds;exact⟨by omega,by omega,id⟩
 |i::p,t,x,l,h=>by
  rw[Tm.wz] at h;split at h
  ·split at h
   ·rename_i y hy;have hm:=alF hy;split at h
    ·rename_i z l' hz;cases h;obtain⟨h1,h2,h3⟩:=Tm.at_len p y _ _ hz;have:=Tm.aK hm;have:=t.size_eq;have:=Ty.aw t.binds;exact⟨by rw[alz];omega,by omega,fun ho=>h3 (Tm.jJ (Tm.ok_eq ho).2.2 hm)⟩
    ·cases h
   ·cases h
  ·cases h
def zz:Option (Tm×List Ty)->AV
 |some (x,l)=>.aL [x.enc,.sl (l.map Ty.enc),nB true]
 |none=>.aL [(Tm.mk [] 0 0 []).enc,.sl [],nB false]
theorem GB:∀(p:List Int) (t:Tm),t.size<=100000000->p.length<=1000000000->ag Tryz.prog 157 [t.enc,.sl (ai p)] (zz (Tm.at t p)):=by
 intro p
 induction p with
 |nil=>
  intro t _ _;rw[Tm.aC,Tm.IZ];exact EN (ah.pos rfl (by rw[zz,Tm.aC]))
 |cons i p ih=>
  intro t ht hp;have pU:=t.size_eq;have hq:=Tm.aw t.args;rw[alJ] at hp;rw[Tm.aC,Tm.wz];refine EN ?_;unfold XB;rw[dM,alJ,alv];refine ah.neg (by rw[beq_eq_false_iff_ne];omega) ⟨by omega,by omega,i,rfl,ah.intro (fun h=>?_) fun h=>ah.intro (fun h2=>?_) fun h2=>?_⟩
  ·have:¬0<=i:=by simpa using h
   rw[if_neg this,zz,sO]
  ·have h0:0<=i:=by simpa using h
   have:¬i<t.args.length:=by simpa using h2
   rw[if_pos h0,al0 (by omega),zz,sO]
  ·have h0:0<=i:=by simpa using h
   have h1:i<t.args.length:=by simpa using h2
   obtain⟨k,rfl⟩:∃k:Nat,i=(k:Int):=⟨i.toNat,by omega⟩;have ak:k<t.args.length:=by omega
   have hm:=Tm.aK (alG ak);have hi:=ih t.args[k] (by omega) (by omega);have Ye:List.drop (Int.toNat 1) (List.take (Int.toNat ((p.length+1:Nat):Int)) (ai ((k:Int)::p)))=ai p:=by
    rw[amA,alI (by rw[dM,alJ];omega)];rfl
   rw[if_pos h0,amA,aly ak,Ye];rw[Tm.aC] at hi;refine⟨by omega,by omega,_,_,_,_,Tm.aq ak,⟨by omega,by omega,by omega,cC⟩,?_⟩;dsimp only
   cases R2:Tm.at t.args[k] p with
   |none=>
    rw[R2,zz,sO] at hi;refine⟨_,_,_,_,_,_,hi,ah.pos rfl ?_⟩;dsimp only;rw[zz,sO]
   |some r=>
    obtain⟨x,l⟩:=r;have M5:=Tm.at_len p _ _ _ R2;have hqb:=Ty.aw t.binds;rw[R2,zz,Tm.aC x] at hi;refine⟨_,_,_,_,_,_,hi,ah.neg rfl ⟨_,il (by omega) (by omega),?_⟩⟩;dsimp only;rw[zz,Tm.aC]
abbrev s9:=Tm×List Ty×List Int
mutual
def Tm.dj (aI:List Ty) (path:List Int):Tm->List s9
 | .mk b k i a=>(.mk b k i a,aI++b,path)::Tm.fI (aI++b) path 0 a
def Tm.fI (aI:List Ty) (path:List Int) (n:Nat):List Tm->List s9
 | []=>[]
 |t::l=>Tm.dj aI (path++[(n:Int)]) t++Tm.fI aI path (n+1) l
end
mutual
theorem Tm.uw:∀(t:Tm) (aI:List Ty) (path:List Int),(Tm.dj aI path t).map (fun s=>s.2.2)=Tm.all path t
 | .mk b k i a,aI,path=>by rw[Tm.dj,Tm.all,al3,Tm.yD a]
theorem Tm.yD:∀(l:List Tm) (aI:List Ty) (path:List Int) (n:Nat),(Tm.fI aI path n l).map (fun s=>s.2.2)=Tm.rl path n l
 | [],aI,path,n=>by rw[Tm.fI,Tm.rl];rfl
 |t::l,aI,path,n=>by rw[Tm.fI,Tm.rl,ama,Tm.uw t,Tm.yD l]
end
mutual
theorem Tm.yE:∀(t:Tm) (aI:List Ty) (path:List Int) (s:s9),s∈Tm.dj aI path t->∃q l,s.2.2=path++q/\Tm.at t q=some (s.1,l)/\s.2.1=aI++l
 | .mk b k i a,aI,path,s,h=>by
  rw[Tm.dj] at h;rcases al6.1 h with rfl|h
  ·exact⟨[],b,by simp,by rw[Tm.IZ];rfl,rfl⟩
  ·obtain⟨j,x,q,l,h1,h2,h3,h4⟩:=Tm.AW a (aI++b) path 0 s h;refine⟨((j:Nat):Int)::q,b++l,by simpa using h2,?_,by rw[h4,alU]⟩;rw[Tm.wz,if_pos (by omega),amA,Tm.pT,h1];dsimp only;rw[h3,Tm.Rp]
theorem Tm.AW:∀(l:List Tm) (aI:List Ty) (path:List Int) (n:Nat) (s:s9),s∈Tm.fI aI path n l->
  ∃(j:Nat) (x:Tm) (q:List Int) (m:List Ty),l[j]?=some x/\s.2.2=path++(((n+j:Nat):Int)::q)/\Tm.at x q=some (s.1,m)/\s.2.1=aI++m
 | [],aI,path,n,s,h=>by rw[Tm.fI] at h;cases h
 |t::l,aI,path,n,s,h=>by
  rw[Tm.fI] at h;rcases amn.1 h with h|h
  ·obtain⟨q,m,h1,h2,h3⟩:=Tm.yE t aI (path++[(n:Int)]) s h;exact⟨0,t,q,m,rfl,by rw[h1];simp,h2,h3⟩
  ·obtain⟨j,x,q,m,h1,h2,h3,h4⟩:=Tm.AW l aI path (n+1) s h;exact⟨j+1,x,q,m,h1,by rw[h2,show n+1+j=n+(j+1) by omega],h3,h4⟩
end
def jj:List s9->List Us->Option (List Us)
 | [],acc=>some acc
 |(x,ar,p)::r,acc=>if x.kind=2 then(match x.vars ar.length with
  |(v,e)=>if e=0 then jj r (acc++[⟨x.index,v,ar,p⟩]) else none) else jj r acc
mutual
def Tm.yF:Tm->Bool
 | .mk _ k _ a=>!(k==2)&&Tm.iQ a
def Tm.iQ:List Tm->Bool
 | []=>true
 |t::l=>Tm.yF t&&Tm.iQ l
end
mutual
theorem CY:∀(t:Tm) (aI:List Ty) (path:List Int) (r:List s9) (acc:List Us),t.yF=true->jj (Tm.dj aI path t++r) acc=jj r acc
 | .mk b k i a,aI,path,r,acc,h=>by
  rw[Tm.yF,alB] at h;have hk:¬k=2:=by simpa using h.1
  rw[Tm.dj,amh,jj,Tm.KN,if_neg hk,lI a _ _ _ _ _ h.2]
theorem lI:∀(l:List Tm) (aI:List Ty) (path:List Int) (n:Nat) (r:List s9) (acc:List Us),Tm.iQ l=true->jj (Tm.fI aI path n l++r) acc=jj r acc
 | [],aI,path,n,r,acc,_=>by rw[Tm.fI,amq]
 |t::l,aI,path,n,r,acc,h=>by
  rw[Tm.iQ,alB] at h;rw[Tm.fI,alU,CY t _ _ _ _ h.1,lI l _ _ _ _ _ h.2]
end
mutual
theorem yG:∀(a:Tm) (j:Int),Tm.var a=some (0,j)->a.yF=true
 | .mk b k i a,j,h=>by
  rw[Tm.var_eq] at h;split at h
  ·rename_i hc;split at h
   ·rename_i hv;simp only[als,alx] at h;have hk:k=0:=h.1;rw[Tm.yF,alB];exact⟨by rw[hk];rfl,pz b a _ _ hc.1.symm hv⟩
   ·cases h
  ·cases h
theorem pz:∀(b:List Ty) (l:List Tm) (n k:Nat),b.length=l.length->Tm.dW n k b l=true->Tm.iQ l=true
 |_,[],_,_,_,_=>by rw[Tm.iQ]
 | [],_::_,_,_,h,_=>by simp at h
 |t::b,a::l,n,k,h,hv=>by
  rw[Tm.dW,alB] at hv;rw[Tm.iQ,alB];refine⟨?_,pz b l n (k+1) (by simpa using h) hv.2⟩
  cases hva:Tm.var a with
  |none=>rw[hva] at hv;exact absurd hv.1 (by simp)
  |some p=>
   obtain⟨q,j⟩:=p;rw[hva] at hv;have hq:q=0:=by
    have:=hv.1;simp only[alB,beq_iff_eq] at this;exact this.1.1
   subst hq;exact yG a j hva
end
theorem oc {n:Int}:∀{l:List Tm} {acc v:List Int},ek n acc l=some v->Tm.iQ l=true
 | [],acc,v,_=>by rw[Tm.iQ]
 |a::l,acc,v,h=>by
  rw[ek] at h;split at h
  ·rename_i k i hv;split at h
   ·rename_i hc;rw[Tm.iQ,alB];rw[hc.1] at hv;exact⟨yG a i hv,oc h⟩
   ·cases h
  ·cases h
mutual
theorem yH:∀(t:Tm) (aI:List Ty) (path:List Int) (r:List s9) (acc:List Us),jj (Tm.dj aI path t++r) acc=(match Tm.uses aI path t with
  |some us=>jj r (acc++us)
  |none=>none)
 | .mk b k i a,aI,path,r,acc=>by
  rw[Tm.dj,amh,jj,Tm.uses,Tm.KN]
  by_cases hk:k=2
  ·rw[if_pos hk,if_pos hk];dsimp only
   by_cases he:(Tm.vars (.mk b k i a) (aI++b).length).2=0
   ·rw[if_pos he,if_pos he];dsimp only;rw[lI a]
    ·rfl
    ·rw[Tm.vars] at he;split at he
     ·split at he
      ·rename_i v hv;exact oc hv
      ·exact absurd he (by decide)
     ·exact absurd he (by decide)
   ·rw[if_neg he,if_neg he]
  ·rw[if_neg hk,if_neg hk,vp a]
theorem vp:∀(l:List Tm) (aI:List Ty) (path:List Int) (n:Nat) (r:List s9) (acc:List Us),jj (Tm.fI aI path n l++r) acc=(match Tm.je aI path n l with
  |some us=>jj r (acc++us)
  |none=>none)
 | [],aI,path,n,r,acc=>by
  rw[Tm.fI,Tm.je,amq];dsimp only;rw[alV]
 |t::l,aI,path,n,r,acc=>by
  rw[Tm.fI,Tm.je,alU,yH t]
  cases Tm.uses aI (path++[(n:Int)]) t with
  |none=>rfl
  |some u=>
   dsimp only;rw[vp l]
   cases Tm.je aI path (n+1) l with
   |none=>rfl
   |some us=>dsimp only;rw[alU]
end
theorem MA (t:Tm):jj (Tm.dj [] [] t) []=Tm.uses [] [] t:=by
 have h:=yH t [] [] [] [];rw[alV] at h;rw[h]
 cases Tm.uses [] [] t with
 |none=>rfl
 |some us=>rfl
def WE:Option (List Us)->AV
 |some u=>.aL [.sl (u.map Us.enc),nB true]
 |none=>.aL [.sl [],nB false]
theorem ux {l:List (List Int)} {k:Nat} (h:k<l.length):List.getD (l.map yB) (Int.toNat (k:Int)) .top=.sl (ai l[k]):=by rw[getD_map h];rfl
theorem yI:∀(p:List Int) (t x:Tm) (l:List Ty),Tm.at t p=some (x,l)->p.length<=t.size
 | [],t,x,l,h=>alE _
 |i::p,t,x,l,h=>by
  rw[Tm.wz] at h;split at h
  ·split at h
   ·rename_i y hy;have hm:=Tm.aK (alF hy);split at h
    ·rename_i z l' hz;have:=yI p y _ _ hz;have:=t.size_eq;rw[alJ];omega
    ·cases h
   ·cases h
  ·cases h
theorem GC {t:Tm} (ht:t.size<=10000) (hk:t.Ok):ag Tryz.prog 106 [t.enc] (WE (t.uses [] [])):=by
 have jo:=AU _ t [] (alA _) (by omega) (by simp;omega);have FD:(Tm.dj [] [] t).map (fun s=>s.2.2)=Tm.all [] t:=Tm.uw t [] [];have M5:=Tm.s8 t [];have hlen:(Tm.dj [] [] t).length=(Tm.all [] t).length:=by rw[<-FD,alv]
 have R2:∀(k:Nat) (h1:k<(Tm.dj [] [] t).length) (h2:k<(Tm.all [] t).length),Tm.at t (Tm.all [] t)[k]=some ((Tm.dj [] [] t)[k].1,(Tm.dj [] [] t)[k].2.1)/\(Tm.dj [] [] t)[k].2.2=(Tm.all [] t)[k]:=by
  intro k h1 h2;have hp:(Tm.dj [] [] t)[k].2.2=(Tm.all [] t)[k]:=by
   have h3:((Tm.dj [] [] t).map (fun s=>s.2.2))[k]?=(Tm.all [] t)[k]?:=by rw[FD]
   rw[alM,aly h1,aly h2] at h3;simpa using h3
  obtain⟨q,l,h3,h4,h5⟩:=Tm.yE t [] [] _ (alG h1);rw[amq] at h3 h5;rw[<-hp,h3,h5];exact⟨h4,rfl⟩
 have hf:=MA t;rw[Tm.aC] at jo ⊢;refine Pl ⟨_,jo,rfl,?_⟩;generalize Tm.dj [] [] t=sp at FD hlen R2 hf;generalize Tm.all [] t=ps at jo FD M5 hlen R2;refine av.intro (fun p:Nat×List Us=>(((),(),ps.map yB,(p.1:Int),()),((t.binds.map Ty.enc,t.kind,t.index,t.args.map Tm.enc,()),p.2.map Us.enc,())))
  (fun p=>p.1<=ps.length/\p.2.length<=p.1/\jj (sp.drop p.1) p.2=Tm.uses [] [] t) (fun p=>ps.length-p.1) (0,[]) rfl ⟨alE _,alA _,hf⟩ ?_
 intro ⟨k,acc⟩ ⟨tO,DL,hs⟩ again bw;dsimp only at tO DL hs ⊢;rw[alv];refine ah.intro (fun h=>?_) fun h=>?_
 ·have ak:k<ps.length:=by simpa using h
  have R3:k<sp.length:=by omega
  obtain⟨h1,h2⟩:=R2 k R3 ak;have ahB:=Tm.at_len _ _ _ _ h1;have Jy:=yI _ _ _ _ h1;have Z3:=GB ps[k] t (by omega) (by omega);rw[h1,zz,Tm.aC,Tm.aC sp[k].1] at Z3;rw[alC R3] at hs;have A9:jj ((sp[k].1,sp[k].2.1,sp[k].2.2)::sp.drop (k+1)) acc=Tm.uses [] [] t:=hs;rw[jj,h2] at A9;refine⟨by omega,by omega,_,ux ak,_,_,_,_,_,_,Z3,ah.intro (fun h=>?_) fun h=>?_⟩
  ·have oX:¬sp[k].1.kind=2:=by simpa using h
   rw[if_neg oX] at A9;rw[aA (by omega)];exact⟨rfl,bw (k+1,acc) ⟨by dsimp only;omega,by dsimp only;omega,A9⟩ (by dsimp only;omega)⟩
  ·have oX:sp[k].1.kind=2:=by simpa using h
   rw[if_pos oX] at A9;have hv:=Gz (t:=sp[k].1) (n:=((sp[k].2.1.length:Nat):Int)) (by omega) (ahB.2.2 hk);rw[Tm.aC,Rq] at hv;rw[alv];refine⟨_,_,hv,ah.intro (fun h=>?_) fun h=>?_⟩
   ·have he:¬(Tm.vars sp[k].1 ((sp[k].2.1.length:Nat):Int)).2=0:=by simpa using h
    dsimp only at A9;rw[if_neg he] at A9;rw[<-A9];rfl
   ·have he:(Tm.vars sp[k].1 ((sp[k].2.1.length:Nat):Int)).2=0:=by simpa using h
    dsimp only at A9;rw[if_pos he] at A9;refine⟨by omega,by omega,_,ux ak,rfl,bc rfl (by rw[alz,alv,alW];omega) (by decide),rfl,?_⟩;have FI:acc.map Us.enc++[.agg [nI sp[k].1.index,.sl (ai (Tm.vars sp[k].1 ((sp[k].2.1.length:Nat):Int)).1),.sl (sp[k].2.1.map Ty.enc),.sl (ai ps[k])]]=(acc++[(⟨sp[k].1.index,(Tm.vars sp[k].1 ((sp[k].2.1.length:Nat):Int)).1,sp[k].2.1,ps[k]⟩:Us)]).map Us.enc:=by
     rw[ama];rfl
    rw[aA (by omega),FI];exact bw (k+1,acc++[⟨sp[k].1.index,(Tm.vars sp[k].1 ((sp[k].2.1.length:Nat):Int)).1,sp[k].2.1,ps[k]⟩]) ⟨by dsimp only;omega,by dsimp only;rw[alz,alW];omega,A9⟩ (by dsimp only;omega)
 ·have hle:ps.length<=k:=by simpa using h
  rw[alD (by omega),jj] at hs;refine⟨rfl,?_⟩;rw[<-hs];rfl
def yJ (sp:List s9):List Int:=(sp.filter fun s=>s.1.kind==2).map fun s=>s.1.index
theorem GD (s:s9) (l:List s9):yJ (s::l)=(if s.1.kind=2 then[s.1.index] else[])++yJ l:=by
 unfold yJ;rw[am4]
 by_cases h:s.1.kind=2
 ·rw[show (s.1.kind==2)=true by simpa using h,if_pos rfl,if_pos h];rfl
 ·rw[show (s.1.kind==2)=false by simpa using h,if_neg (by decide),if_neg h];rfl
theorem K1 (l m:List s9):yJ (l++m)=yJ l++yJ m:=by unfold yJ;rw[List.filter_append,ama]
mutual
theorem AX:∀(t:Tm) (ar:List Ty) (p:List Int),yJ (Tm.dj ar p t)=t.uu
 | .mk b k i a,ar,p=>by rw[Tm.dj,GD,yK a];rfl
theorem yK:∀(l:List Tm) (ar:List Ty) (p:List Int) (n:Nat),yJ (Tm.fI ar p n l)=Tm.eR l
 | [],_,_,_=>rfl
 |t::l,ar,p,n=>by rw[Tm.fI,K1,AX t,yK l,Tm.eR]
end
theorem vq {t:Tm} {us:List Int} (ht:t.size<=10000) (hu:us.length<=1000000):bH Tryz.prog 154 [.own 0 (ai us).length,cB t] [.row 3 1 (ai us)]
  (fun x q=>x=.own 0 (ai (bP us t.uu)).length/\q=[.row 3 1 (ai (bP us t.uu))]):=by
 have jo:=AU _ t [] (alA _) (by omega) (by simp;omega);have FD:(Tm.dj [] [] t).map (fun s=>s.2.2)=Tm.all [] t:=Tm.uw t [] [];have M5:=Tm.s8 t [];have hlen:(Tm.dj [] [] t).length=(Tm.all [] t).length:=by rw[<-FD,alv]
 have R2:∀(k:Nat) (h1:k<(Tm.dj [] [] t).length) (h2:k<(Tm.all [] t).length),Tm.at t (Tm.all [] t)[k]=some ((Tm.dj [] [] t)[k].1,(Tm.dj [] [] t)[k].2.1):=by
  intro k h1 h2;have hp:(Tm.dj [] [] t)[k].2.2=(Tm.all [] t)[k]:=by
   have h3:((Tm.dj [] [] t).map (fun s=>s.2.2))[k]?=(Tm.all [] t)[k]?:=by rw[FD]
   rw[alM,aly h1,aly h2] at h3;simpa using h3
  obtain⟨q,l,h3,h4,h5⟩:=Tm.yE t [] [] _ (alG h1);rw[amq] at h3 h5;rw[<-hp,h3,h5];exact h4
 have hm:=AX t [] [];rw[<-bR] at jo;rw[<-hm];refine Qt ⟨_,jo,rfl,?_⟩;have hol:∀k,(bP us (yJ ((Tm.dj [] [] t).take k))).length<=us.length+k:=fun k=>by
  have h1:=gp (yJ ((Tm.dj [] [] t).take k)) us;have h2:(yJ ((Tm.dj [] [] t).take k)).length<=k:=by
   have:=anv (fun s:s9=>s.1.kind==2) ((Tm.dj [] [] t).take k);rw[amd] at this;rw[yJ,alv];omega
  omega
 generalize Tm.dj [] [] t=sp at FD hlen R2 hol;generalize Tm.all [] t=ps at jo FD M5 hlen R2;refine av.intro (fun k:Nat=>(((),(),ps.map yB,(k:Int),()),(ai (bP us (yJ (sp.take k))),(t.binds.map Ty.enc,t.kind,t.index,t.args.map Tm.enc,()),()))) (fun k=>k<=ps.length) (fun k=>ps.length-k) 0 rfl (alE _) ?_;intro k hk again bw;dsimp only;refine ah.intro (fun h=>?_) fun h=>?_
 ·have ak:k<ps.length:=by simpa using h
  have R3:k<sp.length:=by omega
  have h1:=R2 k R3 ak;have Jy:=yI _ _ _ _ h1;have Z3:=GB ps[k] t (by omega) (by omega);rw[h1,zz,<-bR,<-bR] at Z3;have W3:=hol k;have FI:bP us (yJ (sp.take (k+1)))=bP (bP us (yJ (sp.take k))) (if sp[k].1.kind=2 then[sp[k].1.index] else[]):=by
   rw[alL R3,K1,rk,GD,show yJ []=[] from rfl,alV]
  have fF:=bw (k+1) (by omega) (by omega);rw[FI] at fF;refine⟨by omega,by rw[alv];omega,_,ux ak,_,_,_,_,_,_,Z3,ah.intro (fun h=>?_) fun h=>?_⟩
  ·have h2:sp[k].1.kind=2:=by simpa using h
   rw[if_pos h2] at fF;refine⟨rfl,_,iI (by omega),ah.intro (fun h=>⟨rfl,bc rfl (by rw[alz,aH,alW];omega) (by decide),rfl,?_⟩) fun h=>⟨rfl,?_⟩⟩
   ·have hn:¬sp[k].1.index∈bP us (yJ (sp.take k)):=by simpa using h
    have e:ai (bP us (yJ (sp.take k)))++[nI sp[k].1.index]=ai (bP (bP us (yJ (sp.take k))) [sp[k].1.index]):=by
     show _=ai (iv _ _);rw[iv,if_neg hn];simp[ai]
    rw[e,aA (by omega)];exact fF
   ·have hn:sp[k].1.index∈bP us (yJ (sp.take k)):=by simpa using h
    have e:bP (bP us (yJ (sp.take k))) [sp[k].1.index]=bP us (yJ (sp.take k)):=by
     show iv _ _=_;rw[iv,if_pos hn]
    rw[e] at fF;rw[aA (by omega)];exact fF
  ·have h2:¬sp[k].1.kind=2:=by simpa using h
   rw[if_neg h2] at fF;rw[aA (by omega)];exact⟨rfl,fF⟩
 ·have:ps.length<=k:=by simpa using h
  rw[alI (by omega)];exact⟨rfl,rfl⟩
theorem I0 {us:List Int} (h:us.Nodup) (m:Int):(iv us m).Nodup:=by
 unfold iv;split
 ·exact h
 ·rename_i hm;exact List.nodup_append.2 ⟨h,by simp,fun a ha b hb e=>hm (by rw[<-amc.1 hb,<-e];exact ha)⟩
theorem nJ:∀(l us:List Int),us.Nodup->(bP us l).Nodup
 | [],us,h=>h
 |x::l,us,h=>by rw[bP,amU];exact nJ l _ (I0 h x)
theorem R4:∀{us:List Int} {k:Nat} {m:Int},us.Nodup->us[k]?=some m->wy us m=k
 | [],k,m,_,h=>by simp at h
 |x::us,0,m,_,h=>by
  simp at h;rw[wy,if_pos h]
 |x::us,k+1,m,hn,h=>by
  rw[al5] at h;have Ju:=List.nodup_cons.1 hn;rw[wy,if_neg (fun e=>Ju.1 (by rw[e];exact alF h)),R4 Ju.2 h]
theorem qH {us:List Int} (hn:us.Nodup) (hu:us.length<=1000000):∀(n:Nat) (t:Tm),t.size<=n->n<=1000000->ag Tryz.prog 155 [.sl (ai us),cB t] (cB (iK us t)):=by
 intro n
 induction n with
 |zero=>intro t h;have:=t.size_pos;omega
 |succ n ih=>
  intro t h Yu;have pU:=t.size_eq;have hla:=Tm.aw t.args;have hr:iK us t=.mk t.binds t.kind (if t.kind=2/\t.index∈us then(wy us t.index:Int) else t.index) (kz us t.args):=by cases t;rfl
  have loop:∀i:Int,iK us t=.mk t.binds t.kind i (kz us t.args)->An ((ai us,(),(),(),0,()),((t.binds.map Ty.enc,t.kind,t.index,t.args.map Tm.enc,()),((),0,0,(),()),(t.binds.map Ty.enc,t.kind,i,(),()),[],())) (fun x=>x=cB (iK us t)):=by
   intro i e;rw[e];refine av.intro (fun k:Nat=>((ai us,(),(),(),(k:Int),()),((t.binds.map Ty.enc,t.kind,t.index,t.args.map Tm.enc,()),((),0,0,(),()),(t.binds.map Ty.enc,t.kind,i,(),()),(kz us (t.args.take k)).map Tm.enc,()))) (fun k=>k<=t.args.length) (fun k=>t.args.length-k) 0 rfl (alE _) ?_;intro k hk again bw;dsimp only;refine ah.intro (fun h=>?_) fun h=>⟨rfl,?_⟩
   ·have ak:k<t.args.length:=by simpa using h
    have bN:=Tm.aK (alG ak);have e5:(kz us (t.args.take k)).map Tm.enc++[cB (iK us t.args[k])]=(kz us (t.args.take (k+1))).map Tm.enc:=by
     rw[uv,uv,alL ak,ama,ama,al3,aml,al3,aml,bR]
    refine⟨by omega,by rw[alv];omega,_,_,_,_,Tm.aq ak,_,_,_,_,ih t.args[k] (by omega) (by omega),rfl,bc rfl (by rw[alz,alv,uv,alv,alW,amd];omega) (by decide),rfl,?_⟩;have:=bw (k+1) (by omega) (by omega);rw[<-e5] at this;rw[aA (by omega)];exact this
   ·have:t.args.length<=k:=by simpa using h
    rw[alI this];rfl
  refine Qy (ah.intro (fun h1=>?_) fun h1=>⟨rfl,loop t.index ?_⟩)
  ·have h2:t.kind=2:=by simpa using h1
   refine av.intro (fun k:Nat=>((ai us,(),(),(),(k:Int),()),((t.binds.map Ty.enc,t.kind,t.index,t.args.map Tm.enc,()),((),0,0,(),()),(t.binds.map Ty.enc,t.kind,if t.index∈us.take k then(wy us t.index:Int) else t.index,(),()),()))) (fun k=>k<=us.length) (fun k=>us.length-k) 0 (by rw[ank,if_neg (by simp)];rfl) (alE _) ?_;intro k hk again bw;dsimp only;refine ah.intro (fun h=>?_) fun h=>⟨rfl,?_⟩
   ·have ak:k<us.length:=by rw[aH] at h;simpa using h
    have fF:=bw (k+1) (by omega) (by omega);have ht:us.take (k+1)=us.take k++[us[k]]:=alL ak;refine⟨by omega,by rw[aH];omega,_,eO ak,ah.intro (fun h=>?_) fun h=>?_⟩
    ·have he:us[k]=t.index:=by simpa using h
     rw[if_pos (by rw[ht,he];exact amQ _ (amc.2 rfl)),R4 hn (by rw[aly ak,he])] at fF;rw[aA (by omega)];exact fF
    ·have he:¬us[k]=t.index:=by simpa using h
     have e:(t.index∈us.take (k+1))=(t.index∈us.take k):=propext (by
      rw[ht,amn,amc]
      exact⟨fun h=>h.elim id fun e=>absurd e.symm he,.inl⟩)
     simp only[e] at fF;rw[aA (by omega)];exact fF
   ·have:us.length<=k:=by rw[aH] at h;simpa using h
    rw[alI this];refine loop _ ?_;rw[hr]
    by_cases hm:t.index∈us
    ·rw[if_pos ⟨h2,hm⟩,if_pos hm]
    ·rw[if_neg (fun e=>hm e.2),if_neg hm]
  ·have h2:¬t.kind=2:=by simpa using h1
   rw[hr,if_neg (fun e=>h2 e.1)]
def oo (l r:Tm):List Int:=bP (bP [] l.uu) r.uu
def mM (us:List Int) (ms:List Ty):Bool:=us.all fun m=>decide (0<=m/\m<(ms.length:Int))
def rp (us:List Int) (ms:List Ty):List Ty:=us.map fun m=>ms.getD m.toNat (.mk [] 0)
theorem I3 (l r:Tm):(oo l r).Nodup:=nJ _ _ (nJ _ _ List.nodup_nil)
theorem yL (l r:Tm):(oo l r).length<=l.size+r.size:=by
 have h1:=gp l.uu [];have h2:=gp r.uu (bP [] l.uu);have h3:=sY l;have h4:=sY r;rw[oo];simp only[al4] at h1;omega
def CZ:Tm:=.mk [] 0 0 []
def ta (l r:Tm) (ms:List Ty) (a b:AV):AV:=if mM (oo l r) ms=true then .aL [lx (iK (oo l r) l) (iK (oo l r) r) (rp (oo l r) ms),a] else .aL [lx CZ CZ [],b]
theorem yM {l r:Tm} {ms:List Ty} (hl:l.size<=10000) (hr:r.size<=10000) (hm:ms.length<=1000000):ag Tryz.prog 104 [lx l r ms] (ta l r ms (nB true) (nB false)):=by
 have S5:=yL l r;have jF:=I3 l r;have o1:=bH.of_nil (P:=Tryz.prog) (hp:=[]) false 3 1 (by decide) (vq (us:=[]) hl (by simp));have h1l:(bP [] l.uu).length<=10000:=by
  have h1:=gp l.uu [];have h3:=sY l;simp only[al4] at h1;omega
 have o2:=vq (us:=bP [] l.uu) hr (by omega);have o2':=vO.Xk (js:=[2]) (H:=[.box [.sl (l.binds.map Ty.enc),nI l.kind,nI l.index,.sl (l.args.map Tm.enc),.sl (r.binds.map Ty.enc),nI r.kind,nI r.index,.sl (r.args.map Tm.enc),.sl (ms.map Ty.enc)],.box [.ae (.slice none 0 0),nI 0,nI 0,.ae (.slice none 0 0),.ae (.slice none 0 0),nI 0,nI 0,.ae (.slice none 0 0),.ae (.slice none 0 0)],.row 3 1 (ai (bP [] l.uu))]) (args:=[.own 2 (ai (bP [] l.uu)).length,cB r]) (by rfl) o2 (fun x q ⟨e1,e2⟩=>by subst e1;subst e2;rfl);have one:Fg (l.binds.map Ty.enc) l.kind l.index (l.args.map Tm.enc) (r.binds.map Ty.enc) r.kind r.index (r.args.map Tm.enc) (ms.map Ty.enc) (fun x=>x=ta l r ms (nB true) (nB false)):=by
  refine⟨_,o1,fun x q ⟨e1,e2⟩=>⟨_,⟨e1,e2⟩,_,o2',fun x q ⟨x0,q0,⟨e1,e2⟩,e3,e4⟩=>?_⟩⟩;subst e1;subst e2;refine⟨_,_,_,_,_,_,_,_,_,_,⟨e3,e4⟩,rfl,rfl,?_⟩;have hU:bP (bP [] l.uu) r.uu=oo l r:=rfl;rw[hU,ta];generalize oo l r=us at S5 jF;refine av.intro (fun k:Nat=>(((),(),(),(),(k:Int),()),((l.binds.map Ty.enc,l.kind,l.index,l.args.map Tm.enc,r.binds.map Ty.enc,r.kind,r.index,r.args.map Tm.enc,ms.map Ty.enc,()),((),0,0,(),(),0,0,(),(),()),ai us,((),0,0,(),(),0,0,(),(),()),(rp (us.take k) ms).map Ty.enc,()))) (fun k=>k<=us.length/\mM us ms=mM (us.drop k) ms) (fun k=>us.length-k) 0 rfl ⟨alE _,rfl⟩ ?_;intro k ⟨hk,hs⟩ again bw;dsimp only;refine⟨rfl,ah.intro (fun h=>?_) fun h=>⟨rfl,_,_,_,_,qH jF (by omega) _ l (alA _) (by omega),rfl,_,_,_,_,qH jF (by omega) _ r (alA _) (by omega),rfl,?_⟩⟩
  ·have ak:k<us.length:=by rw[aH] at h;simpa using h
   have b:(0:Int)<=k/\(k:Int)<((List.length (ai us):Nat):Int):=⟨by omega,by rw[aH];omega⟩;rw[alC ak,mM,mM,amj] at hs;refine⟨rfl,b.1,b.2,_,eO ak,ah.intro (fun h=>?_) fun h=>⟨rfl,b.1,b.2,_,eO ak,ah.intro (fun h2=>?_) fun h2=>?_⟩⟩
   ·have:us[k]<0:=of_decide_eq_true h;rw[decide_eq_false (by omega),alP] at hs;rw[mM,hs];rfl
   ·have:us[k]>=(ms.length:Int):=by
     have:=of_decide_eq_true h2;rw[alv] at this;exact this
    rw[decide_eq_false (by omega),alP] at hs;rw[mM,hs];rfl
   ·have g1:0<=us[k]:=by have:=of_decide_eq_false h;omega
    have g2:us[k]<(ms.length:Int):=by
     have:=of_decide_eq_false h2;rw[alv] at this;omega
    rw[decide_eq_true ⟨g1,g2⟩,alN] at hs;obtain⟨m,Li⟩:∃m:Nat,us[k]=m:=⟨us[k].toNat,by omega⟩;have M6:m<ms.length:=by omega
    have e5:(rp (us.take k) ms).map Ty.enc++[ms[m].enc]=(rp (us.take (k+1)) ms).map Ty.enc:=by
     rw[rp,rp,alL ak,ama,ama,al3,aml,al3,aml,Li,amA,amB,aly M6];rfl
    rw[Ty.aC] at e5;refine⟨rfl,b.1,b.2,_,eO ak,g1,by rw[alv];exact g2,_,_,by rw[Li];exact Ty.aq M6,rfl,bc rfl (by rw[alz,alv,rp,alv,alW,amd];omega) (by decide),rfl,rfl,?_⟩;rw[e5,aA (by omega)];exact bw (k+1) ⟨by omega,hs⟩ (by omega)
  ·have:us.length<=k:=by rw[aH] at h;simpa using h
   rw[alD this] at hs;rw[alI this];exact(if_pos (show mM us ms=true from hs)).symm
 exact QD ⟨one,one⟩
theorem K2 {t:Tm} (h:t.size<=1000000000) (hk:t.Ok):ag Tryz.prog 47 [cB t] (cB t):=by
 have:=Ie h hk
 rwa [<-bR] at this
theorem yN {l r:Tm} {ms:List Ty} (hl:l.size<=10000) (hr:r.size<=10000) (hm:Ty.sizes ms<=1000000) (lo:l.Ok) (ro:r.Ok):ag Tryz.prog 97 [lx l r ms] (ta l r ms (nI 0) (nI 10)):=by
 have S5:=yL l r;have M6:=Ty.aw ms;have c1:=AQ _ l (alA _) (by omega) [] [] mL.nil (by simp;omega);have c1':=vO.Xk (js:=[0,2,1]) (H:=[.aJ (.i []),.box [.mp 0,.own 2 0],.aQ 3 1 []]) (args:=[.agg [.ptr 1 0],cB l]) (by rfl) c1 (fun x q ⟨e1,Mz,_,e2⟩=>by subst e1;subst e2;rfl);have ahC:=bH.VE (P:=Tryz.prog) (hp:=[.aJ (.i []),.box [.mp 0,.ae (.slice none 0 0)]]) true 3 1 1 1 (cs:=[.mp 0,.ae (.slice none 0 0)]) (by decide) rfl rfl c1';have e1:(gq [] l).2=bP [] l.uu:=CW l [];have aR:(gq [] l).2 <+: oo l r:=by rw[e1];exact nH _ _
 have d1:(gq [] l).1=iK (oo l r) l:=IY l [] _ aR;have e2:(gq (gq [] l).2 r).2=oo l r:=by rw[CW,e1];rfl
 have d2:(gq (gq [] l).2 r).1=iK (oo l r) r:=IY r _ _ (by rw[e2];exact List.prefix_refl _);refine Vt ⟨_,ahC,fun x q ⟨x0,q0,⟨g1,Z2,gK,g2⟩,g3,g4⟩=>?_⟩;subst g1;subst g2;refine⟨_,_,_,_,_,_,⟨g3,g4⟩,_,_,_,_,K2 (t:=(gq [] l).1) ?_ ?_,?_⟩
 ·rw[d1,mK];omega
 ·rw[d1];exact CX l _ (by omega) lo
 have c2:=AQ _ r (alA _) (by omega) Z2 _ gK (by rw[e1];have h1:=gp l.uu [];have h3:=sY l;simp only[al4] at h1;omega);refine⟨_,c2,fun x q ⟨g3,ke2,oX,g4⟩=>⟨_,_,_,_,_,_,⟨g3,g4⟩,_,_,_,_,K2 (t:=(gq (gq [] l).2 r).1) ?_ ?_,rfl,rfl,rfl,rfl,?_⟩⟩
 ·rw[d2,mK];omega
 ·rw[d2];exact CX r _ (by omega) ro
 rw[e2,d1,d2,ta];generalize oo l r=us at S5;refine av.intro (fun k:Nat=>(((),(),(),(),((List.length (ai us):Nat):Int),(k:Int),()),((l.binds.map Ty.enc,l.kind,l.index,l.args.map Tm.enc,r.binds.map Ty.enc,r.kind,r.index,r.args.map Tm.enc,ms.map Ty.enc,()),((),0,0,(),(),0,0,(),(),()),ke2,((),(),()),((),()),ai us,((iK us l).binds.map Ty.enc,(iK us l).kind,(iK us l).index,(iK us l).args.map Tm.enc,(iK us r).binds.map Ty.enc,(iK us r).kind,(iK us r).index,(iK us r).args.map Tm.enc,(),()),(rp (us.take k) ms).map Ty.enc,()))) (fun k=>k<=us.length/\mM us ms=mM (us.drop k) ms) (fun k=>us.length-k) 0 rfl ⟨alE _,rfl⟩ ?_;intro k ⟨hk,hs⟩ again bw;dsimp only;refine ah.intro (fun h=>?_) fun h=>⟨rfl,?_⟩
 ·have ak:k<us.length:=by rw[aH] at h;simpa using h
  rw[alC ak,mM,mM,amj] at hs;refine⟨⟨by omega,by rw[aH];omega,rfl⟩,rfl,by rw[aH];omega,_,eO ak,ah.intro (fun h=>?_) fun h=>ah.intro (fun h2=>?_) fun h2=>?_⟩
  ·have:us[k]<0:=of_decide_eq_true h;rw[decide_eq_false (by omega),alP] at hs;rw[mM,hs];rfl
  ·have:us[k]>=(ms.length:Int):=by
    have:=of_decide_eq_true h2;rw[alv] at this;exact this
   rw[decide_eq_false (by omega),alP] at hs;rw[mM,hs];rfl
  ·have g1:0<=us[k]:=by have:=of_decide_eq_false h;omega
   have g2:us[k]<(ms.length:Int):=by
    have:=of_decide_eq_false h2;rw[alv] at this;omega
   rw[decide_eq_true ⟨g1,g2⟩,alN] at hs;obtain⟨m,Li⟩:∃m:Nat,us[k]=m:=⟨us[k].toNat,by omega⟩;have ZJ:m<ms.length:=by omega
   have hmz:=Ty.aK (alG ZJ);have e5:(rp (us.take k) ms).map Ty.enc++[ms[m].enc]=(rp (us.take (k+1)) ms).map Ty.enc:=by
    rw[rp,rp,alL ak,ama,ama,al3,aml,al3,aml,Li,amA,amB,aly ZJ];rfl
   rw[Ty.aC] at e5;refine⟨g1,by rw[alv];exact g2,_,_,by rw[Li];exact Ty.aq ZJ,_,_,Ma (by omega),rfl,bc rfl (by rw[alz,alv,rp,alv,alW,amd];omega) (by decide),rfl,rfl,rfl,?_⟩;rw[e5,aA (by omega)];exact bw (k+1) ⟨by omega,hs⟩ (by omega)
 ·have:us.length<=k:=by rw[aH] at h;simpa using h
  rw[alD this] at hs;rw[alI this];exact(if_pos (show mM us ms=true from hs)).symm
structure Mt where
 left:Nat
 count:Nat
 err:Int
theorem GF {α:Type} {p:α->Bool} {l:List α} {k:Nat} (h:k<l.length):(l.drop k).all p=(p l[k]&&(l.drop (k+1)).all p):=by
 rw[alC h,amj]
theorem te {b:Int} {c m:List Ty} (hc:c.length<=500) (hm:m.length<=500) (h1:Ty.sizes c<=500000000) (h2:Ty.sizes m<=500000000):
  ag Tryz.prog 100 [.agg [nI b,.sl (c.map Ty.enc),.sl (m.map Ty.enc)]] (nB (c.all (Ty.bK b)&&m.all (Ty.bK b))):=by
 refine Q7 ?_;unfold XI Fv;rw[alv,alv,bV (by omega) (by omega)];refine ah.neg (decide_eq_false (by omega)) (ah.neg (decide_eq_false (by omega)) ?_);refine av.intro (fun k:Nat=>(((),(k:Int),()),((b,c.map Ty.enc,m.map Ty.enc,()),()))) (fun k=>k<=c.length/\c.all (Ty.bK b)=(c.drop k).all (Ty.bK b)) (fun k=>c.length-k) 0 rfl ⟨alE _,rfl⟩ ?_;intro k ⟨hk,hs⟩ again bw;dsimp only;rw[alv];refine ah.intro (fun h=>?_) fun h=>?_
 ·have ak:k<c.length:=by simpa using h
  rw[GF ak] at hs;refine⟨by omega,by omega,_,_,Ty.aq ak,_,qF (by have:=Ty.aK (alG ak);omega),ah.intro (fun h=>?_) fun h=>?_⟩
  ·rw[hs,show Ty.bK b c[k]=false from by simpa using h,alP,alP]
  ·rw[show Ty.bK b c[k]=true from by simpa using h,alN] at hs;rw[aA (by omega)];exact bw (k+1) ⟨by omega,hs⟩ (by omega)
 ·have:c.length<=k:=by simpa using h
  rw[alD this] at hs;unfold Fu;refine av.intro (fun k:Nat=>(((),(k:Int),()),((b,c.map Ty.enc,m.map Ty.enc,()),()))) (fun k=>k<=m.length/\m.all (Ty.bK b)=(m.drop k).all (Ty.bK b)) (fun k=>m.length-k) 0 rfl ⟨alE _,rfl⟩ ?_;intro k ⟨hk,Hh⟩ again bw;dsimp only;rw[alv];refine ah.intro (fun h=>?_) fun h=>?_
  ·have ak:k<m.length:=by simpa using h
   rw[GF ak] at Hh;refine⟨by omega,by omega,_,_,Ty.aq ak,_,qF (by have:=Ty.aK (alG ak);omega),ah.intro (fun h=>?_) fun h=>?_⟩
   ·rw[Hh,show Ty.bK b m[k]=false from by simpa using h,alP,amH]
   ·rw[show Ty.bK b m[k]=true from by simpa using h,alN] at Hh;rw[aA (by omega)];exact bw (k+1) ⟨by omega,Hh⟩ (by omega)
  ·have:m.length<=k:=by simpa using h
   rw[alD this] at Hh;rw[hs,Hh];rfl
theorem zA {b:Int} {c m x:List Ty} {t:Tm} (ax:t.Ok) (hx:x.length+t.size<=500000000):ag Tryz.prog 102 [.agg [nI b,.sl (c.map Ty.enc),.sl (m.map Ty.enc)],.sl (x.map Ty.enc),cB t] (.aL [.agg [.sl ((t.Aw c m x).1.args.map Ty.enc),nI (t.Aw c m x).1.base],nB (decide ((t.Aw c m x).2=0))]):=by
 have pU:=t.size_eq;have hq:=Ty.aw t.binds;have hi:jm t.index:=(Tm.ok_eq ax).2.1;have hh:=n9 (b:=b) (c:=c) (m:=m) (x:=x++t.binds) (k:=t.kind) hi (by rw[alz];omega);refine QE ⟨_,il (by omega) (by omega),?_⟩;rw[Tm.Aw]
 cases ht:dE c m (x++t.binds) t.kind t.index with
 |none=>
  rw[ht] at hh;exact⟨_,_,_,hh,ah.pos rfl rfl⟩
 |some u=>
  rw[ht] at hh;exact⟨_,_,_,hh,ah.neg rfl rfl⟩
theorem AY {b:Int} {c m:List Ty} (hc:∀t∈c,t.size<=200000000) (hm:∀t∈m,t.size<=200000000):∀(n:Nat) (t:Tm) (of:Ty) (x:List Ty),t.size<=n->t.Ok->(∀u∈x,u.size<=200000000)->x.length+t.size<=200000000->
  ag Tryz.prog 103 [.agg [nI b,.sl (c.map Ty.enc),.sl (m.map Ty.enc)],.sl (x.map Ty.enc),cB t,.agg [.sl (of.args.map Ty.enc),nI of.base]] (nB (t.FR c m x of)):=by
 intro n
 induction n with
 |zero=>intro t of x h;have:=t.size_pos;omega
 |succ n ih=>
  intro t of x h ax hx hn;have pU:=t.size_eq;have hq:=Ty.aw t.binds;have M4:=Tm.aw t.args;have hi:jm t.index:=(Tm.ok_eq ax).2.1;have Yt:Tm.L4 t.args:=(Tm.ok_eq ax).2.2;have heq:=n7 (l:=t.binds) (m:=of.args) (by omega);have ZV:∀u∈x++t.binds,u.size<=200000000:=fun u hu=>by
   rcases amn.1 hu with hu|hu
   ·exact hx u hu
   ·have:=Ty.aK hu;omega
  have hh:=n9 (b:=b) (c:=c) (m:=m) (x:=x++t.binds) (k:=t.kind) hi (by rw[alz];omega);have bN:∀u,dE c m (x++t.binds) t.kind t.index=some u->u.size<=200000000:=fun u hu=>by
   rcases x5 hu with hu|hu|hu
   ·exact ZV u hu
   ·exact hc u hu
   ·exact hm u hu
  have y7:=Tm.Rz c m x t of;refine QH ⟨_,il (by omega) (by omega),?_⟩
  cases ht:dE c m (x++t.binds) t.kind t.index with
  |none=>
   rw[ht] at hh y7;exact⟨_,_,_,hh,ah.pos rfl (by rw[y7,amH])⟩
  |some u=>
   rw[ht] at hh y7;dsimp only at y7;have hu:=bN u ht;have ZQ:=u.size_eq;have S5:=Ty.aw u.args;refine⟨_,_,_,hh,ah.neg rfl ⟨_,heq,ah.intro (fun h=>?_) fun h=>ah.intro (fun h1=>?_) fun h1=>?_⟩⟩
   ·have h0:Ty.bA t.binds of.args=false:=by simpa using h
    rw[y7,h0,alP]
   ·have:(u.base==of.base)=false:=by simpa using h1
    rw[y7,this,alP,amH]
   have h0:Ty.bA t.binds of.args=true:=by simpa using h
   have h1:(u.base==of.base)=true:=by simpa using h1
   rw[h0,alN,h1,alN] at y7;rw[alv,alv];refine ah.intro (fun h=>?_) fun h=>?_
   ·have:¬u.args.length=t.args.length:=by simp at h;omega
    rw[y7,show (u.args.length==t.args.length)=false from by simpa using this,alP]
   have h2:u.args.length=t.args.length:=by simp at h;omega
   rw[show (u.args.length==t.args.length)=true from by simpa using h2,alN] at y7;refine av.intro (fun k:Nat=>(((),(),(x++t.binds).map Ty.enc,(),(k:Int),()),((b,c.map Ty.enc,m.map Ty.enc,()),(t.binds.map Ty.enc,t.kind,t.index,t.args.map Tm.enc,()),(of.args.map Ty.enc,of.base,()),(u.args.map Ty.enc,u.base,()),())))
    (fun k=>k<=t.args.length/\t.FR c m x of=Tm.zu c m (x++t.binds) (t.args.drop k) (u.args.drop k)) (fun k=>t.args.length-k) 0 rfl ⟨alE _,y7⟩ ?_
   intro k ⟨hk,hs⟩ again bw;dsimp only;refine ah.intro (fun h=>?_) fun h=>?_
   ·have ak:k<t.args.length:=by simpa using h
    have ZW:k<u.args.length:=by omega
    rw[Tm.Ax ak ZW] at hs;have kS:=Tm.aK (alG ak);have hi:=ih t.args[k] u.args[k] (x++t.binds) (by omega) (Tm.jJ Yt (alG ak)) ZV (by rw[alz];omega);refine⟨by omega,by rw[alv];omega,_,_,_,_,Tm.aq ak,by omega,by rw[alv];omega,_,_,Ty.aq ZW,_,hi,ah.intro (fun h=>?_) fun h=>?_⟩
    ·have:Tm.FR c m (x++t.binds) t.args[k] u.args[k]=false:=by simpa using h
     rw[hs,this,alP]
    ·have:Tm.FR c m (x++t.binds) t.args[k] u.args[k]=true:=by simpa using h
     rw[this,alN] at hs;rw[aA (by omega)];exact bw (k+1) ⟨by omega,hs⟩ (by omega)
   ·have:t.args.length<=k:=by simpa using h
    rw[alD this,Tm.zu] at hs
    ·rw[hs]
    ·intro _ _ _ _ h;cases h
mutual
def Tm.SJ (a:Nat):Tm->List (Int×Int)
 | .mk b k i l=>(if k=0 then(if i>=((a+b.length:Nat):Int) then[(0,i-((a+b.length:Nat):Int))] else[]) else[(k,i)])++Tm.nK (a+b.length) l
def Tm.nK (a:Nat):List Tm->List (Int×Int)
 | []=>[]
 |t::l=>Tm.SJ a t++Tm.nK a l
end
theorem Tm.ZK (a:Nat) (t:Tm):t.SJ a=(if t.kind=0 then(if t.index>=((a+t.binds.length:Nat):Int) then[(0,t.index-((a+t.binds.length:Nat):Int))] else[]) else[(t.kind,t.index)])++Tm.nK (a+t.binds.length) t.args:=by cases t;rfl
def G3 (L:List (Int×Int)):List Int:=(L.filter fun p=>p.1==2).map fun p=>p.2
theorem C0 (l m:List (Int×Int)):G3 (l++m)=G3 l++G3 m:=by rw[G3,List.filter_append,ama];rfl
mutual
theorem K3:∀(t:Tm) (a:Nat),G3 (t.SJ a)=t.uu
 | .mk b k i l,a=>by
  rw[Tm.SJ,Tm.uu,C0,GG l]
  congr 1
  split
  ·rename_i h;subst h;rw[if_neg (show ¬(0:Int)=2 by decide)]
   split<;>rfl
  ·by_cases h2:k=2
   ·subst h2;rfl
   ·rw[if_neg h2,G3,am4,show ((k,i).1==2)=false from by simpa using h2];rfl
theorem GG:∀(l:List Tm) (a:Nat),G3 (Tm.nK a l)=Tm.eR l
 | [],_=>rfl
 |t::l,a=>by rw[Tm.nK,Tm.eR,C0,K3 t,GG l]
end
mutual
theorem C1:∀(t:Tm) (a:Nat),(t.SJ a).length<=t.size
 | .mk b k i l,a=>by
  have:=yO l (a+b.length);rw[Tm.SJ,alz,Tm.size];split
  ·split<;>simp<;>omega
  ·simp;omega
theorem yO:∀(l:List Tm) (a:Nat),(Tm.nK a l).length<=Tm.sizes l
 | [],_=>alA _
 |t::l,a=>by
  have h1:=C1 t a;have h2:=yO l a;rw[Tm.nK,alz,Tm.sizes];omega
end
theorem MB {l:List Tm} {k:Nat} (a:Nat) (h:k<l.length):Tm.nK a (l.take (k+1))=Tm.nK a (l.take k)++l[k].SJ a:=by
 have app:∀l m:List Tm,Tm.nK a (l++m)=Tm.nK a l++Tm.nK a m:=by
  intro l m
  induction l with
  |nil=>rfl
  |cons t l ih=>rw[amh,Tm.nK,Tm.nK,ih,alU]
 rw[alL h,app,Tm.nK,Tm.nK,alV]
def uy (p:Int×Int):AV:=.agg [nI p.1,nI p.2]
theorem I4 (l:List (Int×Int)):∀x:AV,x∈l.map uy->x.cells.length=2:=by
 intro x hx;obtain⟨p,_,rfl⟩:=amz.1 hx;rfl
theorem qc {l:List (Int×Int)} {k:Nat} (h:k<l.length):List.getD (l.map uy) (Int.toNat (k:Int)) .top=.agg [nI l[k].1,nI l[k].2]:=getD_map h
theorem MC:∀(n:Nat) (t:Tm) (a:Nat),t.size<=n->a+t.size<=400000000->t.Ok->ag Tryz.prog 185 [cB t,nI (a:Nat)] (.sl ((t.SJ a).map uy)):=by
 intro n
 induction n with
 |zero=>intro t a h;have:=t.size_pos;omega
 |succ n ih=>
  intro t a hn hs hk;have hz:=t.size_eq;have rE:=Tm.ok_eq hk;have M5:=Tm.aw t.args;have hbl:=Ty.aw t.binds;have ox:=rE.2.1.1;have rC:=rE.2.1.2;have hw:IntKind.wrap .i64 ((a:Int)+((t.binds.length:Nat):Int))=((a+t.binds.length:Nat):Int):=by rw[bV (by omega) (by omega)];omega
  have loop:∀acc:List (Int×Int),acc.length<=1->Fi (((),(),((a+t.binds.length:Nat):Int),0,()),((t.binds.map Ty.enc,t.kind,t.index,t.args.map Tm.enc,()),acc.map uy,()))
    (fun r=>r=.sl ((acc++Tm.nK (a+t.binds.length) t.args).map uy)):=by
   intro acc Z3;refine av.intro (fun k:Nat=>(((),(),((a+t.binds.length:Nat):Int),(k:Int),()),((t.binds.map Ty.enc,t.kind,t.index,t.args.map Tm.enc,()),(acc++Tm.nK (a+t.binds.length) (t.args.take k)).map uy,())))
    (fun k=>k<=t.args.length) (fun k=>t.args.length-k) 0 (by rw[ank,Tm.nK,alV];rfl) (alE _) ?_
   intro k gK again bw;dsimp only;refine ah.intro (fun h=>?_) fun h=>?_
   ·have ak:k<t.args.length:=by simpa using h
    have hz3:=Tm.aK (alG ak);have A7:=yO (t.args.take k) (a+t.binds.length);have Jt:=Tm.fw t.args k;have qg:=C1 t.args[k] (a+t.binds.length);refine⟨by omega,by rw[alv];omega,_,_,_,_,Tm.aq ak,_,ih t.args[k] (a+t.binds.length) (by omega) (by omega) (Tm.jJ rE.2.2 (alG ak)),rfl,cg (I4 _) (by rw[<-ama,alv,alz,alz];omega) (by decide),rfl,?_⟩;rw[<-ama,alU,<-MB _ ak,aA (by omega)];exact bw (k+1) (by omega) (by omega)
   ·have tB:t.args.length<=k:=by simpa using h
    rw[alI tB];exact⟨rfl,rfl⟩
  rw[Tm.ZK];refine QK ?_;unfold XF;rw[alv,hw];have Jt:=loop [] (by decide);refine ah.intro (fun h0=>?_) fun h0=>ah.intro (fun h1=>?_) fun h1=>⟨rfl,?_⟩
  ·have h0:¬t.kind=0:=by simpa using h0
   rw[if_neg h0];exact⟨bc rfl (by simp) (by decide),rfl,loop [(t.kind,t.index)] (by simp)⟩
  ·have h0:t.kind=0:=by simpa using h0
   have h1:=of_decide_eq_true h1;rw[bV (n:=t.index-((a+t.binds.length:Nat):Int)) (by omega) (by omega),if_pos h0,if_pos h1];refine⟨bc rfl (by simp) (by decide),rfl,?_⟩;exact loop [(0,t.index-((a+t.binds.length:Nat):Int))] (by simp)
  ·have h0:t.kind=0:=by simpa using h0
   have h1:=of_decide_eq_false h1;rw[if_pos h0,if_neg h1];exact Jt
theorem GH {t:Tm} (h:t.size<=300000000) (hk:t.Ok):ag Tryz.prog 159 [cB t] (.sl ((t.SJ 0).map uy)):=
 QL ⟨_,MC _ t 0 (alA _) (by omega) hk,rfl⟩
def tE:List Int->Int->Nat
 | [],_=>0
 |y::l,x=>if y<x then tE l x+1 else 0
theorem R5:∀(l:List Int) (x:Int),tE l x<=l.length
 | [],_=>alA _
 |y::l,x=>by
  have:=R5 l x;rw[tE,alJ];split<;>omega
theorem I5:∀{l:List Int} {x:Int} {k:Nat} (h:k<l.length),k<tE l x->l[k]<x
 | [],_,_,h,_=>by cases h
 |y::l,x,k,h,hk=>by
  rw[tE] at hk;split at hk
  ·rename_i hy
   cases k with
   |zero=>exact hy
   |succ k=>exact I5 (l:=l) (by simpa using h) (by omega)
  ·omega
theorem R6:∀{l:List Int} {x:Int} (h:tE l x<l.length),¬l[tE l x]<x
 | [],_,h=>by cases h
 |y::l,x,h=>by
  by_cases hy:y<x
  ·have e:tE (y::l) x=tE l x+1:=by rw[tE,if_pos hy]
   have h2:tE l x<l.length:=by rw[e] at h;simpa using h
   have:=R6 h2;simp only[e,List.getElem_cons_succ];exact this
  ·have e:tE (y::l) x=0:=by rw[tE,if_neg hy]
   simp only[e,List.getElem_cons_zero];exact hy
def yP (l:List Int) (x:Int):List Int:=if l[tE l x]?=some x then l else l.take (tE l x)++x::l.drop (tE l x)
theorem R7 (l:List Int) (x y:Int):y∈yP l x↔y∈l\/y=x:=by
 unfold yP;split
 ·rename_i h;exact⟨.inl,fun h2=>h2.elim id fun e=>by rw[e];exact alF h⟩
 ·have e:(y∈l)=(y∈l.take (tE l x)++l.drop (tE l x)):=by rw[amk]
  rw[e];simp only[amn,al6];exact⟨fun h=>h.elim (fun h=>.inl (.inl h)) fun h=>h.elim .inr fun h=>.inl (.inr h),fun h=>h.elim (fun h=>h.elim .inl fun h=>.inr (.inr h)) fun h=>.inr (.inl h)⟩
theorem R8 (l:List Int) (x:Int):(yP l x).length<=l.length+1:=by
 unfold yP;split
 ·omega
 ·have:=congrArg List.length (amk (tE l x) l);rw[alz] at this;rw[alz,alJ];omega
def zB (us l:List Int):List Int:=l.foldl yP us
theorem K4:∀(l us:List Int) (x:Int),x∈zB us l↔x∈us\/x∈l
 | [],us,x=>by rw[zB,List.foldl_nil];simp
 |y::l,us,x=>by
  have h:=K4 l (yP us y) x;rw[zB,amU,<-zB,h,R7,al6,or_assoc]
theorem wB:∀(l us:List Int),(zB us l).length<=us.length+l.length
 | [],us=>alA _
 |x::l,us=>by
  have h1:=wB l (yP us x);have h2:=R8 us x;rw[zB,amU,alJ];rw[zB] at h1;omega
theorem K5 (us l m:List Int):zB us (l++m)=zB (zB us l) m:=ano ..
theorem MD {l:List Tm} {k:Nat} (h:k<l.length):Tm.eR (l.take (k+1))=Tm.eR (l.take k)++l[k].uu:=by
 have app:∀l m:List Tm,Tm.eR (l++m)=Tm.eR l++Tm.eR m:=by
  intro l m
  induction l with
  |nil=>rfl
  |cons t l ih=>rw[amh,Tm.eR,Tm.eR,ih,alU]
 rw[alL h,app,Tm.eR,Tm.eR,alV]
theorem WG (L:List (Int×Int)):(G3 L).length<=L.length:=by rw[G3,alv];exact anv ..
theorem XV {out:List Int} {x:Int} {a j:Nat} {hs:List (Int×Int)} {XW:List AV} {i:Int} {again:jc->Prop} (hl:out.length<=1000000) (ha:a<=out.length) (hj:j<hs.length) (hx:hs[j].2=x)
  (h:again ((XW,ai (out.take a++x::out.drop a),i,hs.map uy,IntKind.wrap .i64 ((j:Int)+1),()),())):mB (a:Int) (ai out) (j:Int) (hs.map uy) again XW i:=by
 have e1:List.drop (Int.toNat 0) (List.take (Int.toNat (a:Int)) (ai out))=ai (out.take a):=by simp[ai,List.map_take]
 have e2:List.drop (Int.toNat (a:Int)) (List.take (Int.toNat (((ai out).length:Nat):Int)) (ai out))=ai (out.drop a):=by simp[ai,List.map_drop,alI]
 have e3:ai (out.take a)++[nI x]=ai (out.take a++[x]):=by simp[ai]
 have e4:(out.take a++[x])++out.drop a=out.take a++x::out.drop a:=by simp
 have l1:(out.take a).length<=a:=by rw[amd];omega
 have l2:(out.drop a).length<=out.length:=by rw[amN];omega
 refine⟨⟨by omega,by omega,by rw[aH];omega,cC⟩,fun _=>rfl,?_,by omega,by rw[alv];omega,_,_,qc hj,rfl,?_,⟨by omega,by rw[aH];omega,by rw[aH];omega,cC⟩,rfl,?_,rfl,?_⟩
 ·rw[e1];exact cg cC (by rw[amq,aH];omega) (by decide)
 ·rw[e1,hx];exact bc rfl (by rw[amq,alz,aH,alW];omega) (by decide)
 ·rw[e1,hx,e2,amq,e3];exact cg cC (by rw[uX,aH,alz,alz,alW];omega) (by decide)
 ·rw[e1,hx,e2,amq,e3,uX,e4];exact h
theorem th {l:List Tm} (hl:Tm.sizes l<=500000) (ho:Tm.L4 l):ag Tryz.prog 107 [.sl (l.map Tm.enc)] (.sl (ai (zB [] (Tm.eR l)))):=by
 have hll:=Tm.aw l;refine QR (av.intro (fun k:Nat=>((l.map Tm.enc,ai (zB [] (Tm.eR (l.take k))),(k:Int),()),())) (fun k=>k<=l.length) (fun k=>l.length-k) 0 (by rw[ank];rfl) (alE _) ?_);intro k hk again bw;dsimp only;refine ah.intro (fun h=>?_) fun h=>?_
 ·have ak:k<l.length:=by simpa using h
  have bN:=Tm.aK (alG ak);have hb0:=wB (Tm.eR (l.take k)) [];have y6:=sZ (l.take k);have Ww:=Tm.fw l k;rw[al4] at hb0;have hH:=C1 l[k] 0;refine⟨by omega,by rw[alv];omega,_,_,_,_,Tm.aq ak,_,GH (t:=l[k]) (by omega) (Tm.jJ ho (alG ak)),?_⟩;have fF:=bw (k+1) (by omega) (by omega);rw[MD ak,K5] at fF;generalize zB [] (Tm.eR (l.take k))=us at hb0 fF;rw[<-K3 l[k] 0] at fF;generalize l[k].SJ 0=hs at hH fF;refine av.intro (fun j:Nat=>((l.map Tm.enc,ai (zB us (G3 (hs.take j))),(k:Int),hs.map uy,(j:Int),()),())) (fun j=>j<=hs.length) (fun j=>hs.length-j) 0 (by rw[ank];rfl) (alE _) ?_;intro j hj ua xU;dsimp only;refine ah.intro (fun h=>?_) fun h=>?_
  ·have qm:j<hs.length:=by simpa using h
   have I6:=xU (j+1) (by omega) (by omega);rw[alL qm,C0,K5] at I6;have G4:=wB (G3 (hs.take j)) us;have MT:=WG (hs.take j);rw[amd] at MT;generalize zB us (G3 (hs.take j))=out at I6 G4;refine⟨by omega,by rw[alv];omega,_,_,qc qm,ah.intro (fun h=>?_) fun h=>?_⟩
   ·have h2:(hs[j].1==2)=false:=by simpa using h
    rw[show G3 [hs[j]]=[] from by rw[G3,am4,h2];rfl] at I6;rw[aA (by omega)];exact I6
   have h2:(hs[j].1==2)=true:=by simpa using h
   rw[show G3 [hs[j]]=[hs[j].2] from by rw[G3,am4,h2];rfl] at I6;have ZL:ua ((l.map Tm.enc,ai (yP out hs[j].2),(k:Int),hs.map uy,IntKind.wrap .i64 ((j:Int)+1),()),()):=by
    rw[aA (by omega)];exact I6
   obtain⟨x,hx⟩:∃x,hs[j].2=x:=⟨_,rfl⟩;rw[hx] at ZL;have M5:=R5 out x;refine av.intro (fun a:Nat=>((l.map Tm.enc,ai out,(k:Int),hs.map uy,(j:Int),(a:Int),()),())) (fun a=>a<=tE out x) (fun a=>out.length-a) 0 rfl (alE _) ?_;intro a ha ahD ahE;dsimp only;have bj:(0:Int)<=(j:Int)/\(j:Int)<((hs.map uy).length:Int):=⟨by omega,by rw[alv];omega⟩;refine ah.intro (fun h=>?_) fun h=>ah.neg h ?_
   ·have MP:a<out.length:=by rw[aH] at h;simpa using h
    have ba:(0:Int)<=(a:Int)/\(a:Int)<((ai out).length:Int):=⟨by omega,by rw[aH];omega⟩;refine⟨ba.1,ba.2,_,eO MP,bj.1,bj.2,_,_,qc qm,ah.intro (fun h1=>?_) fun h1=>ah.pos h ⟨ba.1,ba.2,_,eO MP,bj.1,bj.2,_,_,qc qm,ah.intro (fun h2=>?_) fun h2=>?_⟩⟩
    ·have h1:=of_decide_eq_true h1;rw[hx] at h1;have:a<tE out x:=by
      rcases Nat.lt_or_ge a (tE out x) with h|h
      ·exact h
      ·have e:a=tE out x:=by omega
       subst e;exact absurd h1 (R6 MP)
     rw[aA (by omega)];exact ahE (a+1) (by omega) (by omega)
    ·have h1:=of_decide_eq_false h1;rw[hx] at h1;have e:a=tE out x:=by
      rcases Nat.lt_or_ge a (tE out x) with h|h
      ·exact absurd (I5 MP h) h1
      ·omega
     have h2:out[a]=x:=by rw[<-hx];simpa using h2
     rw[yP,if_pos (by rw[<-e,aly MP,h2])] at ZL;exact ZL
    ·have h1:=of_decide_eq_false h1;rw[hx] at h1;have e:a=tE out x:=by
      rcases Nat.lt_or_ge a (tE out x) with h|h
      ·exact absurd (I5 MP h) h1
      ·omega
     have h2:¬out[a]=x:=by rw[<-hx];simpa using h2
     rw[yP,if_neg (by rw[<-e,aly MP];exact fun hh=>h2 (alw hh)),<-e] at ZL;exact XV (by omega) (by omega) qm hx ZL
   ·have MP:¬a<out.length:=by rw[aH] at h;simpa using h
    have e:a=tE out x:=by omega
    rw[yP,if_neg (by rw[<-e,al0 (by omega)];simp),<-e] at ZL;exact XV (by omega) (by omega) qm hx ZL
  ·have:hs.length<=j:=by simpa using h
   rw[alI this,aA (by omega)];exact fF
 ·have:l.length<=k:=by simpa using h
  rw[alI this]
theorem tj {b:Int} {c m0:List Ty} {ms:List Ty} {l r:Tm} (h:px c ms l r):ag Tryz.prog 57 [.agg [nI b,.sl (c.map Ty.enc),.sl (m0.map Ty.enc)],lx l r ms] (nI (iq b c ms l r)):=by
 have bN:=h.sz;rw[Ty.bQ] at bN;have h1:=te (b:=b) h.c1 h.m1 (by omega) (by omega);have nl:=Tm.yr l;have nr:=Tm.yr r;have A7:=h.l1;have DR:=h.r1;have h2:=sU (t:=l) (by omega);have h3:=sU (t:=r) (by omega);have h4:=zA (b:=b) (c:=c) (m:=ms) (x:=[]) h.lo (by simp only[al4];omega);rw[<-List.all_append] at h1;refine Vw ⟨_,_,_,Vu rfl,_,h1,ah.intro (fun g=>?_) fun g=>?_⟩
 ·rw[iq,if_neg (by rw[(by simpa only[ame] using g:(c++ms).all (Ty.bK b)=false)];decide)]
 rw[iq,if_pos (by simpa only[amL] using g)];refine⟨_,h2,ah.intro (fun g=>?_) fun g=>⟨_,h3,ah.intro (fun g'=>?_) fun g'=>?_⟩⟩
 ·rw[if_neg (fun e=>by rw[e.1] at g;simp at g)]
 ·rw[if_neg (fun e=>by rw[e.2] at g';simp at g')]
 have g2:l.bK=true:=by simpa using g
 have g3:r.bK=true:=by simpa using g'
 rw[if_pos ⟨g2,g3⟩];generalize hp:l.Aw c ms []=p at h4 ⊢;refine⟨_,_,_,h4,ah.intro (fun g=>?_) fun g=>ah.intro (fun g5=>?_) fun g5=>?_⟩
 ·rw[if_neg (fun e=>by rw[e.1] at g;simp at g)]
 ·rw[if_neg (fun e=>by rw[e.2.1] at g5;simp at g5)]
 have g4:p.2=0:=by simpa using g
 have g5:p.1.args=[]:=by
  have:p.1.args.length=0:=by simpa using g5
  exact am6.1 this
 have i1:=AY (b:=b) h.cs h.mss _ l p.1 [] (alA _) h.lo (fun _ h=>by cases h) (by simp only[al4];omega);have i2:=AY (b:=b) h.cs h.mss _ r p.1 [] (alA _) h.ro (fun _ h=>by cases h) (by simp only[al4];omega);refine⟨_,i1,ah.intro (fun g=>?_) fun g=>⟨_,i2,ah.intro (fun g'=>?_) fun g'=>?_⟩⟩
 ·rw[if_neg (fun e=>by rw[e.2.2.1] at g;simp at g)]
 ·rw[if_neg (fun e=>by rw[e.2.2.2] at g';simp at g')]
 ·rw[if_pos ⟨g4,g5,by simpa using g,by simpa using g'⟩]
theorem nL {b:Int} {c m0:List Ty} {ms:List Ty} {l r:Tm} (h:px c ms l r) (hl:l.size<=10000) (hr:r.size<=10000):ag Tryz.prog 59 [.agg [nI b,.sl (c.map Ty.enc),.sl (m0.map Ty.enc)],lx l r ms] (nI (lH b c ms l r)):=by
 have hu:=GC (t:=l) hl h.lo;rw[<-bR] at hu;have m1:=th (l:=[l]) (by simp only[Tm.sizes];omega) ⟨h.lo,True.intro⟩;have m2:=th (l:=[r]) (by simp only[Tm.sizes];omega) ⟨h.ro,True.intro⟩;rw[al3,aml,<-bR] at m1 m2;refine Vz ⟨_,tj h,ah.intro (fun g=>?_) fun g=>?_⟩
 ·rw[lH,if_neg (by simpa using g)]
 rw[lH,if_pos (by simpa using g)]
 cases hs:l.uses [] [] with
 |none=>
  rw[hs] at hu;refine⟨_,_,hu,ah.pos rfl ?_⟩;rw[if_neg (fun e=>by simp at e)]
 |some us=>
  rw[hs] at hu;refine⟨_,_,hu,ah.neg rfl (ah.intro (fun g=>?_) fun g=>⟨_,m1,_,m2,?_⟩)⟩
  ·rw[if_neg (fun e=>by rw[e.1] at g;simp at g)]
  rw[if_pos ⟨by simpa using g,rfl⟩];have e:((jB r).all fun x=>decide (x∈jB l))=((zB [] (Tm.eR [r])).all fun x=>(zB [] (Tm.eR [l])).contains x):=by
   have q:∀(t:Tm) (x:Int),x∈zB [] (Tm.eR [t])↔x∈jB t:=fun t x=>by
    rw[K4,AN,Tm.eR,Tm.eR,alV];simp
   rw[amE,alK,alK];simp only[decide_eq_true_eq,amK];exact⟨fun h x hx=>(q l x).2 (h x ((q r x).1 hx)),fun h x hx=>(q l x).1 (h x ((q r x).2 hx))⟩
  have z:∀t:Tm,t.size<=10000->(zB [] (Tm.eR [t])).length<=10000:=fun t ht=>by
   have h1:=wB (Tm.eR [t]) [];have h2:=sZ [t];simp only[Tm.sizes,al4] at h1 h2;omega
  rw[e];have zl:=z l hl;have zr:=z r hr;generalize zB [] (Tm.eR [l])=L at zl;generalize zB [] (Tm.eR [r])=M at zr;refine av.intro (fun k:Nat=>((ai L,ai M,(k:Int),()),((b,c.map Ty.enc,m0.map Ty.enc,()),(l.binds.map Ty.enc,l.kind,l.index,l.args.map Tm.enc,r.binds.map Ty.enc,r.kind,r.index,r.args.map Tm.enc,ms.map Ty.enc,()),()))) (fun k=>k<=M.length/\(M.all fun x=>L.contains x)=((M.drop k).all fun x=>L.contains x)) (fun k=>M.length-k) 0 rfl ⟨alE _,rfl⟩ ?_;intro k ⟨hk,hs⟩ again bw;dsimp only;refine ah.intro (fun h=>?_) fun h=>?_
  ·have ak:k<M.length:=by rw[aH] at h;simpa using h
   rw[alC ak,amj] at hs;refine⟨by omega,by rw[aH];omega,_,eO ak,_,iI (by omega),ah.intro (fun h=>?_) fun h=>?_⟩
   ·rw[hs,show L.contains M[k]=false from by simpa only[ame] using h,alP];rfl
   ·rw[show L.contains M[k]=true from by simpa only[amL] using h,alN] at hs;rw[aA (by omega)];exact bw (k+1) ⟨by omega,hs⟩ (by omega)
  ·have:M.length<=k:=by rw[aH] at h;simpa using h
   rw[alD this] at hs;rw[hs];rfl
theorem WH (us:List AV) (a b:List (UInt8×Int)):us++bh (cm a)++bh (cm b)=us++bh (cm (a++b)):=by rw[ra,alU]
theorem MF:∀(n:Nat) (t:Tm),t.size<n->n<=1000000->t.kP->∀us:List AV,us.length+124*t.size<=900000000->
  bH Tryz.prog 127 [cB t,.ptr 4 0,.ptr 3 0,.ptr 5 0] (Xx us.length us) (fun r q=>r=.aL []/\q=Xx (us++bh (cm (Dl t))).length (us++bh (cm (Dl t)))):=by
 intro n
 induction n with
 |zero=>intro t h;omega
 |succ n ih=>
  intro t h hn IA us ZQ;have pU:=t.size_eq;have hlen:=Tm.aw t.args;obtain⟨n1,n2,n3,n4⟩:=Tm.ye IA;have hL:∀p∈G2 t.binds,jm p.2:=KX n1 (by omega);obtain⟨N,hN⟩:∃N:Int,N=((List.length (t.args.map Tm.enc):Nat):Int):=⟨_,rfl⟩;have hNi:jm N:=by rw[hN,alv];exact nC (by omega)
  have c1:=mG (us:=us) hL;rw[wu] at c1;have one:∀(vs:List AV) (c:UInt8) (x:Int),jm x->(vs++bh (cm [(c,x)])).length<=vs.length+31:=fun vs c x hx=>by
   have:=mG (us:=vs) (l:=[(c,x)]) (fun p hp=>by rw[amc] at hp;rw[hp];exact hx);rw[alW] at this;omega
  have c2:=one (us++bh (cm (G2 t.binds))) 104 t.kind n2;have c3:=one (us++bh (cm (G2 t.binds))++bh (cm [(104,t.kind)])) 105 t.index n3;refine PT ⟨_,Mf 1000000 t.binds (by omega) (by omega) n1 us (by omega),fun r q ⟨e1,e2⟩=>⟨_,⟨e1,e2⟩,_,mF (c:=104) n2 (by omega),fun r q ⟨e1,e2⟩=>⟨_,⟨e1,e2⟩,_,mF (c:=105) n3 (by omega),fun r q ⟨e1,e2⟩=>⟨_,⟨e1,e2⟩,_,mF (c:=40) (n:=((List.length (t.args.map Tm.enc):Nat):Int)) (by rw[<-hN];exact hNi) (by omega),fun r q ⟨e1,e2⟩=>⟨_,⟨e1,e2⟩,rfl,?_⟩⟩⟩⟩⟩;rw[WH,WH,WH];refine av.intro (fun k:Nat=>(((),t.args.map Tm.enc,(t.args.length:Int),(k:Int),()),((),us++bh (cm (G2 t.binds++[(104,t.kind)]++[(105,t.index)]++[(40,(t.args.length:Int))]++kx (t.args.take k))),((),()),((),()),((),()),((),()),(t.binds.map Ty.enc,t.kind,t.index,t.args.map Tm.enc,()),()))) (fun k=>k<=t.args.length) (fun k=>t.args.length-k) 0 (by simp only[alv,ank,kx,alV,alU];rfl) (alE _) ?_;intro k hk again bw;dsimp only;refine ah.intro (fun h=>?_) fun h=>⟨rfl,?_⟩
  ·have ak:k<t.args.length:=by simpa using h
   have fF:=bw (k+1) (by omega) (by omega);have p1:=Tm.bQ (t.args.take k) (t.args.drop k);rw[amk,alC ak,Tm.sizes] at p1;have b1:=mG (us:=us) (l:=G2 t.binds++[(104,t.kind)]++[(105,t.index)]++[(40,(t.args.length:Int))]++kx (t.args.take k)) (fun p hp=>by
    simp only[amn,amc] at hp;rcases hp with(((hp|rfl)|rfl)|rfl)|hp
    ·exact hL p hp
    ·exact n2
    ·exact n3
    ·exact nC (by omega)
    ·exact yg _ (Tm.F5 _ k n4) (by omega) p hp)
   have b2:=yf (t.args.take k);simp only[alz,alW,wu] at b1;rw[Mg ak,<-alU] at fF;refine⟨by omega,by rw[alv];omega,_,_,_,_,Tm.aq ak,_,ih t.args[k] (by omega) (by omega) (Tm.nA n4 _ (alG ak)) _ (by simp only[alz,alW,wu];omega),fun r q ⟨e1,e2⟩=>⟨_,⟨e1,e2⟩,rfl,?_⟩⟩;rw[aA (by omega),WH];exact fF
  ·have:t.args.length<=k:=by simpa using h
   rw[alI this];have e:G2 t.binds++[(104,t.kind)]++[(105,t.index)]++[(40,(t.args.length:Int))]++kx t.args=Dl t:=by cases t;simp[Dl,Tm.binds,Tm.kind,Tm.index,Tm.args]
   rw[e]
theorem yQ {t:Tm} (hs:t.size<1000000) (h:t.kP):ag Tryz.prog 74 [cB t] (nS (oa t)):=
 Ut ⟨_,MF 1000000 t hs (by omega) h [] (by simp;omega),fun r q ⟨e1,e2⟩=>⟨_,⟨e1,e2⟩,_,FG (s:=cm (Dl t)),fun r q ⟨e1,e2⟩=>⟨_,_,⟨e1,e2⟩,rfl⟩⟩⟩
theorem GI:∀{l:List (ByteArray×Value)} {a:ByteArray} {v:Value},aM l a=some v->(a,v)∈l
 | [],a,v,h=>by cases h
 |(k,u)::r,a,v,h=>by
  rw[aM] at h;split at h
  ·rename_i e;subst e;cases h;exact alS
  ·exact alR _ (GI h)
theorem GJ:∀{l:List (ByteArray×Value)} {a:ByteArray} {v:Value} {p:ByteArray×Value},p∈bU l a v->p∈l\/p=(a,v)
 | [],a,v,p,h=>by rw[bU] at h;exact .inr (amc.1 h)
 |(k,u)::r,a,v,p,h=>by
  rw[bU] at h;split at h
  ·rename_i e;subst e;rcases al6.1 h with h|h
   ·exact .inr h
   ·exact .inl (alR _ h)
  ·rcases al6.1 h with h|h
   ·exact .inl (h▸alS)
   ·exact(GJ h).imp (alR _) id
def lJ (C:Cx) (fe:List (ByteArray×Value)):Prop:=∀p∈fe,∃t:Tm,p.1=oa t/\p.2=.bool (tD C t)
theorem lJ.nil (C:Cx):lJ C []:=fun _ h=>by cases h
theorem lJ.get {C:Cx} {fe:List (ByteArray×Value)} {t:Tm} {v:Value} (h:lJ C fe) (hg:aM fe (oa t)=some v):v=.bool (tD C t):=by
 obtain⟨u,h1,h2⟩:=h _ (GI hg);rw[Md h1];exact h2
theorem lJ.put {C:Cx} {fe:List (ByteArray×Value)} {t:Tm} (h:lJ C fe):lJ C (bU fe (oa t) (.bool (tD C t))):=fun p hp=>by
 rcases GJ hp with hp|rfl
 ·exact h p hp
 ·exact⟨t,rfl,rfl⟩
theorem tk:∀(n:Nat) (t:Tm),t.size<=n->n<=1000000->ag Tryz.prog 48 [cB t] (.sl (t.inner.map Tm.enc)):=by
 intro n
 induction n with
 |zero=>intro t h;have:=t.size_pos;omega
 |succ n ih=>
  intro t h hn;have pU:=t.size_eq;have hlen:=Tm.aw t.args;have one:([cB t]:List AV)=[t].map Tm.enc:=by rw[bR];rfl
  have stop:(t.binds.isEmpty&&(t.kind==1))=false->t.inner=[t]:=fun e=>by rw[Tm.mH,e];rfl
  have bi:(((List.length (t.binds.map Ty.enc):Nat):Int)==0)=t.binds.isEmpty:=by
   rw[alv]
   cases t.binds with
   |nil=>rfl
   |cons x l=>simp;omega
  refine UO ⟨rfl,av.intro (fun k:Nat=>(((),(),(k:Int),()),((t.binds.map Ty.enc,t.kind,t.index,t.args.map Tm.enc,()),(t::Tm.dF (t.args.take k)).map Tm.enc,()))) (fun k=>k<=t.args.length/\(k=0\/(t.binds.isEmpty&&(t.kind==1))=true)) (fun k=>t.args.length-k) 0 (by rw[one];rfl) ⟨alE _,.inl rfl⟩ ?_⟩;intro k ⟨tO,ax⟩ again bw;dsimp only;have out:(t.binds.isEmpty&&(t.kind==1))=false->AV.sl ((t::Tm.dF (t.args.take k)).map Tm.enc)=.sl (t.inner.map Tm.enc):=fun e=>by
   rcases ax with rfl|h
   ·rw[stop e];rfl
   ·rw[e] at h;cases h
  refine ah.intro (fun h1=>ah.intro (fun h2=>ah.intro (fun h3=>?_) fun h3=>⟨rfl,out (by rw[h3,amH])⟩) fun h2=>⟨rfl,out (by rw[<-bi,h2];rfl)⟩) fun h1=>⟨rfl,?_⟩
  ·have ak:k<t.args.length:=by
    rw[alv] at h1;simpa using h1
   have hc:(t.binds.isEmpty&&(t.kind==1))=true:=by rw[<-bi,h2,h3];rfl
   have FI:=Tm.vj ak;have b2:(k:Int)<((List.length (t.args.map Tm.enc):Nat):Int):=by rw[alv];omega
   refine⟨by omega,b2,_,_,_,_,Tm.aq ak,ah.intro (fun h4=>?_) fun h4=>⟨rfl,?_⟩⟩
   ·have SA:t.args[k].binds.isEmpty=true:=by
     rw[alv] at h4
     cases hb:t.args[k].binds with
     |nil=>rfl
     |cons x l=>rw[hb] at h4;simp at h4;omega
    rw[SA,if_pos rfl] at FI;have hs:=Tm.aK (alG ak);have i1:=Tm.nF (t.args.take (k+1));have i2:=Tm.fw t.args (k+1);rw[FI,alz] at i1;refine⟨by omega,b2,_,_,_,_,Tm.aq ak,_,ih t.args[k] (by omega) (by omega),rfl,cg Tm.eN (by rw[alz,alv,alv,alJ];omega) (by decide),rfl,?_⟩;rw[aA (by omega),<-ama,amh,<-FI];exact bw (k+1) ⟨by omega,.inr hc⟩ (by omega)
   ·have SA:t.args[k].binds.isEmpty=false:=by
     rw[alv] at h4
     cases hb:t.args[k].binds with
     |nil=>rw[hb] at h4;simp at h4
     |cons x l=>rfl
    rw[SA,if_neg (by decide),alV] at FI;rw[aA (by omega),<-FI];exact bw (k+1) ⟨by omega,.inr hc⟩ (by omega)
  ·have:t.args.length<=k:=by
    rw[alv] at h1;simpa using h1
   by_cases hc:(t.binds.isEmpty&&(t.kind==1))=true
   ·rw[alI this,Tm.mH,if_pos hc]
   ·exact out (by simpa using hc)
theorem zC {l r:Tm} {ms:List Ty} (h:Tm.sizes l.args<=1000000):ag Tryz.prog 17 [lx l r ms] (.sl ((gI l.args).map Tm.enc)):=by
 have hlen:=Tm.aw l.args;refine US ⟨rfl,av.intro (fun k:Nat=>(((),(),(k:Int),()),((l.binds.map Ty.enc,l.kind,l.index,l.args.map Tm.enc,r.binds.map Ty.enc,r.kind,r.index,r.args.map Tm.enc,ms.map Ty.enc,()),(gI (l.args.take k)).map Tm.enc,()))) (fun k=>k<=l.args.length) (fun k=>l.args.length-k) 0 rfl (alE _) ?_⟩;intro k hk again bw;dsimp only;refine ah.intro (fun h1=>?_) fun h1=>⟨rfl,?_⟩
 ·have ak:k<l.args.length:=by rw[alv] at h1;simpa using h1
  obtain⟨s1,s2⟩:=Gm ak h;refine⟨by omega,by rw[alv];omega,_,_,_,_,Tm.aq ak,_,tk 1000000 _ s1 (by omega),rfl,cg Tm.eN (by rw[alz,alv,alv];omega) (by decide),rfl,?_⟩;rw[aA (by omega),<-ama,<-um ak];exact bw (k+1) (by omega) (by omega)
 ·have:l.args.length<=k:=by rw[alv] at h1;simpa using h1
  rw[alI this]
theorem I7 {l:List Tm} {k:Nat} (h:k<l.length) (t:Tm):(l.take (k+1)).count t=(l.take k).count t+if Tm.same l[k] t then 1 else 0:=by
 rw[alL h,List.count_append,List.count_singleton,Tm.RO]
 by_cases e:l[k]=t
 ·simp[e]
 ·simp[e]
theorem eQ {l:List Tm} {t:Tm} (hl:cn l):ag Tryz.prog 41 [.sl (l.map Tm.enc),cB t] (nI (l.count t)):=by
 obtain⟨A7,qg⟩:=hl;refine UW (av.intro (fun k:Nat=>((l.map Tm.enc,(),(((l.take k).count t:Nat):Int),(k:Int),()),((t.binds.map Ty.enc,t.kind,t.index,t.args.map Tm.enc,()),()))) (fun k=>k<=l.length) (fun k=>l.length-k) 0 rfl (alE _) ?_);intro k hk again bw;dsimp only;refine ah.intro (fun h1=>?_) fun h1=>?_
 ·have ak:k<l.length:=by rw[alv] at h1;simpa using h1
  have hc:=I7 ak t;have hle:(l.take k).count t<=(l.take k).length:=List.count_le_length;have fF:=bw (k+1) (by omega) (by omega);rw[hc] at fF;rw[amd] at hle;have sm:=lg 1000000 l[k] t (qg _ (alG ak)) (by omega);rw[<-bR,<-bR] at sm;refine⟨by omega,by rw[alv];omega,_,_,_,_,Tm.aq ak,_,sm,ah.intro (fun h=>?_) fun h=>?_⟩
  ·rw[if_pos h] at fF;rw[aA (by omega),aA (by omega)];exact fF
  ·rw[if_neg (by simp[h])] at fF;rw[aA (by omega)];exact fF
 ·have:l.length<=k:=by rw[alv] at h1;simpa using h1
  rw[alI this]
theorem vt {a b:Tm} (ha:a.size<=1000000):ag Tryz.prog 21 [cB a,cB b] (nB (jh a b)):=by
 have hs:=vl ha;refine UX ⟨_,tk 1000000 a ha (by omega),⟨by omega,?_,by omega,Tm.eN⟩,?_⟩
 ·rw[alv,Tm.mH,alJ];omega
 ·have e:List.drop (Int.toNat 1) (List.take (Int.toNat ((List.length (a.inner.map Tm.enc):Nat):Int)) (a.inner.map Tm.enc))=(a.inner.drop 1).map Tm.enc:=by
   rw[amA,amY,List.map_drop];rfl
  rw[e];refine⟨_,eQ ⟨by rw[amN];have:=hs.1;omega,fun x hx=>hs.2 x (List.mem_of_mem_drop hx)⟩,?_⟩;rw[jh]
  congr 2
  exact propext (by rw[<-anj];omega)
theorem AZ {l:List Tm} {k:Nat} (h:k<l.length) (p:Tm->Bool):(l.take (k+1)).any p=((l.take k).any p||p l[k]):=by
 rw[alL h,List.any_append,am7,List.any_nil,Bool.or_false]
theorem MG {l:List Tm} {k:Nat} (h:k<l.length) (p:Tm->Bool):(l.take (k+1)).all p=((l.take k).all p&&p l[k]):=by
 rw[alL h,List.all_append,amj,List.all_nil,anq]
abbrev R9 (a b:List Tm) (y:Tm):Bool:=decide (b.count y<=a.count y)||yl a b y
theorem I8 (m n:Nat):decide ((n:Int)>(m:Int))=decide (m<n):=by
 rw[amE,decide_eq_true_eq,decide_eq_true_eq];omega
theorem Sa (m n:Nat):decide ((n:Int)<=(m:Int))=decide (n<=m):=by
 rw[amE,decide_eq_true_eq,decide_eq_true_eq];omega
theorem GK {k:Int} {a b:List Tm} (ha:cn a) (hb:cn b):ag Tryz.prog 19 [nI k,.sl (a.map Tm.enc),.sl (b.map Tm.enc)] (nB (vh k a b)):=by
 have ha1:=ha.1;have y6:=hb.1;refine U0 (ah.intro (fun h=>?_) fun h=>?_)
 ·rw[vh,if_neg (by intro e;rw[alv,alv,e] at h;simp at h)]
 have hl:a.length=b.length:=by
  have h2:(a.length:Int)=(b.length:Int):=by simpa [bne] using h
  omega
 rw[vh,if_pos hl];refine ah.intro (fun h=>?_) fun h=>?_
 ·rw[if_neg (by simpa using h)];refine av.intro (fun k:Nat=>((a.map Tm.enc,b.map Tm.enc,(k:Int),()),())) (fun k=>k<=a.length/\CO a b=CO (a.drop k) (b.drop k)) (fun k=>a.length-k) 0 rfl ⟨alE _,rfl⟩ ?_;intro k ⟨hk,hs⟩ again bw;dsimp only;refine ah.intro (fun h=>?_) fun h=>?_
  ·have ak:k<a.length:=by rw[alv] at h;simpa using h
   have MW:k<b.length:=by omega
   rw[alC ak,alC MW,CO] at hs;have i1:0<=(k:Int):=by omega
   have i2:(k:Int)<((List.length (a.map Tm.enc):Nat):Int):=by rw[alv];omega
   have i3:(k:Int)<((List.length (b.map Tm.enc):Nat):Int):=by rw[alv];omega
   have bN:=ha.2 _ (alG ak);have sm:=lg 1000000 a[k] b[k] bN (by omega);rw[<-bR,<-bR] at sm;refine⟨i1,i2,_,_,_,_,Tm.aq ak,i1,i3,_,_,_,_,Tm.aq MW,_,sm,ah.intro (fun h=>?_) fun h=>?_⟩
   ·have bu:¬a[k]=b[k]:=fun e=>by rw[e,Tm.mD] at h;cases h
    rw[if_neg bu] at hs;exact⟨i1,i2,_,_,_,_,Tm.aq ak,i1,i3,_,_,_,_,Tm.aq MW,_,vt bN,by rw[hs]⟩
   ·have he:a[k]=b[k]:=(Tm.fo _ _).1 (by simpa using h);rw[if_pos he] at hs;rw[aA (by omega)];exact bw (k+1) ⟨by omega,hs⟩ (by omega)
  ·have:a.length<=k:=by rw[alv] at h;simpa using h
   rw[alD this] at hs;rw[hs]
   cases b.drop k<;>rfl
 ·rw[if_pos (by simpa using h),<-WA,ZH];refine av.intro (fun k:Nat=>((a.map Tm.enc,b.map Tm.enc,(a.take k).any (fun x=>decide (b.count x<a.count x)),(k:Int),()),())) (fun k=>k<=a.length) (fun k=>a.length-k) 0 rfl (alE _) ?_;intro k hk again bw;dsimp only;refine ah.intro (fun h=>?_) fun h=>?_
  ·have ak:k<a.length:=by rw[alv] at h;simpa using h
   have i1:0<=(k:Int):=by omega
   have i2:(k:Int)<((List.length (a.map Tm.enc):Nat):Int):=by rw[alv];omega
   have fF:=bw (k+1) (by omega) (by omega);rw[AZ ak] at fF;refine ah.intro (fun h=>?_) fun h=>?_
   ·rw[h,amW] at fF;rw[aA (by omega)];exact fF
   ·rw[h,amP] at fF;refine⟨i1,i2,_,_,_,_,Tm.aq ak,_,eQ ha,i1,i2,_,_,_,_,Tm.aq ak,_,eQ hb,?_⟩;rw[aA (by omega),I8];exact fF
  ·have:a.length<=k:=by rw[alv] at h;simpa using h
   rw[alI this,<-AG];refine av.intro (fun k:Nat=>((a.map Tm.enc,b.map Tm.enc,AG a b&&(b.take k).all (R9 a b),(k:Int),()),())) (fun k=>k<=b.length) (fun k=>b.length-k) 0 (by rw[ank,List.all_nil,anq];rfl) (alE _) ?_;intro k hk again bw;dsimp only;refine ah.intro (fun h=>?_) fun h=>?_
   ·have ak:k<b.length:=by rw[alv] at h;simpa using h
    have i1:0<=(k:Int):=by omega
    have i2:(k:Int)<((List.length (b.map Tm.enc):Nat):Int):=by rw[alv];omega
    have fF:=bw (k+1) (by omega) (by omega);rw[MG ak,R9] at fF;refine⟨i1,i2,_,_,_,_,Tm.aq ak,_,eQ hb,i1,i2,_,_,_,_,Tm.aq ak,_,eQ ha,ah.intro (fun h=>?_) fun h=>?_⟩
    ·rw[Sa] at h;rw[h,amW,anq] at fF;rw[aA (by omega)];exact fF
    ·rw[Sa] at h;rw[h,amP,<-Bool.and_assoc] at fF;refine av.intro (fun j:Nat=>((a.map Tm.enc,b.map Tm.enc,AG a b&&(b.take k).all (R9 a b),(k:Int),(a.take j).any (fun x=>decide (b.count x<a.count x)&&jh x b[k]),(j:Int),()),())) (fun j=>j<=a.length) (fun j=>a.length-j) 0 rfl (alE _) ?_;intro j hj ua xU;dsimp only;refine ah.intro (fun h=>?_) fun h=>?_
     ·have hja:j<a.length:=by rw[alv] at h;simpa using h
      have j1:0<=(j:Int):=by omega
      have j2:(j:Int)<((List.length (a.map Tm.enc):Nat):Int):=by rw[alv];omega
      have I6:=xU (j+1) (by omega) (by omega);rw[AZ hja] at I6;refine ah.intro (fun h=>?_) fun h=>?_
      ·rw[h,amW] at I6;rw[aA (by omega)];exact I6
      ·rw[h,amP] at I6;refine⟨j1,j2,_,_,_,_,Tm.aq hja,_,eQ ha,j1,j2,_,_,_,_,Tm.aq hja,_,eQ hb,ah.intro (fun h=>?_) fun h=>?_⟩
       ·rw[I8] at h;rw[h,alN] at I6;refine⟨j1,j2,_,_,_,_,Tm.aq hja,i1,i2,_,_,_,_,Tm.aq ak,_,vt (ha.2 _ (alG hja)),?_⟩;rw[aA (by omega)];exact I6
       ·rw[I8] at h;rw[h,alP] at I6;rw[aA (by omega)];exact I6
     ·have:a.length<=j:=by rw[alv] at h;simpa using h
      rw[alI this,<-yl];rw[aA (by omega)];refine ah.intro (fun h=>?_) fun h=>?_
      ·rw[h,alN] at fF;exact fF
      ·rw[h,alP] at fF;exact fF
   ·have:b.length<=k:=by rw[alv] at h;simpa using h
    rw[alI this]
def vU (n c:Int):Bool:=decide (c<0)||decide (c>=n)
def yR (n:Int) (p:Int×Int):Bool:=vU n p.1||vU n p.2
def yS (n:Int) (p:Int×Int):Bool:=vU n p.1||(decide (p.2<0)||decide (p.2>1))
theorem cQ {l:List (Int×Int)} {k:Nat} (h:k<l.length):List.getD (aB l) (Int.toNat (k:Int)) .top=.agg [nI l[k].1,nI l[k].2]:=getD_map h
theorem pB {l:List (Int×Int)}:∀y:AV,y∈aB l->List.length (AV.cells y)=2:=by
 intro y h;obtain⟨p,_,rfl⟩:=amz.1 h;rfl
theorem uz {n c:Int}:bH Tryz.prog 63 [nI c,.ptr 0 0] [.box [nI n]] (fun r q=>r=nB (vU n c)/\q=[.box [nI n]]):=
 U8 (ah.intro (fun h=>⟨by rw[vU,h];rfl,rfl⟩) fun h=>⟨by rw[vU,h];rfl,rfl⟩)
theorem I9 {n a b:Int}:bH Tryz.prog 65 [.agg [nI a,nI b],.ptr 1 0] (jz n) (fun r q=>r=nB (yR n (a,b))/\q=jz n):=
 U9 ⟨_,uz,fun r q ⟨e1,e2⟩=>⟨_,_,⟨e1,e2⟩,ah.intro (fun h=>⟨by rw[yR,show vU n (a,b).1=true from h];rfl,rfl⟩) fun h=>⟨_,uz,fun r q ⟨e1,e2⟩=>⟨_,_,⟨e1,e2⟩,by rw[yR,show vU n (a,b).1=false from h];rfl,rfl⟩⟩⟩⟩
theorem Ja {n a b:Int}:bH Tryz.prog 67 [.agg [nI a,nI b],.ptr 1 0] (jz n) (fun r q=>r=nB (yS n (a,b))/\q=jz n):=
 Va ⟨_,uz,fun r q ⟨e1,e2⟩=>⟨_,_,⟨e1,e2⟩,ah.intro (fun h=>⟨by rw[yS,show vU n (a,b).1=true from h];rfl,rfl⟩) fun h=>
  ah.intro (fun h2=>⟨by rw[yS,show vU n (a,b).1=false from h,show decide ((a,b).2<0)=true from h2];rfl,rfl⟩) fun h2=>⟨by rw[yS,show vU n (a,b).1=false from h,show decide ((a,b).2<0)=false from h2];rfl,rfl⟩⟩⟩
theorem Jb {n:Int} {l:List (Int×Int)} (hl:l.length<=1000000000):bH Tryz.prog 116 [.sl (aB l),.aY 65 [.ptr 1 0]] (jz n) (fun r q=>(∃i:Int,r=nI i/\decide (i>=0)=l.any (yR n))/\q=jz n):=by
 refine Qf (av.intro (fun k:Nat=>((aB l,((),()),(l.length:Int),(k:Int),()),((n,()),((),()),()))) (fun k=>k<=l.length/\l.any (yR n)=(l.drop k).any (yR n)) (fun k=>l.length-k) 0 (by rw[aB,alv];rfl) ⟨alE _,rfl⟩ ?_);intro k ⟨hk,hs⟩ again bw;dsimp only;refine ah.intro (fun h=>?_) fun h=>?_
 ·have ak:k<l.length:=by simpa using h
  rw[alC ak,am7] at hs;refine⟨by omega,by rw[aB,alv];omega,_,_,cQ ak,_,I9 (n:=n) (a:=l[k].1) (b:=l[k].2),fun r q ⟨e1,e2⟩=>⟨_,_,⟨e1,e2⟩,ah.intro (fun h=>?_) fun h=>?_⟩⟩
  ·exact⟨⟨_,rfl,by rw[hs,show yR n l[k]=true from h,amW];simp⟩,rfl⟩
  ·rw[show yR n l[k]=false from h,amP] at hs;rw[aA (by omega)];exact bw (k+1) ⟨by omega,hs⟩ (by omega)
 ·have:l.length<=k:=by simpa using h
  rw[alD this] at hs;exact⟨⟨_,rfl,by rw[hs];rfl⟩,rfl⟩
theorem Jc {n:Int} {l:List (Int×Int)} (hl:l.length<=1000000000):bH Tryz.prog 64 [.sl (aB l),.aY 65 [.ptr 1 0]] (jz n) (fun r q=>r=nB (l.any (yR n))/\q=jz n):=
 Vb ⟨_,Jb hl,fun r q ⟨⟨i,e1,e3⟩,e2⟩=>⟨_,_,⟨e1,e2⟩,by rw[e3],rfl⟩⟩
theorem Jd {n:Int} {l:List (Int×Int)} (hl:l.length<=1000000000):bH Tryz.prog 117 [.sl (aB l),.aY 67 [.ptr 1 0]] (jz n) (fun r q=>(∃i:Int,r=nI i/\decide (i>=0)=l.any (yS n))/\q=jz n):=by
 refine Qi (av.intro (fun k:Nat=>((aB l,((),()),(l.length:Int),(k:Int),()),((n,()),((),()),()))) (fun k=>k<=l.length/\l.any (yS n)=(l.drop k).any (yS n)) (fun k=>l.length-k) 0 (by rw[aB,alv];rfl) ⟨alE _,rfl⟩ ?_);intro k ⟨hk,hs⟩ again bw;dsimp only;refine ah.intro (fun h=>?_) fun h=>?_
 ·have ak:k<l.length:=by simpa using h
  rw[alC ak,am7] at hs;refine⟨by omega,by rw[aB,alv];omega,_,_,cQ ak,_,Ja (n:=n) (a:=l[k].1) (b:=l[k].2),fun r q ⟨e1,e2⟩=>⟨_,_,⟨e1,e2⟩,ah.intro (fun h=>?_) fun h=>?_⟩⟩
  ·exact⟨⟨_,rfl,by rw[hs,show yS n l[k]=true from h,amW];simp⟩,rfl⟩
  ·rw[show yS n l[k]=false from h,amP] at hs;rw[aA (by omega)];exact bw (k+1) ⟨by omega,hs⟩ (by omega)
 ·have:l.length<=k:=by simpa using h
  rw[alD this] at hs;exact⟨⟨_,rfl,by rw[hs];rfl⟩,rfl⟩
theorem Je {n:Int} {l:List (Int×Int)} (hl:l.length<=1000000000):bH Tryz.prog 66 [.sl (aB l),.aY 67 [.ptr 1 0]] (jz n) (fun r q=>r=nB (l.any (yS n))/\q=jz n):=
 Vc ⟨_,Jd hl,fun r q ⟨⟨i,e1,e3⟩,e2⟩=>⟨_,_,⟨e1,e2⟩,by rw[e3],rfl⟩⟩
theorem C2 {l:List (Int×Int)} (hl:l.length<=1000000000):ag Tryz.prog 68 [.sl (aB l)] (.sl (aB l)):=by
 refine Vd fun b hb=>ah.intro (fun h=>?_) fun h=>?_
 ·cases l with
  |nil=>rfl
  |cons p l=>have:=hb (by simp[aB]);rw[this] at h;cases h
 ·exact⟨fun _=>rfl,cg pB (by simp[aB];omega) (by decide),rfl,rfl⟩
theorem C3 {l:List (Int×Int)} (hl:l.length<=1000000000):ag Tryz.prog 69 [.sl (aB l)] (.sl (aB l)):=by
 refine Ve fun b hb=>ah.intro (fun h=>?_) fun h=>?_
 ·cases l with
  |nil=>rfl
  |cons p l=>have:=hb (by simp[aB]);rw[this] at h;cases h
 ·exact⟨fun _=>rfl,cg pB (by simp[aB];omega) (by decide),rfl,rfl⟩
def gu (l:List (Int×Int)):List (Int×Value):=l.foldl (fun m p=>bU m p.1 (.int .i64 p.2)) []
theorem vu {l:List (Int×Int)} {k:Nat} (h:k<l.length):gu (l.take (k+1))=bU (gu (l.take k)) l[k].1 (.int .i64 l[k].2):=by
 rw[gu,alL h,ano];rfl
theorem rq (l:List (Int×Int)):∀c:Int,∃n,Option.getD (aM (gu l) c) (.int .i64 0)=.int .i64 n:=by
 have:∀(l:List (Int×Int)) (m:List (Int×Value)),(∀c:Int,∃n,Option.getD (aM m c) (.int .i64 0)=.int .i64 n)->∀c:Int,∃n,Option.getD (aM (l.foldl (fun m p=>bU m p.1 (.int .i64 p.2)) m) c) (.int .i64 0)=.int .i64 n:=by
  intro l
  induction l with
  |nil=>intro m h;exact h
  |cons p l ih=>
   intro m h;refine ih _ fun c=>?_;rw[q9];split
   ·exact⟨_,rfl⟩
   ·exact h c
 exact this l [] fun c=>⟨0,rfl⟩
def Dis (l:List (Int×Int)) (k:Nat):Prop:=∀(j:Nat) (hj:j<l.length),j<k->aM (gu (l.take j)) l[j].1=none
def eu (n:Int) (ps sts:List (Int×Int)):Rk:=⟨n.toNat,ps,gu sts,aB sts⟩
def mN (n:Int) (ps sts:List (Int×Int)):Prop:=(0<=n/\n<=1000)/\ps.length<=1000/\ps.any (yR n)=false/\sts.any (yS n)=false/\Dis sts sts.length
theorem mN.ok {n:Int} {ps sts:List (Int×Int)} (h:mN n ps sts):(eu n ps sts).Ok:=by
 obtain⟨h1,h2,h3,h4,h5⟩:=h;refine⟨by simp only[eu];omega,h2,fun p hp=>?_⟩;have:=List.any_eq_false.1 h3 p hp;simp only[yR,vU,amo,decide_eq_true_eq,not_or] at this;simp only[eu];omega
def adH (q:List af):Prop:=(∃i,q=jz i)\/(∃i m a l b c d e l3,q=[.box [nI i],.box [.aY 63 [.ptr 0 0]],.aJ (.i m),.box [nI a,.sl l,.mp 2,.ae (.int .u32 b),.ae (.int .i32 c),.ae (.int .u32 d),.ae (.slice none 0 0),nI e,.sl l3]])\/∃i m a l b c d l2 e l3,q=[.box [nI i],.box [.aY 63 [.ptr 0 0]],.aJ (.i m),.box [nI a,.sl l,.mp 2,.ae (.int .u32 b),.ae (.int .i32 c),.ae (.int .u32 d),.sl l2,nI e,.sl l3]]
def Sb (n:Int) (ps sts:List (Int×Int)) (q:List af):Prop:=∃(i d s ka:Int) (kr:List AV),
 q=[.box [nI i],.box [.aY 63 [.ptr 0 0]],.aJ (.i (gu sts)),.box [nI n,.sl (aB ps),.mp 2,.ae (.int .u32 d),.ae (.int .i32 0),.ae (.int .u32 s),.sl kr,nI ka,.sl (aB sts)]]/\(d=0\/¬d=0/\kr=(eu n ps sts).rows)
def ahG (n:Int) (ps sts:List (Int×Int)) (r:AV) (q:List af):Prop:=
 (∃e:Int,¬e=0/\r=.aL [.ae (.pointer none),nI e]/\adH q)\/(mN n ps sts/\r=.aL [.ptr 3 0,nI 0]/\Sb n ps sts q)
def wC (n:Int) (ps sts:List (Int×Int)):Prop:=mN n ps sts/\∀c:Nat,(c:Int)<n->(eu n ps sts).pq c c=false
def adI (n:Int) (ps sts:List (Int×Int)) (r:AV) (q:List af):Prop:=
 (∃e:Int,¬e=0/\r=.aL [.ae (.pointer none),nI e]/\adH q/\¬wC n ps sts)\/(mN n ps sts/\r=.aL [.ptr 3 0,nI 0]/\Sb n ps sts q)
theorem yT {n:Int} {ps sts:List (Int×Int)} (hp:ps.length<=1000000000) (hs:sts.length<=1000000000):bH Tryz.prog 31 [nI n,.sl (aB ps),.sl (aB sts)] [] (adI n ps sts):=by
 have bad:∀{e i:Int},¬e=0->¬wC n ps sts->adI n ps sts (.aL [.ae (.pointer none),nI e]) (jz i):=fun {e i} he hg=>.inl ⟨e,he,rfl,.inl ⟨i,rfl⟩,hg⟩;refine Vg (ah.intro (fun h=>bad (by decide) fun g=>by have:=g.1.1.1;have:=of_decide_eq_true h;omega) fun h0=>ah.intro (fun h=>bad (by decide) fun g=>by have:=g.1.1.2;have:=of_decide_eq_true h;omega) fun h1=>?_);have hn:0<=n/\n<=1000:=⟨by simpa using h0,by simpa using h1⟩;refine⟨_,Jc hp,fun r q ⟨e1,e2⟩=>⟨_,_,⟨e1,e2⟩,ah.intro (fun h=>bad (by decide) fun g=>by rw[g.1.2.2.1] at h;cases h) fun h2=>⟨_,Je hs,fun r q ⟨e1,e2⟩=>⟨_,_,⟨e1,e2⟩,ah.intro (fun h=>bad (by decide) fun g=>by rw[g.1.2.2.2.1] at h;cases h) fun h3=>ah.intro (fun h=>bad (by decide) fun g=>by have h9:=g.1.2.1;have h8:=of_decide_eq_true h;rw[aB,alv] at h8;omega) fun h4=>?_⟩⟩⟩⟩;have hl:ps.length<=1000:=by
  have:¬((List.length (aB ps):Nat):Int)>1000:=by simpa using h4
  rw[aB,alv] at this;omega
 refine⟨_,C2 hp,_,C3 hs,?_⟩;refine av.intro (fun k:Nat=>(((),(),aB sts,(sts.length:Int),(k:Int),()),((n,()),((),()),gu (sts.take k),(n,aB ps,(),0,0,0,(),0,aB sts,()),()))) (fun k=>k<=sts.length/\Dis sts k) (fun k=>sts.length-k) 0 (by rw[aB,alv];rfl) ⟨alE _,fun j _ h=>by omega⟩ ?_;intro k ⟨hk,hd⟩ again bw;dsimp only;refine ah.intro (fun h=>?_) fun h=>?_
 ·have ak:k<sts.length:=by simpa using h
  obtain⟨v,hv⟩:=rq (sts.take k) sts[k].1;refine⟨by omega,by rw[aB,alv];omega,_,_,cQ ak,by rw[hv];rfl,ah.intro (fun h=>?_) fun h=>?_⟩
  ·exact .inl ⟨4,by decide,rfl,.inr (.inl ⟨_,_,_,_,_,_,_,_,_,rfl⟩),fun g=>by have h9:=g.1.2.2.2.2 k ak ak;rw[h9] at h;cases h⟩
  ·rw[aA (by omega),<-vu ak];refine bw (k+1) ⟨by omega,fun j hj h5=>?_⟩ (by omega)
   by_cases e:j=k
   ·subst e;simpa using h
   ·exact hd j hj (by omega)
 ·have D9:k=sts.length:=by
   have:sts.length<=k:=by simpa using h
   omega
  subst D9;have ax:mN n ps sts:=⟨hn,hl,h2,h3,hd⟩;obtain⟨N,hN⟩:∃N:Nat,n=N:=⟨n.toNat,by omega⟩;rw[amY];refine av.intro (fun b:Nat×Int×Int×Int×List AV=>(((),n,(b.1:Int),()),((n,()),((),()),gu sts,(n,aB ps,(),b.2.1,0,b.2.2.1,b.2.2.2.2,b.2.2.2.1,aB sts,()),()))) (fun b=>b.1<=N/\(b.2.1=0\/¬b.2.1=0/\b.2.2.2.2=(eu n ps sts).rows)) (fun b=>N-b.1) (0,0,0,0,[]) rfl ⟨alE _,.inl rfl⟩ ?_
  rintro⟨c,d,s,ka,kr⟩ ⟨hc,qv⟩ again bw
  dsimp only at hc qv bw ⊢;refine ah.intro (fun h=>?_) fun h=>?_
  ·have hcn:(c:Int)<n:=by simpa using h
   have hS:vT (eu n ps sts) (eh (gu sts) n (aB ps) d 0 s kr ka (aB sts)):=⟨d,s,ka,kr,by simp only[eu];rw[show ((n.toNat:Nat):Int)=n by omega],qv⟩;refine⟨_,ve ax.ok hS _ _,fun r q ⟨e1,e2⟩=>?_⟩;obtain⟨d2,s2,zv,zw,rfl,vJ⟩:=e2;refine⟨_,_,_,_,_,_,_,_,_,_,⟨e1,rfl⟩,ah.intro (fun h=>?_) fun h=>?_⟩
   ·exact .inl ⟨8,by decide,rfl,.inr (.inr ⟨_,_,_,_,_,_,_,_,_,_,rfl⟩),fun g=>by have h9:=g.2 c hcn;rw[h9] at h;cases h⟩
   ·rw[aA (by omega)];have:=bw (c+1,d2,s2,zv,zw) ⟨by show c+1<=N;omega,vJ⟩ (by show N-(c+1)<N-c;omega);simp only[eu] at this ⊢;rw[show ((n.toNat:Nat):Int)=n by omega];exact this
  ·exact .inr ⟨ax,rfl,_,_,_,_,_,rfl,qv⟩
theorem MH {n:Int} {ps sts:List (Int×Int)} (hp:ps.length<=1000000000) (hs:sts.length<=1000000000):bH Tryz.prog 31 [nI n,.sl (aB ps),.sl (aB sts)] [] (ahG n ps sts):=
 (yT hp hs).mono fun r q h=>h.imp (fun⟨e,h1,h2,h3,_⟩=>⟨e,h1,h2,h3⟩) id
theorem Sc {n:Int} {ps sts:List (Int×Int)} (hp:ps.length<=1000000000) (hs:sts.length<=1000000000) (hg:wC n ps sts):bH Tryz.prog 31 [nI n,.sl (aB ps),.sl (aB sts)] [] (fun r q=>r=.aL [.ptr 3 0,nI 0]/\Sb n ps sts q):=
 (yT hp hs).mono fun r q h=>h.elim (fun⟨_,_,_,_,h5⟩=>absurd hg h5) fun⟨_,h2,h3⟩=>⟨h2,h3⟩
inductive oe (ps:List (Int×Int)):Int->Int->Prop where
 |one {a b:Int} (h:(a,b)∈ps):oe ps a b
 |more {a c b:Int} (h1:oe ps a c) (h2:(c,b)∈ps):oe ps a b
theorem oe.trans {ps:List (Int×Int)} {a c b:Int} (h1:oe ps a c) (h2:oe ps c b):oe ps a b:=by
 induction h2 with
 |one h=>exact .more h1 h
 |more _ h ih=>exact .more ih h
theorem Sd (Z:ZZ) (i k r b:Nat):ep (vd Z i k) r b=if r=i then ep Z i b||ep Z k b else ep Z r b:=by
 unfold ep vd;split
 ·rw[Nat.testBit_or]
 ·rfl
theorem WI (Z:ZZ) (a b r c:Nat):ep (F7 Z a b) r c=(decide (r=a/\c=b)||ep Z r c):=by
 unfold ep F7
 by_cases h:r=a/\c / 64=b / 64
 ·rw[if_pos h,Nat.testBit_or,Nat.testBit_two_pow];obtain⟨rfl,h2⟩:=h
  by_cases h3:c=b
  ·subst h3;simp
  ·have:¬b % 64=c % 64:=by omega
   simp[h3,this,h2]
 ·rw[if_neg h];have:¬(r=a/\c=b):=fun h1=>h ⟨h1.1,by rw[h1.2]⟩;simp[this]
theorem yU (k:Nat) (Z:ZZ):∀(m r b:Nat),ep (wv k m Z) r b=if r<m then ep Z r b||(ep Z r k&&ep Z k b) else ep Z r b
 |0,r,b=>by simp[wv]
 |m+1,r,b=>by
  have hk:∀b,ep (wv k m Z) k b=ep Z k b:=fun b=>by
   rw[yU k Z m k b];split
   ·cases ep Z k b<;>simp
   ·rfl
  have hm:∀b,ep (wv k m Z) m b=ep Z m b:=fun b=>by rw[yU k Z m m b,if_neg (by omega)]
  rw[wv,F8]
  cases hb:ep (wv k m Z) m k
  ·rw[hm] at hb;simp only[alQ,if_false];rw[yU k Z m r b]
   by_cases h:r=m
   ·subst h;rw[if_neg (by omega),if_pos (by omega),hb];simp
   ·by_cases h1:r<m
    ·rw[if_pos h1,if_pos (by omega)]
    ·rw[if_neg h1,if_neg (by omega)]
  ·rw[hm] at hb;simp only[if_true];rw[Sd,hk,hm,yU k Z m r b]
   by_cases h:r=m
   ·subst h;rw[if_pos rfl,if_pos (by omega),hb,alN]
   ·rw[if_neg h]
    by_cases h1:r<m
    ·rw[if_pos h1,if_pos (by omega)]
    ·rw[if_neg h1,if_neg (by omega)]
theorem tl {n:Nat} (Z:ZZ) (k r b:Nat) (hr:r<n):ep (fu n (k+1) Z) r b=(ep (fu n k Z) r b||(ep (fu n k Z) r k&&ep (fu n k Z) k b)):=by
 rw[fu,yU,if_pos hr]
theorem A0 {n:Nat} (Z:ZZ):∀k,k<=n->∀a c b,a<n->c<k->ep (fu n k Z) a c=true->ep (fu n k Z) c b=true->ep (fu n k Z) a b=true
 |0,_,a,c,b,_,hc,_,_=>by omega
 |k+1,hk,a,c,b,ha,hc,h1,h2=>by
  have ih:=A0 (n:=n) Z k (by omega);rw[tl Z k a c ha] at h1;rw[tl (n:=n) Z k c b (by omega)] at h2;rw[tl Z k a b ha];simp only[amo,alB] at h1 h2 ⊢
  by_cases hck:c=k
  ·subst hck;have q1:ep (fu n c Z) a c=true:=h1.elim id fun h=>h.1;have q2:ep (fu n c Z) c b=true:=h2.elim id fun h=>h.2;exact .inr ⟨q1,q2⟩
  ·have GZ:c<k:=by omega
   rcases h1 with h1|⟨h1,h3⟩
   ·rcases h2 with h2|⟨h2,h4⟩
    ·exact .inl (ih a c b ha GZ h1 h2)
    ·exact .inr ⟨ih a c k ha GZ h1 h2,h4⟩
   ·rcases h2 with h2|⟨h2,h4⟩
    ·exact .inr ⟨h1,ih k c b (by omega) GZ h3 h2⟩
    ·exact .inr ⟨h1,h4⟩
theorem yV {n:Nat} (Z:ZZ) {a b:Nat} (ha:a<n) (h:ep Z a b=true):∀k,ep (fu n k Z) a b=true
 |0=>h
 |k+1=>by rw[tl Z k a b ha,yV Z ha h k,amW]
theorem GL (P:Nat->Nat×Nat):∀(m a b:Nat),ep (dh P m) a b=true↔∃i,i<m/\P i=(a,b)
 |0,a,b=>by simp[dh,ep]
 |m+1,a,b=>by
  rw[dh,WI,amo,decide_eq_true_eq,GL P m a b];constructor
  ·rintro(⟨rfl,rfl⟩|⟨i,h1,h2⟩)
   ·exact⟨m,by omega,rfl⟩
   ·exact⟨i,by omega,h2⟩
  ·rintro⟨i,h1,h2⟩
   by_cases e:i=m
   ·subst e;rw[h2];exact .inl ⟨rfl,rfl⟩
   ·exact .inr ⟨i,by omega,h2⟩
theorem Rk.Lj {R:Rk} (hR:R.Ok) {a b:Nat}:ep (dh R.P R.ps.length) a b=true↔((a:Int),(b:Int))∈R.ps:=by
 rw[GL];constructor
 ·rintro⟨i,hi,h⟩
  have S8:=hR.2.2 _ (alG hi);have eP:R.P i=((R.ps[i]).1.toNat,(R.ps[i]).2.toNat):=by simp[Rk.P,List.getD,hi]
  rw[eP] at h;simp only[alx] at h;have e:((a:Int),(b:Int))=R.ps[i]:=Prod.ext (by show (a:Int)=_;omega) (by show (b:Int)=_;omega);rw[e];exact alG hi
 ·intro h;obtain⟨i,hi,e⟩:=List.getElem_of_mem h;exact⟨i,hi,by simp[Rk.P,List.getD,hi,e]⟩
theorem qd {R:Rk} (hR:R.Ok):∀(k a b:Nat),a<R.n->k<=R.n->ep (fu R.n k (dh R.P R.ps.length)) a b=true->oe R.ps a b
 |0,a,b,_,_,h=>.one ((Rk.Lj hR).1 h)
 |k+1,a,b,ha,hk,h=>by
  rw[tl _ k a b ha,amo,alB] at h;rcases h with h|⟨h1,h2⟩
  ·exact qd hR k a b ha (by omega) h
  ·exact(qd hR k a k ha (by omega) h1).trans (qd hR k k b (by omega) (by omega) h2)
theorem Rk.WJ {R:Rk} (hR:R.Ok) {a b:Nat} (ha:a<R.n):ep R.Z a b=true↔oe R.ps a b:=by
 refine⟨fun h=>qd hR R.n a b ha (alA _) h,fun h=>?_⟩;have key:∀x y:Int,oe R.ps x y->∀u v:Nat,x=u->y=v->u<R.n->ep R.Z u v=true:=by
  intro x y h
  induction h with
  |one h=>rintro u v rfl rfl hu;exact yV _ hu ((Rk.Lj hR).2 h) _
  | @more c' b' h1 h2 ih=>
   rintro u v rfl rfl hu
   have hc:=(hR.2.2 _ h2).1;obtain⟨c,Js⟩:∃c:Nat,c'=c:=⟨c'.toNat,by simp only at hc;omega⟩;subst Js;have hc3:c<R.n:=by simp only at hc;omega
   exact A0 _ R.n (alA _) u c v hu hc3 (ih u c rfl rfl hu) (yV _ hc3 ((Rk.Lj hR).2 h2) _)
 exact key _ _ h a b rfl rfl ha
def gE (a:Int) (u:List Int) (p:Int×Int):List Int:=if((p.1==a)||u.contains p.1)&&!u.contains p.2 then u++[p.2] else u
def er (a:Int) (l:List (Int×Int)) (u:List Int):List Int:=l.foldl (gE a) u
def bW (a:Int) (l:List (Int×Int)):Nat->List Int
 |0=>[]
 |k+1=>er a l (bW a l k)
def rr (l:List (Int×Int)) (a b:Int):Bool:=(bW a l (l.length+1)).contains b
theorem MI (a:Int) (u:List Int) (p:Int×Int):u.length<=(gE a u p).length/\((gE a u p).length=u.length->gE a u p=u):=by
 unfold gE;split
 ·simp
 ·exact⟨alA _,fun _=>rfl⟩
theorem ru (a:Int):∀(l:List (Int×Int)) (u:List Int),u.length<=(er a l u).length/\((er a l u).length=u.length->er a l u=u/\∀p∈l,gE a u p=u)
 | [],u=>⟨alA _,fun _=>⟨rfl,fun p h=>by cases h⟩⟩
 |p::l,u=>by
  have h1:=MI a u p;have h2:=ru a l (gE a u p);have e:er a (p::l) u=er a l (gE a u p):=rfl;rw[e];refine⟨by omega,fun h=>?_⟩;have h3:=h1.2 (by omega);rw[h3] at h2 h ⊢;have h4:=h2.2 h;refine⟨h4.1,fun q hq=>?_⟩;rcases al6.1 hq with rfl|hq
  ·exact h3
  ·exact h4.2 q hq
structure jC (a:Int) (l:List (Int×Int)) (u:List Int):Prop where
 nd:u.Nodup
 sub:∀x∈u,x∈l.map Prod.snd
 reach:∀x∈u,oe l a x
theorem jC.step {a:Int} {l:List (Int×Int)} {u:List Int} (h:jC a l u) {p:Int×Int} (hp:p∈l):jC a l (gE a u p):=by
 unfold gE;split
 ·rename_i hc;simp only[alB,amo,beq_iff_eq,amK,ame,List.contains_eq_mem,decide_eq_false_iff_not,decide_eq_true_eq] at hc;refine⟨List.nodup_append.2 ⟨h.nd,by simp,fun x hx y hy=>?_⟩,fun x hx=>?_,fun x hx=>?_⟩
  ·rw[amc] at hy;subst hy;exact fun e=>hc.2 (e▸hx)
  ·rcases amn.1 hx with hx|hx
   ·exact h.sub x hx
   ·rw[amc] at hx;subst hx;exact amz.2 ⟨p,hp,rfl⟩
  ·rcases amn.1 hx with hx|hx
   ·exact h.reach x hx
   ·rw[amc] at hx;subst hx;rcases hc.1 with h1|h1
    ·exact .one (by rw[<-h1];exact hp)
    ·exact .more (h.reach _ h1) hp
 ·exact h
theorem jC.round {a:Int} {l:List (Int×Int)}:∀(m:List (Int×Int)) (u:List Int),(∀p∈m,p∈l)->jC a l u->jC a l (er a m u)
 | [],u,_,h=>h
 |p::m,u,hm,h=>jC.round m (gE a u p) (fun q hq=>hm q (alR _ hq)) (h.step (hm p alS))
theorem jC.rounds (a:Int) (l:List (Int×Int)):∀k,jC a l (bW a l k)
 |0=>⟨List.nodup_nil,fun x h=>(by cases h),fun x h=>(by cases h)⟩
 |k+1=>jC.round l _ (fun _ h=>h) (jC.rounds a l k)
theorem yW {u v:List Int} (h:u.Nodup) (hs:∀x∈u,x∈v):u.length<=v.length:=by
 induction u generalizing v with
 |nil=>exact alE _
 |cons x u ih=>
  rw[List.nodup_cons] at h;have hx:=hs x alS;have:=ih (v:=v.erase x) h.2 fun y hy=>by
   have bu:y≠x:=fun e=>h.1 (e▸hy);exact(List.mem_erase_of_ne bu).2 (hs y (alR _ hy))
  rw[List.length_erase_of_mem hx] at this;have Yj:=List.length_pos_of_mem hx;simp only[alJ];omega
theorem vv (a:Int) (l:List (Int×Int)):∀k,(∃j,j<k/\er a l (bW a l j)=bW a l j)\/k<=(bW a l k).length
 |0=>.inr (alE _)
 |k+1=>by
  rcases vv a l k with⟨j,h1,h2⟩|h
  ·exact .inl ⟨j,by omega,h2⟩
  ·have h1:=ru a l (bW a l k)
   by_cases e:(er a l (bW a l k)).length=(bW a l k).length
   ·exact .inl ⟨k,by omega,(h1.2 e).1⟩
   ·exact .inr (by show k+1<=(er a l (bW a l k)).length;omega)
theorem vw (a:Int) (l:List (Int×Int)) {j:Nat} (h:er a l (bW a l j)=bW a l j):∀d,bW a l (j+d)=bW a l j
 |0=>rfl
 |d+1=>by show er a l (bW a l (j+d))=_;rw[vw a l h d,h]
theorem Jf (l:List (Int×Int)) (a b:Int):rr l a b=true↔oe l a b:=by
 have hg:=jC.rounds a l (l.length+1);rw[rr,amK];refine⟨fun h=>hg.reach b h,fun h=>?_⟩;have hle:(bW a l (l.length+1)).length<=l.length:=by
  have:=yW hg.nd hg.sub
  rwa [alv] at this
 obtain⟨j,h1,h2⟩:∃j,j<l.length+1/\er a l (bW a l j)=bW a l j:=by
  rcases vv a l (l.length+1) with h|h
  ·exact h
  ·omega
 have qv:=vw a l h2 (l.length+1-j);rw[show j+(l.length+1-j)=l.length+1 by omega] at qv;have dx:=((ru a l (bW a l j)).2 (by rw[h2])).2;rw[<-qv] at dx;have aY:∀p∈l,(p.1=a\/p.1∈bW a l (l.length+1))->p.2∈bW a l (l.length+1):=by
  intro p hp hc;have:=dx p hp;unfold gE at this;split at this
  ·have:=congrArg List.length this;simp at this
  ·rename_i hn;refine am0 fun h3=>hn ?_;simp only[alB,amo,beq_iff_eq,amK,ame,List.contains_eq_mem,decide_eq_false_iff_not,decide_eq_true_eq];exact⟨hc,h3⟩
 induction h with
 |one h=>exact aY _ h (.inl rfl)
 |more _ h2 ih=>exact aY _ h2 (.inr ih)
theorem Rk.Se {R:Rk} (hR:R.Ok) (a b:Int):R.pq a b=(decide (0<=a/\a<R.n/\0<=b/\b<R.n)&&rr R.ps a b):=by
 unfold Rk.pq
 by_cases h:0<=a/\a<R.n/\0<=b/\b<R.n
 ·rw[decide_eq_true h,alN,alN,amE,Jf,Rk.WJ hR (by omega)];rw[show ((a.toNat:Nat):Int)=a by omega,show ((b.toNat:Nat):Int)=b by omega]
 ·rw[decide_eq_false h];rfl
theorem GM {a:Int} {l:List (Int×Int)} {u:List Int} {k:Nat} (h:k<l.length):er a (l.take (k+1)) u=gE a (er a (l.take k) u) l[k]:=by
 rw[er,alL h,ano];rfl
theorem dw (l:List (Int×Int)):(aB l).length=l.length:=by simp[aB]
theorem C4 {l:List (Int×Int)} {a b:Int} (hl:l.length<=1000000):ag Tryz.prog 79 [.sl (aB l),nI a,nI b] (nB (rr l a b)):=by
 refine Vl ⟨rfl,?_⟩;refine av.intro (fun k:Nat=>((aB l,a,b,(),(k:Int),()),(ai (bW a l k),()))) (fun k=>k<=l.length+1) (fun k=>l.length+1-k) 0 rfl (alE _) ?_;intro k hk again bw;dsimp only;refine ah.intro (fun h=>⟨rfl,?_⟩) fun h=>⟨rfl,?_⟩
 ·have oX:k<=l.length:=by
   have:(k:Int)<=((List.length (aB l):Nat):Int):=by simpa using h
   rw[dw] at this;omega
  have hU:=jC.rounds a l k;refine av.intro (fun j:Nat=>((aB l,a,b,(),(k:Int),(j:Int),()),(ai (er a (l.take j) (bW a l k)),()))) (fun j=>j<=l.length) (fun j=>l.length-j) 0 rfl (alE _) ?_;intro j hj ua xU;dsimp only;have hG:jC a l (er a (l.take j) (bW a l k)):=jC.round _ _ (fun p hp=>List.mem_of_mem_take hp) hU;have bN:(er a (l.take j) (bW a l k)).length<=1000000:=by
   have:=yW hG.nd hG.sub;rw[alv] at this;omega
  refine ah.intro (fun h=>?_) fun h=>⟨rfl,?_⟩
  ·have ak:j<l.length:=by
    have:(j:Int)<((List.length (aB l):Nat):Int):=by simpa using h
    rw[dw] at this;omega
   have l5:(j:Int)<((List.length (aB l):Nat):Int):=by rw[dw];omega
   have DT:=GM (a:=a) (u:=bW a l k) ak;generalize hu:er a (l.take j) (bW a l k)=u at bN DT ⊢;have yes:gE a u l[j]=u++[l[j].2]->ua ((aB l,a,b,(),(k:Int),IntKind.wrap .i64 ((j:Int)+1),()),(ai u++[nI l[j].2],())):=fun e=>by
    rw[ie,<-e,<-DT,aA (by omega)];exact xU (j+1) (by omega) (by omega)
   have no:gE a u l[j]=u->ua ((aB l,a,b,(),(k:Int),IntKind.wrap .i64 ((j:Int)+1),()),(ai u,())):=fun e=>by
    have:=xU (j+1) (by omega) (by omega);rw[DT,e] at this;rw[aA (by omega)];exact this
   have app:bd Dk (List.length (ai u++[nI l[j].2])) [] [nI l[j].2]:=bc rfl (by rw[alz,dM,alW];omega) (by decide);refine⟨by omega,l5,_,_,cQ ak,ah.intro (fun h1=>?_) fun h1=>?_⟩
   ·refine⟨by omega,l5,_,_,cQ ak,rfl,_,iI (by omega),ah.intro (fun h2=>⟨by omega,l5,_,_,cQ ak,rfl,app,rfl,yes ?_⟩) fun h2=>⟨rfl,no ?_⟩⟩
    ·rw[gE,h1,amW,alN,h2];rfl
    ·rw[gE,h1,amW,alN,h2];rfl
   ·refine⟨by omega,l5,_,_,cQ ak,rfl,_,iI (by omega),ah.intro (fun h2=>?_) fun h2=>⟨rfl,no ?_⟩⟩
    ·refine⟨by omega,l5,_,_,cQ ak,rfl,_,iI (by omega),ah.intro (fun h3=>⟨by omega,l5,_,_,cQ ak,rfl,app,rfl,yes ?_⟩) fun h3=>⟨rfl,no ?_⟩⟩
     ·rw[gE,h1,h2,amP,alN,h3];rfl
     ·rw[gE,h1,h2,amP,alN,h3];rfl
    ·rw[gE,h1,h2];rfl
  ·have hje:j=l.length:=by
    have:¬(j:Int)<((List.length (aB l):Nat):Int):=by simpa using h
    rw[dw] at this;omega
   subst hje;rw[amY,aA (by omega)];exact bw (k+1) (by omega) (by omega)
 ·have D9:k=l.length+1:=by
   have:¬(k:Int)<=((List.length (aB l):Nat):Int):=by simpa using h
   rw[dw] at this;omega
  subst D9;have hG:=jC.rounds a l (l.length+1);have bN:=yW hG.nd hG.sub;rw[alv] at bN;exact⟨_,iI (by omega),rfl⟩
theorem zD {n:Int} {ps:List (Int×Int)} {st:List AV} {a b:Int} (hl:ps.length<=1000000):ag Tryz.prog 44 [.agg [nI n,.sl (aB ps),.sl st],nI a,nI b] (nB (decide (0<=a/\a<n/\0<=b/\b<n)&&rr ps a b)):=by
 have bad:¬(0<=a/\a<n/\0<=b/\b<n)->nB false=nB (decide (0<=a/\a<n/\0<=b/\b<n)&&rr ps a b):=fun h=>by rw[decide_eq_false h];rfl
 refine Vm (ah.intro (fun h1=>ah.intro (fun h2=>ah.intro (fun h3=>ah.intro (fun h4=>⟨_,C4 hl,?_⟩) fun h=>bad (by simp at h;omega)) fun h=>bad (by simp at h;omega)) fun h=>bad (by simp at h;omega)) fun h=>bad (by simp at h;omega));rw[decide_eq_true (by simp at h1 h2 h3 h4;omega),alN]
def tm (l:List (Int×Int)) (c:Int):Option Int:=(l.find? fun p=>p.1==c).map Prod.snd
def tn (l:List (Int×Int)) (c:Int):Int:=(tm l c).getD 0
theorem vy {l:List (Int×Int)} (hd:Dis l l.length) (c:Int):∀k,k<=l.length->aM (gu (l.take k)) c=(tm (l.take k) c).map (.int .i64)
 |0,_=>rfl
 |k+1,hk=>by
  have ih:=vy hd c k (by omega);have ak:k<l.length:=by omega
  rw[vu ak,q9];have e:tm (l.take (k+1)) c=(tm (l.take k) c).or (if l[k].1=c then some l[k].2 else none):=by
   unfold tm;rw[alL ak,List.find?_append]
   cases h:(l.take k).find? fun p=>p.1==c with
   |some p=>simp
   |none=>
    by_cases h2:l[k].1=c
    ·simp[h2]
    ·simp[h2]
  rw[e]
  by_cases h:c=l[k].1
  ·subst h;have:=hd k ak (by omega);rw[ih] at this
   cases h2:tm (l.take k) l[k].1 with
   |some v=>rw[h2] at this;cases this
   |none=>simp
  ·have h2:¬l[k].1=c:=fun e=>h e.symm;rw[if_neg h,if_neg h2,ih]
   cases tm (l.take k) c<;>rfl
theorem WK {n:Int} {ps sts:List (Int×Int)} (h:mN n ps sts) (c:Int):(eu n ps sts).stat c=tn sts c:=by
 have:=vy h.2.2.2.2 c sts.length (alA _);rw[amY] at this;unfold Rk.stat tn;show zd (Option.getD (aM (gu sts) c) (.int .i64 0))=_;rw[this]
 cases tm sts c<;>rfl
theorem Jg (p:Int×Int) (l:List (Int×Int)) (c:Int):tn (p::l) c=if p.1=c then p.2 else tn l c:=by
 unfold tn tm;rw[anh]
 by_cases h:p.1=c
 ·rw[show (p.1==c)=true from by simpa using h,if_pos h];rfl
 ·rw[show (p.1==c)=false from by simpa using h,if_neg h]
theorem C5 {n:Int} {ps:List AV} {l:List (Int×Int)} {c:Int} (hl:l.length<=1000000):ag Tryz.prog 43 [.agg [nI n,.sl ps,.sl (aB l)],nI c] (nI (tn l c)):=by
 refine Vp (av.intro (fun k:Nat=>((c,(),(k:Int),()),((n,ps,aB l,()),()))) (fun k=>k<=l.length/\tn l c=tn (l.drop k) c) (fun k=>l.length-k) 0 rfl ⟨alE _,rfl⟩ ?_);intro k ⟨hk,hs⟩ again bw;dsimp only;refine ah.intro (fun h=>?_) fun h=>?_
 ·have ak:k<l.length:=by
   have:(k:Int)<((List.length (aB l):Nat):Int):=by simpa using h
   rw[dw] at this;omega
  have l5:(k:Int)<((List.length (aB l):Nat):Int):=by rw[dw];omega
  rw[alC ak,Jg] at hs;refine⟨by omega,l5,_,_,cQ ak,ah.intro (fun h1=>⟨by omega,l5,_,_,cQ ak,?_⟩) fun h1=>?_⟩
  ·rw[hs,if_pos (by simpa using h1)]
  ·rw[if_neg (by simpa using h1)] at hs;rw[aA (by omega)];exact bw (k+1) ⟨by omega,hs⟩ (by omega)
 ·have:l.length<=k:=by
   have:¬(k:Int)<((List.length (aB l):Nat):Int):=by simpa using h
   rw[dw] at this;omega
  rw[alD this] at hs;rw[hs];rfl
theorem Sf (m:Nat) (l:List (Int×Int)):List.drop (Int.toNat 0) (List.take (Int.toNat (if(m:Int)<((List.length (aB l):Nat):Int) then(m:Int) else((List.length (aB l):Nat):Int))) (aB l))=aB (l.take m):=by
 rw[dw];show List.take _ _=_;unfold aB;rw[List.map_take];split
 ·rfl
 ·rename_i h;rw[amA,alI (by simp),alI (by simp;omega)]
theorem Sg (m:Nat) (l:List (Int×Int)):0<=(0:Int)/\(0:Int)<=(if(m:Int)<((List.length (aB l):Nat):Int) then(m:Int) else((List.length (aB l):Nat):Int))/\
  (if(m:Int)<((List.length (aB l):Nat):Int) then(m:Int) else((List.length (aB l):Nat):Int))<=List.length (aB l)/\(∀y:AV,y∈aB l->List.length (AV.cells y)=2):=by
 refine⟨by omega,?_,?_,pB⟩<;>split<;>omega
def tq (n:Int) (ps sts:List (Int×Int)):AV:=.agg [nI n,.sl (aB ps),.sl (aB sts)]
def ZM (n:Int) (ps sts:List (Int×Int)) (q:List af):List af:=[.box [nI n,.sl (aB ps),.sl (aB sts)],.box [nI n,.sl (aB ps),.sl (aB sts)],.row 81 2 (aB sts)]++q
def ahH (n:Int) (ps sts:List (Int×Int)) (q:List af):Prop:=(∃i,q=ZM n ps sts [.box [nI i],.box [.aY 63 [.ptr 3 0]]])\/
 (∃i m a l b c d e l3,q=ZM n ps sts [.box [nI i],.box [.aY 63 [.ptr 3 0]],.aJ (.i m),.box [nI a,.sl l,.mp 5,.ae (.int .u32 b),.ae (.int .i32 c),.ae (.int .u32 d),.ae (.slice none 0 0),nI e,.sl l3]])\/
 ∃i m a l b c d l2 e l3,q=ZM n ps sts [.box [nI i],.box [.aY 63 [.ptr 3 0]],.aJ (.i m),.box [nI a,.sl l,.mp 5,.ae (.int .u32 b),.ae (.int .i32 c),.ae (.int .u32 d),.sl l2,nI e,.sl l3]]
def XX (n:Int) (ps sts:List (Int×Int)) (q:List af):Prop:=∃(i d s ka:Int) (kr:List AV),
 q=ZM n ps sts [.box [nI i],.box [.aY 63 [.ptr 3 0]],.aJ (.i (gu sts)),.box [nI n,.sl (aB ps),.mp 5,.ae (.int .u32 d),.ae (.int .i32 0),.ae (.int .u32 s),.sl kr,nI ka,.sl (aB sts)]]/\(d=0\/¬d=0/\kr=(eu n ps sts).rows)
def ToR (n:Int) (ps sts:List (Int×Int)) (r:AV) (q:List af):Prop:=
 (∃e:Int,¬e=0/\r=.aL [.ae (.pointer none),tq n ps sts,nI e]/\ahH n ps sts q)\/(mN n ps sts/\r=.aL [.ptr 6 0,tq n ps sts,nI 0]/\XX n ps sts q)
theorem Jh {n:Int} {ps sts:List (Int×Int)}:bH Tryz.prog 6 [tq n ps sts] [] (ToR n (ps.take 40) (sts.take 20)):=by
 have l1:(ps.take 40).length<=40:=by rw[amd];omega
 have l2:(sts.take 20).length<=20:=by rw[amd];omega
 refine Zh ⟨Sg 40 ps,Sg 20 sts,rfl,?_⟩;have e1:List.drop (Int.toNat 0) (List.take (Int.toNat (if 40<((List.length (aB ps):Nat):Int) then 40 else((List.length (aB ps):Nat):Int))) (aB ps))=aB (ps.take 40):=Sf 40 ps;have e2:List.drop (Int.toNat 0) (List.take (Int.toNat (if 20<((List.length (aB sts):Nat):Int) then 20 else((List.length (aB sts):Nat):Int))) (aB sts))=aB (sts.take 20):=Sf 20 sts;rw[e1,e2];generalize ps.take 40=p at l1 ⊢;generalize sts.take 20=s at l2 ⊢;refine av.intro (fun k:Nat=>(((),(),(),(k:Int),()),((n,aB p,aB s,()),(0,(),(),()),aB (s.take k),()))) (fun k=>k<=s.length) (fun k=>s.length-k) 0 rfl (alE _) ?_;intro k hk again bw;dsimp only;refine ah.intro (fun h=>?_) fun h=>⟨rfl,?_⟩
 ·have ak:k<s.length:=by
   have:(k:Int)<((List.length (aB s):Nat):Int):=by simpa using h
   rw[dw] at this;omega
  have l5:(k:Int)<((List.length (aB s):Nat):Int):=by rw[dw];omega
  refine⟨by omega,l5,_,_,cQ ak,by omega,l5,_,_,cQ ak,rfl,bc rfl (by rw[alz,dw,alW,amd];omega) (by decide),rfl,?_⟩;have:aB (s.take k)++[.agg [nI s[k].1,nI s[k].2]]=aB (s.take (k+1)):=by rw[alL ak];unfold aB;rw[ama];rfl
  rw[this,aA (by omega)];exact bw (k+1) (by omega) (by omega)
 ·have D9:k=s.length:=by
   have:¬(k:Int)<((List.length (aB s):Nat):Int):=by simpa using h
   rw[dw] at this;omega
  subst D9;rw[amY];refine⟨_,MH (by omega) (by omega),fun r q h=>?_⟩;rcases h with⟨e,he,rfl,⟨i,rfl⟩|⟨i,m,a,l,b,c,d,x,l3,rfl⟩|⟨i,m,a,l,b,c,d,y,x,l3,rfl⟩⟩|⟨ax,rfl,i,d,s',ka,kr,rfl,qv⟩
  ·exact .inl ⟨_,_,⟨rfl,rfl⟩,.inl ⟨e,he,rfl,.inl ⟨_,rfl⟩⟩⟩
  ·exact .inr (.inl ⟨_,_,_,_,_,_,_,_,_,_,⟨rfl,rfl⟩,.inl ⟨e,he,rfl,.inr (.inl ⟨_,_,_,_,_,_,_,_,_,rfl⟩)⟩⟩)
  ·exact .inr (.inr (.inl ⟨_,_,_,_,_,_,_,_,_,_,_,⟨rfl,rfl⟩,.inl ⟨e,he,rfl,.inr (.inr ⟨_,_,_,_,_,_,_,_,_,_,rfl⟩)⟩⟩))
  ·exact .inr (.inr (.inr ⟨_,_,_,_,_,_,_,_,_,_,⟨rfl,rfl⟩,.inr ⟨ax,rfl,_,_,_,_,_,rfl,qv⟩⟩))
def Ji (n:Int) (ps sts:List (Int×Int)) (l:Tm) (ms:List Ty):Cx:=⟨l.kind,l.index,l.args,ms,fun a b=>decide (0<=a/\a<n/\0<=b/\b<n)&&rr ps a b,tn sts⟩
theorem kA {t:Tm} (h:t.size<=1000000):cn t.args:=by
 have h1:=t.size_eq;have h2:=Tm.aw t.args;exact⟨by omega,fun x hx=>by have:=Tm.aK hx;omega⟩
theorem tr (L:List Tm) (t:Tm):decide (((L.count t:Nat):Int)>0)=decide (t∈L):=by
 rw[amE,decide_eq_true_eq,decide_eq_true_eq,<-anj];omega
theorem MJ {n:Int} {ps sts:List (Int×Int)} {l r:Tm} {ms:List Ty} (hp:ps.length<=1000000) (qv:sts.length<=1000000) (hl:l.size<=1000000) (hm1:ms.length<=1000000000) (hm:∀x∈ms,x.size<=1000000000):∀(d:Nat) (t:Tm),t.size<=d->d<=1000000->
  ag Tryz.prog 13 [.agg [nI n,.sl (aB ps),.sl (aB sts)],lx l r ms,cB t] (nB (tD (Ji n ps sts l ms) t)):=by
 have Sz:Tm.sizes l.args<=1000000:=by have:=l.size_eq;omega
 have DL:=zC (l:=l) (r:=r) (ms:=ms) Sz;have hL:cn (gI l.args):=⟨amf (sS _) Sz,fun x hx=>amf (AF hx) Sz⟩;obtain⟨C,hC⟩:∃C,C=Ji n ps sts l ms:=⟨_,rfl⟩;rw[<-hC];have hCa:C.la=l.args:=by rw[hC];rfl
 intro d
 induction d with
 |zero=>intro t h;have:=t.size_pos;omega
 |succ d ih=>
  intro t h hd;have pU:=t.size_eq;have hta:=kA (t:=t) (by omega);have he:=RQ C t;rw[hCa] at he;refine U3 ⟨_,DL,_,eQ hL,ah.intro (fun h1=>?_) fun h1=>?_⟩
  ·rw[tr] at h1;rw[he,h1];rfl
  rw[tr] at h1;refine⟨_,eQ (t:=.mk [] t.kind t.index t.args) hL,ah.intro (fun h2=>?_) fun h2=>?_⟩
  ·rw[tr] at h2;rw[he,h2,h1];rfl
  rw[tr] at h2;rw[h1,h2,amP,amP] at he;rw[he];refine av.intro (fun k:Nat=>(((),(),(),(gI l.args).map Tm.enc,(k:Int),()),((n,aB ps,aB sts,()),(l.binds.map Ty.enc,l.kind,l.index,l.args.map Tm.enc,r.binds.map Ty.enc,r.kind,r.index,r.args.map Tm.enc,ms.map Ty.enc,()),(t.binds.map Ty.enc,t.kind,t.index,t.args.map Tm.enc,()),((),t.kind,t.index,t.args.map Tm.enc,()),()))) (fun k=>k<=t.args.length/\rj C t.args=rj C (t.args.drop k)) (fun k=>t.args.length-k) 0 rfl ⟨alE _,rfl⟩ ?_;intro k ⟨hk,hs⟩ again bw;dsimp only;refine ah.intro (fun h=>?_) fun h=>?_
  ·have ak:k<t.args.length:=by rw[alv] at h;simpa using h
   have bN:=Tm.aK (alG ak);have gK:=hta.1;rw[alC ak,rj] at hs;refine⟨by omega,by rw[alv];omega,_,_,_,_,Tm.aq ak,_,ih t.args[k] (by omega) (by omega),ah.intro (fun h=>?_) fun h=>?_⟩
   ·rw[hs,(by simpa using h:tD C t.args[k]=false),alP,amH]
   ·rw[(by simpa using h:tD C t.args[k]=true),alN] at hs;rw[aA (by omega)];exact bw (k+1) ⟨by omega,hs⟩ (by omega)
  ·have:t.args.length<=k:=by rw[alv] at h;simpa using h
   rw[alD this,rj] at hs;rw[hs,anq,hC,vi];refine ah.intro (fun h=>?_) fun h=>?_
   ·rw[if_pos (by simpa using h)]
   have k0:¬t.kind=0:=by simpa using h
   rw[if_neg k0];refine ah.intro (fun h=>?_) fun h=>?_
   ·have k2:t.kind=2:=by simpa using h
    rw[if_pos k2,Cx.var];have bad:¬(0<=t.index/\t.index<(ms.length:Int))->nB false=nB (decide (0<=t.index/\t.index<((Ji n ps sts l ms).ms.length:Int))&&decide (nz 2 t.index ((Ji n ps sts l ms).ms.getD t.index.toNat (.mk [] 0))∈gI (Ji n ps sts l ms).la)):=fun h=>by
     rw[decide_eq_false (show ¬(0<=t.index/\t.index<((Ji n ps sts l ms).ms.length:Int)) from h),alP]
    refine ah.intro (fun h3=>ah.intro (fun h4=>?_) fun h4=>bad ?_) fun h3=>bad ?_
    ·have i0:0<=t.index:=by simpa using h3
     have i1:t.index<(ms.length:Int):=by rw[alv] at h4;simpa using h4
     obtain⟨m,Li⟩:∃m:Nat,t.index=m:=⟨t.index.toNat,by omega⟩;have M6:m<ms.length:=by omega
     have hg:(Ji n ps sts l ms).ms.getD t.index.toNat (.mk [] 0)=ms[m]:=by
      show ms.getD t.index.toNat (.mk [] 0)=ms[m];rw[Li,amA,amB,aly M6];rfl
     have et:=Iw (t:=ms[m]) (k:=t.kind) (i:=t.index) (hm _ (alG M6)) (fun e=>absurd e k0);rw[Ty.aC,<-bR] at et;refine⟨i0,by rw[alv];exact i1,_,_,by rw[Li];exact Ty.aq M6,_,_,_,_,et,_,eQ hL,?_⟩;rw[tr,hg,k2,decide_eq_true (show 0<=t.index/\t.index<((Ji n ps sts l ms).ms.length:Int) from⟨i0,i1⟩),alN];rfl
    ·rw[alv] at h4;have:¬t.index<(ms.length:Int):=by simpa using h4
     omega
    ·have:¬0<=t.index:=by simpa using h3
     omega
   have k2:¬t.kind=2:=by simpa using h
   rw[if_neg k2];refine ah.intro (fun h=>?_) fun h=>?_
   ·have k1:t.kind=1:=by simpa using h
    rw[if_pos k1];refine ah.intro (fun h3=>?_) fun h3=>?_
    ·have h5:¬l.kind=1:=by simpa using h3
     rw[if_neg (show ¬(Ji n ps sts l ms).fk=1 from h5)]
    ·have hf:l.kind=1:=by simpa using h3
     rw[if_pos (show (Ji n ps sts l ms).fk=1 from hf)];refine ah.intro (fun h4=>?_) fun h4=>?_
     ·have hi:t.index=l.index:=by
       have:t.kind=l.kind/\t.index=l.index:=by simpa using h4
       exact this.2
      rw[if_pos (show t.index=(Ji n ps sts l ms).fi from hi)];exact⟨_,C5 qv,_,GK (kA hl) hta,rfl⟩
     ·have hi:¬t.index=l.index:=fun e=>by
       rw[k1,hf,e] at h4;simp at h4
      rw[if_neg (show ¬t.index=(Ji n ps sts l ms).fi from hi)];exact⟨_,zD hp,rfl⟩
   ·rw[if_neg (by simpa using h)]
section
structure Lk where
 d:Int
 s:Int
 ka:Int
 kr:List AV
 od:Int
 ow:Int
 fe:List (ByteArray×Value)
def jk (R:Rk) (C:Cx) (v:Lk):Prop:=(v.d=0\/¬v.d=0/\v.kr=R.rows)/\¬v.od=0/\lJ C v.fe
def gF (R:Rk) (l:Tm) (ms:List Ty):Cx:=⟨l.kind,l.index,l.args,ms,R.pq,R.stat⟩
structure uA (l:Tm) (ms:List Ty):Prop where
 left:l.size<=1000000
 small:∀x∈ms,x.size<=1000
theorem uA.sizes {l:Tm} {ms:List Ty} (h:uA l ms):Tm.sizes l.args<=1000000:=by have:=l.size_eq;have:=h.left;omega
theorem uA.acc {l:Tm} {ms:List Ty} (h:uA l ms):cn (gI l.args):=⟨amf (sS _) h.sizes,fun x hx=>amf (AF hx) h.sizes⟩
theorem Si (C:Cx) (t:Tm):tD C t=(decide (t∈gI C.la)||(decide (Tm.mk [] t.kind t.index t.args∈gI C.la)||(vi C t.kind t.index t.args&&rj C t.args))):=by rw[RQ,Bool.or_assoc]
theorem Sj (C:Cx) (l:List Tm):(!decide (pt (fun t=>!tD C t) l 0>=0))=rj C l:=by
 rw[sT,RR]
 induction l with
 |nil=>rfl
 |cons t l ih=>rw[am7,amj,Bool.not_or,ih,Bool.not_not]
theorem K6 {p:Prop} (h:p):p/\(p/\p)/\(p/\p):=⟨h,⟨h,h⟩,⟨h,h⟩⟩
theorem Jj {t:Ty} {i:Int} (h:t.size<=1000):ag Tryz.prog 174 [.agg [nI 2,nI i],.agg [.sl (t.args.map Ty.enc),nI t.base]] (cB (nz 2 i t)):=by
 have et:=Ix t.size t 2 i (alA _) h (fun e=>absurd e (by decide))
 rwa [Ty.aC,<-bR] at et
abbrev WL (R:Rk) (l r:Tm) (ms:List Ty) (v:Lk):List af:=o5 R.ke R.n (aB R.ps) v.d 0 v.s v.kr v.ka R.kt v.fe (l.binds.map Ty.enc) l.kind l.index (l.args.map Tm.enc) (r.binds.map Ty.enc) r.kind r.index (r.args.map Tm.enc) (ms.map Ty.enc) ((gI l.args).map Tm.enc) v.od 0 v.ow
abbrev MK (R:Rk) (l r:Tm) (ms:List Ty) (v:Lk):List af:=su R.ke R.n (aB R.ps) v.d 0 v.s v.kr v.ka R.kt v.fe (l.binds.map Ty.enc) l.kind l.index (l.args.map Tm.enc) (r.binds.map Ty.enc) r.kind r.index (r.args.map Tm.enc) (ms.map Ty.enc) ((gI l.args).map Tm.enc) v.od 0 v.ow
abbrev GN (R:Rk) (l r:Tm) (ms:List Ty) (t:Tm) (v:Lk):List af:=q6 R.ke R.n (aB R.ps) v.d 0 v.s v.kr v.ka R.kt v.fe (l.binds.map Ty.enc) l.kind l.index (l.args.map Tm.enc) (r.binds.map Ty.enc) r.kind r.index (r.args.map Tm.enc) (ms.map Ty.enc) ((gI l.args).map Tm.enc) v.od 0 v.ow (t.binds.map Ty.enc) t.kind t.index (t.args.map Tm.enc)
abbrev Jk (om:Int) (m:AV) (R:Rk) (l r:Tm) (ms:List Ty) (v:Lk):List af:=[.aJ (.i R.ke),.box [nI R.n,.sl (aB R.ps),.mp 0,.ae (.int .u32 v.d),.ae (.int .i32 0),.ae (.int .u32 v.s),.sl v.kr,nI v.ka,.sl R.kt],.box [.sl (l.binds.map Ty.enc),nI l.kind,nI l.index,.sl (l.args.map Tm.enc),.sl (r.binds.map Ty.enc),nI r.kind,nI r.index,.sl (r.args.map Tm.enc),.sl (ms.map Ty.enc),.ptr 1 0,.sl ((gI l.args).map Tm.enc),.ae (.int .u32 v.od),.ae (.int .i32 om),.ae (.int .u32 v.ow),m]]
variable {R:Rk} {l r:Tm} {ms:List Ty}
theorem C6 (hp:uA l ms) {i:Int} (v:Lk):bH Tryz.prog 130 [.ptr 3 0,nI i] (WL R l r ms v) (fun x q=>x=nB (Cx.var (gF R l ms) i)/\q=WL R l r ms v):=by
 have bad:¬(0<=i/\i<(ms.length:Int))->nB false=nB ((gF R l ms).var i):=fun h=>by rw[Cx.var,decide_eq_false (show ¬(0<=i/\i<((gF R l ms).ms.length:Int)) from h),alP]
 refine B9 (ah.intro (fun h=>⟨bad ?_,rfl⟩) fun h1=>ah.intro (fun h=>⟨bad ?_,rfl⟩) fun h2=>?_)
 ·have:=of_decide_eq_true h;omega
 ·rw[alv] at h;have:=of_decide_eq_true h;omega
 ·have i0:0<=i:=by
   have:=of_decide_eq_false h1;omega
  have i1:i<(ms.length:Int):=by
   rw[alv] at h2;have:=of_decide_eq_false h2;omega
  obtain⟨m,Li⟩:∃m:Nat,i=m:=⟨i.toNat,by omega⟩;have M6:m<ms.length:=by omega
  have hg:(gF R l ms).ms.getD i.toNat (.mk [] 0)=ms[m]:=by
   show ms.getD i.toNat (.mk [] 0)=ms[m];rw[Li,amA,amB,aly M6];rfl
  refine⟨i0,by rw[alv];exact i1,_,_,by rw[Li];exact Ty.aq M6,_,_,_,_,Jj (hp.small _ (alG M6)),_,lr (t:=nz 2 i ms[m]) hp.acc,?_,rfl⟩;rw[Cx.var,hg,decide_eq_true (show 0<=i/\i<((gF R l ms).ms.length:Int) from⟨i0,i1⟩),alN];rfl
def tt (R:Rk) (l r:Tm) (ms:List Ty) (t:Tm):Prop:=∀v,jk R (gF R l ms) v->bH Tryz.prog 39 [.ptr 3 0,cB t] (WL R l r ms v) (fun x q=>x=nB (tD (gF R l ms) t)/\∃v',jk R (gF R l ms) v'/\q=WL R l r ms v')
theorem zE {t:Tm} {v:Lk} (hi:tt R l r ms t) (hv:jk R (gF R l ms) v):bH Tryz.prog 173 [cB t,.ptr 4 0] (MK R l r ms v) (fun x q=>x=nB (!tD (gF R l ms) t)/\∃v',jk R (gF R l ms) v'/\q=MK R l r ms v'):=
 zn ⟨_,hi v hv,fun x q ⟨e1,v',h1,e2⟩=>⟨_,_,_,_,_,_,_,_,_,_,_,_,_,_,_,_,_,_,_,_,_,_,_,_,⟨e1,e2⟩,rfl,v',h1,rfl⟩⟩
theorem C7 {ts:List Tm} {v:Lk} (hl:ts.length<=1000000) (hi:∀t∈ts,tt R l r ms t) (hv:jk R (gF R l ms) v):
  bH Tryz.prog 134 [.sl (ts.map Tm.enc),.aY 173 [.ptr 4 0]] (MK R l r ms v) (fun x q=>x=nI (pt (fun t=>!tD (gF R l ms) t) ts 0)/\∃v',jk R (gF R l ms) v'/\q=MK R l r ms v'):=by
 refine Cc (av.intro (fun p:Nat×Lk=>((ts.map Tm.enc,((),()),(ts.length:Int),(p.1:Int),()),(R.ke,(((R.n:Nat):Int),aB R.ps,(),p.2.d,0,p.2.s,p.2.kr,p.2.ka,R.kt,()),p.2.fe,(l.binds.map Ty.enc,l.kind,l.index,l.args.map Tm.enc,r.binds.map Ty.enc,r.kind,r.index,r.args.map Tm.enc,ms.map Ty.enc,(),(gI l.args).map Tm.enc,p.2.od,0,p.2.ow,(),()),((),()),()))) (fun p=>p.1<=ts.length/\jk R (gF R l ms) p.2/\pt (fun t=>!tD (gF R l ms) t) ts 0=pt (fun t=>!tD (gF R l ms) t) (ts.drop p.1) p.1) (fun p=>ts.length-p.1) (0,v) (by rw[alv];rfl) ⟨alE _,hv,rfl⟩ ?_);intro ⟨k,v⟩ ⟨hk,hv,hs⟩ again bw;dsimp only at hk hv hs ⊢;refine ah.intro (fun h=>?_) fun h=>?_
 ·have ak:k<ts.length:=by simpa using h
  rw[alC ak,pt] at hs;refine⟨by omega,by rw[alv];omega,_,_,_,_,Tm.aq ak,_,zE (hi _ (alG ak)) hv,fun x q ⟨e1,v',h1,e2⟩=>⟨_,_,_,_,_,_,_,_,_,_,_,_,_,_,_,_,_,_,_,_,_,_,_,_,⟨e1,e2⟩,ah.intro (fun h=>?_) fun h=>?_⟩⟩
  ·rw[if_pos h] at hs;exact⟨by rw[hs],v',h1,rfl⟩
  ·rw[if_neg (by rw[h];decide)] at hs;rw[aA (by omega)];exact bw (k+1,v') ⟨by dsimp only;omega,h1,hs⟩ (by dsimp only;omega)
 ·have:ts.length<=k:=by simpa using h
  rw[alD this] at hs;exact⟨by rw[hs];rfl,v,hv,rfl⟩
theorem C8 {ts:List Tm} {v:Lk} (hl:ts.length<=1000000) (hi:∀t∈ts,tt R l r ms t) (hv:jk R (gF R l ms) v):
  bH Tryz.prog 85 [.sl (ts.map Tm.enc),.aY 173 [.ptr 4 0]] (MK R l r ms v) (fun x q=>x=nB (decide (pt (fun t=>!tD (gF R l ms) t) ts 0>=0))/\∃v',jk R (gF R l ms) v'/\q=MK R l r ms v'):=
 Cd ⟨_,C7 hl hi hv,fun x q ⟨e1,v',h1,e2⟩=>⟨_,_,_,_,_,_,_,_,_,_,_,_,_,_,_,_,_,_,_,_,_,_,_,_,⟨e1,e2⟩,rfl,v',h1,rfl⟩⟩
theorem C9 {ts:List Tm} {v:Lk} (hl:ts.length<=1000000) (hi:∀t∈ts,tt R l r ms t) (hv:jk R (gF R l ms) v):
  bH Tryz.prog 129 [.ptr 3 0,.sl (ts.map Tm.enc)] (WL R l r ms v) (fun x q=>x=nB (rj (gF R l ms) ts)/\∃v',jk R (gF R l ms) v'/\q=WL R l r ms v'):=
 Ce ⟨_,C8 hl hi hv,fun x q ⟨e1,v',h1,e2⟩=>⟨_,_,_,_,_,_,_,_,_,_,_,_,_,_,_,_,_,_,_,_,_,_,_,_,⟨e1,e2⟩,by rw[Sj],v',h1,rfl⟩⟩
theorem zF (hp:uA l ms) (hR:R.Ok) (hk:∀c,∃n,Option.getD (aM R.ke c) (.int .i64 0)=.int .i64 n) {k i:Int} {a:List Tm} {v:Lk} (ha:cn a) (hi:∀t∈a,tt R l r ms t) (hv:jk R (gF R l ms) v):
  bH Tryz.prog 76 [.ptr 3 0,.agg [.ae (.slice none 0 0),nI k,nI i,.sl (a.map Tm.enc)]] (WL R l r ms v) (fun x q=>x=nB (vi (gF R l ms) k i a&&rj (gF R l ms) a)/\∃v',jk R (gF R l ms) v'/\q=WL R l r ms v'):=by
 have jo:=fun(v:Lk) (hv:jk R (gF R l ms) v)=>C9 ha.1 hi hv;have hh:vi (gF R l ms) k i a=(if k=0 then true else if k=2 then(gF R l ms).var i else if k=1 then(if l.kind=1 then(if i=l.index then vh (R.stat l.index) l.args a else R.pq l.index i) else false) else false):=rfl;refine zm (ah.intro (fun h=>?_) fun h=>ah.intro (fun h2=>?_) fun h2=>ah.intro (fun h3=>?_) fun h3=>?_)
 ·refine⟨_,jo v hv,fun x q ⟨e1,v',g1,e2⟩=>⟨_,_,_,_,_,_,_,_,_,_,_,_,_,_,_,_,_,_,_,_,_,_,_,_,⟨e1,e2⟩,?_,v',g1,rfl⟩⟩;rw[hh,if_pos (by simpa using h),alN]
 ·rw[if_neg (by simpa using h),if_pos (by simpa using h2)] at hh;refine⟨_,C6 hp v,fun x q ⟨e1,e2⟩=>⟨_,_,_,_,_,_,_,_,_,_,_,_,_,_,_,_,_,_,_,_,_,_,_,_,⟨e1,e2⟩,ah.intro (fun h3=>?_) fun h3=>⟨?_,v,hv,rfl⟩⟩⟩
  ·refine⟨_,jo v hv,fun x q ⟨e1,v',g1,e2⟩=>⟨_,_,_,_,_,_,_,_,_,_,_,_,_,_,_,_,_,_,_,_,_,_,_,_,⟨e1,e2⟩,?_,v',g1,rfl⟩⟩;rw[hh,h3,alN]
  ·rw[hh,h3,alP]
 ·have k1:k=1:=by simpa using h3
  rw[if_neg (by simpa using h),if_neg (by simpa using h2),if_pos k1] at hh;refine ah.intro (fun h4=>⟨?_,v,hv,rfl⟩) fun h4=>?_
  ·rw[hh,if_neg (by simpa using h4),alP]
  have l1:l.kind=1:=by simpa using h4
  rw[if_pos l1] at hh;refine ah.intro (fun h5=>?_) fun h5=>?_
  ·have hi:i=l.index:=by
    have:k=l.kind/\i=l.index:=by simpa using h5
    exact this.2
   rw[if_pos hi] at hh;refine⟨_,jo v hv,fun x q ⟨e1,v',g1,e2⟩=>⟨_,_,_,_,_,_,_,_,_,_,_,_,_,_,_,_,_,_,_,_,_,_,_,_,⟨e1,e2⟩,ah.intro (fun h6=>?_) fun h6=>?_⟩⟩
   ·refine K6 ⟨_,CN ⟨v'.d,v'.s,v'.ka,v'.kr,rfl,g1.1⟩ _ (hk _),fun x q ⟨e1,d2,s2,zv,zw,e2,g2⟩=>⟨_,_,_,_,_,_,_,_,_,_,⟨e1,e2⟩,_,IP (kA hp.left) ha,?_,⟨d2,s2,zv,zw,v'.od,v'.ow,v'.fe⟩,⟨g2,g1.2⟩,rfl⟩⟩;rw[hh,h6,anq]
   ·have e:nB false=nB (vi (gF R l ms) k i a&&rj (gF R l ms) a):=by rw[h6,amH]
    exact K6 ⟨e,v',g1,rfl⟩
  ·have hi:¬i=l.index:=fun e=>by
    rw[k1,l1,e] at h5;simp at h5
   rw[if_neg hi] at hh;refine⟨_,ve hR ⟨v.d,v.s,v.ka,v.kr,rfl,hv.1⟩ _ _,fun x q ⟨e1,d2,s2,zv,zw,e2,g2⟩=>⟨_,_,_,_,_,_,_,_,_,_,⟨e1,e2⟩,ah.intro (fun h6=>?_) fun h6=>⟨?_,⟨d2,s2,zv,zw,v.od,v.ow,v.fe⟩,⟨g2,hv.2⟩,rfl⟩⟩⟩
   ·refine⟨_,jo ⟨d2,s2,zv,zw,v.od,v.ow,v.fe⟩ ⟨g2,hv.2⟩,fun x q ⟨e1,v',g1,e2⟩=>⟨_,_,_,_,_,_,_,_,_,_,_,_,_,_,_,_,_,_,_,_,_,_,_,_,⟨e1,e2⟩,?_,v',g1,rfl⟩⟩;rw[hh,h6,alN]
   ·rw[hh,h6,alP]
 ·refine⟨?_,v,hv,rfl⟩;rw[hh,if_neg (by simpa using h),if_neg (by simpa using h2),if_neg (by simpa using h3),alP]
theorem tu (hp:uA l ms) (hR:R.Ok) (hk:∀c,∃n,Option.getD (aM R.ke c) (.int .i64 0)=.int .i64 n) {t:Tm} {v:Lk} (ha:cn t.args) (hi:∀u∈t.args,tt R l r ms u) (hv:jk R (gF R l ms) v):
  bH Tryz.prog 75 [.ptr 4 0,.ptr 5 0] (GN R l r ms t v) (fun x q=>x=nB (tD (gF R l ms) t)/\∃v',jk R (gF R l ms) v'/\q=GN R l r ms t v'):=by
 have gR:=fun(v:Lk) (hv:jk R (gF R l ms) v)=>zF (k:=t.kind) (i:=t.index) hp hR hk ha hi hv;have e:=Si (gF R l ms) t;change tD (gF R l ms) t=(decide (t∈gI l.args)||(decide (Tm.mk [] t.kind t.index t.args∈gI l.args)||(vi (gF R l ms) t.kind t.index t.args&&rj (gF R l ms) t.args))) at e;refine Cf ⟨_,lr (t:=t) hp.acc,ah.intro (fun h=>⟨?_,v,hv,rfl⟩) fun h=>ah.intro (fun h2=>?_) fun h2=>?_⟩
 ·rw[e,h];rfl
 ·refine⟨_,lr (t:=.mk [] t.kind t.index t.args) hp.acc,ah.intro (fun h3=>⟨?_,v,hv,rfl⟩) fun h3=>⟨_,gR v hv,fun x q ⟨e1,v',g1,e2⟩=>⟨_,_,_,_,_,_,_,_,_,_,_,_,_,_,_,_,_,_,_,_,_,_,_,_,⟨e1,e2⟩,?_,v',g1,rfl⟩⟩⟩
  ·rw[e,h3,amW,Bool.or_true]
  ·rw[e,h,h3];rfl
 ·have hb:t.binds=[]:=by
   cases hx:t.binds with
   |nil=>rfl
   |cons x y=>rw[hx] at h2;simp at h2
  have ht:Tm.mk [] t.kind t.index t.args=t:=by rw[<-hb];cases t;rfl
  refine⟨_,gR v hv,fun x q ⟨e1,v',g1,e2⟩=>⟨_,_,_,_,_,_,_,_,_,_,_,_,_,_,_,_,_,_,_,_,_,_,_,_,⟨e1,e2⟩,?_,v',g1,rfl⟩⟩;rw[e,ht,h];rfl
theorem GO {t:Tm} {v:Lk} (hi:∀v,jk R (gF R l ms) v->bH Tryz.prog 75 [.ptr 4 0,.ptr 5 0] (GN R l r ms t v) (fun x q=>x=nB (tD (gF R l ms) t)/\∃v',jk R (gF R l ms) v'/\q=GN R l r ms t v')) (hv:jk R (gF R l ms) v):
  bH Tryz.prog 73 [.ptr 3 11,nS (oa t),.aY 75 [.ptr 4 0,.ptr 5 0]] (GN R l r ms t v) (fun x q=>x=nB (tD (gF R l ms) t)/\∃v',jk R (gF R l ms) v'/\q=GN R l r ms t v'):=by
 refine Fw ⟨_,po (q:=3) (off:=11) (f:=121) (caps:=[.ptr 4 0]) (H:=WL R l r ms v++[.box [.ptr 3 11]]) (d:=v.od) rfl rfl hv.2.1,?_⟩
 rintro x q ⟨rfl,rfl⟩
 cases hg:aM v.fe (oa t) with
 |none=>
  refine⟨_,_,_,_,_,_,_,_,_,_,_,_,_,_,_,_,_,_,_,_,_,_,_,⟨rfl,rfl⟩,by rw[hg];rfl,ah.pos (by rw[hg];rfl) ⟨_,hi v hv,fun x q ⟨e1,v',g1,e2⟩=>⟨_,_,_,_,_,_,_,_,_,_,_,_,_,_,_,_,_,_,_,_,_,_,_,_,_,_,_,_,⟨e1,e2⟩,rfl,⟨v'.d,v'.s,v'.ka,v'.kr,v'.od,v'.ow,bU v'.fe (oa t) (.bool (tD (gF R l ms) t))⟩,⟨g1.1,g1.2.1,g1.2.2.put⟩,rfl⟩⟩⟩
 |some u=>
  have hu:=lJ.get hv.2.2 hg;refine⟨_,_,_,_,_,_,_,_,_,_,_,_,_,_,_,_,_,_,_,_,_,_,_,⟨rfl,rfl⟩,by rw[hg,hu];rfl,ah.neg (by rw[hg];rfl) ⟨by rw[hg,hu];rfl,v,hv,rfl⟩⟩
theorem GQ (hp:uA l ms) (hR:R.Ok) (hk:∀c,∃n,Option.getD (aM R.ke c) (.int .i64 0)=.int .i64 n):∀(n:Nat) (t:Tm),t.size<=n->n<1000000->t.kP->tt R l r ms t:=by
 intro n
 induction n with
 |zero=>intro t h;have:=t.size_pos;omega
 |succ n ih=>
  intro t h hn IA v hv;have pU:=t.size_eq;have aF:∀u∈t.args,tt R l r ms u:=fun u hu=>ih u (by have:=Tm.aK hu;omega) (by omega) (Tm.nA (Tm.ye IA).2.2.2 _ hu);exact Fx ⟨_,yQ (by omega) IA,_,GO (fun v hv=>tu hp hR hk (kA (by omega)) aF hv) hv,fun x q ⟨e1,v',g1,e2⟩=>⟨_,_,_,_,_,_,_,_,_,_,_,_,_,_,_,_,_,_,_,_,_,_,_,_,_,_,_,_,⟨e1,e2⟩,rfl,v',g1,rfl⟩⟩
abbrev XY (R:Rk) (l r:Tm) (ms:List Ty) (t:Tm) (v:Lk):List af:=Jk 0 (.mp 6) R l r ms v++[.box [.ptr 2 0],.box [.sl (t.binds.map Ty.enc),nI t.kind,nI t.index,.sl (t.args.map Tm.enc)],.box [.ptr 2 11],.aJ (.s v.fe)]
theorem Da {v:Lk}:bH Tryz.prog 121 [.ptr 3 0] (Jk 1 (.ae (.map none)) R l r ms v++[.box [.ptr 2 11]]) (fun x q=>x=.aL []/\q=Jk 1 (.mp 4) R l r ms v++[.box [.ptr 2 11],.aJ (.s [])]):=
 Cg ⟨rfl,rfl⟩
theorem Db {t:Tm} {v:Lk} (hi:∀v,jk R (gF R l ms) v->bH Tryz.prog 75 [.ptr 4 0,.ptr 5 0] (GN R l r ms t v) (fun x q=>x=nB (tD (gF R l ms) t)/\∃v',jk R (gF R l ms) v'/\q=GN R l r ms t v')) (hv:v.od=0) (hd:v.d=0\/¬v.d=0/\v.kr=R.rows):
  bH Tryz.prog 73 [.ptr 2 11,nS (oa t),.aY 75 [.ptr 3 0,.ptr 4 0]] (Jk 0 (.ae (.map none)) R l r ms v++[.box [.ptr 2 0],.box [.sl (t.binds.map Ty.enc),nI t.kind,nI t.index,.sl (t.args.map Tm.enc)]]) (fun x q=>x=nB (tD (gF R l ms) t)/\∃v',jk R (gF R l ms) v'/\q=XY R l r ms t v'):=by
 obtain⟨d,s,ka,kr,od,ow,fe⟩:=v;dsimp only at hv hd;subst hv;refine Ch ⟨_,pn (q:=2) (off:=11) (f:=121) (caps:=[.ptr 3 0]) (H:=Jk 0 (.ae (.map none)) R l r ms ⟨d,s,ka,kr,0,ow,fe⟩++[.box [.ptr 2 11]])
  (R:=fun x q=>x=.aL []/\q=Jk 1 (.mp 4) R l r ms ⟨d,s,ka,kr,0,ow,fe⟩++[.box [.ptr 2 11],.aJ (.s [])]) rfl rfl rfl (by exact Da (v:=⟨d,s,ka,kr,0,ow,fe⟩)) (fun x q ⟨e1,e2⟩=>by subst e2;exact⟨e1,_,rfl,rfl,rfl⟩),?_⟩
 rintro x q ⟨rfl,h,cs',⟨-,rfl⟩,hq,rfl⟩
 cases hq;have hv:jk R (gF R l ms) ⟨d,s,ka,kr,1,ow,[]⟩:=⟨hd,Int.one_ne_zero,lJ.nil _⟩;exact⟨_,_,_,_,_,_,_,_,_,_,_,_,_,_,_,_,_,_,_,_,_,_,_,⟨rfl,rfl⟩,rfl,ah.pos rfl ⟨_,hi _ hv,fun x q ⟨e1,v',g1,e2⟩=>⟨_,_,_,_,_,_,_,_,_,_,_,_,_,_,_,_,_,_,_,_,_,_,_,_,_,_,_,_,⟨e1,e2⟩,rfl,⟨v'.d,v'.s,v'.ka,v'.kr,v'.od,v'.ow,bU v'.fe (oa t) (.bool (tD (gF R l ms) t))⟩,⟨g1.1,g1.2.1,g1.2.2.put⟩,rfl⟩⟩⟩
theorem Dc (hp:uA l ms) (hR:R.Ok) (hk:∀c,∃n,Option.getD (aM R.ke c) (.int .i64 0)=.int .i64 n) {t:Tm} {v:Lk} (ht:t.size<900000) (IA:t.kP) (hv:v.od=0) (hd:v.d=0\/¬v.d=0/\v.kr=R.rows):
  bH Tryz.prog 39 [.ptr 2 0,cB t] (Jk 0 (.ae (.map none)) R l r ms v) (fun x q=>x=nB (tD (gF R l ms) t)/\∃v',jk R (gF R l ms) v'/\q=XY R l r ms t v'):=by
 have pU:=t.size_eq;have aF:∀u∈t.args,tt R l r ms u:=fun u hu=>GQ hp hR hk 900000 u (by have:=Tm.aK hu;omega) (by omega) (Tm.nA (Tm.ye IA).2.2.2 _ hu);exact Ci ⟨_,yQ (by omega) IA,_,Db (fun v hv=>tu hp hR hk (kA (by omega)) aF hv) hv hd,fun x q ⟨e1,v',g1,e2⟩=>⟨_,_,_,_,_,_,_,_,_,_,_,_,_,_,_,_,_,_,_,_,_,_,_,_,_,_,_,_,⟨e1,e2⟩,rfl,v',g1,rfl⟩⟩
theorem Jl (hp:uA l ms) (hR:R.Ok) (hk:∀c,∃n,Option.getD (aM R.ke c) (.int .i64 0)=.int .i64 n) {t:Tm} (ht:t.size<900000) (IA:t.kP) {h:List af} (hs:vT R h):
  bH Tryz.prog 10 [.ptr 1 0,lx l r ms,cB t] h (fun x q=>x=nB (tD (gF R l ms) t)/\vT R q):=by
 obtain⟨d,s,ka,kr,rfl,hd⟩:=hs;exact H8 ⟨_,CQ hp.sizes,_,Dc hp hR hk (v:=⟨d,s,ka,kr,0,0,[]⟩) ht IA rfl hd,fun x q ⟨e1,v',g1,e2⟩=>⟨_,_,_,_,_,_,_,_,_,_,_,_,_,_,_,_,_,_,_,_,_,_,_,_,_,_,_,_,⟨e1,e2⟩,rfl,v'.d,v'.s,v'.ka,v'.kr,rfl,g1.1⟩⟩
end
def qI (C:Cx) (b:Int) (c ms:List Ty) (l r:Tm):Int:=if lH b c ms l r=0 then(if tD C r=true then 0 else 8) else lH b c ms l r
theorem ry {R:Rk} {b:Int} {c m0 ms:List Ty} {l r:Tm} {h:List af} (hR:R.Ok) (hk:∀c,∃n,Option.getD (aM R.ke c) (.int .i64 0)=.int .i64 n) (ht:px c ms l r) (hp:uA l ms) (hr:r.size<900000) (IA:r.kP) (hs:vT R h):
  bH Tryz.prog 27 [.agg [nI b,.sl (c.map Ty.enc),.sl (m0.map Ty.enc)],.ptr 1 0,lx l r ms] h (fun x q=>x=nI (qI (gF R l ms) b c ms l r)/\vT R q):=by
 obtain⟨d,s,ka,kr,rfl,hd⟩:=hs;refine VL ⟨_,sX ht,ah.intro (fun g=>⟨?_,d,s,ka,kr,rfl,hd⟩) fun g=>⟨_,Jl hp hR hk hr IA ⟨d,s,ka,kr,rfl,hd⟩,fun x q ⟨e1,d2,s2,zv,zw,e2,vJ⟩=>⟨_,_,_,_,_,_,_,_,_,_,⟨e1,e2⟩,ah.intro (fun g'=>⟨?_,d2,s2,zv,zw,rfl,vJ⟩) fun g'=>⟨?_,d2,s2,zv,zw,rfl,vJ⟩⟩⟩⟩
 ·rw[qI,if_neg (by simpa using g)]
 ·rw[qI,if_pos (by simpa using g),if_neg (by simpa using g')]
 ·rw[qI,if_pos (by simpa using g),if_pos (by simpa using g')]
def kT (i:Int) (l:List Tm):Tm:=.mk [] 1 i l
def mT (i:Int):Tm:=.mk [] 2 i []
def WM:Ty:=.mk [] 0
def csK:List Ty:=[.mk [WM] 0,.mk [WM,WM] 0]
def WN:List Ty:=[WM,WM]
def lK:Tm:=kT 1 [kT 0 [mT 0],mT 1]
def rK:Tm:=kT 0 [kT 1 [mT 0,mT 1]]
def lQ:Tm:=kT 1 [mT 0,mT 1]
def rQ:Tm:=kT 1 [mT 1,mT 0]
def SK:Rk:=eu 2 [(1,0)] []
theorem Z4 (n:Int) (h1 : -100<=n) (h2:n<=100):jm n:=by unfold jm;omega
theorem XZ:wC 2 [(1,0)] []:=⟨⟨by omega,by decide,by kernel_rfl,rfl,fun j hj=>by simp at hj⟩,fun c hc=>by
 match c,hc with
 |0,_=>
  show (eu 2 [(1,0)] []).pq ((0:Nat):Int) ((0:Nat):Int)=false
  kernel_rfl
 |1,_=>
  show (eu 2 [(1,0)] []).pq ((1:Nat):Int) ((1:Nat):Int)=false
  kernel_rfl
 |c+2,hc=>omega⟩
theorem jl (i:Int) (l:List AV):ag Tryz.prog 36 [nI i,.sl l] (.agg [.sl [],nI 1,nI i,.sl l]):=VP rfl
theorem eL (i:Int):ag Tryz.prog 37 [nI i] (.agg [.sl [],nI 2,nI i,.sl []]):=VQ rfl
theorem adK {l r:Tm} (h1:l.size<=100) (h2:r.size<=100) (lo:l.Ok) (ro:r.Ok):px csK WN l r:=⟨by decide,by decide,by decide,by omega,by omega,lo,ro⟩
theorem paK {l:Tm} (h:l.size<=100):uA l WN:=⟨by omega,fun x hx=>by
 have:x=WM:=by simpa [WN] using hx
 subst this;decide⟩
theorem okT {k i:Int} {l:List Tm} (h1:jm k) (h2:jm i) (h:Tm.L4 l):(Tm.mk [] k i l).Ok:=⟨h1,h2,h⟩
theorem adL {k i:Int} {l:List Tm} (h1:jm k) (h2:jm i) (h:Tm.im l):(Tm.mk [] k i l).kP:=⟨True.intro,h1,h2,h⟩
theorem GR (i:Int) (h:jm i):(mT i).Ok:=okT (Z4 _ (by decide) (by decide)) h True.intro
theorem m0n (i:Int) (h:jm i):(mT i).kP:=adL (Z4 _ (by decide) (by decide)) h True.intro
theorem Z5 (i:Int) (h:jm i) {l:List Tm} (hl:Tm.L4 l):(kT i l).Ok:=okT (Z4 _ (by decide) (by decide)) h hl
theorem kn (i:Int) (h:jm i) {l:List Tm} (hl:Tm.im l):(kT i l).kP:=adL (Z4 _ (by decide) (by decide)) h hl
theorem cp:ag Tryz.prog 9 [] (nB true):=by
 have i0:=Z4 0 (by decide) (by decide);have i1:=Z4 1 (by decide) (by decide);have oks:∀{t u:Tm},t.Ok->u.Ok->Tm.L4 [t,u]:=fun h1 h2=>⟨h1,h2,True.intro⟩;have ns:∀{t u:Tm},t.kP->u.kP->Tm.im [t,u]:=fun h1 h2=>⟨h1,h2,True.intro⟩;have o1:lK.Ok:=Z5 1 i1 (oks (Z5 0 i0 ⟨GR 0 i0,True.intro⟩) (GR 1 i1));have o2:rK.Ok:=Z5 0 i0 ⟨Z5 1 i1 (oks (GR 0 i0) (GR 1 i1)),True.intro⟩;have o3:lQ.Ok:=Z5 1 i1 (oks (GR 0 i0) (GR 1 i1));have o4:rQ.Ok:=Z5 1 i1 (oks (GR 1 i1) (GR 0 i0));have n2:rK.kP:=kn 0 i0 ⟨kn 1 i1 (ns (m0n 0 i0) (m0n 1 i1)),True.intro⟩;have n4:rQ.kP:=kn 1 i1 (ns (m0n 1 i1) (m0n 0 i0));have a1:=CF 0;have a2:ag Tryz.prog 35 [nI 0,.sl [.agg [.sl [],nI 0]]] (.agg [.sl [.agg [.sl [],nI 0]],nI 0]):=nx (l:=[WM]) (by decide);have a3:ag Tryz.prog 35 [nI 0,.sl [.agg [.sl [],nI 0],.agg [.sl [],nI 0]]] (.agg [.sl [.agg [.sl [],nI 0],.agg [.sl [],nI 0]],nI 0]):=nx (l:=[WM,WM]) (by decide);have hN:=Sc (n:=2) (ps:=[(1,0)]) (sts:=[]) (by decide) (by decide) XZ;have d1:qI (gF SK lK WN) 1 csK WN lK rK=0:=by kernel_rfl
 have d2:qI (gF SK lQ WN) 1 csK WN lQ rQ=8:=by kernel_rfl
 have v1:=nG (a:=kT 0 [kT 0 [mT 0]]) (b:=mT 0) (by decide);have v2:=nG (a:=mT 0) (b:=mT 0) (by decide);have w1:jh (kT 0 [kT 0 [mT 0]]) (mT 0)=true:=by kernel_rfl
 have w2:jh (mT 0) (mT 0)=false:=by kernel_rfl
 rw[w1] at v1;rw[w2] at v2;have hk:∀c,∃n,Option.getD (aM SK.ke c) (.int .i64 0)=.int .i64 n:=rq [];have hR:SK.Ok:=XZ.1.ok;have wN:dK [nI 2,.clip [.agg [nI 1,nI 0]],.ae (.slice none 0 0)] [nI 2,.sl (aB [(1,0)]),.sl (aB [])]:=⟨dc.refl _,pR _,ic,True.intro⟩;have wD:∀a b c d e f g h cs ms,dK [.agg [nI 1,.clip cs,.ae (.slice none 0 0)],.ptr 1 0,.agg [a,b,c,d,e,f,g,h,.clip ms]] [.agg [nI 1,.sl cs,.sl []],.ptr 1 0,.agg [a,b,c,d,e,f,g,h,.sl ms]]:=fun a b c d e f g h cs ms=>
  ⟨.agg ⟨dc.refl _,pR _,ic,True.intro⟩,dc.refl _,.agg ⟨dc.refl _,dc.refl _,dc.refl _,dc.refl _,dc.refl _,dc.refl _,dc.refl _,dc.refl _,pR _,True.intro⟩,True.intro⟩
 refine Zn ⟨_,_,a1,_,_,a2,_,_,a3,_,bH.xE wN hN,fun x q ⟨e1,i,d,s,ka,kr,e2,hd⟩=>.inr (.inr (.inr ⟨_,_,_,_,_,_,_,_,_,_,⟨e1,e2⟩,?_⟩))⟩;refine⟨_,_,_,_,eL 0,_,_,_,_,jl 0 _,_,_,_,_,eL 1,_,_,_,_,jl 1 _,_,_,_,_,eL 0,_,_,_,_,eL 1,_,_,_,_,jl 1 _,_,_,_,_,jl 0 _,?_⟩;refine⟨_,_,_,_,eL 0,_,_,_,_,eL 1,_,_,_,_,jl 1 _,_,_,_,_,eL 1,_,_,_,_,eL 0,_,_,_,_,jl 1 _,?_⟩;have D1:=ry (R:=SK) (b:=1) (c:=csK) (m0:=[]) (ms:=WN) (l:=lK) (r:=rK) (h:=eh (gu []) 2 (aB [(1,0)]) d 0 s kr ka (aB [])) hR hk (adK (by decide) (by decide) o1 o2) (paK (by decide)) (by decide) n2 ⟨d,s,ka,kr,rfl,hd⟩;rw[d1] at D1;refine⟨_,bH.xE (wD _ _ _ _ _ _ _ _ _ _) D1,fun x q ⟨e1,d',s',ka',kr',e2,dv⟩=>⟨_,_,_,_,_,_,_,_,_,_,⟨e1,e2⟩,ah.pos rfl ?_⟩⟩;have D2:=ry (R:=SK) (b:=1) (c:=csK) (m0:=[]) (ms:=WN) (l:=lQ) (r:=rQ) (h:=eh SK.ke SK.n (aB SK.ps) d' 0 s' kr' ka' SK.kt) hR hk (adK (by decide) (by decide) o3 o4) (paK (by decide)) (by decide) n4 ⟨d',s',ka',kr',rfl,dv⟩;rw[d2] at D2;exact⟨_,bH.xE (wD _ _ _ _ _ _ _ _ _ _) D2,fun x q ⟨e1,d',s',ka',kr',e2,dv⟩=>⟨_,_,_,_,_,_,_,_,_,_,⟨e1,e2⟩,ah.pos rfl ⟨_,_,_,_,eL 0,_,_,_,_,jl 0 _,_,_,_,_,jl 0 _,_,_,_,_,eL 0,_,v1,ah.pos rfl ⟨_,_,_,_,eL 0,_,_,_,_,eL 0,_,v2,rfl⟩⟩⟩⟩
structure Pa where
 l:Tm
 r:Tm
 ms:List Ty
abbrev Pa.enc (p:Pa):AV:=lx p.l p.r p.ms
def Pa.fL (p:Pa):Bool:=[p.l,p.r].all (Tm.iu 150 70)&&(jt [] [] p.ms&&Tm.pf [p.l,p.r])
structure Pa.Sm (p:Pa):Prop where
 l1:p.l.size<=150
 r1:p.r.size<=150
 m1:p.ms.length<=20
 m2:∀x∈p.ms,x.size<=60
theorem Pa.Sk {p:Pa} (h:p.fL=true):p.Sm:=by
 simp only[Pa.fL,alB,amj,List.all_nil] at h;obtain⟨⟨h1,h2,_⟩,h3,_⟩:=h;simp only[jt,alB,decide_eq_true_eq,amq,alK] at h3;exact⟨Tm.gD h1,Tm.gD h2,h3.1.2.2,fun x hx=>Ty.gD (h3.2 x hx)⟩
theorem Pa.Sm.WO {p:Pa} (h:p.Sm):Ty.sizes p.ms<=1200:=by
 have:∀l:List Ty,(∀x∈l,x.size<=60)->Ty.sizes l<=l.length*60:=by
  intro l
  induction l with
  |nil=>intro _;exact alA _
  |cons x l ih=>
   intro hx;have h1:=hx x alS;have h2:=ih fun y hy=>hx y (alR _ hy);simp only[Ty.sizes,alJ];omega
 have:=this p.ms h.m2;have:=h.m1;omega
theorem Pa.getD {l:List Pa} {k:Nat} (h:k<l.length):List.getD (l.map Pa.enc) (Int.toNat (k:Int)) .top=l[k].enc:=getD_map h
theorem pC {ps:List Pa} (hl:ps.length<=1000):ag Tryz.prog 7 [.sl (ps.map Pa.enc)] (nB (ps.all Pa.fL)):=by
 refine Zq (av.intro (fun k:Nat=>((ps.map Pa.enc,(k:Int),()),())) (fun k=>k<=ps.length/\ps.all Pa.fL=(ps.drop k).all Pa.fL) (fun k=>ps.length-k) 0 rfl ⟨alE _,rfl⟩ ?_);intro k ⟨hk,hs⟩ again bw;dsimp only;refine ah.intro (fun h=>?_) fun h=>?_
 ·have ak:k<ps.length:=by simpa using h
  have b:(0:Int)<=k/\(k:Int)<((List.length (ps.map Pa.enc):Nat):Int):=⟨by omega,by rw[alv];omega⟩;rw[alC ak,amj] at hs;generalize hp:ps[k]=p at hs;have hg:=Pa.getD ak;rw[hp] at hg;have f1:ag Tryz.prog 32 [.sl [cB p.l,cB p.r]] (nB ([p.l,p.r].all (Tm.iu 150 70))):=by
   have:=L7 (l:=[p.l,p.r]) (by simp)
   rwa [al3,al3,aml,<-bR,<-bR] at this
  have f2:=lj 0 [] [] p.ms;refine⟨b.1,b.2,_,_,_,_,_,_,_,_,_,hg,b.1,b.2,_,_,_,_,_,_,_,_,_,hg,_,f1,ah.intro (fun h=>?_) fun h=>⟨b.1,b.2,_,_,_,_,_,_,_,_,_,hg,_,f2,ah.intro (fun h'=>?_) fun h'=>?_⟩⟩
  ·have:[p.l,p.r].all (Tm.iu 150 70)=false:=by simpa only[ame] using h
   rw[hs,Pa.fL,this];rfl
  ·have:jt [] [] p.ms=false:=by simpa using h'
   rw[hs,Pa.fL,this,alP,amH];rfl
  have g1:[p.l,p.r].all (Tm.iu 150 70)=true:=by simpa only[amL] using h
  have g2:jt [] [] p.ms=true:=by simpa using h'
  have gs:=g1;simp only[amj,List.all_nil,alB] at gs;have z1:=Tm.gD gs.1;have z2:=Tm.gD gs.2.1;have f3:ag Tryz.prog 33 [.sl [cB p.l,cB p.r]] (nB (Tm.pf [p.l,p.r])):=by
   have:=L9 300 [p.l,p.r] (by simp only[Tm.sizes];omega) (by decide)
   rwa [al3,al3,aml,<-bR,<-bR] at this
  refine⟨b.1,b.2,_,_,_,_,_,_,_,_,_,hg,b.1,b.2,_,_,_,_,_,_,_,_,_,hg,_,f3,ah.intro (fun h=>?_) fun h=>?_⟩
  ·have:Tm.pf [p.l,p.r]=false:=by simpa using h
   rw[hs,Pa.fL,this,amH,amH];rfl
  ·have:Tm.pf [p.l,p.r]=true:=by simpa using h
   rw[Pa.fL,g1,g2,this] at hs;rw[aA (by omega)];exact bw (k+1) ⟨by omega,hs⟩ (by omega)
 ·have:ps.length<=k:=by simpa using h
  rw[alD this] at hs;rw[hs];rfl
theorem X0 {t:Tm} (h:t.size<=1000000000):ag Tryz.prog 12 [cB t] (cB t):=by
 have:=Ip _ t (alA _) h
 rwa [<-bR] at this
theorem A1 {p:Pa} (h:p.Sm):ag Tryz.prog 11 [p.enc] p.enc:=by
 have h1:=h.l1;have h2:=h.r1;have h3:=h.WO;exact VX ⟨_,_,_,_,X0 (t:=p.l) (by omega),_,_,_,_,X0 (t:=p.r) (by omega),_,lf (by omega),rfl⟩
theorem WQ {n:Int} {ps sts:List (Int×Int)} (h:mN n ps sts) (l:Tm) (ms:List Ty):gF (eu n ps sts) l ms=Ji n ps sts l ms:=by
 have hn:=h.1;have e:(((eu n ps sts).n:Nat):Int)=n:=by simp only[eu];omega
 unfold Ji gF
 congr 1
 ·funext a b
  rw[Rk.Se h.ok,e];rfl
 ·funext c
  exact WK h c
def ahK (n:Int) (ps sts:List (Int×Int)) (q:List af):Prop:=(∃i,q=ZM n ps sts [.box [nI i],.box [.aY 63 [.ptr 3 0]]]++[.dead,.dead])\/
 (∃i m a l b c d e l3,q=ZM n ps sts [.box [nI i],.box [.aY 63 [.ptr 3 0]],.aJ (.i m),.box [nI a,.sl l,.mp 5,.ae (.int .u32 b),.ae (.int .i32 c),.ae (.int .u32 d),.ae (.slice none 0 0),nI e,.sl l3]])\/
 ∃i m a l b c d l2 e l3,q=ZM n ps sts [.box [nI i],.box [.aY 63 [.ptr 3 0]],.aJ (.i m),.box [nI a,.sl l,.mp 5,.ae (.int .u32 b),.ae (.int .i32 c),.ae (.int .u32 d),.sl l2,nI e,.sl l3]]
def ToP (n:Int) (ps sts:List (Int×Int)) (r:AV) (q:List af):Prop:=
 (∃e:Int,¬e=0/\r=.aL [.ae (.pointer none),tq n ps sts,nI e]/\ahK n ps sts q)\/(mN n ps sts/\r=.aL [.ptr 6 0,tq n ps sts,nI 0]/\XX n ps sts q)
theorem GU {n:Int} {ps sts:List (Int×Int)}:bH Tryz.prog 6 [tq n ps sts] [] (ToP n (ps.take 40) (sts.take 20)):=
 bH.pad Jh fun r q h=>by
  rcases h with⟨e,he,h1,h2⟩|h
  ·rcases h2 with⟨i,rfl⟩|h2|h2
   ·exact⟨2,.inl ⟨e,he,h1,.inl ⟨i,rfl⟩⟩⟩
   ·exact⟨0,.inl ⟨e,he,h1,.inr (.inl (by rw[anA,alV];exact h2))⟩⟩
   ·exact⟨0,.inl ⟨e,he,h1,.inr (.inr (by rw[anA,alV];exact h2))⟩⟩
  ·exact⟨0,.inr (by rw[anA,alV];exact h)⟩
mutual
theorem Tm.nM:∀{t:Tm},t.kP->t.Ok
 | .mk _ _ _ _,h=>⟨h.2.1,h.2.2.1,Tm.GV h.2.2.2⟩
theorem Tm.GV:∀{l:List Tm},Tm.im l->Tm.L4 l
 | [],_=>True.intro
 |_::_,h=>⟨Tm.nM h.1,Tm.GV h.2⟩
end
theorem X1 {t:Tm} (h:t.size<=1000000000):ag Tryz.prog 46 [cB t] (cB t):=by
 have:=Iq _ t (alA _) h
 rwa [<-bR] at this
theorem K7 {t u:Tm} (h:t.size<=1000000000):ag Tryz.prog 45 [cB t,cB u] (nB (Tm.same t u)):=by
 have:=lg _ t u (alA _) h
 rwa [<-bR,<-bR] at this
section
structure mR (c:List Ty) (p:Pa):Prop where
 l1:p.l.size<=150
 r1:p.r.size<=150
 m1:p.ms.length<=300
 m2:∀x∈p.ms,x.size<=60
 ln:p.l.kP
 rn:p.r.kP
 c1:c.length<=20
 c2:∀x∈c,x.size<=60
theorem tv:∀l:List Ty,(∀x∈l,x.size<=60)->Ty.sizes l<=l.length*60
 | [],_=>alA _
 |x::l,hx=>by
  have h1:=hx x alS;have h2:=tv l fun y hy=>hx y (alR _ hy);simp only[Ty.sizes,alJ];omega
variable {c:List Ty} {p q:Pa}
theorem mR.WO (h:mR c p):Ty.sizes p.ms<=18000:=by have:=tv _ h.m2;have:=h.m1;omega
theorem mR.Aw (h:mR c p):px c p.ms p.l p.r:=by
 have h1:=h.c1;have h2:=h.m1;have h3:=tv _ h.c2;have h4:=h.WO;have h5:=h.l1;have h6:=h.r1;exact⟨by omega,by omega,by rw[Ty.bQ];omega,by omega,by omega,Tm.nM h.ln,Tm.nM h.rn⟩
theorem mR.pok (h:mR c p):uA p.l p.ms:=⟨by have:=h.l1;omega,fun x hx=>by have:=h.m2 x hx;omega⟩
def Pa.swap (p:Pa):Pa:=⟨p.r,p.l,p.ms⟩
theorem mR.swap (h:mR c p):mR c p.swap:=⟨h.r1,h.l1,h.m1,h.m2,h.rn,h.ln,h.c1,h.c2⟩
def Pa.Dd (p:Pa):Bool:=mM (oo p.l p.r) p.ms
def Pa.own (p:Pa):Pa:=⟨iK (oo p.l p.r) p.l,iK (oo p.l p.r) p.r,rp (oo p.l p.r) p.ms⟩
theorem mR.own (h:mR c p):mR c p.own:=by
 have hu:=yL p.l p.r;have h1:=h.l1;have h2:=h.r1;refine⟨by rw[Pa.own,mK];exact h1,by rw[Pa.own,mK];exact h2,by rw[Pa.own,rp,alv];omega,fun x hx=>?_,yA _ _ (by omega) h.ln,yA _ _ (by omega) h.rn,h.c1,h.c2⟩;obtain⟨m,_,rfl⟩:=amz.1 hx;rw[amB]
 cases hg:p.ms[m.toNat]? with
 |none=>decide
 |some y=>exact h.m2 y (alF hg)
def nN:Pa:=⟨CZ,CZ,[]⟩
def rz (p q:Pa):Bool:=Tm.same p.l q.l&&(Tm.same p.r q.r&&Ty.bA p.ms q.ms)
theorem A2 (p:Pa):rz p p=true:=by rw[rz,Tm.mD,Tm.mD,(Ty.gC _ _).2 rfl];rfl
abbrev Pa.WR (b:Int) (c:List Ty) (p:Pa):Int:=lH b c p.ms p.l p.r
theorem adM (h:mR c p) (ho:p.Dd=true):ag Tryz.prog 97 [p.enc] (.aL [p.own.enc,nI 0]):=by
 have:=yN (l:=p.l) (r:=p.r) (ms:=p.ms) (by have:=h.l1;omega) (by have:=h.r1;omega) (by have:=h.WO;omega) (Tm.nM h.ln) (Tm.nM h.rn)
 rwa [ta,if_pos (show mM _ _=true from ho)] at this
theorem adN (h:mR c p) (ho:¬p.Dd=true):ag Tryz.prog 97 [p.enc] (.aL [nN.enc,nI 10]):=by
 have:=yN (l:=p.l) (r:=p.r) (ms:=p.ms) (by have:=h.l1;omega) (by have:=h.r1;omega) (by have:=h.WO;omega) (Tm.nM h.ln) (Tm.nM h.rn)
 rwa [ta,if_neg (show ¬mM _ _=true from ho)] at this
theorem Sl (h:mR c p) (ho:p.Dd=true):ag Tryz.prog 104 [p.enc] (.aL [p.own.enc,nB true]):=by
 have:=yM (l:=p.l) (r:=p.r) (ms:=p.ms) (by have:=h.l1;omega) (by have:=h.r1;omega) (by have:=h.m1;omega)
 rwa [ta,if_pos (show mM _ _=true from ho)] at this
theorem Sn (h:mR c p) (ho:¬p.Dd=true):ag Tryz.prog 104 [p.enc] (.aL [nN.enc,nB false]):=by
 have:=yM (l:=p.l) (r:=p.r) (ms:=p.ms) (by have:=h.l1;omega) (by have:=h.r1;omega) (by have:=h.m1;omega)
 rwa [ta,if_neg (show ¬mM _ _=true from ho)] at this
theorem adO {l:List Ty} (h:Ty.sizes l<=1000000):ag Tryz.prog 180 [.sl (l.map Ty.enc)] (.sl (l.map Ty.enc)):=by
 have:=jd (t:=.mk [] 0) (l:=l) (by simp only[Ty.size,Ty.sizes];omega);rw[Ty.arrow,Ty.dD,Ty.dD,show (l++(Ty.mk [] 0).args)=l from alV l] at this;exact Re ⟨_,_,this,rfl⟩
theorem GX (h:mR c p):ag Tryz.prog 96 [p.enc] p.swap.enc:=
 VR ⟨_,_,_,_,_,_,_,_,_,Rf ⟨_,_,_,_,K2 (t:=p.r) (by have:=h.r1;omega) (Tm.nM h.rn),_,_,_,_,K2 (t:=p.l) (by have:=h.l1;omega) (Tm.nM h.ln),_,adO (by have:=h.WO;omega),rfl⟩,rfl⟩
theorem ly:ag Tryz.prog 105 [p.enc] p.swap.enc:=QS rfl
theorem ML (h1:p.l.size<=1000) (h2:p.r.size<=1000) (h3:Ty.sizes p.ms<=100000):ag Tryz.prog 98 [p.enc,q.enc] (nB (rz p q)):=by
 have a1:=mI _ p.l q.l (alA _) (by omega);have a2:=mI _ p.r q.r (alA _) (by omega);have a3:=ig (l:=p.ms) (m:=q.ms) (by have:=Ty.aw p.ms;omega) fun k k1 k2=>ld _ p.ms[k] q.ms[k] (alA _) (by have:=Ty.aK (alG k1);omega);refine VS ⟨_,a1,ah.intro (fun c1=>⟨_,a2,ah.intro (fun c2=>⟨_,a3,?_⟩) fun c2=>?_⟩) fun c1=>?_⟩
 ·rw[rz,c1,c2,alN,alN]
 ·rw[rz,c1,c2,alN,alP]
 ·rw[rz,c1,alP]
theorem Jm {l m:List Ty} (bN:Ty.sizes l<=1000000000):ag Tryz.prog 61 [.sl (l.map Ty.enc),.sl (m.map Ty.enc)] (nB (Ty.bA l m)):=by
 have hq:=Ty.aw l;refine VW (ah.intro (fun h=>?_) fun h=>?_)
 ·rw[Ty.iH (by simp at h;omega)]
 ·have hlm:l.length=m.length:=by simp at h;omega
  refine av.intro (fun k:Nat=>((l.map Ty.enc,m.map Ty.enc,(k:Int),()),())) (fun k=>k<=l.length/\Ty.bA l m=Ty.bA (l.drop k) (m.drop k)) (fun k=>l.length-k) 0 rfl ⟨alE _,rfl⟩ ?_;intro k ⟨hk,hs⟩ again bw;dsimp only;refine ah.intro (fun h=>?_) fun h=>?_
  ·have ak:k<l.length:=by simpa using h
   have Sy:k<m.length:=by omega
   rw[alC ak,alC Sy,Ty.bA] at hs;have hi:=u4 _ l[k] m[k] (alA _) (by have:=Ty.aK (alG ak);omega);rw[Ty.aC,Ty.aC] at hi;refine⟨by omega,by rw[alv];omega,_,_,Ty.aq ak,by omega,by rw[alv];omega,_,_,Ty.aq Sy,_,hi,ah.intro (fun c=>?_) fun c=>?_⟩
   ·have:Ty.same l[k] m[k]=false:=by simpa using c
    rw[hs,this,alP]
   ·have:Ty.same l[k] m[k]=true:=by simpa using c
    rw[this,alN] at hs;rw[aA (by omega)];exact bw (k+1) ⟨by omega,hs⟩ (by omega)
  ·have:l.length<=k:=by simpa using h
   rw[alD this,alD (by omega)] at hs;rw[hs];rfl
theorem pD (h1:p.l.size<=1000) (h2:p.r.size<=1000) (h3:Ty.sizes p.ms<=100000):ag Tryz.prog 29 [p.enc,q.enc] (nB (rz p q)):=by
 refine VT ⟨_,K7 (t:=p.l) (u:=q.l) (by omega),ah.intro (fun c1=>⟨_,K7 (t:=p.r) (u:=q.r) (by omega),ah.intro (fun c2=>⟨_,Jm (m:=q.ms) (by omega),?_⟩) fun c2=>?_⟩) fun c1=>?_⟩
 ·rw[rz,c1,c2,alN,alN]
 ·rw[rz,c1,c2,alN,alP]
 ·rw[rz,c1,alP]
theorem A3 (h1:p.l.size<=1000) (h2:p.r.size<=1000) (h3:Ty.sizes p.ms<=100000):ag Tryz.prog 30 [p.enc] p.enc:=
 VY ⟨_,_,_,_,X1 (t:=p.l) (by omega),_,_,_,_,X1 (t:=p.r) (by omega),_,uZ (by omega),rfl⟩
def WS (out:List Pa) (q:Pa):Bool:=match out with
 | []=>false
 |o::_=>rz o q
def iw (b:Int) (c:List Ty) (out:List Pa) (q:Pa):List Pa:=if q.Dd=true/\q.WR b c=0/\WS out q.own=false then out++[q.own] else out
def dX (b:Int) (c:List Ty) (p:Pa):List Pa:=iw b c (iw b c [] p) p.swap
theorem uB {b:Int} {out:List Pa} (h1:∀x∈out,mR c x) (h2:mR c q):∀x∈iw b c out q,mR c x:=by
 intro x hx;unfold iw at hx;split at hx
 ·rcases amn.1 hx with hx|hx
  ·exact h1 x hx
  ·rw[amc.1 hx];exact h2.own
 ·exact h1 x hx
theorem nO {b:Int} (h:mR c p):∀x∈dX b c p,mR c x:=uB (uB (fun x hx=>by cases hx) h) h.swap
theorem yX {b:Int} (out:List Pa):(iw b c out q).length<=out.length+1:=by
 unfold iw;split
 ·rw[alz,alW];omega
 ·omega
theorem vz {b:Int}:(dX b c p).length<=2:=by
 have h1:=yX (c:=c) (q:=p) (b:=b) [];have h2:=yX (c:=c) (q:=p.swap) (b:=b) (iw b c [] p);rw[dX];rw[al4] at h1;omega
theorem De {b:Int} {m0:List Ty} (h:mR c p):ag Tryz.prog 56 [.agg [nI b,.sl (c.map Ty.enc),.sl (m0.map Ty.enc)],p.enc] (.sl ((dX b c p).map Pa.enc)):=by
 refine V0 ⟨_,_,_,_,_,_,_,_,_,GX h,rfl,?_⟩;have jo:dX b c p=[p,p.swap].foldl (iw b c) []:=rfl;have hg:∀x∈[p,p.swap],mR c x:=fun x hx=>by
  rcases al6.1 hx with rfl|hx
  ·exact h
  ·rw[amc.1 hx];exact h.swap
 have hn:[p,p.swap].length=2:=rfl;have e0:[p.enc,p.swap.enc]=[p,p.swap].map Pa.enc:=rfl;rw[jo];show KH (((),(),[p,p.swap].map Pa.enc,(2:Int),0,()),((b,c.map Ty.enc,m0.map Ty.enc,()),(p.l.binds.map Ty.enc,p.l.kind,p.l.index,p.l.args.map Tm.enc,p.r.binds.map Ty.enc,p.r.kind,p.r.index,p.r.args.map Tm.enc,p.ms.map Ty.enc,()),[],())) _;generalize [p,p.swap]=qs at hg hn;refine av.intro (fun k:Nat=>(((),(),qs.map Pa.enc,(2:Int),(k:Int),()),((b,c.map Ty.enc,m0.map Ty.enc,()),(p.l.binds.map Ty.enc,p.l.kind,p.l.index,p.l.args.map Tm.enc,p.r.binds.map Ty.enc,p.r.kind,p.r.index,p.r.args.map Tm.enc,p.ms.map Ty.enc,()),((qs.take k).foldl (iw b c) []).map Pa.enc,()))) (fun k=>k<=2/\(∀x∈(qs.take k).foldl (iw b c) [],mR c x)/\((qs.take k).foldl (iw b c) []).length<=k) (fun k=>2-k) 0 rfl ⟨by decide,(fun x hx=>by cases hx),alA _⟩ ?_;intro k ⟨hk,Sp,hlen⟩ again bw;dsimp only;refine ah.intro (fun h1=>?_) fun h1=>⟨rfl,?_⟩
 ·have ak:k<qs.length:=by have:=of_decide_eq_true h1;omega
  have hq:=hg _ (alG ak);have fF:=bw (k+1);rw[alL ak,ano,amU,List.foldl_nil] at fF;have hgd:=Pa.getD ak;generalize qs[k]=q at hq fF hgd;generalize (qs.take k).foldl (iw b c) []=out at Sp hlen fF;have fF:=fF ⟨by omega,uB Sp hq,by have:=yX (c:=c) (q:=q) (b:=b) out;omega⟩ (by omega);have wr:IntKind.wrap .i64 ((k:Int)+1)=((k+1:Nat):Int):=aA (by omega);rw[wr];refine⟨by omega,by rw[alv];omega,_,_,_,_,_,_,_,_,_,hgd,?_⟩
  by_cases ho:q.Dd=true
  ·refine⟨_,_,_,_,_,_,_,_,_,_,adM hq ho,ah.neg rfl ⟨_,sX hq.Aw,ah.intro (fun hc=>⟨rfl,?_⟩) fun hc=>⟨rfl,?_⟩⟩⟩
   ·have hc:¬q.WR b c=0:=by simpa using hc
    rw[iw,if_neg (fun e=>hc e.2.1)] at fF;exact fF
   have hc:q.WR b c=0:=by simpa using hc
   have last:WS out q.own=false->Cm (out.map Pa.enc).length (out.map Pa.enc) (q.own.l.binds.map Ty.enc) q.own.l.kind q.own.l.index (q.own.l.args.map Tm.enc) (q.own.r.binds.map Ty.enc) q.own.r.kind q.own.r.index (q.own.r.args.map Tm.enc) (q.own.ms.map Ty.enc) again (qs.map Pa.enc) 2 (k:Int) b (c.map Ty.enc) (m0.map Ty.enc) (p.l.binds.map Ty.enc) p.l.kind p.l.index (p.l.args.map Tm.enc) (p.r.binds.map Ty.enc) p.r.kind p.r.index (p.r.args.map Tm.enc) (p.ms.map Ty.enc):=by
    intro he;rw[iw,if_pos ⟨ho,hc,he⟩,ama,al3,aml] at fF;refine⟨rfl,bc rfl (by rw[alz,alv,alW];omega) (by decide),rfl,?_⟩;rw[wr];exact fF
   match out,Sp,hlen,fF,last with
   | [],_,_,fF,last=>exact ah.neg rfl (last rfl)
   |o::os,Sp,hlen,fF,last=>
    have ZN:=Sp o alS;refine ah.pos (decide_eq_true (by rw[alv,alJ];omega)) ⟨rfl,by omega,by rw[alv,alJ];omega,_,_,_,_,_,_,_,_,_,rfl,_,ML (p:=o) (q:=q.own) (by have:=ZN.l1;omega) (by have:=ZN.r1;omega) (by have:=ZN.WO;omega),ah.intro (fun he=>⟨rfl,?_⟩) fun he=>?_⟩
    ·rw[iw,if_neg (fun e=>by rw[show WS (o::os) q.own=rz o q.own from rfl,he] at e;simp at e)] at fF;exact fF
    ·exact last he
  ·refine⟨_,_,_,_,_,_,_,_,_,_,adN hq ho,ah.pos rfl ⟨rfl,?_⟩⟩;rw[iw,if_neg (fun e=>ho e.1)] at fF;exact fF
 ·have:qs.length<=k:=by have:=of_decide_eq_false h1;omega
  rw[alI this]
theorem zG {b:Int} {m0:List Ty} (h:mR c p):ag Tryz.prog 58 [.agg [nI b,.sl (c.map Ty.enc),.sl (m0.map Ty.enc)],p.enc] (.sl ((dX b c p).map Pa.enc)):=by
 have hs:=h.swap;have l1:=h.l1;have r1:=h.r1;have ck:=nL (b:=b) (m0:=m0) h.Aw (by omega) (by omega);have cks:=nL (b:=b) (m0:=m0) hs.Aw (by have:=hs.l1;omega) (by have:=hs.r1;omega);have go0:iw b c [] p=[]->∀z:Pa,xR (p.l.binds.map Ty.enc) p.l.kind p.l.index (p.l.args.map Tm.enc) (p.r.binds.map Ty.enc) p.r.kind p.r.index (p.r.args.map Tm.enc) (p.ms.map Ty.enc) b (c.map Ty.enc) (m0.map Ty.enc) (fun x=>x=.sl ((dX b c p).map Pa.enc)) (z.l.binds.map Ty.enc) z.l.kind z.l.index (z.l.args.map Tm.enc) (z.r.binds.map Ty.enc) z.r.kind z.r.index (z.r.args.map Tm.enc) (z.ms.map Ty.enc):=by
  intro e0 z;rw[dX,e0];refine⟨_,_,_,_,_,_,_,_,_,ly (p:=p),?_⟩
  by_cases ho:p.swap.Dd=true
  ·refine⟨_,_,_,_,_,_,_,_,_,_,Sl hs ho,ah.pos rfl ⟨_,_,_,_,_,_,_,_,_,ly (p:=p),_,cks,ah.intro (fun hc=>ah.pos rfl ⟨bc rfl (by simp) (by decide),rfl,?_⟩) fun hc=>?_⟩⟩
   ·have hc:p.swap.WR b c=0:=by simpa using hc
    rw[iw,if_pos ⟨ho,hc,rfl⟩];rfl
   ·have hc:¬p.swap.WR b c=0:=by simpa using hc
    rw[iw,if_neg (fun e=>hc e.2.1)];rfl
  ·refine⟨_,_,_,_,_,_,_,_,_,_,Sn hs ho,ah.neg rfl ?_⟩;rw[iw,if_neg (fun e=>ho e.1)];rfl
 by_cases ho:p.Dd=true
 ·refine KE ⟨_,_,_,_,_,_,_,_,_,_,Sl h ho,ah.pos rfl ⟨_,ck,ah.intro (fun hc=>⟨bc rfl (by simp) (by decide),?_⟩) fun hc=>?_⟩⟩
  ·have hc:p.WR b c=0:=by simpa using hc
   have e0:iw b c [] p=[p.own]:=by rw[iw,if_pos ⟨ho,hc,rfl⟩];rfl
   have ZN:=h.own;rw[dX,e0];refine⟨_,_,_,_,_,_,_,_,_,ly (p:=p),?_⟩
   by_cases hos:p.swap.Dd=true
   ·refine⟨_,_,_,_,_,_,_,_,_,_,Sl hs hos,ah.pos rfl ⟨_,_,_,_,_,_,_,_,_,ly (p:=p),_,cks,ah.intro (fun hc=>⟨rfl,ah.neg rfl ⟨_,pD (p:=p.own) (q:=p.swap.own) (by have:=ZN.l1;omega) (by have:=ZN.r1;omega) (by have:=ZN.WO;omega),ah.intro (fun he=>⟨rfl,bc rfl (by simp) (by decide),rfl,?_⟩) fun he=>⟨rfl,?_⟩⟩⟩) fun hc=>⟨rfl,?_⟩⟩⟩
    ·have hc:p.swap.WR b c=0:=by simpa using hc
     have he:rz p.own p.swap.own=false:=by simpa using he
     rw[iw,if_pos ⟨hos,hc,he⟩];rfl
    ·have he:rz p.own p.swap.own=true:=by simpa using he
     rw[iw,if_neg (fun e=>by rw[show WS [p.own] p.swap.own=rz p.own p.swap.own from rfl,he] at e;simp at e)];rfl
    ·have hc:¬p.swap.WR b c=0:=by simpa using hc
     rw[iw,if_neg (fun e=>hc e.2.1)];rfl
   ·refine⟨_,_,_,_,_,_,_,_,_,_,Sn hs hos,ah.neg rfl ⟨rfl,?_⟩⟩;rw[iw,if_neg (fun e=>hos e.1)];rfl
  ·have hc:¬p.WR b c=0:=by simpa using hc
   exact go0 (by rw[iw,if_neg (fun e=>hc e.2.1)]) p.own
 ·exact KE ⟨_,_,_,_,_,_,_,_,_,_,Sn h ho,ah.neg rfl (go0 (by rw[iw,if_neg (fun e=>ho e.1)]) nN)⟩
end
section
variable {c:List Ty} {p q:Pa} {n b:Int} {ps sts:List (Int×Int)} {m0:List Ty}
def vV (n:Int) (ps sts:List (Int×Int)) (b:Int) (c:List Ty) (p:Pa):Int:=qI (Ji n ps sts p.l p.ms) b c p.ms p.l p.r
theorem K8 (ax:mN n ps sts) (h:mR c p) {H:List af} (hs:vT (eu n ps sts) H):
  bH Tryz.prog 27 [.agg [nI b,.sl (c.map Ty.enc),.sl (m0.map Ty.enc)],.ptr 1 0,p.enc] H (fun x q=>x=nI (vV n ps sts b c p)/\vT (eu n ps sts) q):=by
 have:=ry (R:=eu n ps sts) (b:=b) (c:=c) (m0:=m0) (ms:=p.ms) (l:=p.l) (r:=p.r) (h:=H) ax.ok (rq sts) h.Aw h.pok (by have:=h.r1;omega) h.rn hs;simp only[WQ ax] at this;exact this
theorem Sq (hp:ps.length<=40) (qv:sts.length<=20) (h:mR c p):ag Tryz.prog 26 [.agg [nI b,.sl (c.map Ty.enc),.sl (m0.map Ty.enc)],tq n ps sts,p.enc] (nI (vV n ps sts b c p)):=by
 have l1:=h.l1;have r1:=h.r1;have ck:=nL (b:=b) (m0:=m0) h.Aw (by omega) (by omega);have hi:=MJ (n:=n) (ps:=ps) (sts:=sts) (l:=p.l) (r:=p.r) (ms:=p.ms) (by omega) (by omega) (by omega) (by have:=h.m1;omega) (fun x hx=>by have:=h.m2 x hx;omega) 200 p.r (by omega) (by decide);refine V7 ⟨_,ck,ah.intro (fun g=>⟨_,hi,ah.intro (fun g'=>?_) fun g'=>?_⟩) fun g=>?_⟩
 ·rw[vV,qI,if_pos (by simpa using g),if_neg (by simpa using g')]
 ·rw[vV,qI,if_pos (by simpa using g),if_pos (by simpa using g'),show lH b c p.ms p.l p.r=0 from by simpa using g]
 ·rw[vV,qI,if_neg (by simpa using g)]
def dY (t:Int) (dn:Pa->Int) (L:List Pa):Pa×Int:=
 if t=0 then(match L.find? (fun q=>dn q==0) with
  |some q=>(q,0)
  |none=>(nN,if L.length=0 then 6 else 8)) else(nN,t)
theorem Jn {t:Int} {dn:Pa->Int} {L:List Pa} (h:(dY t dn L).2=0):(dY t dn L).1∈L/\dn (dY t dn L).1=0:=by
 unfold dY at h ⊢;split at h
 ·rename_i ht;rw[if_pos ht]
  cases hf:L.find? (fun q=>dn q==0) with
  |some q=>
   exact⟨List.mem_of_find?_eq_some hf,by simpa using List.find?_some hf⟩
  |none=>
   rw[hf] at h;dsimp only at h
   split at h<;>simp at h
 ·rename_i ht;exact absurd h ht
theorem Jo {t:Int} {dn:Pa->Int} {L:List Pa} (hL:∀x∈L,mR c x):(dY t dn L).1.l.size<=1000/\(dY t dn L).1.r.size<=1000/\Ty.sizes (dY t dn L).1.ms<=100000:=by
 have z:nN.l.size<=1000/\nN.r.size<=1000/\Ty.sizes nN.ms<=100000:=by decide
 unfold dY;split
 ·cases hf:L.find? (fun q=>dn q==0) with
  |some q=>
   have h:=hL q (List.mem_of_find?_eq_some hf);show q.l.size<=1000/\q.r.size<=1000/\Ty.sizes q.ms<=100000;exact⟨by have:=h.l1;omega,by have:=h.r1;omega,by have:=h.WO;omega⟩
  |none=>exact z
 ·exact z
abbrev ZO (r:Pa×Int):AV:=.aL [r.1.enc,nI r.2]
theorem Sr (e:Int):dc (.aL [.agg [.ae (.slice none 0 0),nI 0,nI 0,.ae (.slice none 0 0),.ae (.slice none 0 0),nI 0,nI 0,.ae (.slice none 0 0),.ae (.slice none 0 0)],nI e]) (.aL [nN.enc,nI e]):=
 .aL ⟨.agg ⟨ic,dc.refl _,dc.refl _,ic,ic,dc.refl _,dc.refl _,ic,ic,True.intro⟩,dc.refl _,True.intro⟩
theorem WT (ax:mN n ps sts) (h:mR c p) {H:List af} (hs:vT (eu n ps sts) H):
  bH Tryz.prog 24 [.agg [nI b,.sl (c.map Ty.enc),.sl (m0.map Ty.enc)],.ptr 1 0,p.enc] H (fun x q=>x=ZO (dY (iq b c p.ms p.l p.r) (vV n ps sts b c) (dX b c p))/\vT (eu n ps sts) q):=by
 refine bH.res (R:=fun x q=>dc x (ZO (dY (iq b c p.ms p.l p.r) (vV n ps sts b c) (dX b c p)))/\vT (eu n ps sts) q) ?_ fun r h' ⟨h1,h2⟩=>⟨_,h1,rfl,h2⟩;obtain⟨d,s,ka,kr,rfl,hd⟩:=hs;refine V3 ⟨_,sW h.Aw,ah.intro (fun g=>⟨?_,d,s,ka,kr,rfl,hd⟩) fun g=>⟨_,De h,?_⟩⟩
 ·rw[dY,if_neg (by simpa using g)];exact Sr _
 rw[dY,if_pos (by simpa using g)];have hL:=nO (b:=b) h;have hl:=vz (b:=b) (c:=c) (p:=p);generalize dX b c p=L at hL hl;have pd:=fun {q:Pa} (hq:mR c q) {H:List af} (hs:vT (eu n ps sts) H)=>K8 (b:=b) (m0:=m0) ax hq hs;generalize eu n ps sts=R at hd pd ⊢;generalize vV n ps sts b c=dn at pd ⊢;refine av.intro (fun v:Nat×Int×Int×Int×List AV=>(((),(),(),L.map Pa.enc,L.map Pa.enc,((L.length:Nat):Int),(v.1:Int),()),(R.ke,((R.n:Int),aB R.ps,(),v.2.1,0,v.2.2.1,v.2.2.2.2,v.2.2.2.1,R.kt,()),(b,c.map Ty.enc,m0.map Ty.enc,()),(p.l.binds.map Ty.enc,p.l.kind,p.l.index,p.l.args.map Tm.enc,p.r.binds.map Ty.enc,p.r.kind,p.r.index,p.r.args.map Tm.enc,p.ms.map Ty.enc,()),((),0,0,(),(),0,0,(),(),()),())))
  (fun v=>v.1<=L.length/\L.find? (fun q=>dn q==0)=(L.drop v.1).find? (fun q=>dn q==0)/\(v.2.1=0\/¬v.2.1=0/\v.2.2.2.2=R.rows)) (fun v=>L.length-v.1) (0,d,s,ka,kr) (by rw[alv];rfl) ⟨alE _,rfl,hd⟩ ?_
 intro ⟨k,d,s,ka,kr⟩ ⟨hk,hf,hd⟩ again bw;dsimp only at hk hf hd ⊢;refine ah.intro (fun g=>?_) fun g=>?_
 ·have ak:k<L.length:=by simpa using g
  rw[alC ak,anh] at hf;refine⟨by omega,by rw[alv];omega,_,_,_,_,_,_,_,_,_,Pa.getD ak,_,pd (hL _ (alG ak)) ⟨d,s,ka,kr,rfl,hd⟩,fun x h' ⟨e1,d2,s2,zv,zw,e2,vJ⟩=>⟨_,_,_,_,_,_,_,_,_,_,⟨e1,e2⟩,ah.intro (fun g=>⟨?_,d2,s2,zv,zw,rfl,vJ⟩) fun g=>?_⟩⟩
  ·have g:(dn L[k]==0)=true:=g;rw[g] at hf;rw[hf];exact dc.refl _
  ·have g:(dn L[k]==0)=false:=g;rw[g] at hf;rw[aA (by omega)];exact bw (k+1,d2,s2,zv,zw) ⟨by dsimp only;omega,hf,vJ⟩ (by dsimp only;omega)
 ·have:L.length<=k:=by simpa using g
  rw[alD this,List.find?_nil] at hf;rw[hf,alv];refine ah.intro (fun g=>⟨?_,d,s,ka,kr,rfl,hd⟩) fun g=>⟨?_,d,s,ka,kr,rfl,hd⟩
  ·dsimp only;rw[if_pos (by simpa using g)];exact Sr 6
  ·dsimp only;rw[if_neg (by simpa using g)];exact Sr 8
theorem WU (hp:ps.length<=40) (qv:sts.length<=20) (h:mR c p):ag Tryz.prog 25 [.agg [nI b,.sl (c.map Ty.enc),.sl (m0.map Ty.enc)],tq n ps sts,p.enc] (ZO (dY (iq b c p.ms p.l p.r) (vV n ps sts b c) (dX b c p))):=by
 refine Wa ⟨_,tj h.Aw,ah.intro (fun g=>?_) fun g=>⟨_,zG h,?_⟩⟩
 ·rw[dY,if_neg (by simpa using g)];rfl
 rw[dY,if_pos (by simpa using g)];have hL:=nO (b:=b) h;have hl:=vz (b:=b) (c:=c) (p:=p);generalize dX b c p=L at hL hl;have pd:=fun {q:Pa} (hq:mR c q)=>Sq (n:=n) (b:=b) (m0:=m0) hp qv hq;generalize vV n ps sts b c=dn at pd ⊢;refine av.intro (fun k:Nat=>(((),(),(),L.map Pa.enc,(k:Int),()),((b,c.map Ty.enc,m0.map Ty.enc,()),(n,aB ps,aB sts,()),(p.l.binds.map Ty.enc,p.l.kind,p.l.index,p.l.args.map Tm.enc,p.r.binds.map Ty.enc,p.r.kind,p.r.index,p.r.args.map Tm.enc,p.ms.map Ty.enc,()),((),0,0,(),(),0,0,(),(),()),())))
  (fun k=>k<=L.length/\L.find? (fun q=>dn q==0)=(L.drop k).find? (fun q=>dn q==0)) (fun k=>L.length-k) 0 rfl ⟨alE _,rfl⟩ ?_
 intro k ⟨hk,hf⟩ again bw;dsimp only;refine ah.intro (fun g=>?_) fun g=>?_
 ·have ak:k<L.length:=by simpa using g
  have b1:(0:Int)<=k/\(k:Int)<((List.length (L.map Pa.enc):Nat):Int):=⟨by omega,by rw[alv];omega⟩;rw[alC ak,anh] at hf;refine⟨b1.1,b1.2,_,_,_,_,_,_,_,_,_,Pa.getD ak,_,pd (hL _ (alG ak)),ah.intro (fun g=>⟨b1.1,b1.2,_,_,_,_,_,_,_,_,_,Pa.getD ak,?_⟩) fun g=>?_⟩
  ·have g:(dn L[k]==0)=true:=g;rw[g] at hf;rw[hf]
  ·have g:(dn L[k]==0)=false:=g;rw[g] at hf;rw[aA (by omega)];exact bw (k+1) ⟨by omega,hf⟩ (by omega)
 ·have:L.length<=k:=by simpa using g
  rw[alD this,List.find?_nil] at hf;rw[hf,alv];refine ah.intro (fun g=>?_) fun g=>?_
  ·dsimp only;rw[if_pos (by simpa using g)];rfl
  ·dsimp only;rw[if_neg (by simpa using g)];rfl
def Ss (dn:Pa->Int) (L:List Pa):Int:=match L.find? (fun q=>dn q != 0) with
 |some q=>dn q
 |none=>0
theorem ahL (ax:mN n ps sts) {L:List Pa} (hL:∀x∈L,mR c x) (hl:L.length<=10) {H:List af} (hs:vT (eu n ps sts) H):
  bH Tryz.prog 28 [.agg [nI b,.sl (c.map Ty.enc),.sl (m0.map Ty.enc)],.ptr 1 0,.sl (L.map Pa.enc)] H (fun x q=>x=nI (Ss (vV n ps sts b c) L)/\vT (eu n ps sts) q):=by
 obtain⟨d,s,ka,kr,rfl,hd⟩:=hs;have pd:=fun {q:Pa} (hq:mR c q) {H:List af} (hs:vT (eu n ps sts) H)=>K8 (b:=b) (m0:=m0) ax hq hs;generalize eu n ps sts=R at hd pd ⊢;generalize vV n ps sts b c=dn at pd ⊢;refine V6 (av.intro (fun v:Nat×Int×Int×Int×List AV=>(((),(),L.map Pa.enc,((L.length:Nat):Int),(v.1:Int),()),(R.ke,((R.n:Int),aB R.ps,(),v.2.1,0,v.2.2.1,v.2.2.2.2,v.2.2.2.1,R.kt,()),(b,c.map Ty.enc,m0.map Ty.enc,()),())))
  (fun v=>v.1<=L.length/\L.find? (fun q=>dn q != 0)=(L.drop v.1).find? (fun q=>dn q != 0)/\(v.2.1=0\/¬v.2.1=0/\v.2.2.2.2=R.rows)) (fun v=>L.length-v.1) (0,d,s,ka,kr) (by rw[alv];rfl) ⟨alE _,rfl,hd⟩ ?_)
 intro ⟨k,d,s,ka,kr⟩ ⟨hk,hf,hd⟩ again bw;dsimp only at hk hf hd ⊢;refine ah.intro (fun g=>?_) fun g=>⟨?_,d,s,ka,kr,rfl,hd⟩
 ·have ak:k<L.length:=by simpa using g
  rw[alC ak,anh] at hf;refine⟨by omega,by rw[alv];omega,_,_,_,_,_,_,_,_,_,Pa.getD ak,_,pd (hL _ (alG ak)) ⟨d,s,ka,kr,rfl,hd⟩,fun x h' ⟨e1,d2,s2,zv,zw,e2,vJ⟩=>⟨_,_,_,_,_,_,_,_,_,_,⟨e1,e2⟩,ah.intro (fun g=>⟨?_,d2,s2,zv,zw,rfl,vJ⟩) fun g=>?_⟩⟩
  ·have g:(dn L[k] != 0)=true:=g;rw[g] at hf;rw[Ss,hf]
  ·have g:(dn L[k] != 0)=false:=g;rw[g] at hf;rw[aA (by omega)];exact bw (k+1,d2,s2,zv,zw) ⟨by dsimp only;omega,hf,vJ⟩ (by dsimp only;omega)
 ·have:L.length<=k:=by simpa using g
  rw[alD this,List.find?_nil] at hf;rw[Ss,hf]
theorem Pa.WV (p q:Pa):[p,q].all Pa.fL=(p.fL&&q.fL):=by simp only[amj,List.all_nil,anq]
theorem St {c m0:List Ty} (h:jt c m0 []=true):(c.length<=20/\∀x∈c,x.size<=60)/\m0.length<=20/\∀x∈m0,x.size<=60:=by
 simp only[jt,alB,decide_eq_true_eq,alV,alK] at h;exact⟨⟨h.1.1,fun x hx=>Ty.gD (h.2 x (amD _ hx))⟩,h.1.2.1,fun x hx=>Ty.gD (h.2 x (amQ _ hx))⟩
theorem mR.mk' (h:p.Sm) (hl:p.l.kP) (hr:p.r.kP) (hc:c.length<=20/\∀x∈c,x.size<=60):mR c p:=⟨h.l1,h.r1,by have:=h.m1;omega,h.m2,hl,hr,hc.1,hc.2⟩
theorem Su {e n':Int} {y1 y2:List AV} (he:¬e=0):Rh (p.l.binds.map Ty.enc) p.l.kind p.l.index (p.l.args.map Tm.enc) (p.r.binds.map Ty.enc) p.r.kind p.r.index (p.r.args.map Tm.enc) (p.ms.map Ty.enc) (q.l.binds.map Ty.enc) q.l.kind q.l.index (q.l.args.map Tm.enc) (q.r.binds.map Ty.enc) q.r.kind q.r.index (q.r.args.map Tm.enc) (q.ms.map Ty.enc) (fun x=>x=nB true) b (c.map Ty.enc) (m0.map Ty.enc) e n n' y1 y2:=by
 have hf:=pC (ps:=[p,q]) (by simp);exact⟨_,hf,ah.intro (fun h=>⟨_,cp,rfl⟩) fun h=>⟨_,lj b c m0 [],ah.intro (fun h=>⟨_,cp,rfl⟩) fun h=>ah.pos (by simpa using he) ⟨_,cp,rfl⟩⟩⟩
theorem A4 {e n':Int} {y1 y2:List AV} (he:¬e=0):Co (p.l.binds.map Ty.enc) p.l.kind p.l.index (p.l.args.map Tm.enc) (p.r.binds.map Ty.enc) p.r.kind p.r.index (p.r.args.map Tm.enc) (p.ms.map Ty.enc) (q.l.binds.map Ty.enc) q.l.kind q.l.index (q.l.args.map Tm.enc) (q.r.binds.map Ty.enc) q.r.kind q.r.index (q.r.args.map Tm.enc) (q.ms.map Ty.enc) (fun x=>x=nB true) b (c.map Ty.enc) (m0.map Ty.enc) e n n' y1 y2:=by
 have hf:=pC (ps:=[p,q]) (by simp);exact⟨_,hf,ah.intro (fun h=>⟨_,cp,rfl⟩) fun h=>⟨_,lj b c m0 [],ah.intro (fun h=>⟨_,cp,rfl⟩) fun h=>ah.pos (by simpa using he) ⟨_,cp,rfl⟩⟩⟩
theorem rA (pl:p.l.kP) (pr:p.r.kP) (ql:q.l.kP) (qr:q.r.kP):ag Tryz.prog 5 [.agg [nI b,.sl (c.map Ty.enc),.sl (m0.map Ty.enc)],tq n ps sts,p.enc,q.enc] (nB true):=by
 have l1:(ps.take 40).length<=40:=by rw[amd];omega
 have l2:(sts.take 20).length<=20:=by rw[amd];omega
 refine Zw ⟨_,GU,fun x q' h=>?_⟩;generalize ps.take 40=ps at l1 h;generalize sts.take 20=sts at l2 h;rcases h with⟨e,he,rfl,⟨i,rfl⟩|⟨i,m,a,l,b',c',d,x,l3,rfl⟩|⟨i,m,a,l,b',c',d,y,x,l3,rfl⟩⟩|⟨ax,rfl,i,d,s,ka,kr,rfl,qv⟩
 ·exact .inl ⟨_,_,_,_,_,_,_,_,_,_,_,_,⟨rfl,rfl⟩,Su he⟩
 ·exact .inr (.inl ⟨_,_,_,_,_,_,_,_,_,_,_,_,_,_,_,_,_,_,_,_,⟨rfl,rfl⟩,A4 he⟩)
 ·exact .inr (.inr (.inl ⟨_,_,_,_,_,_,_,_,_,_,_,_,_,_,_,_,_,_,_,_,_,⟨rfl,rfl⟩,A4 he⟩))
 ·refine .inr (.inr (.inr ⟨_,_,_,_,_,_,_,_,_,_,_,_,_,_,_,_,_,_,_,_,⟨rfl,rfl⟩,?_⟩));have hf:=pC (ps:=[p,q]) (by simp);refine⟨_,hf,ah.intro (fun h=>⟨_,cp,rfl⟩) fun h=>⟨_,lj b c m0 [],ah.intro (fun h=>⟨_,cp,rfl⟩) fun h'=>ah.intro (fun h=>⟨_,cp,rfl⟩) fun _=>?_⟩⟩;have h:(p.fL&&q.fL)=true:=by rw[<-Pa.WV];simpa only[amL] using h
  rw[alB] at h;have J5:=Pa.Sk h.1;have hqs:=Pa.Sk h.2;have hc:=St (by simpa only[amL] using h');have hP:=mR.mk' J5 pl pr hc.1;have hQ:=mR.mk' hqs ql qr hc.1;have fO:=tv _ hc.1.2;have hms:=tv _ hc.2.2;have hn:=ax.1;have e:(((eu n ps sts).n:Nat):Int)=n:=by simp only[eu];omega
  have S0:vT (eu n ps sts) (eh (gu sts) n (aB ps) d 0 s kr ka (aB sts)):=⟨d,s,ka,kr,by rw[e];rfl,qv⟩;have two:∀{a:Prop},a->a/\a:=fun h=>⟨h,h⟩;have six:∀{a:Prop},a->(a/\a)/\((a/\a)/\(a/\a)):=fun h=>⟨⟨h,h⟩,⟨h,h⟩,⟨h,h⟩⟩;refine⟨_,_,_,FQ (b:=b) (c:=c) (m:=m0) (by omega) (by omega),_,_,_,_,_,_,_,_,_,A1 J5,_,_,_,_,_,_,_,_,_,A1 hqs,six ?_⟩;have hoL:=nO (b:=b) hP;have kS:=Jo (t:=iq b c p.ms p.l p.r) (dn:=vV n ps sts b c) hoL;have hio:=fun h=>Jn (t:=iq b c p.ms p.l p.r) (dn:=vV n ps sts b c) (L:=dX b c p) h;refine⟨_,WT ax hP S0,fun x q1 ⟨e1,d1,s1,ka1,kr1,e2,JF⟩=>⟨_,_,_,_,_,_,_,_,_,_,_,_,_,_,_,_,_,_,_,⟨e1,e2⟩,?_⟩⟩;have O:=WU (n:=n) (b:=b) (m0:=m0) l1 l2 hP;generalize dY (iq b c p.ms p.l p.r) (vV n ps sts b c) (dX b c p)=o at kS hio O;obtain⟨o,f⟩:=o;refine⟨_,_,_,_,_,_,_,_,_,_,O,_,Sq (n:=n) (b:=b) (m0:=m0) l1 l2 hP,_,Sq (n:=n) (b:=b) (m0:=m0) l1 l2 hQ,?_⟩;have S1:vT (eu n ps sts) (eh (eu n ps sts).ke (eu n ps sts).n (aB (eu n ps sts).ps) d1 0 s1 kr1 ka1 (eu n ps sts).kt):=⟨d1,s1,ka1,kr1,rfl,JF⟩;have jo:Ss (vV n ps sts b c) [p,q]=if vV n ps sts b c p=0 then vV n ps sts b c q else vV n ps sts b c p:=by
   rw[Ss,anh,anh,List.find?_nil]
   by_cases h1:vV n ps sts b c p=0
   ·rw[h1]
    by_cases h2:vV n ps sts b c q=0
    ·rw[h2];rfl
    ·rw[show (vV n ps sts b c q != 0)=true from by simpa using h2];rfl
   ·rw[show (vV n ps sts b c p != 0)=true from by simpa using h1,if_neg h1]
  have D:=K8 (b:=b) (m0:=m0) ax hP S1;have hPQ:∀x∈[p,q],mR c x:=fun x hx=>by
   rcases al6.1 hx with h|hx
   ·rw[h];exact hP
   ·rw[amc.1 hx];exact hQ
  have A:=fun {H:List af} (hs:vT (eu n ps sts) H)=>ahL (b:=b) (m0:=m0) (L:=[p,q]) ax hPQ (by simp) hs;rw[jo] at A;have wA:dK [.agg [nI b,.sl (c.map Ty.enc),.sl (m0.map Ty.enc)],.ptr 1 0,.clip [p.enc,q.enc]] [.agg [nI b,.sl (c.map Ty.enc),.sl (m0.map Ty.enc)],.ptr 1 0,.sl ([p,q].map Pa.enc)]:=⟨dc.refl _,dc.refl _,pR _,True.intro⟩;have last:∀{H:List af},vT (eu n ps sts) H->f=0->bH Tryz.prog 27 [.agg [nI b,.sl (c.map Ty.enc),.sl (m0.map Ty.enc)],.ptr 1 0,o.enc] H (fun x q=>x=nI 0/\vT (eu n ps sts) q):=fun hs hf=>by
   have h:=hio hf;have:=K8 (b:=b) (m0:=m0) ax (hoL _ h.1) hs
   rwa [h.2] at this
  refine ah.intro (fun g=>?_) fun g=>?_
  ·have g:vV n ps sts b c p=0:=by simpa using g
   exact⟨_,cp,ah.pos rfl ⟨_,D,fun x q2 ⟨e1,d2,s2,zv,zw,e2,vJ⟩=>⟨_,_,_,_,_,_,_,_,_,_,⟨e1,e2⟩,ah.pos (by simp) ⟨_,bH.xE wA (A ⟨d2,s2,zv,zw,rfl,vJ⟩),fun x q3 ⟨e1,d3,s3,ka3,kr3,e2,hd3⟩=>⟨_,_,_,_,_,_,_,_,_,_,⟨e1,e2⟩,ah.pos (by rw[if_pos g];simp) (ah.pos (by simp) ⟨_,_,_,_,_,_,_,_,_,A3 kS.1 kS.2.1 kS.2.2,_,pD (p:=o) (q:=o) kS.1 kS.2.1 kS.2.2,ah.pos (A2 o) (ah.intro (fun _=>rfl) fun hf=>⟨_,last ⟨d3,s3,ka3,kr3,rfl,hd3⟩ (by simpa using hf),fun x q4 ⟨e1,d4,s4,ka4,kr4,e2,hd4⟩=>⟨_,_,_,_,_,_,_,_,_,_,⟨e1,e2⟩,rfl⟩⟩)⟩)⟩⟩⟩⟩⟩
  ·have g:¬vV n ps sts b c p=0:=by simpa using g
   exact⟨_,cp,ah.pos rfl ⟨_,D,fun x q2 ⟨e1,d2,s2,zv,zw,e2,vJ⟩=>⟨_,_,_,_,_,_,_,_,_,_,⟨e1,e2⟩,ah.pos (by simp) ⟨_,bH.xE wA (A ⟨d2,s2,zv,zw,rfl,vJ⟩),fun x q3 ⟨e1,d3,s3,ka3,kr3,e2,hd3⟩=>⟨_,_,_,_,_,_,_,_,_,_,⟨e1,e2⟩,ah.pos (by rw[if_neg g];simp) (ah.pos (by simp) ⟨_,_,_,_,_,_,_,_,_,A3 kS.1 kS.2.1 kS.2.2,_,pD (p:=o) (q:=o) kS.1 kS.2.1 kS.2.2,ah.pos (A2 o) (ah.intro (fun _=>rfl) fun hf=>⟨_,last ⟨d3,s3,ka3,kr3,rfl,hd3⟩ (by simpa using hf),fun x q4 ⟨e1,d4,s4,ka4,kr4,e2,hd4⟩=>⟨_,_,_,_,_,_,_,_,_,_,⟨e1,e2⟩,rfl⟩⟩)⟩)⟩⟩⟩⟩⟩
end
end Go.Proofs.YtdcikhleahfknaaGreatDoor
