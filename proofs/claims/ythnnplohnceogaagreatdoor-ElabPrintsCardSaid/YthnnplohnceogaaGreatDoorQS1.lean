/- Lemmas. -/
import Derived.Test.YthnnplohnceogaaGreatDoorChecked
import Derived.Deep.LoopGhost
import Derived.Deep.OwnRows
import Derived.Deep.Light
import Derived.BigGuard
import Derived.Deep.RegionHeld3
import Derived.Deep.AppendLies
import Derived.Deep.DrawnRows
import Derived.Test.YthnnplohnceogaaGreatDoorQ01
namespace Go.Proofs.YthnnplohnceogaaGreatDoor
open Go Go.RowKit
open Go.Proofs.Tryz renaming prog->aj
set_option linter.unusedSimpArgs false
set_option linter.unusedVariables false
set_option maxRecDepth 1000000
section
set_option maxHeartbeats 3200000
attribute [local go_sem ↓] Go.wp_at_zero Go.wp_at_succ
structure fR(w0 w:World)(b g:Nat)(vs:Array Value)(T:TypeId)(cur:Array Value)(T2:TypeId):Prop where
 os:w.os=w0.os
 tape:w.tape=w0.tape
 output:w.output=w0.output
 size:w0.heap.size<=w.heap.size
 Xw:∀k,k<w0.heap.size->k≠b->k≠g->w.heap[k]?=w0.heap[k]?
 box:w.heap[b]?=some (.cells vs T (0,0))
 row:w.heap[g]?=some (.cells cur T2 (0,0))
theorem iA{w:World}{k:Nat}{o:Obj}(h:w.heap[k]?=some o):k<w.heap.size:=(au3.1 h).1
section
variable {w0 w w':World} {b g:Nat} {vs cur:Array Value} {T T2:TypeId}
theorem fR.start(hb:w.heap[b]?=some (.cells vs T (0,0)))(hg:w.heap[g]?=some (.cells cur T2 (0,0))):fR w w b g vs T cur T2:=⟨rfl,rfl,rfl,aur _,λ_ _ _ _=>rfl,hb,hg⟩
theorem fR.since(h:fR w0 w b g vs T cur T2)(hs:w.Since w.heap.size w'):fR w0 w' b g vs T cur T2:=⟨hs.os.trans h.os,hs.tape.trans h.tape,hs.output.trans h.output,auP h.size hs.size,λk h1 h2 h3=>(hs.block k (auK h1 h.size)).trans (h.Xw k h1 h2 h3),(hs.block b (iA h.box)).trans h.box,(hs.block g (iA h.row)).trans h.row⟩
theorem fR.alloc(h:fR w0 w b g vs T cur T2)(o:Obj):fR w0 (w.alloc o) b g vs T cur T2:=h.since ((World.Since.refl _ _).alloc (aur _) _)
theorem fR.drew(h:fR w0 w b g vs T cur T2):fR w0 w.drew b g vs T cur T2:=h.since (World.Since.refl _ _).drew
theorem fq{w:World}{k:Nat}{cs:Array Value}{U:TypeId}(hb:w.heap[k]?=some (.cells cs U (0,0)))(j:Nat)(v:Value):(w.setCell ⟨k,j,none⟩ v).heap[k]?=some (.cells (cs.setIfInBounds j v) U (0,0)):=heap_setCell_same w k j cs U v hb
theorem fR.nP(h:fR w0 w b g vs T cur T2){k:Nat}(hb:k≠b)(hg:k≠g)(hk:w0.heap.size<=k)(j:Nat)(v:Value):fR w0 (w.setCell ⟨k,j,none⟩ v) b g vs T cur T2:=⟨h.os,h.tape,h.output,by simpa using h.size,λi h1 h2 h3=>(heap_setCell_other _ _ _ _ (show i≠k by omega)).trans (h.Xw i h1 h2 h3),(heap_setCell_other _ _ _ _ (avW hb)).trans h.box,(heap_setCell_other _ _ _ _ (avW hg)).trans h.row⟩
theorem fR.aft(h:fR w0 w b g vs T cur T2)(bW:b≠g)(j:Nat)(v:Value):fR w0 (w.setCell ⟨b,j,none⟩ v) b g (vs.setIfInBounds j v) T cur T2:=⟨h.os,h.tape,h.output,by simpa using h.size,λi h1 h2 h3=>(heap_setCell_other _ _ _ _ h2).trans (h.Xw i h1 h2 h3),fq h.box j v,(heap_setCell_other _ _ _ _ (avW bW)).trans h.row⟩
theorem fR.setRow(h:fR w0 w b g vs T cur T2)(bW:b≠g)(j:Nat)(v:Value):fR w0 (w.setCell ⟨g,j,none⟩ v) b g vs T (cur.setIfInBounds j v) T2:=⟨h.os,h.tape,h.output,by simpa using h.size,λi h1 h2 h3=>(heap_setCell_other _ _ _ _ h3).trans (h.Xw i h1 h2 h3),(heap_setCell_other _ _ _ _ bW).trans h.box,fq h.row j v⟩
theorem cell_of{w:World}{k j:Nat}{cs:Array Value}{U:TypeId}{v:Value}(hb:w.heap[k]?=some (.cells cs U (0,0)))(hv:cs[j]?=some v):w.cell? ⟨k,j,none⟩=some v:=by simp[World.cell?,hb,hv]
theorem tu{w:World}{k j:Nat}{cs:Array Value}{U:TypeId}(hb:w.heap[k]?=some (.cells cs U (0,0))):w.frozen? ⟨k,j,none⟩=false:=by simp[World.frozen?,hb]
end
def nQ(N0:Nat)(w:World)(v:Value)(k:Nat):Prop:=(k=0/\∃a,v=.slice a 0 0)\/∃N cap cs,v=.slice (some ⟨N,0,none⟩) k cap/\N0<=N/\w.heap[N]?=some (.cells cs 119 (0,0))/\0<k/\k<=cap/\cap<=maxLen/\cs.size=cap*4/\∀u∈cs.toList.take (k*4),u.oneCell'=true
def MU(v:Value)(k:Nat):Option Nat:=if k=0 then none else v.ownBlock
theorem Ru:(aj.info? 119).map (λi=>(i.zero,i.size,i.bytes))=some (some (.agg #[.int .i64 0,.string ⟨#[]⟩,.int .i64 0,.slice none 0 0]),4,56):=by kernel_rfl
theorem Rv{N0 k B:Nat}{w:World}{v:Value}{ty:TypeId}{c0 c1 c2 c3:Value}{fr:Nat×Nat}(h:nQ N0 w v k)(hk:k<=1000)(hN:N0<=w.heap.size)(hB:w.heap[B]?=some (.cells #[c0,c1,c2,c3] 119 fr))(h1:c0.oneCell'=true/\c1.oneCell'=true/\c2.oneCell'=true/\c3.oneCell'=true): ∃N cap w',(Builtin.append_ #[45,45] ty #[v,.slice (some ⟨B,0,none⟩) 1 1]).run aj w=.ok (.slice (some ⟨N,0,none⟩) (k+1) cap) w'/\nQ N0 w' (.slice (some ⟨N,0,none⟩) (k+1) cap) (k+1)/\w.grownBy w' (MU v k)/\N<w'.heap.size/\(MU v k=some N\/w.heap.size<=N):=by (obtain⟨i0,Cn,Sg,Zd,Lr⟩:=info_parts Ru;have qD:=World.news_of_block hB;have yy:∀u∈[c0,c1,c2,c3],u.oneCell'=true:=λu hu=>by simp only[auJ,avB,or_false]at hu;rcases hu with rfl|rfl|rfl|rfl<;>first|exact h1.1|exact h1.2.1|exact h1.2.2.1|exact h1.2.2.2);have new:∀o:Obj,w.grownBy (w.drew.alloc o) none:=λo=>⟨rfl,rfl,rfl,by simp,λj hj _=>by rw[heap_alloc_old _ _ (by simpa using hj)];rfl⟩;rcases h with⟨rfl,a,rfl⟩|⟨N,cap,cs,rfl,hN0,hg,w6,hkc,hm,gY,ho⟩;have fb:=λoc=>grownCap_ge w 1 oc 119;have hle:=λoc=>grownCap_le_maxLen w 1 oc 119 (by simp only[maxLen];omega);have fin:∀(oc:Nat)(cs:Array Value),cs.size=grownCap w 1 oc 119*4->cs.toList.take 4=[c0,c1,c2,c3]->nQ N0 (w.drew.alloc (.cells cs 119)) (.slice (some ⟨w.heap.size,0,none⟩) 1 (grownCap w 1 oc 119)) 1/\w.grownBy (w.drew.alloc (.cells cs 119)) (MU (.slice a 0 0) 0)/\w.heap.size<(w.drew.alloc (.cells cs 119)).heap.size/\(MU (.slice a 0 0) 0=some w.heap.size\/w.heap.size<=w.heap.size):= λoc cs gY ht=>⟨.inr ⟨w.heap.size,_,cs,rfl,hN,heap_alloc_new w.drew _,by omega,fb oc,hle oc,gY,λu hu=>yy u (by rw[Nat.one_mul,ht]at hu;exact hu)⟩,new _,by simp,.inr (aur _)⟩;(have hz4:∀n:Nat,([c0,c1,c2,c3].toArray++Builtin.zeroCells (Value.agg #[.int .i64 0,.string ⟨#[]⟩,.int .i64 0,.slice none 0 0]).cells (grownCap w 1 n 119-1)).size=grownCap w 1 n 119*4:=λn=>by have:=fb n;simp only[Array.size_append,avQ,size_zeroCells,Value.cells,auy,au7];omega);(cases a with|none=>have:=run_append_nil (P:=aj) w 45 ty 119 i0 _ (Tryz.underlying45) Cn Sg ⟨B,0,none⟩ 1 1 [c0,c1,c2,c3] (by rw[Zd];rfl) qD (by omega) (by omega) (by rw[Lr];omega);exact⟨_,_,_,this,fin 0 _ (hz4 0) (by rw[Array.toList_append];rfl)⟩|some ad=>have:=run_append_grow (P:=aj) w 45 ty 119 i0 _ (Tryz.underlying45) Cn Sg ad 0 0 [] (by simp) (λj u hj=>by simp at hj) ⟨B,0,none⟩ 1 1 [c0,c1,c2,c3] (by rw[Zd];rfl) qD (by omega) (by omega) (growslice_fits (by omega) (by rw[Lr];omega));rw[show ([]:List Value).toArray++[c0,c1,c2,c3].toArray=[c0,c1,c2,c3].toArray from rfl]at this;exact⟨_,_,_,this,fin 0 _ (hz4 0) (by rw[Array.toList_append];rfl)⟩);obtain⟨g,akf,w',e1,e2,e3,e4,e5⟩:=run_append_lies (P:=aj) w 45 ty N0 119 i0 _ 4 56 (Tryz.underlying45) Cn Sg Zd Lr rfl (by omega) (.slice (some ⟨N,0,none⟩) k cap) k (cs.toList.take (k*4)) ⟨by rw[au4,au2,gY];exact avX (by omega),.inr ⟨N,cap,cs,rfl,hN0,hg,hkc,hm,gY,rfl⟩⟩ ⟨B,0,none⟩ 1 1 [c0,c1,c2,c3] rfl qD yy (by omega) (by simp only[maxLen];omega) (by omega) hN w.heap.size rfl;(have hkn:¬k=0:=by omega);refine⟨g,akf,w',e1,.inr ?_,by rw[MU,if_neg hkn];exact e3,e5,by rw[MU,if_neg hkn];exact e4.imp id (λh=>by omega)⟩;rcases e2.2 with⟨h0,_⟩|⟨g2,c2',cs2,e6,e7,e8,e9,e10,e11,e12⟩;cases h0;cases e6;exact⟨_,_,cs2,rfl,e7,e8,by omega,e9,e10,e11,λu hu=>by rw[e12]at hu;exact(auU.1 hu).elim (ho u) (yy u)⟩
theorem Bq{N0 k B:Nat}{w:World}{v:Value}{c0 c1 c2 c3:Value}{fr:Nat×Nat}{ops:Array Oper}{o:Oper}{a:Act}{K:Act->World->Prop}{Q:Exit->Act->World->Prop}{E:Prop}(hgd:o.guard=none)(s x:Operand)(ho:o.op=.call { callee:=.builtin .append,args:=#[s,x],argTypes:=#[45,45] })(hs:a.eval s=v)(hx:a.eval x=.slice (some ⟨B,0,none⟩) 1 1)(hn:nQ N0 w v k)(hk:k<=1000)(hN:N0<=w.heap.size)(hB:w.heap[B]?=some (.cells #[c0,c1,c2,c3] 119 fr))(h1:c0.oneCell'=true/\c1.oneCell'=true/\c2.oneCell'=true/\c3.oneCell'=true)(h:∀N cap w',nQ N0 w' (.slice (some ⟨N,0,none⟩) (k+1) cap) (k+1)->w.grownBy w' (MU v k)->N<w'.heap.size->(MU v k=some N\/w.heap.size<=N)->K (a.put o.dst (.slice (some ⟨N,0,none⟩) (k+1) cap)) w'): if Region.wanted o (yielded ops a.tmps)=true then Oper.wp aj o a w K Q else E:=by (have hw:Region.wanted o (yielded ops a.tmps)=true:=by simp[Region.wanted,hgd]);rw[if_pos hw];obtain⟨N,cap,w',hr,h2,h3,h4,h5⟩:=Rv (ty:=o.type) hn hk hN hB h1;unfold Oper.wp execOp;simp only[ho,resolve,invoke,builtin,Sem.run_bind,Sem.run_pure,Result.andThen_ok,av3,auR,au1,hs,hx,hr];exact h N cap w' h2 h3 h4 h5
def ndC(w:World)(N i:Nat):Value:=(w.cell? ⟨N,i,none⟩).getD undef
theorem afu{N0 k N cap:Nat}{w:World}(h:nQ N0 w (.slice (some ⟨N,0,none⟩) (k+1) cap) (k+1)):∃cs,w.heap[N]?=some (.cells cs 119 (0,0))/\N0<=N/\k+1<=cap/\cap<=maxLen/\cs.size=cap*4:=by rcases h with⟨h0,_⟩|⟨N',akf,cs,e,h1,h2,h3,h4,h5,h6,_⟩;omega;cases e;exact⟨cs,h2,h1,h4,h5,h6⟩
theorem ky{N0 k N cap:Nat}{w:World}(h:nQ N0 w (.slice (some ⟨N,0,none⟩) (k+1) cap) (k+1))(j:Nat)(hj:j<(k+1)*4):w.cell? ⟨N,j,none⟩=some (ndC w N j)/\w.frozen? ⟨N,j,none⟩=false:=by (obtain⟨cs,h1,_,h2,_,h3⟩:=afu h;have aF:j<cs.size:=by omega);have:=cell_of h1 (avc aF);exact⟨by rw[ndC,this];rfl,tu h1⟩
theorem wE{N0 k:Nat}{w:World}{v u:Value}(h:nQ N0 w v k)(b i:Nat)(hu:u.oneCell'=true):nQ N0 (w.setCell ⟨b,i,none⟩ u) v k:=by
 rcases h with h|⟨N,cap,cs,e,h1,h2,h3,h4,h5,h6,h7⟩;exact .inl h
 ·by_cases hb:N=b
  ·subst hb;exact .inr ⟨N,cap,_,e,h1,fq h2 i u,h3,h4,h5,by rw[Array.size_setIfInBounds];exact h6,λx hx=>by rw[Array.toList_setIfInBounds,List.take_set]at hx;rcases List.mem_or_eq_of_mem_set hx with hx|rfl;exact h7 x hx;·exact hu⟩
  exact .inr ⟨N,cap,cs,e,h1,(heap_setCell_other _ _ _ _ hb).trans h2,h3,h4,h5,h6,h7⟩
theorem PB{w1 w2:World}{M:Nat}{row:Option Nat}{v0 v1 v2 v3:Value}(hg:w1.grownBy w2 row)(hr:some M≠row)(h:w1.cell? ⟨M,0,none⟩=some v0/\w1.cell? ⟨M,1,none⟩=some v1/\w1.cell? ⟨M,2,none⟩=some v2/\w1.cell? ⟨M,3,none⟩=some v3): w2.cell? ⟨M,0,none⟩=some v0/\w2.cell? ⟨M,1,none⟩=some v1/\w2.cell? ⟨M,2,none⟩=some v2/\w2.cell? ⟨M,3,none⟩=some v3:=⟨hg.cell h.1 hr,hg.cell h.2.1 hr,hg.cell h.2.2.1 hr,hg.cell h.2.2.2 hr⟩
theorem JI{w1 w2:World}(hg:w1.grownBy w2 none):w1.Since w1.heap.size w2:=⟨hg.os,hg.tape,hg.output,hg.size,λk hk=>hg.block k hk (by simp)⟩
def vd(b:Nat)(e:Int)(w:World):World:=if e=0 then w else w.setCell ⟨b,4,none⟩ (.int .i64 1)
theorem DX(b:Nat)(e c:Int)(w:World)(h4:w.cell? ⟨b,4,none⟩=some (.int .i64 c))(f4:w.frozen? ⟨b,4,none⟩=false): Calls aj 52 #[.pointer (some ⟨b,0,none⟩),.int .i64 e] w λr w'=>r=.returned (.tuple #[])/\w'=vd b e w:=by go_enter Tryz.func52,Tryz.ntmps52;by_cases h:e=0;subst h;go_wp2;go_end0;exact⟨rfl,rfl⟩;go_wp2;go_end0;exact⟨rfl,(if_neg h).symm⟩
theorem Xx{w1 w2:World}{b m:Nat}{s0 s1 s2 ta tb:Value}(hs:w1.Since w1.heap.size w2)(h:w1.cell? ⟨b,0,none⟩=some s0/\w1.cell? ⟨b,1,none⟩=some s1/\w1.cell? ⟨b,2,none⟩=some s2/\w1.cell? ⟨m,0,none⟩=some ta/\w1.cell? ⟨m,1,none⟩=some tb): w2.cell? ⟨b,0,none⟩=some s0/\w2.cell? ⟨b,1,none⟩=some s1/\w2.cell? ⟨b,2,none⟩=some s2/\w2.cell? ⟨m,0,none⟩=some ta/\w2.cell? ⟨m,1,none⟩=some tb:=by obtain⟨k0,k1,k2,k3,k4⟩:=h;exact⟨(hs.cell (World.block_lt_of_cell? _ _ k0)).trans k0,(hs.cell (World.block_lt_of_cell? _ _ k1)).trans k1,(hs.cell (World.block_lt_of_cell? _ _ k2)).trans k2,(hs.cell (World.block_lt_of_cell? _ _ k3)).trans k3,(hs.cell (World.block_lt_of_cell? _ _ k4)).trans k4⟩
theorem akg{w1:World}{o o':Obj}{b m:Nat}{s0 s1 s2 ta tb:Value}(hb:b<w1.heap.size)(hm:m<w1.heap.size)(h:(w1.alloc o).cell? ⟨b,0,none⟩=some s0/\(w1.alloc o).cell? ⟨b,1,none⟩=some s1/\(w1.alloc o).cell? ⟨b,2,none⟩=some s2/\(w1.alloc o).cell? ⟨m,0,none⟩=some ta/\(w1.alloc o).cell? ⟨m,1,none⟩=some tb): (w1.alloc o').cell? ⟨b,0,none⟩=some s0/\(w1.alloc o').cell? ⟨b,1,none⟩=some s1/\(w1.alloc o').cell? ⟨b,2,none⟩=some s2/\(w1.alloc o').cell? ⟨m,0,none⟩=some ta/\(w1.alloc o').cell? ⟨m,1,none⟩=some tb:=by have e:∀(a:Addr),a.block<w1.heap.size->(w1.alloc o').cell? a=(w1.alloc o).cell? a:=λa ha=>World.cell?_of_block ((heap_alloc_old w1 o' ha).trans (heap_alloc_old w1 o ha).symm);rwa [e ⟨b,0,none⟩ hb,e ⟨b,1,none⟩ hb,e ⟨b,2,none⟩ hb,e ⟨m,0,none⟩ hm,e ⟨m,1,none⟩ hm]
theorem afv{w1 w':World}{cs:Array Value}{t:TypeId}{N:Nat}(hN:w1.heap.size=N)(hs:(w1.alloc (.cells cs t)).Since (w1.alloc (.cells cs t)).heap.size w'):w'.heap[N]?=some (.cells cs t (0,0)):=by subst hN;exact(hs.block _ (by simp)).trans (heap_alloc_new _ _)
theorem akh{w1 w':World}{x0 x1 x2 x3:Value}{t:TypeId}{N:Nat}(hN:w1.heap.size=N)(hs:(w1.alloc (.cells #[x0,x1,x2,x3] t)).Since (w1.alloc (.cells #[x0,x1,x2,x3] t)).heap.size w'): (w'.cell? ⟨N,0,none⟩=some x0/\w'.cell? ⟨N,1,none⟩=some x1/\w'.cell? ⟨N,2,none⟩=some x2/\w'.cell? ⟨N,3,none⟩=some x3)/\w'.frozen? ⟨N,0,none⟩=false/\w'.frozen? ⟨N,1,none⟩=false/\w'.frozen? ⟨N,2,none⟩=false/\w'.frozen? ⟨N,3,none⟩=false:=by have h:=afv hN hs;simp[World.cell?,World.frozen?,h]
theorem gF{w w1:World}(h:w.Since w.heap.size w1)(o:Obj):w.Since w.heap.size (w1.alloc o):=h.alloc h.size _
theorem kT{P:Program}{md:Region.Mode}{ops:Array Oper}{Q:Exit->Act->World->Prop}{S:World->Prop}{oi:Oper}{v:Value}{fuel:Nat}{listed:Array Bool}{a:Act}{w:World}(i:Nat)(hS:S w)(hi:ops[i]?=some oi)(hw:Region.wanted oi (yielded ops a.tmps)=true)(hy:∀w,S w->(execOp a.eval oi).run P w=.ok (.value v) w)(h:wpAnyH P md ops Q S fuel (listed.setIfInBounds i true) (a.put oi.dst v) w)(hs:Region.noSelect ops=true:=by kernel_rfl)(hf:Region.free md ops listed i=true:=by kernel_rfl)(hr:(Region.ready md ops listed).contains i=true:=by kernel_rfl)(hQ:∀c a w,Q (.panic c) (a.put oi.dst v) w->Q (.panic c) a w:=by exact λ_ _ _ h=>h):wpAnyH P md ops Q S (fuel+1) listed a w:=wpAnyH_take hi hs hf hr hQ (Or.inl ⟨hw,hy⟩) hS h
theorem Xy(b g m n c:Nat)(s0 s1 s2:Value)(e er:Int)(ta tb:Value)(T T2:TypeId)(cur:Array Value)(v5:Value)(w:World)(bW:b≠g)(hn:n<=1000000)(hm:m=n+1)(hbx:w.heap[b]?=some (.cells #[s0,s1,s2,.slice (some ⟨g,0,none⟩) m c,.int .i64 e] T (0,0)))(hgx:w.heap[g]?=some (.cells cur T2 (0,0)))(h5:cur[n*5+2]?=some v5)(hv5:∃a,v5=.slice a 0 0)(ee:∀w1,w.Since w.heap.size w1->Calls aj 51 #[.agg #[s0,s1,s2],.agg #[ta,tb]] w1 λr w2=>(∃x0 x1 x2 x3 x4 x5,r=.returned (.tuple #[.agg #[.int .i64 x0,.string x1,.int .i64 x2,.slice x3 x4 x5],.int .i64 er]))/\w1.Since w1.heap.size w2): Calls aj 18 #[.pointer (some ⟨b,0,none⟩),.agg #[ta,tb]] w λr w'=>r=.returned (.tuple #[])/\∃N cap,fR w w' b g #[s0,s1,s2,.slice (some ⟨g,0,none⟩) m c,.int .i64 (if er=0 then e else 1)] T (cur.setIfInBounds (n*5+2) (.slice (some ⟨N,0,none⟩) 1 cap)) T2/\nQ w.heap.size w' (.slice (some ⟨N,0,none⟩) 1 cap) 1:=by
 obtain⟨a,rfl⟩:=hv5;have h0:w.cell? ⟨b,0,none⟩=some s0:=cell_of hbx rfl;have h1:w.cell? ⟨b,1,none⟩=some s1:=cell_of hbx rfl;have h2:w.cell? ⟨b,2,none⟩=some s2:=cell_of hbx rfl;have hb:b<w.heap.size:=World.block_lt_of_cell? _ _ h0;have hL:=fR.start hbx hgx;have n3:w.heap.size+1≠b:=by omega
 have n4:w.heap.size≠b:=by omega
 have n5:g<w.heap.size:=iA hgx;go_enter Tryz.func18,Tryz.ntmps18;go_wp2_with fail;go_region_held3 (λw'=>w'.cell? ⟨b,0,none⟩=some s0/\w'.cell? ⟨b,1,none⟩=some s1/\w'.cell? ⟨b,2,none⟩=some s2/\w'.cell? ⟨w.heap.size,0,none⟩=some ta/\w'.cell? ⟨w.heap.size,1,none⟩=some tb)
  (first|go_keep|exact Xx hs ‹_›| exact akg n1 n2 ‹_›)
  (first
   |(go_at_call 51;refine(ee _ (gF (gF (.refl _ _) _).drew _)).mono ?_;rintro r w' ⟨⟨x0,x1,x2,x3,x4,x5,rfl⟩,hs⟩;have hz:=hs.size;simp only[World.size_alloc,World.size_drew]at hz;have n1:b<w'.heap.size:=(by omega);have n2:w.heap.size<w'.heap.size:=(by omega);have c4:=akh (N:=w.heap.size+1) (by simp) hs)
   |(go_at_call 51;refine(ee _ (gF (.refl _ _) _).drew).mono ?_;rintro r w' ⟨⟨x0,x1,x2,x3,x4,x5,rfl⟩,hs⟩;have hz:=hs.size;simp only[World.size_alloc,World.size_drew]at hz;have n1:b<w'.heap.size:=(by omega);have n2:w.heap.size<w'.heap.size:=(by omega)))
 all_goals first
  |(have hc:=c4
    have Zx:=(hL.since (gF (gF (.refl _ _) _).drew _)).since hs;have hW:=(((Zx.nP n3 (by omega) (by omega) 0 (.int .i64 x0)).nP n3 (by omega) (by omega) 1 (.string x1)).nP n3 (by omega) (by omega) 2 (.int .i64 x2)).nP n3 (by omega) (by omega) 3 (.slice x3 x4 x5);have hM:=fq (fq (fq (fq (afv (N:=w.heap.size+1) (by simp) hs) 0 (.int .i64 x0)) 1 (.string x1)) 2 (.int .i64 x2)) 3 (.slice x3 x4 x5);have hMl:w.heap.size<w.heap.size+1:=by omega
    generalize (((w'.setCell ⟨w.heap.size+1,0,none⟩ (.int .i64 x0)).setCell ⟨w.heap.size+1,1,none⟩ (.string x1)).setCell ⟨w.heap.size+1,2,none⟩ (.int .i64 x2)).setCell ⟨w.heap.size+1,3,none⟩ (.slice x3 x4 x5)=W at *;clear hs n1 n2 hz hc c4 Zx;generalize w.heap.size+1=M at *
    have hM:W.heap[M]?=some (.cells #[.int .i64 x0,.string x1,.int .i64 x2,.slice x3 x4 x5] 119 (0,0)):=hM)
  |(have hW:fR w (w'.alloc (.cells #[.int .i64 x0,.string x1,.int .i64 x2,.slice x3 x4 x5] 119)) b g _ T cur T2:=((hL.since (gF (.refl _ _) _).drew).since hs).alloc _
    have hM:(w'.alloc (.cells #[.int .i64 x0,.string x1,.int .i64 x2,.slice x3 x4 x5] 119)).heap[w'.heap.size]?=some (.cells #[.int .i64 x0,.string x1,.int .i64 x2,.slice x3 x4 x5] 119 (0,0)):=heap_alloc_new _ _;have hMl:w.heap.size<w'.heap.size:=n2;clear hs n1 n2 hz;generalize w'.alloc (.cells #[.int .i64 x0,.string x1,.int .i64 x2,.slice x3 x4 x5] 119)=W at *
    generalize w'.heap.size=M at *)
 all_goals
  (clear ee
   have q4:W.cell? ⟨b,4,none⟩=some (.int .i64 e):=cell_of hW.box rfl;have f4:=tu (j:=4) hW.box
   go_wp2_with (go_at_call 52;refine(DX b er e W q4 f4).mono ?_;rintro r w2 ⟨rfl,rfl⟩)
   have YI:fR w (vd b er W) b g #[s0,s1,s2,.slice (some ⟨g,0,none⟩) m c,.int .i64 (if er=0 then e else 1)] T cur T2:=by
    by_cases h:er=0
    ·rw[vd,if_pos h,if_pos h];exact hW
    ·rw[vd,if_neg h,if_neg h];exact hW.aft bW 4 _
   have hM2:(vd b er W).heap[M]?=some (.cells #[.int .i64 x0,.string x1,.int .i64 x2,.slice x3 x4 x5] 119 (0,0)):=by
    by_cases h:er=0
    ·rw[vd,if_pos h];exact hM
    ·rw[vd,if_neg h];exact(heap_setCell_other _ ⟨b,4,none⟩ M _ (show M≠b by omega)).trans hM
   clear hM hW q4 f4;generalize vd b er W=w2 at *;have q3:w2.cell? ⟨b,3,none⟩=some (.slice (some ⟨g,0,none⟩) m c):=cell_of YI.box rfl;have i1:(0:Int)<=(n:Int):=by omega
   have i2:(n:Int)<(m:Int):=by omega
   have i3:IntKind.i64.wrap ((m:Int)-1)=(n:Int):=by rw[IntWalk.i64_in _ (by omega)];omega
   go_big_region
   clear q3 i1 i2 i3;have Lr:=YI.size;have n6:g<w2.heap.size:=iA YI.row;have q5:w2.cell? ⟨g,n*5+2,none⟩=some (.slice a 0 0):=cell_of YI.row h5;have f5:w2.frozen? ⟨g,n*5+2,none⟩=false:=tu YI.row;have q6:∀o,(w2.alloc o).cell? ⟨g,n*5+2,none⟩=some (.slice a 0 0):=λo=>cell_of (YI.alloc o).row h5;have k0:w2.cell? ⟨M,0,none⟩=some (.int .i64 x0):=cell_of hM2 rfl;have k1:w2.cell? ⟨M,1,none⟩=some (.string x1):=cell_of hM2 rfl;have k2:w2.cell? ⟨M,2,none⟩=some (.int .i64 x2):=cell_of hM2 rfl;have k3:w2.cell? ⟨M,3,none⟩=some (.slice x3 x4 x5):=cell_of hM2 rfl;have aoN:M<w2.heap.size:=iA hM2
   go_wp2_with fail
   refine wp_region_noPanic (wp_region_held_drew (S:=(λw'=>w'.cell? ⟨M,0,none⟩=some (.int .i64 x0)/\w'.cell? ⟨M,1,none⟩=some (.string x1)/\w'.cell? ⟨M,2,none⟩=some (.int .i64 x2)/\w'.cell? ⟨M,3,none⟩=some (.slice x3 x4 x5))) (by kernel_rfl) (by go_keep) (λeC=>?_));refine kT 0 eC (v:=?_) rfl (by rfl) ?_ ?_
   rotate_left
   (intro w MV;go_simp;try with_reducible rfl)
   refine kT 1 eC (v:=?_) rfl (by rfl) ?_ ?_
   rotate_left
   (intro w MV;go_simp;try with_reducible rfl)
   refine kT 2 eC (v:=?_) rfl (by rfl) ?_ ?_
   rotate_left
   (intro w MV;go_simp;try with_reducible rfl)
   refine kT 4 eC (v:=?_) rfl (by rfl) ?_ ?_
   rotate_left
   (intro w MV;go_simp;try with_reducible rfl)
   refine wpAnyH_ready (rs:=[3,6]) (by kernel_rfl) (by simp) (AllReadyH.cons rfl (λK hK=>?_) (AllReadyH.cons rfl (λK hK=>?_) AllReadyH.nil))
   all_goals (go_simp;refine hK.out _ _ (by go_keep) (λeC=>?_);clear hK K;(try simp only[Act.put,au0,avg,avh]))
   rotate_left
   refine wpAnyH_ready (rs:=[3]) (by kernel_rfl) (by simp) (AllReadyH.cons rfl (λK hK=>?_) AllReadyH.nil)
   (go_simp;refine hK.out _ _ (by go_keep) (λeC=>?_);clear hK K;(try simp only[Act.put,au0,avg,avh]))
   rotate_left
   all_goals
    (refine kT 5 eC (v:=?_) rfl (by rfl) ?_ ?_
     rotate_left
     (intro w MV;go_simp;try with_reducible rfl))
   focus (refine wpAnyH_ready (rs:=[6]) (by kernel_rfl) (by simp) (AllReadyH.cons rfl (λK hK=>?_) AllReadyH.nil);go_simp;refine hK.out _ _ (by go_keep) (λeC=>?_);clear hK K;(try simp only[Act.put,au0,avg,avh]))
   all_goals
    (refine wpAnyH_ready (rs:=[7]) (by kernel_rfl) (by simp) (AllReadyH.cons rfl (λK hK=>?_) AllReadyH.nil)
     (refine Bq (N0:=w.heap.size) (k:=0) (by rfl) _ _ (by rfl) (by rfl) (by rfl) (.inl ⟨rfl,a,rfl⟩) (by omega) (by simp;omega) (heap_alloc_new _ _) ⟨rfl,rfl,rfl,rfl⟩ ?_;intro N cap w3 Xz DY aF zm;have Y8:w2.heap.size<N:=(auK (by simp) (zm.resolve_left (by simp[MU])));have YJ:=((YI.alloc _).drew.drew).since (JI DY);have c5:=cell_of YJ.row h5;have g5:=tu (j:=n*5+2) YJ.row;have e0:=ky Xz 0 (by omega);have e1:=ky Xz 1 (by omega);have e2:=ky Xz 2 (by omega);have e3:=ky Xz 3 (by omega);have d1:N≠g:=(by omega);have d2:N≠M:=(by omega);have d3:g≠M:=(by omega))
     refine hK.out _ _ (by first|go_keep|exact PB DY (by simp[MU]) ‹_›) (λeC=>?_);clear hK K
     (try simp only[Act.put,au0,avg,avh])
     refine kT 8 eC (v:=?_) rfl (by rfl) ?_ ?_
     rotate_left
     (intro w MV;go_simp;try with_reducible rfl)
     refine kT 10 eC (v:=?_) rfl (by rfl) ?_ ?_
     rotate_left
     (intro w MV;go_simp;try with_reducible rfl)
     refine kT 11 eC (v:=?_) rfl (by rfl) ?_ ?_
     rotate_left
     (intro w MV;go_simp;try with_reducible rfl)
     refine wpAnyH_ready (rs:=[9,12]) (by kernel_rfl) (by simp) (AllReadyH.cons rfl (λK hK=>?_) (AllReadyH.cons rfl (λK hK=>?_) AllReadyH.nil))
     all_goals (go_simp;refine hK.out _ _ (by go_keep) (λeC=>?_);clear hK K;(try simp only[Act.put,au0,avg,avh]))
     focus (refine wpAnyH_ready (rs:=[12]) (by kernel_rfl) (by simp) (AllReadyH.cons rfl (λK hK=>?_) AllReadyH.nil);go_simp;refine hK.out _ _ (by go_keep) (λeC=>?_);clear hK K;(try simp only[Act.put,au0,avg,avh]))
     rotate_left
     refine wpAnyH_ready (rs:=[9]) (by kernel_rfl) (by simp) (AllReadyH.cons rfl (λK hK=>?_) AllReadyH.nil)
     (go_simp;refine hK.out _ _ (by go_keep) (λeC=>?_);clear hK K;(try simp only[Act.put,au0,avg,avh]))
     all_goals refine wpAnyH_done (by kernel_rfl) (NoPanic.normal ?_) _)
   all_goals
    (have d4:N≠b:=by omega
     have d5:w.heap.size<=N:=by omega
     go_end0
     refine⟨rfl,N,cap,?_,?_⟩
     ·iterate 5 (first|refine fR.nP ?_ d4 d1 d5 _ _|refine fR.setRow ?_ bW _ _)
      exact YJ
     ·iterate 5 (refine wE ?_ _ _ rfl)
      exact Xz))
end
section
set_option maxHeartbeats 3200000
attribute [local go_sem ↓] Go.wp_at_zero Go.wp_at_succ
section
variable {w0 w w1 w2:World} {b g m:Nat} {vs cur:Array Value} {T T2:TypeId} {s0 s1 s2 t0 t1 t2 t3:Value}
theorem XA(hs:w1.Since w1.heap.size w2)(h:w1.cell? ⟨b,0,none⟩=some s0/\w1.cell? ⟨b,1,none⟩=some s1/\w1.cell? ⟨b,2,none⟩=some s2/\w1.cell? ⟨m,0,none⟩=some t0/\w1.cell? ⟨m,1,none⟩=some t1/\w1.cell? ⟨m,2,none⟩=some t2/\w1.cell? ⟨m,3,none⟩=some t3):w2.cell? ⟨b,0,none⟩=some s0/\w2.cell? ⟨b,1,none⟩=some s1/\w2.cell? ⟨b,2,none⟩=some s2/\w2.cell? ⟨m,0,none⟩=some t0/\w2.cell? ⟨m,1,none⟩=some t1/\w2.cell? ⟨m,2,none⟩=some t2/\w2.cell? ⟨m,3,none⟩=some t3:=by obtain⟨k0,k1,k2,k3,k4,k5,k6⟩:=h;have e:=λ{a:Addr}{v:Value}(k:w1.cell? a=some v)=>(hs.cell (World.block_lt_of_cell? _ _ k)).trans k;exact⟨e k0,e k1,e k2,e k3,e k4,e k5,e k6⟩
theorem akj{o o':Obj}(hb:b<w1.heap.size)(hm:m<w1.heap.size)(h:(w1.alloc o).cell? ⟨b,0,none⟩=some s0/\(w1.alloc o).cell? ⟨b,1,none⟩=some s1/\(w1.alloc o).cell? ⟨b,2,none⟩=some s2/\(w1.alloc o).cell? ⟨m,0,none⟩=some t0/\(w1.alloc o).cell? ⟨m,1,none⟩=some t1/\(w1.alloc o).cell? ⟨m,2,none⟩=some t2/\(w1.alloc o).cell? ⟨m,3,none⟩=some t3):(w1.alloc o').cell? ⟨b,0,none⟩=some s0/\(w1.alloc o').cell? ⟨b,1,none⟩=some s1/\(w1.alloc o').cell? ⟨b,2,none⟩=some s2/\(w1.alloc o').cell? ⟨m,0,none⟩=some t0/\(w1.alloc o').cell? ⟨m,1,none⟩=some t1/\(w1.alloc o').cell? ⟨m,2,none⟩=some t2/\(w1.alloc o').cell? ⟨m,3,none⟩=some t3:=by have e:∀(a:Addr),a.block<w1.heap.size->(w1.alloc o').cell? a=(w1.alloc o).cell? a:=λa ha=>World.cell?_of_block ((heap_alloc_old w1 o' ha).trans (heap_alloc_old w1 o ha).symm);rwa [e ⟨b,0,none⟩ hb,e ⟨b,1,none⟩ hb,e ⟨b,2,none⟩ hb,e ⟨m,0,none⟩ hm,e ⟨m,1,none⟩ hm,e ⟨m,2,none⟩ hm,e ⟨m,3,none⟩ hm]
theorem fR.grown(h:fR w0 w b g vs T cur T2){row:Option Nat}(hg:w.grownBy w1 row)(hr:∀k,row=some k->w0.heap.size<=k)(hb:b<w0.heap.size)(hg0:g<w0.heap.size):fR w0 w1 b g vs T cur T2:=by (have bW:∀k,k<w0.heap.size->some k≠row:=λk hk e=>by have:=hr k e.symm;omega);exact⟨hg.os.trans h.os,hg.tape.trans h.tape,hg.output.trans h.output,auP h.size hg.size,λk k1 k2 k3=>(hg.block k (auK k1 h.size) (bW k k1)).trans (h.Xw k k1 k2 k3),(hg.block b (iA h.box) (bW b hb)).trans h.box,(hg.block g (iA h.row) (bW g hg0)).trans h.row⟩
theorem fR.keeps(h:fR w0 w b g vs T cur T2):cy (λk=>k=b\/k=g) w0 w:=⟨h.os,h.tape,h.output,h.size,λk k1 k2=>h.Xw k k1 (λe=>k2 (.inl e)) λe=>k2 (.inr e)⟩
end
theorem oJ{N0 k:Nat}{w w':World}{v:Value}(h:nQ N0 w v k)(hs:w.Since w.heap.size w'):nQ N0 w' v k:=by rcases h with h|⟨N,cap,cs,e,h1,h2,h3⟩;exact .inl h;exact .inr ⟨N,cap,cs,e,h1,(hs.block N (iA h2)).trans h2,h3⟩
theorem ace{N0 k:Nat}{w:World}{v:Value}(h:nQ N0 w v k):∃p c,v=.slice p k c/\∀j,MU v k=some j->N0<=j/\j<w.heap.size:=by rcases h with⟨rfl,a,rfl⟩|⟨N,cap,cs,rfl,h1,h2,h3,_⟩;exact⟨a,0,rfl,λj hj=>by cases hj⟩;refine⟨_,_,rfl,λj hj=>?_⟩;rw[MU,if_neg (by omega)]at hj;cases hj;exact⟨h1,iA h2⟩
theorem JJ{N0 k B:Nat}{w:World}{v:Value}{c0 c1 c2 c3:Value}{fr:Nat×Nat}{ops:Array Oper}{o:Oper}{a:Act}{K:Act->World->Prop}{Q:Exit->Act->World->Prop}{E:Prop}(hgd:o.guard=none)(s x:Operand)(ho:o.op=.call { callee:=.builtin .append,args:=#[s,x],argTypes:=#[45,45] })(hs:a.eval s=v)(hx:a.eval x=.slice (some ⟨B,0,none⟩) 1 1)(hn:nQ N0 w v k)(hk:k<=1000)(hN:N0<=w.heap.size)(hB:w.heap[B]?=some (.cells #[c0,c1,c2,c3] 119 fr))(h1:c0.oneCell'=true/\c1.oneCell'=true/\c2.oneCell'=true/\c3.oneCell'=true)(h:∀N cap k1 w',Aside (k1=k+1)->(k:Int)<(k1:Int)->nQ N0 w' (.slice (some ⟨N,0,none⟩) k1 cap) k1->w.grownBy w' (MU v k)->N<w'.heap.size->(MU v k=some N\/w.heap.size<=N)->K (a.put o.dst (.slice (some ⟨N,0,none⟩) k1 cap)) w'): if Region.wanted o (yielded ops a.tmps)=true then Oper.wp aj o a w K Q else E:=Bq hgd s x ho hs hx hn hk hN hB h1 λN cap w' e1 e2 e3 e4=>h N cap (k+1) w' rfl (by omega) e1 e2 e3 e4
theorem acf(cur:Array Value)(i:Nat)(u v:Value):(cur.setIfInBounds i u).setIfInBounds i v=cur.setIfInBounds i v:=by simp
theorem XB(cur:Array Value){i:Nat}{u:Value}(h:cur[i]?=some u):cur.setIfInBounds i u=cur:=by apply Array.ext_getElem?;intro j;rw[avy];split;rename_i e;subst e;rw[if_pos (au3.1 h).1,h];rfl
theorem MW(b g m n c len tb to tc:Nat)(s0 s1 s2:Value)(e:Int)(tA:Option Addr)(pb pa:Nat->Option Addr)(lb cb la ca:Nat->Nat)(ki ii:Nat->Int)(T T2:TypeId)(cur:Array Value)(a:Option Addr)(w:World)(bW:b≠g)(hn:n<=1000000)(hm:m=n+1)(hlen:len<=1000)(hbx:w.heap[b]?=some (.cells #[s0,s1,s2,.slice (some ⟨g,0,none⟩) m c,.int .i64 e] T (0,0)))(hgx:w.heap[g]?=some (.cells cur T2 (0,0)))(h5:cur[n*5+2]?=some (.slice a 0 0))(hA:0<len->tA=some ⟨tb,to,none⟩)(htv:∀i,i<len->w.cell? ⟨tb,to+i*4,none⟩=some (.slice (pb i) (lb i) (cb i))/\w.cell? ⟨tb,to+i*4+1,none⟩=some (.int .i64 (ki i))/\w.cell? ⟨tb,to+i*4+2,none⟩=some (.int .i64 (ii i))/\w.cell? ⟨tb,to+i*4+3,none⟩=some (.slice (pa i) (la i) (ca i)))(htb:0<len->tb≠b/\tb≠g)(ee:∀i,i<len->∀w1,cy (λk=>k=b\/k=g) w w1->Calls aj 53 #[.agg #[s0,s1,s2],.agg #[.slice (pb i) (lb i) (cb i),.int .i64 (ki i),.int .i64 (ii i),.slice (pa i) (la i) (ca i)]] w1 λr w2=>(∃x0 x1 x2 x3 x4 x5,r=.returned (.tuple #[.agg #[.int .i64 x0,.string x1,.int .i64 x2,.slice x3 x4 x5],.int .i64 0]))/\w1.Since w1.heap.size w2): Calls aj 19 #[.pointer (some ⟨b,0,none⟩),.slice tA len tc] w λr w'=>r=.returned (.tuple #[])/\∃v,fR w w' b g #[s0,s1,s2,.slice (some ⟨g,0,none⟩) m c,.int .i64 e] T (cur.setIfInBounds (n*5+2) v) T2/\nQ w.heap.size w' v len:=by
 have hL:=fR.start hbx hgx;have U0:=iA hbx;have hgl:=iA hgx;have q3:w.cell? ⟨b,3,none⟩=some (.slice (some ⟨g,0,none⟩) m c):=cell_of hbx rfl;have i1:(0:Int)<=(n:Int):=by omega
 have i2:(n:Int)<(m:Int):=by omega
 have i3:IntKind.i64.wrap ((m:Int)-1)=(n:Int):=by rw[IntWalk.i64_in _ (by omega)];omega
 go_enter Tryz.func19,Tryz.ntmps19;go_wp2_with fail;go_big_region;clear q3 i1 i2 i3;go_wp2_with fail;go_loopg [22] len (λk s22 wr=>∃(r:Nat)(v:Value),r<=len/\k=len-r/\s22=.int .i64 r/\fR w wr b g #[s0,s1,s2,.slice (some ⟨g,0,none⟩) m c,.int .i64 e] T (cur.setIfInBounds (n*5+2) v) T2/\nQ w.heap.size wr v r);case atStart=> refine⟨0,.slice a 0 0,auv _,rfl,rfl,?_,.inl ⟨rfl,a,rfl⟩⟩;rw[XB cur h5];exact hL.drew
 case round=>
  obtain⟨r,v,hr,rfl,rfl,Rx,hNr⟩:=hrel
  by_cases hrn:r<len
  ·obtain rfl:=hA (by omega);obtain⟨g1,g2⟩:=htb (by omega);have hrz:(r:Int)<(len:Int):=by omega
   have hr0:(0:Int)<=(r:Int):=by omega
   obtain⟨z0,z1,z2,z3⟩:=htv r hrn;have hcr:=ee r hrn;have XC:=λ{j:Nat}{u:Value}(k:w.cell? ⟨tb,j,none⟩=some u)=>(World.cell?_of_block (a:=⟨tb,j,none⟩) (Rx.Xw tb (World.block_lt_of_cell? _ _ k) g1 g2)).trans k;have y0:=XC z0;have y1:=XC z1;have y2:=XC z2;have y3:=XC z3;clear htv ee XC z0 z1 z2 z3 hL;generalize pb r=xp0,lb r=xp1,cb r=xp2,ki r=xk,ii r=xi,pa r=xq0,la r=xq1,ca r=xq2 at *;have n0:wr.cell? ⟨b,0,none⟩=some s0:=cell_of Rx.box rfl;have n1:wr.cell? ⟨b,1,none⟩=some s1:=cell_of Rx.box rfl;have n2:wr.cell? ⟨b,2,none⟩=some s2:=cell_of Rx.box rfl;have SN:=iA Rx.box;have Zy:=iA Rx.row;have hzr:=Rx.size;have n3:wr.heap.size+1≠b:=by omega
   have n4:wr.heap.size≠b:=by omega
   go_wp2_with fail
   go_region_held3 (λw'=>w'.cell? ⟨b,0,none⟩=some s0/\w'.cell? ⟨b,1,none⟩=some s1/\w'.cell? ⟨b,2,none⟩=some s2/\w'.cell? ⟨wr.heap.size,0,none⟩=some (.slice xp0 xp1 xp2)/\w'.cell? ⟨wr.heap.size,1,none⟩=some (.int .i64 xk)/\w'.cell? ⟨wr.heap.size,2,none⟩=some (.int .i64 xi)/\w'.cell? ⟨wr.heap.size,3,none⟩=some (.slice xq0 xq1 xq2))
    (first|go_keep|exact XA hs ‹_›| exact akj m1 m2 ‹_›)
    (first
     |(go_at_call 53;refine(hcr _ (((Rx.alloc _).drew).alloc _).keeps).mono ?_;rintro q w' ⟨⟨x0,x1,x2,x3,x4,x5,rfl⟩,hs⟩;have hz:=hs.size;simp only[World.size_alloc,World.size_drew]at hz;have m1:b<w'.heap.size:=(by omega);have m2:wr.heap.size<w'.heap.size:=(by omega);have c4:=akh (N:=wr.heap.size+1) (by simp) hs)
     |(go_at_call 53;refine(hcr _ ((Rx.alloc _).drew).keeps).mono ?_;rintro q w' ⟨⟨x0,x1,x2,x3,x4,x5,rfl⟩,hs⟩;have hz:=hs.size;simp only[World.size_alloc,World.size_drew]at hz;have m1:b<w'.heap.size:=(by omega);have m2:wr.heap.size<w'.heap.size:=(by omega)))
   all_goals first
    |(have hc:=c4
      have Zx:=(((Rx.alloc _).drew).alloc _).since hs;have hN1:=oJ (oJ hNr (gF (gF (.refl _ _) _).drew _)) hs;have n5:wr.heap.size+1≠g:=by omega
      have hW:=(((Zx.nP n3 n5 (by omega) 0 (.int .i64 x0)).nP n3 n5 (by omega) 1 (.string x1)).nP n3 n5 (by omega) 2 (.int .i64 x2)).nP n3 n5 (by omega) 3 (.slice x3 x4 x5);have hV:=wE (wE (wE (wE (u:=.int .i64 x0) hN1 (wr.heap.size+1) 0 rfl) (u:=.string x1) (wr.heap.size+1) 1 rfl) (u:=.int .i64 x2) (wr.heap.size+1) 2 rfl) (u:=.slice x3 x4 x5) (wr.heap.size+1) 3 rfl;have hM:=fq (fq (fq (fq (afv (N:=wr.heap.size+1) (by simp) hs) 0 (.int .i64 x0)) 1 (.string x1)) 2 (.int .i64 x2)) 3 (.slice x3 x4 x5);have hMl:wr.heap.size<wr.heap.size+1:=by omega
      generalize (((w'.setCell ⟨wr.heap.size+1,0,none⟩ (.int .i64 x0)).setCell ⟨wr.heap.size+1,1,none⟩ (.string x1)).setCell ⟨wr.heap.size+1,2,none⟩ (.int .i64 x2)).setCell ⟨wr.heap.size+1,3,none⟩ (.slice x3 x4 x5)=W at *;clear hs m1 m2 hz hc c4 Zx hN1 n5;generalize wr.heap.size+1=M at *
      have hM:W.heap[M]?=some (.cells #[.int .i64 x0,.string x1,.int .i64 x2,.slice x3 x4 x5] 119 (0,0)):=hM)
    |(have hW:=(((Rx.alloc _).drew).since hs).alloc (.cells #[.int .i64 x0,.string x1,.int .i64 x2,.slice x3 x4 x5] 119)
      have hV:=oJ (oJ (oJ hNr (gF (.refl _ _) _).drew) hs) (gF (.refl _ _) (.cells #[.int .i64 x0,.string x1,.int .i64 x2,.slice x3 x4 x5] 119));have hM:(w'.alloc (.cells #[.int .i64 x0,.string x1,.int .i64 x2,.slice x3 x4 x5] 119)).heap[w'.heap.size]?=some (.cells #[.int .i64 x0,.string x1,.int .i64 x2,.slice x3 x4 x5] 119 (0,0)):=heap_alloc_new _ _;have hMl:wr.heap.size<w'.heap.size:=m2;clear hs m1 m2 hz;generalize w'.alloc (.cells #[.int .i64 x0,.string x1,.int .i64 x2,.slice x3 x4 x5] 119)=W at *
      generalize w'.heap.size=M at *)
   all_goals
    (clear hcr
     have q4:W.cell? ⟨b,4,none⟩=some (.int .i64 e):=cell_of hW.box rfl;have f4:=tu (j:=4) hW.box;have qI:vd b 0 W=W:=if_pos rfl
     go_wp2_with (go_at_call 52;refine(DX b 0 e W q4 f4).mono ?_;rintro q w2 ⟨rfl,YH⟩;have hw3:w2=W:=(YH.trans qI);clear YH;subst w2)
     clear qI q4 f4;obtain⟨p,cp,rfl,hnb⟩:=ace hNr;have YK:n*5+2<cur.size:=(au3.1 h5).1;have Lr:=hW.size;have n6:g<W.heap.size:=iA hW.row;have YB:∀u:Value,(cur.setIfInBounds (n*5+2) u)[n*5+2]?=some u:=λu=>by rw[Array.getElem?_setIfInBounds_self_of_lt YK]
     have q5:W.cell? ⟨g,n*5+2,none⟩=some (.slice p r cp):=cell_of hW.row (YB _);have f5:W.frozen? ⟨g,n*5+2,none⟩=false:=tu hW.row;have q6:∀o,(W.alloc o).cell? ⟨g,n*5+2,none⟩=some (.slice p r cp):=λo=>cell_of (hW.alloc o).row (YB _);have k0:W.cell? ⟨M,0,none⟩=some (.int .i64 x0):=cell_of hM rfl;have k1:W.cell? ⟨M,1,none⟩=some (.string x1):=cell_of hM rfl;have k2:W.cell? ⟨M,2,none⟩=some (.int .i64 x2):=cell_of hM rfl;have k3:W.cell? ⟨M,3,none⟩=some (.slice x3 x4 x5):=cell_of hM rfl;have aoN:M<W.heap.size:=iA hM;have hMb:some M≠MU (.slice p r cp) r:=λe=>by have:=(hnb M e.symm).2;omega
     go_wp2_with fail
     refine wp_region_noPanic (wp_region_held_drew (S:=(λw'=>w'.cell? ⟨M,0,none⟩=some (.int .i64 x0)/\w'.cell? ⟨M,1,none⟩=some (.string x1)/\w'.cell? ⟨M,2,none⟩=some (.int .i64 x2)/\w'.cell? ⟨M,3,none⟩=some (.slice x3 x4 x5))) (by kernel_rfl) (by go_keep) (λeC=>?_));refine kT 0 eC (v:=?_) rfl (by rfl) ?_ ?_
     rotate_left
     (intro w MV;go_simp;try with_reducible rfl)
     refine kT 1 eC (v:=?_) rfl (by rfl) ?_ ?_
     rotate_left
     (intro w MV;go_simp;try with_reducible rfl)
     refine kT 2 eC (v:=?_) rfl (by rfl) ?_ ?_
     rotate_left
     (intro w MV;go_simp;try with_reducible rfl)
     refine kT 4 eC (v:=?_) rfl (by rfl) ?_ ?_
     rotate_left
     (intro w MV;go_simp;try with_reducible rfl)
     refine wpAnyH_ready (rs:=[3,6]) (by kernel_rfl) (by simp) (AllReadyH.cons rfl (λK hK=>?_) (AllReadyH.cons rfl (λK hK=>?_) AllReadyH.nil))
     all_goals (go_simp;refine hK.out _ _ (by go_keep) (λeC=>?_);clear hK K;(try simp only[Act.put,au0,avg,avh]))
     rotate_left
     refine wpAnyH_ready (rs:=[3]) (by kernel_rfl) (by simp) (AllReadyH.cons rfl (λK hK=>?_) AllReadyH.nil)
     (go_simp;refine hK.out _ _ (by go_keep) (λeC=>?_);clear hK K;(try simp only[Act.put,au0,avg,avh]))
     rotate_left
     all_goals
      (refine kT 5 eC (v:=?_) rfl (by rfl) ?_ ?_
       rotate_left
       (intro w MV;go_simp;try with_reducible rfl))
     focus (refine wpAnyH_ready (rs:=[6]) (by kernel_rfl) (by simp) (AllReadyH.cons rfl (λK hK=>?_) AllReadyH.nil);go_simp;refine hK.out _ _ (by go_keep) (λeC=>?_);clear hK K;(try simp only[Act.put,au0,avg,avh]))
     all_goals
      (refine wpAnyH_ready (rs:=[7]) (by kernel_rfl) (by simp) (AllReadyH.cons rfl (λK hK=>?_) AllReadyH.nil)
       (refine JJ (N0:=w.heap.size) (k:=r) (by rfl) _ _ (by rfl) (by rfl) (by rfl) (oJ hV (gF (.refl _ _) _).drew) (by omega) (by simp;omega) (heap_alloc_new _ _) ⟨rfl,rfl,rfl,rfl⟩ ?_;intro N cap r1 w3 Dc YC Xz DY aF zm;have hN5:w.heap.size<=N/\N≠M:=(by rcases zm with zm|zm;(exact⟨(hnb N zm).1,λe=>by have:=(hnb N zm).2;omega⟩);(simp at zm;omega));have YJ:=((hW.alloc _).drew).grown DY (λj hj=>(hnb j hj).1) U0 hgl;have c5:=cell_of YJ.row (YB _);have g5:=tu (j:=n*5+2) YJ.row;have hN4:nQ w.heap.size w3 (.slice (some ⟨N,0,none⟩) (r+1) cap) (r+1):=(Dc.out▸Xz);have e0:=ky hN4 (r*4) (by omega);have e1:=ky hN4 (r*4+1) (by omega);have e2:=ky hN4 (r*4+2) (by omega);have e3:=ky hN4 (r*4+3) (by omega);clear hN4;have d1:N≠g:=(by omega);have d2:N≠M:=hN5.2;have d3:g≠M:=(by omega))
       refine hK.out _ _ (by first|go_keep|exact PB DY hMb ‹_›) (λeC=>?_);clear hK K
       (try simp only[Act.put,au0,avg,avh])
       refine kT 8 eC (v:=?_) rfl (by rfl) ?_ ?_
       rotate_left
       (intro w MV;go_simp;try with_reducible rfl)
       refine kT 10 eC (v:=?_) rfl (by rfl) ?_ ?_
       rotate_left
       (intro w MV;go_simp;try with_reducible rfl)
       refine kT 11 eC (v:=?_) rfl (by rfl) ?_ ?_
       rotate_left
       (intro w MV;go_simp;try with_reducible rfl)
       refine wpAnyH_ready (rs:=[9,12]) (by kernel_rfl) (by simp) (AllReadyH.cons rfl (λK hK=>?_) (AllReadyH.cons rfl (λK hK=>?_) AllReadyH.nil))
       all_goals (go_simp;refine hK.out _ _ (by go_keep) (λeC=>?_);clear hK K;(try simp only[Act.put,au0,avg,avh]))
       focus (refine wpAnyH_ready (rs:=[12]) (by kernel_rfl) (by simp) (AllReadyH.cons rfl (λK hK=>?_) AllReadyH.nil);go_simp;refine hK.out _ _ (by go_keep) (λeC=>?_);clear hK K;(try simp only[Act.put,au0,avg,avh]))
       rotate_left
       refine wpAnyH_ready (rs:=[9]) (by kernel_rfl) (by simp) (AllReadyH.cons rfl (λK hK=>?_) AllReadyH.nil)
       (go_simp;refine hK.out _ _ (by go_keep) (λeC=>?_);clear hK K;(try simp only[Act.put,au0,avg,avh]))
       all_goals refine wpAnyH_done (by kernel_rfl) (NoPanic.normal ?_) _)
     all_goals
      (have d4:N≠b:=by omega
       have d5:=hN5.1;have H:Aside (fR w w3 b g #[s0,s1,s2,.slice (some ⟨g,0,none⟩) m c,.int .i64 e] T (cur.setIfInBounds (n*5+2) (.slice p r cp)) T2/\nQ w.heap.size w3 (.slice (some ⟨N,0,none⟩) r1 cap) r1):=⟨YJ,Xz⟩;clear YJ Xz e0 e1 e2 e3 c5 g5 DY aF zm k0 k1 k2 k3 q5 f5 q6 YB hnb hMb hV hW hM hNr Rx hbx hgx
       go_wp2
       go_roundg (len-(r+1))
       case measure=>go_light;omega
       case rel=>
        go_light
        obtain⟨YJ,Xz⟩:=H.out;have oU:=Dc.out;subst r1;refine⟨r+1,.slice (some ⟨N,0,none⟩) (r+1) cap,by omega,rfl,by simp,?_,?_⟩
        ·rw[<-acf cur (n*5+2) (.slice p r cp)]
         iterate 5 (first|refine fR.nP ?_ d4 d1 d5 _ _|refine fR.setRow ?_ bW _ _)
         exact YJ
        ·iterate 5 (refine wE ?_ _ _ rfl)
         exact Xz))
  ·have hrz:¬((r:Int)<(len:Int)):=by omega
   obtain rfl:r=len:=by omega
   go_wp2
   go_end0
   subst hm;exact⟨rfl,v,Rx,hNr⟩
end
end Go.Proofs.YthnnplohnceogaaGreatDoor
