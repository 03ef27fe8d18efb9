/- The lists of what leads to a vertex; a way along falling distances. -/
import Derived.Test.YthkklilhjnpedaaGreatDoorUGnm
import Derived.Test.YthkklilhjnpedaaGreatDoorUPfn
import Derived.Test.YthkklilhjnpedaaGreatDoorUOas
set_option maxHeartbeats 16000000
set_option maxRecDepth 8000
namespace Go.Proofs.YthkklilhjnpedaaGreatDoor
section
open Go.RowKit FF
theorem Zaw{α:Type}{e:El α}{w W:World}{v:Value}{rs:List (α × List Value)}{F:Fence}{n:Nat}{P:Program}{ops:Array Oper}{rest:List Oper}{o:Oper}{a:Act}{Q:Exit→Act→World→Prop}(hgd:o.guard=none)(s x:Operand)(t:TypeId)
  (ho:o.op=.call { callee:=.builtin .append,args:=#[s,x],argTypes:=#[t,t] }) (i:TypeInfo)
  (ht:P.underlying t=some (.slice e.T)) (hi:P.info? e.T=some i) (hz:i.zero=some e.z) (hsize:i.size=e.n) (hby:i.bytes=e.bytes)
  (h:Own e w v rs W) {y:α} {cs:List Value} (hy:e.E y cs W) (ad:Addr) (c:Nat) (hs:a.eval s=v) (hx:a.eval x=.slice (some ad) 1 c)
  (h0:∀ d u,cs[d]?=some u→W.cell? (ad.add d)=some u) (hl:rs.length≤1000000)
  (K:∀ v' W',Own e w v' (rs++[(y,cs)]) W'→W.grownBy W' v.ownBlock→wpListIn F n P ops Q rest (a.put o.dst v') W'):wpListIn F n P ops Q (o::rest) a W:=by
 refine wpListIn_plain hgd fun _ hK=>?_
 obtain⟨v',W',hr,k1,k2⟩:=Xy (P:=P) t o.type i ht hi hz hsize hby h hy ad c h0 hl
 unfold Oper.wpIn
 refine⟨by simp[Oper.about,ho,resolve,Target.leads,Sem.run_pure],?_⟩
 rw[Oper.semAt_plain F _ _ (by rw[ho];intro c hc';cases hc')]
 simp[execOp,ho,resolve,invoke,builtin,hs,hx,hr,Result.andThen]
 exact hK _ _ (K v' W' k1 k2)
theorem Zd9{w W:World}{v:Value}{F:Fence}{n:Nat}{ops:Array Oper}{rest:List Oper}{o:Oper}{a:Act}{Q:Exit→Act→World→Prop}{rs:List (Hw × List Value)}(hgd:o.guard=none)(s x:Operand)(t:TypeId)(ho:o.op=.call { callee:=.builtin .append,args:=#[s,x],argTypes:=#[t,t] })(ht:Tryz.prog.underlying t=some (.slice 67))
  (h:Own eCls w v rs W) (y:Hw) (T:TypeId) (R c:Nat) (hR:W.heap.size=R) (hs:a.eval s=v) (hx:a.eval x=.slice (some ⟨R,0,none⟩) 1 c) (hl:rs.length≤1000000)
  (K:∀ v' W',Own eCls w v' (rs++[(y,hcs y)]) W'→(W.alloc (.cells #[.int .i64 y.a,.int .i64 y.b,.int .i64 y.c,.int .i64 y.d] T)).grownBy W' v.ownBlock→wpListIn F n Tryz.prog ops Q rest (a.put o.dst v') W'):wpListIn F n Tryz.prog ops Q (o::rest) a (W.alloc (.cells #[.int .i64 y.a,.int .i64 y.b,.int .i64 y.c,.int .i64 y.d] T)):=by
 subst hR
 obtain⟨i0,hi,hz0,hz1,hz2⟩:=info_parts Zek
 exact Zaw hgd s x t ho i0 ht hi hz0 hz1 hz2 (h.keep ((brf _ _).alloc (nlr _) _)) (y:=y) (cs:=hcs y) rfl _ c hs hx (Zgg y W T) hl K
def PlI(n0:World)(M nB:Nat)(pre:List Hw)(W:World):Prop:=
 ∃ w2 v rs,w2.heap.size=nB∧Below n0.heap.size n0 w2∧Own eCls w2 v rs W∧rs.map (·.1)=pre∧MapC W M pre∧Cells W (M+1) #[.map (some M)]∧Cells W (M+2) #[v]
theorem Xm{W W':World}{b:Nat}{vs:Array Value}(h:Cells W b vs)(hb:W'.heap[b]?=W.heap[b]?):Cells W' b vs:=by
 have hlt:b<W'.heap.size:=by
  rw[Array.getElem?_eq_getElem h.1]at hb
  exact(Array.getElem?_eq_some_iff.1 hb).1
 refine⟨hlt,fun i hi=>?_,fun i=>?_⟩
 ·rw[← h.2.1 i hi];simp only[World.cell?,hb]
 ·rw[← h.2.2 i];simp only[World.frozen?,hb]
theorem PlI.start{n0 W1:World}{M nB:Nat}(hb:Below n0.heap.size n0 W1)(hs:W1.heap.size=nB)(hm:MapC W1 M [])(h1:Cells W1 (M+1) #[.map (some M)])(h2:Cells W1 (M+2) #[.slice none 0 0]):PlI n0 M nB [] W1:=
 ⟨W1,_,[],hs,hb,Own.start eCls (brf _ _),rfl,hm,h1,h2⟩
theorem PlI.own{n0:World}{M nB B:Nat}(hM:M+2<nB)(hB:nB≤B):OwnFrom B (PlI n0 M nB):=by
 rintro pre X Y row ⟨w2,v,rs,h1,h2,h3,h4,h5,h6,h7⟩ hg hr
 have hblk:∀ k,k<nB→k<X.heap.size→Y.heap[k]?=X.heap[k]?:=fun k hk hx=>hg.block k hx (fun e=>by have:=(hr k e.symm).1;omega)
 refine⟨w2,v,rs,h1,h2,h3.grown (B:=B) (by omega) hg hr (fun x hx=>h3.2.2.1 x hx),h4,?_,Xm h6 (hblk _ (by omega) h6.1),Xm h7 (hblk _ (by omega) h7.1)⟩
 exact(hblk _ (by omega) h5.lt).trans h5
theorem PlI.below{n0:World}{M nB:Nat}{pre:List Hw}{W:World}(h:PlI n0 M nB pre W)(hn:n0.heap.size≤nB):Below n0.heap.size n0 W:=by
 obtain⟨w2,v,rs,h1,h2,h3,-⟩:=h
 exact h2.trans (h3.below.mono (by omega))
theorem Zb1{B b:Nat}{w W:World}{o:Obj}(h:Below B w W)(hb:B≤b):Below B w (W.putObj b o):=
 ⟨h.os,h.tape,h.output,by have:=h.size;simpa[World.putObj] using this,fun k hk=>(World.putObj_heap_other (by omega)).trans (h.block k hk)⟩
theorem PlI.fin{n0 w2 W W3:World}{M nB:Nat}{pre:List Hw}{x:Hw}{v v':Value}{rs:List (Hw × List Value)}{ob:Obj}(hn:n0.heap.size≤M)(hM:M+2<nB)
  (h1:w2.heap.size=nB) (h2:Below n0.heap.size n0 w2) (h3:Own eCls w2 v rs W) (h4:rs.map (·.1)=pre) (h5:MapC W M pre) (h6:Cells W (M+1) #[.map (some M)]) (h7:Cells W (M+2) #[v])
  (h8:Own eCls (w2.putObj M (.map (clsE (pre++[x]) 0).toArray (pre++[x]).length)) v' (rs++[(x,hcs x)]) W3)
  (hg:((W.putObj M (.map (clsE (pre++[x]) 0).toArray (pre++[x]).length)).alloc ob).grownBy W3 v.ownBlock):PlI n0 M nB (pre++[x]) (W3.setCell ⟨M+2,0,none⟩ v'):=by
 have hsz:∀ (X:World) (o:Obj),(X.putObj M o).heap.size=X.heap.size:=fun X o=>by simp[World.putObj]
 have hWs:nB≤W.heap.size:=by rw[← h1];exact h3.below.size
 have hblk:∀ k,k<nB→W3.heap[k]?=(W.putObj M (.map (clsE (pre++[x]) 0).toArray (pre++[x]).length)).heap[k]?:=fun k hk=>by
  rw[hg.block k (by rw[World.size_alloc,hsz];omega) (fun e=>by have:=h3.row_ge k e.symm;omega)]
  exact Below.heap_alloc _ _ _ (by rw[hsz];omega)
 have hlt3:nB≤W3.heap.size:=by have:=hg.size;rw[World.size_alloc,hsz]at this;omega
 have c7:Cells W3 (M+2) #[v]:=Xm h7 ((hblk _ (by omega)).trans (World.putObj_heap_other (by omega)))
 have c6:Cells W3 (M+1) #[.map (some M)]:=Xm h6 ((hblk _ (by omega)).trans (World.putObj_heap_other (by omega)))
 have m5:MapC W3 M (pre++[x]):=(hblk M (by omega)).trans (World.putObj_heap_same h5.lt)
 refine⟨_,v',_,?_,?_,h8.store_low (b:=M+2) (i:=0) (u:=v') (by rw[hsz];omega) (fun y hy=>h8.2.2.1 y hy),by rw[List.map_append,h4];rfl,?_,Xm c6 ((Only.setCell W3 (M+2) 0 v').block _ (by omega)),?_⟩
 ·rw[(Only.setCell _ (M+2) 0 v').size,hsz,h1]
 ·exact(Zb1 h2 hn).setCell (show n0.heap.size≤M+2 by omega) v'
 ·exact((Only.setCell W3 (M+2) 0 v').block M (by omega)).trans m5
 ·exact c7.put1 v'
end
end Go.Proofs.YthkklilhjnpedaaGreatDoor
section
namespace FF
def cand0:List Hw:=up5.flatMap fun i=>up5.map fun k=>⟨0,1,i,k⟩
def cand1:List Hw:=up5.flatMap fun i=>up5.flatMap fun k=>up5.map fun j=>⟨1,i,k,j⟩
def ok0(m:Hw):Bool:=m.c != 0
def ok1(m:Hw):Bool:=cdet m != 0
def pre0(n:Nat):List Hw:=(cand0.take n).filter ok0
def pre1(n:Nat):List Hw:=cls0++(cand1.take n).filter ok1
theorem Zea:∀ i,i<5→∀ k,k<5→cand0[5*i+k]?=some ⟨0,1,(i:Int),(k:Int)⟩:=by decide
theorem Zeb:∀ i,i<5→∀ k,k<5→∀ j,j<5→cand1[25*i+5*k+j]?=some ⟨1,(i:Int),(k:Int),(j:Int)⟩:=by decide +kernel
theorem Zh2:cand0.filter ok0=cls0:=by decide +kernel
theorem Zh3:cand1.filter ok1=cls1:=by decide +kernel
theorem Zh4:pre0 25=cls0:=by decide +kernel
theorem Zh5:pre1 0=cls0:=by simp[pre1]
theorem Zh6:pre1 125=clsL:=by decide +kernel
theorem XT{l:List Hw}{p:Hw→Bool}{n:Nat}{m:Hw}(h:l[n]?=some m):(l.take (n+1)).filter p=(l.take n).filter p++(if p m then [m] else []):=by
 rw[List.take_add_one,h,List.filter_append]
 cases hp:p m <;> simp[hp]
theorem pre0_on{i k:Nat}(hi:i<5)(hk:k<5)(h:(i:Int)≠0):pre0 (5*i+k+1)=pre0 (5*i+k)++[⟨0,1,(i:Int),(k:Int)⟩]:=by
 unfold pre0
 rw[XT (Zea i hi k hk),if_pos (by simpa[ok0] using h)]
theorem pre0_off{i k:Nat}(hi:i<5)(hk:k<5)(h:(i:Int)=0):pre0 (5*i+k+1)=pre0 (5*i+k):=by
 unfold pre0
 rw[XT (Zea i hi k hk),if_neg (by simpa[ok0] using h),List.append_nil]
theorem pre1_on{i k j:Nat}(hi:i<5)(hk:k<5)(hj:j<5)(h:cdet ⟨1,(i:Int),(k:Int),(j:Int)⟩≠0):pre1 (25*i+5*k+j+1)=pre1 (25*i+5*k+j)++[⟨1,(i:Int),(k:Int),(j:Int)⟩]:=by
 unfold pre1
 rw[XT (Zeb i hi k hk j hj),if_pos (by simpa[ok1] using h),List.append_assoc]
theorem pre1_off{i k j:Nat}(hi:i<5)(hk:k<5)(hj:j<5)(h:cdet ⟨1,(i:Int),(k:Int),(j:Int)⟩=0):pre1 (25*i+5*k+j+1)=pre1 (25*i+5*k+j):=by
 unfold pre1
 rw[XT (Zeb i hi k hk j hj),if_neg (by simpa[ok1] using h),List.append_nil]
theorem pre0_pre(n:Nat):pre0 n <+: clsL:=by
 unfold pre0 clsL
 refine List.IsPrefix.trans ?_ (List.prefix_append _ _)
 rw[← Zh2]
 exact(List.take_prefix _ _).filter _
theorem pre1_pre(n:Nat):pre1 n <+: clsL:=by
 unfold pre1 clsL
 rw[← Zh3,List.prefix_append_right_inj]
 exact(List.take_prefix _ _).filter _
end FF
end
section
namespace FF
theorem Zh7:∀ m∈clsL,∀ g∈Um 13,ZS (cmul m g)∈clsL:=by decide +kernel
theorem Zh8:∀ m∈clsL,∀ g∈Um 17,ZS (cmul m g)∈clsL:=by decide +kernel
theorem Zgd{p:Int}(hp:p=13∨p=17){m g:Hw}(hm:m∈clsL)(hg:g∈Um p):ZS (cmul m g)∈clsL:=by
 rcases hp with rfl | rfl
 ·exact Zh7 m hm g hg
 ·exact Zh8 m hm g hg
end FF
end
namespace Go.Proofs.YthkklilhjnpedaaGreatDoor
section
open Go.RowKit FF
theorem Zge{m:Hw}(hm:m∈clsL):In5 m:=by
 have h:(clsL.all fun m=>decide (m.a∈up5) && decide (m.b∈up5) && decide (m.c∈up5) && decide (m.d∈up5))=true:=by decide +kernel
 have:=List.all_eq_true.1 h m hm
 simp only[Bool.and_eq_true,decide_eq_true_eq]at this
 exact⟨this.1.1.1,this.1.1.2,this.1.2,this.2⟩
theorem gens_in5{p:Int}{g:Hw}(hg:g∈Um p):In5 g:=by
 obtain⟨x,-,rfl⟩:=List.mem_map.1 hg
 exact KQ x
theorem Yl.lookupC{a:Act}{W:World}{o:Oper}{x z:Operand}{b:Nat}{l:List Hw}{h:Hw}(hm:MapC W b l)(hl:h∈l)(ho:o.op=.lookup 69 x z false)(hx:a.eval x=.map (some b))(hz:a.eval z=hv h):Yl Tryz.prog o a W (VC (.int .i64 (l.idxOf h:Int))):=
 .instr (s:=Instr.lookup 69 (.map (some b)) (hv h) false) (by simp only[execOp,ho,hx,hz]) (ZcG hm hl) rfl
theorem Cells.hcs{W:World}{R:Nat}{h:Hw}(hc:Cells W R #[.int .i64 h.a,.int .i64 h.b,.int .i64 h.c,.int .i64 h.d]):∀ d u,(hcs h)[d]?=some u→W.cell? ⟨R,0+d,none⟩=some u:=fun d u hd=>by
 obtain⟨z0,z1,z2,z3⟩:=hc.four
 have hd':=hd
 rw[Nat.zero_add]
 rcases d with _ | _ | _ | _ | d
 ·obtain rfl:_=u:=oSi hd';exact z0
 ·obtain rfl:_=u:=oSi hd';exact z1
 ·obtain rfl:_=u:=oSi hd';exact z2
 ·obtain rfl:_=u:=oSi hd';exact z3
 ·cases hd'
def GB(R:Nat)(v u:Value)(W:World):Prop:=W.heap[R]?=some (.cells #[v,u] 33 (0,0))
section
variable {R:Nat}{v u:Value}{W W':World}
theorem GB.lt(h:GB R v u W):R<W.heap.size:=(Array.getElem?_eq_some_iff.1 h).1
theorem GB.alt{row:Option Nat}(h:GB R v u W)(ha:Alt row W W')(hn:row≠some R):GB R v u W':=(ha.block R h.lt (fun e=>hn e.symm)).trans h
theorem GB.keep(h:GB R v u W)(hb:Below W.heap.size W W'):GB R v u W':=h.alt (.below hb) (fun e=>by cases e)
theorem GB.c0(h:GB R v u W):W.cell? ⟨R,0,none⟩=some v:=by simp[World.cell?,show W.heap[R]?=_ from h]
theorem GB.c1(h:GB R v u W):W.cell? ⟨R,1,none⟩=some u:=by simp[World.cell?,show W.heap[R]?=_ from h]
theorem GB.f(h:GB R v u W)(i:Nat):W.frozen? ⟨R,i,none⟩=false:=by simp[World.frozen?,show W.heap[R]?=_ from h]
theorem GB.new(W:World)(v u:Value):GB W.heap.size v u (W.alloc (.cells #[v,u] 33)):=World.alloc_heap_new W _
theorem GB.set0(h:GB R v u W)(x:Value):GB R x u (W.setCell ⟨R,0,none⟩ x):=by
 have hh:W.heap[R]?=_:=h
 unfold GB
 simp[World.setCell,Array.getElem?_modify,hh]
theorem GB.set1(h:GB R v u W)(x:Value):GB R v x (W.setCell ⟨R,1,none⟩ x):=by
 have hh:W.heap[R]?=_:=h
 unfold GB
 simp[World.setCell,Array.getElem?_modify,hh]
theorem GB.clean(h:GB R v u W)(hv:¬ Xo v)(hu:¬ Xo u):Clean Xo W R:=Clean.cells h fun x hx=>by
 simp at hx
 rcases hx with rfl | rfl
 ·exact hv
 ·exact hu
theorem Own.ne_box{α:Type}{e:El α}{w:World}{x:Value}{rs:List (α × List Value)}(h:Own e w x rs W)(hg:GB R v u W)(hT:e.T≠33):∀ g,x.ownBlock=some g→some R≠some g:=fun g h1 h3=>by
 injection h3 with h3
 subst h3
 obtain⟨c1,k1⟩:=h.tag h1
 rw[show W.heap[R]?=_ from hg]at k1
 injection k1 with k1
 injection k1 with _ k3
 exact hT k3.symm
theorem Own.noint{α:Type}{e:El α}{w:World}{x:Value}{rs:List (α × List Value)}(h:Own e w x rs W):¬ Xo x:=by
 obtain⟨A,c,rfl,-⟩:=h.len
 rintro⟨k,n,e⟩;cases e
end
def GrI(w0:World)(R:Nat)(p:Int)(i:Nat)(X:World):Prop:=
 ∃ v u rsN rsE,Own Z6 w0 v rsN X∧Own Z7 w0 u rsE X∧rsN.map (·.1)=(clsL.take i).map ZX∧rsE.map (·.1)=(clsL.take i).map (nbrs p)∧GB R v u X
theorem GrI.keep{w0 X X':World}{R i:Nat}{p:Int}(h:GrI w0 R p i X)(hb:Below X.heap.size X X'):GrI w0 R p i X':=by
 obtain⟨v,u,rsN,rsE,h1,h2,h3,h4,h5⟩:=h
 exact⟨v,u,rsN,rsE,h1.keep hb,h2.keep hb,h3,h4,h5.keep hb⟩
theorem GrI.start(w0:World)(p:Int):GrI w0 w0.heap.size p 0 (w0.alloc (.cells #[.slice none 0 0,.slice none 0 0] 33)):=
 ⟨_,_,[],[],Own.start Z6 ((brf _ _).alloc (nlr _) _),Own.start Z7 ((brf _ _).alloc (nlr _) _),rfl,rfl,GB.new _ _ _⟩
theorem GrI.below{w0 X:World}{R i:Nat}{p:Int}(h:GrI w0 R p i X):Below w0.heap.size w0 X:=by
 obtain⟨v,u,rsN,rsE,h1,-⟩:=h
 exact h1.below
theorem Own.clean2{α:Type}{e:El α}{w W:World}{v:Value}{rs:List (α × List Value)}(h:Own e w v rs W)(hb:e.Bad=Xo):∀ g,v.ownBlock=some g→Clean Xo W g:=fun g hg=>hb ▸ h.2.2.2 g hg
section
variable {w0 W W':World}{R R17 N:Nat}{cm:Array Value}{l v u v' u':Value}{ls:List Int}{rsN rN:List (List UInt8 × List Value)}{rsE rE:List (List Int × List Value)}
def exG(N:Nat)(w0:World)(R R17:Nat)(cm:Array Value)(l:Value)(ls:List Int)(v u:Value)(rsN rN:List (List UInt8 × List Value))(rsE rE:List (List Int × List Value)):Nat→World→Prop
 | 0,W=>Own Z6 w0 v rsN W∧Own Z7 w0 u rsE W∧GB R v u W∧Cells W R17 cm∧NP ls l W∧N≤W.heap.size
 | 1,W=>Own Z7 w0 u rsE W∧GB R v u W∧NP ls l W∧N≤W.heap.size
 | 2,W=>GB R v u W
 | 3,W=>∃ v',Own Z6 w0 v' rN W∧GB R v' u W
 | _,W=>∃ v' u',Own Z6 w0 v' rN W∧Own Z7 w0 u' rE W∧GB R v' u' W
theorem exG.keep:∀ k,Keeps (fun _=>exG N w0 R R17 cm l ls v u rsN rN rsE rE k)
 | 0,_,_,_,⟨h1,h2,h3,h4,h5,h6⟩,hb=>⟨h1.keep hb,h2.keep hb,h3.keep hb,h4.keep hb,Sl.keep h5 hb,Nat.le_trans h6 hb.size⟩
 | 1,_,_,_,⟨h2,h3,h5,h6⟩,hb=>⟨h2.keep hb,h3.keep hb,Sl.keep h5 hb,Nat.le_trans h6 hb.size⟩
 | 2,_,_,_,h,hb=>GB.keep h hb
 | 3,_,_,_,⟨v',h1,h2⟩,hb=>⟨v',h1.keep hb,h2.keep hb⟩
 | _+4,_,_,_,⟨v',u',h1,h2,h3⟩,hb=>⟨v',u',h1.keep hb,h2.keep hb,h3.keep hb⟩
theorem exG.zero{k:Nat}(hk:k≤0)(h:exG N w0 R R17 cm l ls v u rsN rN rsE rE k W):Own Z6 w0 v rsN W∧Own Z7 w0 u rsE W∧GB R v u W∧Cells W R17 cm∧NP ls l W∧N≤W.heap.size:=by
 obtain rfl:k=0:=by omega
 exact h
theorem exG.gb1{k:Nat}(hk:k≤1)(h:exG N w0 R R17 cm l ls v u rsN rN rsE rE k W):GB R v u W:=by
 match k,hk,h with
 | 0,_,h=>exact h.2.2.1
 | 1,_,h=>exact h.2.1
theorem exG.size{k:Nat}(hk:k≤1)(h:exG N w0 R R17 cm l ls v u rsN rN rsE rE k W):N≤W.heap.size:=by
 match k,hk,h with
 | 0,_,h=>exact h.2.2.2.2.2
 | 1,_,h=>exact h.2.2.2
theorem exG.ph1(h:exG N w0 R R17 cm l ls v u rsN rN rsE rE 1 W):Own Z7 w0 u rsE W∧GB R v u W∧NP ls l W∧N≤W.heap.size:=h
theorem exG.ph2(h:exG N w0 R R17 cm l ls v u rsN rN rsE rE 2 W):GB R v u W:=h
theorem exG.ph3(h:exG N w0 R R17 cm l ls v u rsN rN rsE rE 3 W):∃ v',Own Z6 w0 v' rN W∧GB R v' u W:=h
theorem exG.ph4(h:exG N w0 R R17 cm l ls v u rsN rN rsE rE 4 W):∃ v' u',Own Z6 w0 v' rN W∧Own Z7 w0 u' rE W∧GB R v' u' W:=h
theorem exG.one(h:exG N w0 R R17 cm l ls v u rsN rN rsE rE 0 W)(hg:W.grownBy W' v.ownBlock)(hv':Own Z6 w0 v' rN W') :
  exG N w0 R R17 cm l ls v u rsN rN rsE rE 1 W'∧(∀ x rs,Own Z7 w0 x rs W→Own Z7 w0 x rs W'):=by
 obtain⟨h1,h2,h3,h4,h5,h6⟩:=h
 have hcl:=h1.clean2 rfl
 have hx:∀ x rs,Own Z7 w0 x rs W→Own Z7 w0 x rs W':=fun x rs hx=>hx.aside (.grown hg) hv'.below (hx.ne h1 (by decide)) hcl
 exact⟨⟨hx _ _ h2,h3.alt (.grown hg) (fun e=>(h1.ne_box h3 (by decide) _ e) rfl),h5.alt (.grown hg) hcl,Nat.le_trans h6 hg.size⟩,hx⟩
theorem exG.two(h:exG N w0 R R17 cm l ls v u rsN rN rsE rE 1 W)(hg:W.grownBy W' u.ownBlock)(hu':Own Z7 w0 u' rE W') :
  exG N w0 R R17 cm l ls v u rsN rN rsE rE 2 W'∧(∀ x rs,Own Z6 w0 x rs W→Own Z6 w0 x rs W'):=by
 obtain⟨h2,h3,h5,-⟩:=h
 have hcl:=h2.clean2 rfl
 have hx:∀ x rs,Own Z6 w0 x rs W→Own Z6 w0 x rs W':=fun x rs hx=>hx.aside (.grown hg) hu'.below (hx.ne h2 (by decide)) hcl
 exact⟨h3.alt (.grown hg) (fun e=>(h2.ne_box h3 (by decide) _ e) rfl),hx⟩
theorem Zh9{x:Value}{i:Nat}(hR:w0.heap.size≤R)(h:Below w0.heap.size w0 W):Below w0.heap.size w0 (W.setCell ⟨R,i,none⟩ x):=h.setCell hR _
theorem Own.boxed{α:Type}{e:El α}{x y:Value}{i:Nat}{rs:List (α × List Value)}(h:Own e w0 x rs W)(hR:w0.heap.size≤R)(hg:GB R v u W)(hv:¬ Xo v)(hu:¬ Xo u)(hT:e.T≠33)(hb:e.Bad=Xo):Own e w0 x rs (W.setCell ⟨R,i,none⟩ y):=
 h.aside (.only (Only.setCell W R i y)) (Zh9 hR h.below) (h.ne_box hg hT) (fun g e=>by injection e with e;subst e;rw[hb];exact hg.clean hv hu)
theorem exG.three(hR:w0.heap.size≤R)(hv:¬ Xo v)(hu:¬ Xo u)(h:exG N w0 R R17 cm l ls v u rsN rN rsE rE 2 W)(h1:Own Z6 w0 v' rN W) :
  exG N w0 R R17 cm l ls v u rsN rN rsE rE 3 (W.setCell ⟨R,0,none⟩ v')∧(∀ x rs,Own Z6 w0 x rs W→Own Z6 w0 x rs (W.setCell ⟨R,0,none⟩ v'))∧(∀ x rs,Own Z7 w0 x rs W→Own Z7 w0 x rs (W.setCell ⟨R,0,none⟩ v')):=by
 have hg:GB R v u W:=h
 exact⟨⟨v',h1.boxed hR hg hv hu (by decide) rfl,hg.set0 v'⟩,fun x rs hx=>hx.boxed hR hg hv hu (by decide) rfl,fun x rs hx=>hx.boxed hR hg hv hu (by decide) rfl⟩
theorem exG.four(hR:w0.heap.size≤R)(hu:¬ Xo u)(h:exG N w0 R R17 cm l ls v u rsN rN rsE rE 3 W)(h1:Own Z7 w0 u' rE W) :
  exG N w0 R R17 cm l ls v u rsN rN rsE rE 4 (W.setCell ⟨R,1,none⟩ u')∧(∀ x rs,Own Z6 w0 x rs W→Own Z6 w0 x rs (W.setCell ⟨R,1,none⟩ u'))∧(∀ x rs,Own Z7 w0 x rs W→Own Z7 w0 x rs (W.setCell ⟨R,1,none⟩ u')):=by
 obtain⟨v',h2,hg⟩:=h
 have hv:=h2.noint
 exact⟨⟨v',u',h2.boxed hR hg hv hu (by decide) rfl,h1.boxed hR hg hv hu (by decide) rfl,hg.set1 u'⟩,fun x rs hx=>hx.boxed hR hg hv hu (by decide) rfl,fun x rs hx=>hx.boxed hR hg hv hu (by decide) rfl⟩
theorem Y6{b:Nat}{c:Value}(h:W.cell? ⟨b,0,none⟩=some c):∀ (d:Nat) u,[c][d]?=some u→W.cell? ((⟨b,0,none⟩:Addr).add d)=some u:=fun d u hd=>by
 have hd0:d=0:=by have:=(List.getElem?_eq_some_iff.1 hd).1;simpa using this
 subst hd0
 have hu:u=c:=by simpa using hd.symm
 rw[hu];exact h
theorem GrI.next{p:Int}{k:Nat}{m:Hw}{rsN:List (List UInt8 × List Value)}{rsE:List (List Int × List Value)}{a b:List Value}(hm:clsL[k]?=some m)(h3:rsN.map (·.1)=(clsL.take k).map ZX)(h4:rsE.map (·.1)=(clsL.take k).map (nbrs p))
  (h:∃ v' u',Own Z6 w0 v' (rsN++[(ZX m,a)]) W∧Own Z7 w0 u' (rsE++[(nbrs p m,b)]) W∧GB R v' u' W):GrI w0 R p (k+1) W:=by
 obtain⟨v',u',g1,g2,g3⟩:=h
 refine⟨v',u',_,_,g1,g2,?_,?_,g3⟩
 ·rw[List.map_append,h3,List.take_add_one,hm];simp
 ·rw[List.map_append,h4,List.take_add_one,hm];simp
end
theorem KM{W:World}{D:Nat}{o:Obj}:Alt (some D) W (W.putObj D o):=⟨by simp[World.putObj],fun b _ hn=>World.putObj_heap_other (fun e=>hn (by rw[e]))⟩
theorem Zb2{Bad:Value→Prop}{W:World}{D:Nat}{o:Obj}(h:W.heap[D]?=some o)(ho:o.isCells=false):Clean Bad W D:=fun i u e=>by
 simp only[World.cell?,h]at e
 cases o with
 | cells c T fz=>cases ho
 | _=>simp at e
theorem Own.ne_obj{α:Type}{e:El α}{w W:World}{v:Value}{rs:List (α × List Value)}(h:Own e w v rs W){D:Nat}{o:Obj}(hd:W.heap[D]?=some o)(ho:o.isCells=false):v.ownBlock≠some D:=fun e1=>by
 obtain⟨c,k⟩:=h.tag e1
 rw[hd]at k
 injection k with k
 subst k
 cases ho
theorem gr_final{w0 W:World}{R4 D:Nat}{v u:Value}{rsN:List (List UInt8 × List Value)}{rsE:List (List Int × List Value)}(hR:GB R4 (.slice none 0 0) (.slice none 0 0) W)(hz:R4<w0.heap.size)(hN:Own Z6 w0 v rsN W)(hE:Own Z7 w0 u rsE W)(hD:W.heap[D]?=some (.deferred (some []))) :
  GB R4 v u (((W.setCell ⟨R4,0,none⟩ v).setCell ⟨R4,1,none⟩ u).putObj D (.deferred none))∧GV (rsN.map (·.1)) (rsE.map (·.1)) v u (((W.setCell ⟨R4,0,none⟩ v).setCell ⟨R4,1,none⟩ u).putObj D (.deferred none)):=by
 have hDR:R4≠D:=fun e=>by subst e;rw[show W.heap[R4]?=_ from hR]at hD;cases hD
 have h1:¬ Xo (.slice none 0 0):=fun ⟨k,n,e⟩=>by cases e
 have g1:=hR.set0 v
 have g2:=g1.set1 u
 have o1:v.ownBlock≠some R4:=fun e=>by have:=hN.row_ge _ e;omega
 have o2:u.ownBlock≠some R4:=fun e=>by have:=hE.row_ge _ e;omega
 have a1:Alt (some R4) W (W.setCell ⟨R4,0,none⟩ v):=.only (Only.setCell W R4 0 v)
 have a2:Alt (some R4) (W.setCell ⟨R4,0,none⟩ v) ((W.setCell ⟨R4,0,none⟩ v).setCell ⟨R4,1,none⟩ u):=.only (Only.setCell _ R4 1 u)
 have c1:Clean Xo W R4:=hR.clean h1 h1
 have c2:Clean Xo (W.setCell ⟨R4,0,none⟩ v) R4:=g1.clean hN.noint h1
 have hD2:((W.setCell ⟨R4,0,none⟩ v).setCell ⟨R4,1,none⟩ u).heap[D]?=some (.deferred (some [])):=by
  rw[(Only.setCell _ R4 1 u).block D (Ne.symm hDR),(Only.setCell W R4 0 v).block D (Ne.symm hDR)];exact hD
 have off:∀ {x:Value} {g:Nat},x.ownBlock≠some g→Off g x:=fun hx b o n c e1 e2=>by subst e1;subst e2;exact hx rfl
 have n1:=hN.ne_obj hD rfl
 have n2:=hE.ne_obj hD rfl
 refine⟨g2.alt KM (fun e=>hDR (oSi e).symm),?_,?_⟩
 ·exact Sl.str (((hN.sl.other a1 c1 (off o1)).other a2 c2 (off o1)).other KM (Zb2 hD2 rfl) (off n1))
 ·exact Sl.row (((hE.sl.other a1 c1 (off o2)).other a2 c2 (off o2)).other KM (Zb2 hD2 rfl) (off n2))
theorem genL_pos{p:Int}(hp:p=13∨p=17):0<(genL p).length:=by rcases hp with rfl | rfl <;> decide +kernel
end
section
open Go.RowKit FF
attribute [local go_sem] Oper.semAt_some
theorem Zec{P:Program}{a:Act}{W:World}{o:Oper}{b i f:Nat}(h:Yl P o a W (VC (.pointer (some ⟨b,f+i*1,none⟩)))):Yl P o a W (VC (.pointer (some ⟨b,f+i,none⟩))):=by
 rw[Nat.mul_one]at h
 exact h
theorem Zed{u:Value}{r:List Int}{y:Int}{w:World}(hu:NP r u w)(hy:y∈r)(hl:r.length≤1000000):Calls Tryz.prog 42 #[u,.int .i64 y] w (Zb (VC (.bool true)) w):=by
 obtain⟨A,c,rfl,h1,h2⟩:=hu.len
 have h0:0<r.length:=List.length_pos_of_mem hy
 obtain⟨b,o,rfl,-,-⟩:=Zv hu (i:=0) (gEe h0)
 have h:=Tryz.slices_Contains_int b o r.length c r y w (nlr _) (by omega) (fun j hj=>by
  obtain⟨b',o',e,-,hc⟩:=Zv hu (gEe hj)
  injection e with e
  injection e with e1 e2
  subst e1 e2
  rw[hc,gDg,gEe hj];rfl)
 rw[tOl (nlr _),List.contains_iff_mem.2 hy]at h
 refine h.mono ?_
 rintro e w' ⟨rfl,rfl⟩
 exact⟨_,rfl,rfl,brf _ _⟩
theorem ZdE{a b u:Value}{names:List (List UInt8)}{edges:List (List Int)}{l:List Int}{w:World}(hg:GV names edges a b w)(hok:okG names edges=true)(hu:NP l u w)(h0:0<l.length)(hl:l.length≤1000000)
  (hrl:∀ r∈edges,r.length≤1000000) (hin:∀ x∈l,0≤x∧x<(edges.length:Int)) (hst:∀ (i x:Nat) (y:Int),l[i]?=some (x:Int)→l[i+1]?=some y→∃ r,edges[x]?=some r∧y∈r) :
  Calls Tryz.prog 12 #[.agg #[a,b],u] w (Zb (VC (.int .i64 0)) w):=by
 have hne:names.length=edges.length:=by
  unfold okG at hok
  simp only[Bool.and_eq_true,decide_eq_true_eq]at hok
  exact hok.1.1.1.1
 have HCk:=lhd (fun (W:World) (hb:Below w.heap.size w W)=>Uu (hg.keep hb) hok)
 obtain⟨A,ca,rfl,-,-⟩:=hg.1.len
 have hx0:=hin l[0] (List.getElem_mem h0)
 have he0:0<edges.length:=by omega
 obtain⟨Ab,cN,rfl,-,-⟩:=hg.2.len
 obtain⟨bN,oN,uN,rfl,hbN,-,-⟩:=ZP hg.2 (gEe he0)
 obtain⟨n,hn⟩:=nmx (edges.length)
 rw[hne,← hn]at hg HCk ⊢
 rw[← hn]at hin
 obtain⟨Al,c,rfl,hc1,hc2⟩:=hu.len
 obtain⟨bL,oL,rfl,hbL,-⟩:=Zv hu (gEe h0)
 obtain⟨m,hm⟩:=nmx (l.length)
 rw[← hm]at hu h0 hl hc1 ⊢
 obtain⟨i0,hi0,-,hz1,-⟩:=info_parts ZM
 obtain⟨A1,hsl,hdr⟩:=Sl.drop (e:=eNum) (l:=l) (P:=Tryz.prog) (t:=40) (A:=some ⟨bL,oL,none⟩) (n:=m) (c:=c) (k:=1) Tryz.underlying40 hi0 hz1 hm (by omega) (by omega) hc2
 replace hsl:∀ W,(Instr.sliceAt 40 (.slice (some ⟨bL,oL,none⟩) m c) (some (.int .i64 1)) none none).run Tryz.prog W=.ok (.slice A1 (m-1) (c-1)) W:=hsl
 have HU:=lhd hu;have HDr:=lhd (hdr w hu);have HL:=lhd hl;have HIn:=lhd hin;have HSt:=lhd hst;have HRl:=lhd hrl;have HM:=lhd hm;have HG:=lhd hg;have HN:=lhd hn
 have HCl:=lhd (fun (W:World) (hb:Below w.heap.size w W)=>ZdN (A:=A) (n:=n) (c:=ca) (b:=.slice (some ⟨bN,oN,none⟩) n cN) (Sl.keep hu hb) (by rw[← hm];exact h0) (by rw[← hm];exact hl) hin)
 have HM0:=lhd h0
 clear hu hdr hl hin hst hrl hg hok hbN hbL hx0 he0 hne hc1 hc2 hn h0 hm hi0 hz1
 go_enter Tryz.func12,Tryz.ntmps12
 go_upto_region 1 with fail
 have hgb:=GBox.new (a:=.slice A n ca) (b:=.slice (some ⟨bN,oN,none⟩) n cN) (W:=w)
 have hA:=(brf w.heap.size w).alloc (nlr _) (.cells #[.slice A n ca,.slice (some ⟨bN,oN,none⟩) n cN] 33)
 obtain⟨W0,hW0⟩:=nmx (w.alloc (.cells #[.slice A n ca,.slice (some ⟨bN,oN,none⟩) n cN] 33))
 obtain⟨R,hR⟩:=nmx (w.heap.size)
 rw[← hW0]at hA hgb ⊢
 rw[← hR]at hgb ⊢
 have HA:=lhd hA;have HB0:=lhd hgb
 obtain⟨-,q0,q1⟩:=hgb
 clear hA hW0 hR
 go_wp2_with fail
 refine(HCk.out _ HA.out).mono ?_
 rintro e w1 ⟨_,rfl,rfl,hb1⟩
 have HA1:=lhd (HA.out.trans (hb1.mono HA.out.size));have HB1:=lhd (HB0.out.keep hb1)
 clear hb1 q0 q1
 obtain⟨-,q0,q1⟩:=HB1.out
 go_wp2_with fail
 have hcl:=HCl.out _ HA1.out
 refine hcl.mono ?_
 rintro e w2 ⟨_,rfl,rfl,hb2⟩
 have HA2:=lhd (HA1.out.trans (hb2.mono HA1.out.size));have HB2:=lhd (HB1.out.keep hb2)
 clear hb2 q0 q1 hcl
 go_wp2_with fail
 go_loopw [23] (fun s23 wr=>∃ i:Nat,s23=.int .i64 i∧i≤m-1∧Below w2.heap.size w2 wr) (fun s23 _=>m-1-(intOf s23).toNat)
 case atStart=>exact⟨0,rfl,Nat.zero_le _,brf _ _⟩
 case round =>
  obtain⟨i,rfl,hi,hB⟩:=hrel
  have HB:=lhd hB
  clear hB
  rcases Nat.lt_or_ge i (m-1) with hlt | hge
  ·have di:=deT (p:=(i:Int)<((m-1:Nat):Int)) (by omega)
   have HIl:=lhd hlt;have HIm:=lhd (show i<m by omega)
   obtain⟨xz,hxz⟩:∃ z,l[i]?=some z:=⟨_,gEe (by rw[← HM.out];omega)⟩
   obtain⟨y0,hy0⟩:∃ z,l[i+1]?=some z:=⟨_,gEe (by rw[← HM.out];omega)⟩
   obtain⟨x,rfl⟩:∃ x:Nat,xz=(x:Int):=⟨xz.toNat,by have:=(HIn.out xz (mGe hxz)).1;omega⟩
   have hxn:=HIn.out _ (mGe hxz)
   obtain⟨r,hr,hyr⟩:=HSt.out i x y0 hxz hy0
   have hbr:Below w.heap.size w wr:=HA2.out.trans (HB.out.mono HA2.out.size)
   obtain⟨u,qr,hnp,hbN⟩:=Zbi (Sl.keep HG.out.2 hbr) hr
   obtain⟨bL',oL',e1,hbL,qx⟩:=Zv (Sl.keep HU.out hbr) hxz
   injection e1 with e1
   injection e1 with e1 e2
   subst e1 e2
   have HBr:=lhd hbr;have HNP:=lhd hnp;have HYr:=lhd hyr;have HRlen:=lhd (HRl.out r (mGe hr));have HXn:=lhd (show x<n by omega);have HBN:=lhd hbN;have HBL:=lhd hbL
   have hdr2:=Sl.keep HDr.out hbr
   have hy1:(l.drop 1)[i]?=some y0:=by rw[List.getElem?_drop,Nat.add_comm];exact hy0
   obtain⟨b1,o1,rfl,hb1,qy⟩:=Zv hdr2 hy1
   have hgbr:=(HB2.out.keep HB.out)
   have q1:=hgbr.2.2
   have HRl2:=lhd hgbr.1
   obtain⟨i2,hi2,-,hr1,-⟩:=info_parts Yc
   obtain⟨i0,hi0,-,hz1,-⟩:=info_parts ZM
   clear hxz hy0 hxn hr hyr hbr hnp hbN hbL hdr2 hy1 hb1 hgbr
   go_upto_region 10 with fail
   refine Zu [(0,28,VC (.pointer (some ⟨R,1,none⟩))),(1,29,VC (.slice (some ⟨bN,oN,none⟩) n cN)),(2,30,VC (.slice (some ⟨bL,oL,none⟩) m c)),(3,31,VC (.int .i64 (i:Int))),(4,32,VC (.pointer (some ⟨bL,oL+i,none⟩))),(5,33,VC (.int .i64 (x:Int))),(6,34,VC (.pointer (some ⟨bN,oN+x,none⟩))),(7,35,VC u),(8,36,VC (.int .i64 y0)),(9,37,VC (.bool true)),(10,38,VC (.bool false))] (fun _=>True) [28,29,30,31,32,33,34,35,36,37,38] (by kernel_rfl) (by kernel_rfl) (by kernel_rfl) ⟨kv,kv,kv,kv,kv,kv,kv,kv,kv,kv,kv,trivial⟩ (fun _ _ _ _ _=>trivial) trivial (Zl ⟨?_,?_,?_,?_,?_,?_,?_,?_,?_,?_,?_,trivial⟩) ?_
   ·exact .of rfl rfl fun _ _ _ _ _ _=>.fieldAddr rfl (fou (v:=.pointer (some ⟨R,0,none⟩))) (by kernel_rfl) rfl
   ·exact .of rfl rfl fun _ _ hB _ hV _=>.load1 rfl (fgt hV 0 rfl) (Za Tryz.underlying31 rfl ((hB.cell (p:=⟨R,1,none⟩) HRl2.out).trans q1)) rfl
   ·exact mvX rfl rfl rfl
   ·exact mvX rfl rfl rfl
   ·exact .of rfl rfl fun _ _ _ _ hV _=>Zec (Yl.rowAt Tryz.underlying40 hi0 hz1 rfl (fgt hV 2 rfl) (fgt hV 3 rfl) HIm.out)
   ·exact .of rfl rfl fun _ _ hB _ hV _=>.load1 rfl (fgt hV 4 rfl) (Za Tryz.underlying3 rfl ((hB.cell (p:=⟨bL,oL+i,none⟩) HBL.out).trans qx)) rfl
   ·exact .of rfl rfl fun _ _ _ _ hV _=>Zec (Yl.rowAt Tryz.underlying31 hi2 hr1 rfl (fgt hV 1 rfl) (fgt hV 5 rfl) HXn.out)
   ·exact .of rfl rfl fun _ _ hB _ hV _=>.load1 rfl (fgt hV 6 rfl) (Za Tryz.underlying40 rfl ((hB.cell (p:=⟨bN,oN+x,none⟩) HBN.out).trans qr)) rfl
   ·exact mvX rfl rfl rfl
   ·exact .of rfl rfl fun _ _ hB _ hV _=>.call Tryz.func42 (by kernel_rfl) rfl rfl rfl (Zg (fgt hV 7 rfl) (fgt hV 8 rfl)) (Zed (Sl.keep HNP.out hB) HYr.out HRlen.out)
   ·exact .of rfl rfl fun _ _ _ _ hV _=>.unOp rfl (fgt hV 9 rfl) rfl rfl
   intro y W9 hB9 hE9 hV9
   have e10:y 38=_:=hend hV9 10 rfl
   generalize hact:fr _ _ y=act
   simp only[fr,Zf,fC0,fN0,sA0,sZ0,sS0,e10]at hact
   subst hact
   have HB9:=lhd (HB.out.trans (hB9.mono HB.out.size))
   clear e10 hB9 hE9 hV9 q1 qr qx qy hi2 hr1 hi0 hz1
   go_wp2_with fail
   refine⟨⟨i+1,by rw[Zc HIm.out HL.out],HIl.out,HB9.out⟩,?_⟩
   rw[Zc HIm.out HL.out];simp only[intOf];have:=HIl.out;omega
  ·have di:=deF (p:=(i:Int)<((m-1:Nat):Int)) (by omega)
   have di2:=deF (p:=i<m-1) (by omega)
   clear hi hsl
   go_wp2_with fail
   go_ret
   exact⟨_,rfl,rfl,HA2.out.trans (HB.out.mono HA2.out.size)⟩
end
end Go.Proofs.YthkklilhjnpedaaGreatDoor
section
namespace FF
def cntB(l:List Nat)(v i:Nat):List Nat:=(l.filter (· == v)).map fun _=>i
def bkL(edges:List (List Nat))(v:Nat):Nat→List Nat
 | 0=>[]
 | i+1=>bkL edges v i++cntB (edges.getD i []) v i
def Xn(edges:List (List Nat)):List (List Nat):=(List.range edges.length).map fun v=>bkL edges v edges.length
theorem Zee{l:List Nat}{v i x:Nat}:x∈cntB l v i↔x=i∧v∈l:=by
 unfold cntB
 rw[List.mem_map]
 constructor
 ·rintro⟨a,ha,rfl⟩
  obtain⟨h1,h2⟩:=List.mem_filter.1 ha
  exact⟨rfl,by rw[← beq_iff_eq.1 h2];exact h1⟩
 ·rintro⟨rfl,h⟩
  exact⟨v,List.mem_filter.2 ⟨h,by simp⟩,rfl⟩
theorem ZcD{edges:List (List Nat)}{v x:Nat}:∀ {k:Nat},x∈bkL edges v k↔x<k∧v∈edges.getD x []
 | 0=>by simp[bkL]
 | k+1=>by
  rw[bkL,List.mem_append,ZcD,Zee]
  constructor
  ·rintro(⟨h1,h2⟩ | ⟨rfl,h2⟩)
   ·exact⟨by omega,h2⟩
   ·exact⟨by omega,h2⟩
  ·rintro⟨h1,h2⟩
   by_cases h:x=k
   ·subst h;exact .inr ⟨rfl,h2⟩
   ·exact .inl ⟨by omega,h2⟩
theorem Kd(edges:List (List Nat)):(Xn edges).length=edges.length:=by simp[Xn]
theorem Zax{edges:List (List Nat)}{v x:Nat}:x∈(Xn edges).getD v []↔v<edges.length∧x<edges.length∧v∈edges.getD x []:=by
 unfold Xn
 by_cases h:v<edges.length
 ·rw[gDg,List.getElem?_map,List.getElem?_range h]
  show x∈bkL edges v edges.length↔_
  rw[ZcD]
  exact⟨fun k=>⟨h,k⟩,fun k=>k.2⟩
 ·rw[List.getD_eq_getElem?_getD,List.getElem?_map,List.getElem?_eq_none (by simpa using h)]
  constructor
  ·intro h';cases h'
  ·intro h';exact absurd h'.1 h
def Zbc(edges:List (List Nat))(D:List Int)(v:Nat):Option Nat:=(edges.getD v []).find? fun w=>decide (D.getD w (-1)=D.getD v (-1)-1)
structure Dst(edges:List (List Nat))(tq:Nat)(D:List Int):Prop where
 len:D.length=edges.length
 zero:D.getD tq (-1)=0
 step:∀ v w,v<edges.length→w<edges.length→w∈edges.getD v []→0≤D.getD w (-1)→0≤D.getD v (-1)∧D.getD v (-1)≤D.getD w (-1)+1
 down:∀ v,v<edges.length→0≤D.getD v (-1)→v≠tq→∃ w,Zbc edges D v=some w∧w∈edges.getD v []∧0≤D.getD w (-1)∧D.getD w (-1)=D.getD v (-1)-1
theorem dst_of{edges:List (List Nat)}{tq:Nat}(ht:tq<edges.length)(_hin:∀ v,∀ w∈edges.getD v [],w<edges.length):Dst edges tq (ZW (Xn edges) tq):=by
 have hb:∀ v,∀ w∈(Xn edges).getD v [],w<(Xn edges).length:=fun v w hw=>by rw[Kd];exact(Zax.1 hw).2.1
 obtain⟨h1,h2,h3,h4⟩:=ZiI (next:=Xn edges) (frm:=tq) (by rw[Kd];exact ht) hb
 rw[Kd]at h1 h3 h4
 refine⟨h1,h2,fun v w hv hw hm hd=>h3 w hw hd v (Zax.2 ⟨hw,hv,hm⟩),fun v hv hd hne=>?_⟩
 obtain⟨f,f1,f2,f3,f4⟩:=h4 v hv hd hne
 have hf:f∈edges.getD v []:=(Zax.1 f3).2.2
 cases hfind:Zbc edges (ZW (Xn edges) tq) v with
 | none =>
  unfold Zbc at hfind
  have:=List.find?_eq_none.1 hfind f hf
  exact absurd (deT (by omega)) this
 | some w =>
  unfold Zbc at hfind
  have hw:=List.mem_of_find?_eq_some hfind
  have hw2:=List.find?_some hfind
  simp only[decide_eq_true_eq]at hw2
  exact⟨w,rfl,hw,by omega,hw2⟩
theorem Dst.walk{edges:List (List Nat)}{tq:Nat}{D:List Int}(h:Dst edges tq D):∀ (L:List Nat) (v:Nat),(∀ x∈v::L,x<edges.length)→(∀ i x y,(v::L)[i]?=some x→(v::L)[i+1]?=some y→y∈edges.getD x [])→(v::L).getLast?=some tq→0≤D.getD v (-1)∧D.getD v (-1)≤L.length
 | [],v,_,_,hl=>by
  have:v=tq:=by simpa using hl
  subst this
  rw[h.zero];simp
 | w::L,v,hx,hs,hl=>by
  obtain⟨h1,h2⟩:=Dst.walk h L w (fun x hx'=>hx x (List.mem_cons_of_mem _ hx')) (fun i x y h1 h2=>hs (i+1) x y (by simpa using h1) (by simpa using h2)) (by simpa using hl)
  have:=h.step v w (hx v (List.mem_cons_self ..)) (hx w (List.mem_cons_of_mem _ (List.mem_cons_self ..))) (hs 0 v w rfl rfl) h1
  rw[List.length_cons]
  omega
end FF
end
