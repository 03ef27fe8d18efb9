/- Regions that draw, of operations that yield closed values and of stores into boxes that were there: a law by words. -/
import Derived.Test.YthkklilhjnpedaaGreatDoorURpf
import Derived.Test.YthkklilhjnpedaaGreatDoorURnh
import Derived.Deep.MidRow
set_option maxHeartbeats 16000000
set_option maxRecDepth 8000
namespace Go.Proofs.YthkklilhjnpedaaGreatDoor
section
open Go.RowKit FF
structure Yl(P:Program)(o:Oper)(a:Act)(W:World)(q:Value→World→Prop):Prop where
 out:∀ (K:Act→World→Prop) Q',(∀ v W',Below W.heap.size W W'→q v W'→K (a.put o.dst v) W')→Oper.wp P o a W K Q'
def Keeps(p:Value→World→Prop):Prop:=∀ v W W',p v W→Below W.heap.size W W'→p v W'
theorem Firm.keeps{p:Value→World→Prop}(h:Firm p):Keeps p:=h.below
theorem Keeps.vc(e:Value):Keeps (VC e):=fun _ _ _ h _=>h
def KeepsL:List Wd→Prop
 | []=>True
 | x::l=>Keeps x.2.2∧KeepsL l
theorem KeepsL.all:∀ {l:List Wd},KeepsL l→∀ x∈l,Keeps x.2.2
 | _::_,⟨h1,h2⟩,x,hx=>by
  rcases List.mem_cons.1 hx with rfl | hx
  ·exact h1
  ·exact KeepsL.all h2 x hx
section
variable {P:Program}{ops:Array Oper}{Q:Exit→Act→World→Prop}{a:Act}{w:World}{pr:List Wd}{ex:World→Prop}{ds:List Tmp}
structure VJ(ops:Array Oper)(a:Act)(w:World)(pr:List Wd)(ex:World→Prop)(listed:Array Bool)(a':Act)(W:World):Prop where
 defers:a'.defers=a.defers
 size:a'.tmps.size=a.tmps.size
 frame:∀ t,(∀ (i:Nat) (o:Oper),ops[i]?=some o→o.dst≠some t)→a'.tmps.getD t undef=a.tmps.getD t undef
 below:Below w.heap.size w W
 ext:ex W
 val:∀ x∈pr,listed.getD x.1 false=true→x.2.2 (a'.tmps.getD x.2.1 undef) W
 init:∀ (j:Nat) (oj:Oper) (t:Tmp),ops[j]?=some oj→oj.dst=some t→listed.getD j false=false→a'.tmps.getD t undef=a.tmps.getD t undef
 closed:∀ (j:Nat) (oj:Oper),ops[j]?=some oj→listed.getD j false=true→∀ i,depB oj i=true→listed.getD i false=true
def XL(ops:Array Oper)(i:Nat)(t:Tmp):Bool:=ops.any fun o=>o.dst == some t && depB o i
def VOk(P:Program)(ops:Array Oper)(a:Act)(w:World)(pr:List Wd)(ex:World→Prop)(ds:List Tmp)(i:Nat)(o:Oper):Prop:=
 ((o.guard=none∨∃ j b,Uy pr o j b b)∧∃ d q,pr.filter (fun x=>x.1 == i)=[(i,d,q)]∧∀ y W,Below w.heap.size w W→ex W→(∀ x∈pr,depB o x.1=true→x.2.2 (y x.2.1) W)→(∀ t,XL ops i t=true→y t=a.tmps.getD t undef)→Yl P o (fr a ds y) W q) ∨
 ((∃ j b,Uy pr o j (!b) b)∧∀ x∈pr,x.1=i→∀ W,x.2.2 undef W)
theorem VJ.lit{listed:Array Bool}{a':Act}{W:World}(h:VJ ops a w pr ex listed a' W):a'=fr a (ops.toList.filterMap (·.dst)) (fun t=>a'.tmps.getD t undef):=by
 rcases a' with⟨tm,df⟩
 have hd:=h.defers;have hs:=h.size;have hf:=h.frame
 simp only[fr]at hd hs hf ⊢
 rw[hd]
 congr 1
 apply Array.ext_getElem?
 intro j
 by_cases hj:j<a.tmps.size
 ·rw[XV _ _ _ _ hj]
  have hj':j<tm.size:=by rw[hs];exact hj
  by_cases hm:j∈ops.toList.filterMap (·.dst)
  ·rw[if_pos hm];simp[Array.getD,hj']
  ·rw[if_neg hm]
   have:=hf j (fun i o ho hd=>hm (List.mem_filterMap.2 ⟨o,by rw[Array.mem_toList_iff];exact Array.mem_of_getElem? ho,hd⟩))
   simp only[Array.getD,hj,hj',dite_true]at this
   rw[Array.getElem?_eq_getElem hj,Array.getElem?_eq_getElem hj']
   exact congrArg some this
 ·rw[Array.getElem?_eq_none (by rw[hs];omega),Array.getElem?_eq_none (by rw[X7];omega)]
theorem VJ.step{listed:Array Bool}{a':Act}{W:World}{i:Nat}{o:Oper}(h:VJ ops a w pr ex listed a' W)(hs:listed.size=ops.size)(ho:ops[i]?=some o)(hn:listed.getD i true=false)
  (hd:∀ e∈o.after,Region.binds .any e=true→listed.getD e.on false=true)
  (nodup:∀ (i j:Nat) (o o':Oper) (t:Tmp),ops[i]?=some o→ops[j]?=some o'→o.dst=some t→o'.dst=some t→i=j) (hk:∀ x∈pr,Keeps x.2.2) (hex:Keeps (fun _=>ex))
  (vok:∀ x∈pr,(ops[x.1]?).bind (·.dst)=some x.2.1∧x.2.1<a.tmps.size)
  (hds:ops.toList.filterMap (·.dst)=ds) (hok:VOk P ops a w pr ex ds i o):wpOp P ops Q i (VJ ops a w pr ex (listed.setIfInBounds i true)) a' W:=by
 have hi:i<listed.size:=by
  rw[hs];exact(Array.getElem?_eq_some_iff.1 ho).1
 have hL:=fun j=>Xq (listed:=listed) (i:=i) (j:=j) hi
 have hslot:∀ j t,j≠i→(ops[j]?).bind (·.dst)=some t→o.dst≠some t:=by
  intro j t hj h1 h2
  cases hoj:ops[j]? with
  | none=>rw[hoj]at h1;cases h1
  | some oj=>rw[hoj]at h1;exact hj (nodup j i oj o t hoj ho h1 h2)
 have hV:∀ x∈pr,depB o x.1=true→x.2.2 (a'.tmps.getD x.2.1 undef) W:=fun x hx hdx=>h.val x hx (Zw hdx hd)
 have hnf:listed.getD i false=false:=by simpa[Array.getD,hi] using hn
 have hU:∀ t,XL ops i t=true→a'.tmps.getD t undef=a.tmps.getD t undef:=fun t ht=>by
  obtain⟨oj,hm,hj⟩:=Array.any_eq_true'.1 ht
  simp only[Bool.and_eq_true,beq_iff_eq]at hj
  obtain⟨j,hjs,hje⟩:=Array.mem_iff_getElem.1 hm
  have hoj:ops[j]?=some oj:=by rw[Array.getElem?_eq_getElem hjs,hje]
  refine h.init j oj t hoj hj.1 ?_
  cases hl:listed.getD j false with
  | false=>rfl
  | true =>
   have:=h.closed j oj hoj hl i hj.2
   rw[hnf]at this;cases this
 have hlit:=h.lit
 rw[hds]at hlit
 have hY:∃ y:Nat→Value,(∀ t,a'.tmps.getD t undef=y t)∧a'=fr a ds y:=⟨_,fun _=>rfl,hlit⟩
 obtain⟨y,hy,hay⟩:=hY
 simp only[hy]at hV hU
 clear hlit
 have hyi:∀ j want b,Uy pr o j want b→Region.wanted o (yielded ops a'.tmps)=(b == want):=by
  rintro j want b ⟨g1,g2,x,hx,rfl,hxb⟩
  have h1:=hxb _ _ (h.val x hx (Zw g2 hd))
  have h2:=vok x hx
  have h3:x.2.1<a'.tmps.size:=by rw[h.size];exact h2.2
  have h4:a'.tmps[x.2.1]?=some (.bool b):=by
   rw[Array.getElem?_eq_getElem h3]
   simpa[Array.getD,h3] using h1
  simp only[Region.wanted,g1,yielded,h2.1,Option.bind_some,h4]
  cases b <;> cases want <;> rfl
 have hinit:∀ (v:Value) (j:Nat) (oj:Oper) (t:Tmp),ops[j]?=some oj→oj.dst=some t→(listed.setIfInBounds i true).getD j false=false→(a'.put o.dst v).tmps.getD t undef=a.tmps.getD t undef:=fun v j oj t hoj hjd hl=>by
  rw[hL]at hl
  by_cases hji:j=i
  ·rw[if_pos hji]at hl;cases hl
  ·rw[if_neg hji]at hl
   rw[Zs (hslot j t hji (by rw[hoj];exact hjd))]
   exact h.init j oj t hoj hjd hl
 have hclosed:∀ (j:Nat) (oj:Oper),ops[j]?=some oj→(listed.setIfInBounds i true).getD j false=true→∀ k,depB oj k=true→(listed.setIfInBounds i true).getD k false=true:=fun j oj hoj hl k hk'=>by
  rw[hL]
  split
  ·rfl
  ·rw[hL]at hl
   by_cases hji:j=i
   ·subst hji
    rw[ho]at hoj
    injection hoj with hoj
    subst hoj
    exact Zw hk' hd
   ·rw[if_neg hji]at hl
    exact h.closed j oj hoj hl k hk'
 have hval:∀ v W',Below W.heap.size W W'→(∀ x∈pr,x.1=i→x.2.2 v W')→VJ ops a w pr ex (listed.setIfInBounds i true) (a'.put o.dst v) W':=by
  intro v W' hB hv1
  refine⟨(Z8 ..).trans h.defers,(Xv ..).trans h.size,fun t ht=>by rw[Zs (ht i o ho)];exact h.frame t ht,h.below.trans (hB.mono h.below.size),hex undef _ _ h.ext hB,fun x hx hl=>?_,hinit v,hclosed⟩
  by_cases hxi:x.1=i
  ·have h1:=(vok x hx)
   rw[hxi,ho]at h1
   have h2:o.dst=some x.2.1:=h1.1
   rw[h2,Xi (by rw[h.size];exact h1.2)]
   exact hv1 x hx hxi
  ·rw[hL,if_neg hxi]at hl
   rw[Zs (hslot _ _ hxi (vok x hx).1)]
   exact hk x hx _ _ _ (h.val x hx hl) hB
 unfold wpOp
 rw[ho]
 rcases hok with⟨hg,d,q,hq,hok⟩ | ⟨⟨j,b,hg⟩,hu1⟩
 rotate_left
 ·simp only[hyi _ _ _ hg,show(b == !b)=false by cases b <;> rfl,Bool.false_eq_true,if_false]
  exact hval undef W (Below.refl _ _) (fun x hx e=>hu1 x hx e W)
 have hw:Region.wanted o (yielded ops a'.tmps)=true:=by
  rcases hg with hg | ⟨j,b,hg⟩
  ·simp only[Region.wanted,hg]
  ·rw[hyi _ _ _ hg];cases b <;> rfl
 simp only[hw,if_true]
 refine .inl ?_
 rw[hay]
 refine(hok y W h.below h.ext hV hU).out _ _ (fun v W' hB hv=>?_)
 rw[← hay]
 exact hval v W' hB (Yi hq hv)
theorem Zu{id:Nat}(pr:List Wd)(ex:World→Prop)(ds:List Tmp)(hds:ops.toList.filterMap (·.dst)=ds)(hm:P.follows .mixedOrders=true)
  (hB:Yb ops a.tmps.size (pr.map fun x=>(x.1,x.2.1)) [] []=true) (hk:KeepsL pr) (hex:Keeps (fun _=>ex)) (h0:ex w)
  (hops:∀ (i:Nat) (o:Oper),ops[i]?=some o→VOk P ops a w pr ex ds i o)
  (hend:∀ (y:Nat→Value) W,Below w.heap.size w W→ex W→(∀ x∈pr,x.2.2 (y x.2.1) W)→Q .normal (fr a ds y) W) :
  (Code.region id ops true).wp P Q a w:=by
 unfold Yb at hB
 simp only[Bool.and_eq_true]at hB
 obtain⟨⟨⟨⟨⟨h1,h2⟩,h3⟩,-⟩,-⟩,-⟩:=hB
 have dag:∀ (i:Nat) (o:Oper),ops[i]?=some o→∀ e∈o.after,Region.binds .any e=true→e.on<i:=by
  intro i o ho e he hb
  have hi:=(Array.getElem?_eq_some_iff.1 ho).1
  have:=List.all_eq_true.1 h1 i (List.mem_range.2 hi)
  rw[ho]at this
  simp only[Option.map_some,Option.getD_some,Array.all_eq_true']at this
  have:=this e he
  rw[hb]at this
  simpa using this
 have nodup:∀ (i j:Nat) (o o':Oper) (t:Tmp),ops[i]?=some o→ops[j]?=some o'→o.dst=some t→o'.dst=some t→i=j:=by
  intro i j o o' t ho ho' hd hd'
  have hi:=(Array.getElem?_eq_some_iff.1 ho).1
  have hj:=(Array.getElem?_eq_some_iff.1 ho').1
  have:=List.all_eq_true.1 (List.all_eq_true.1 h2 i (List.mem_range.2 hi)) j (List.mem_range.2 hj)
  simp only[YB,ho,ho',Option.bind_some,hd,hd']at this
  simpa using this
 have vok:∀ x∈pr,(ops[x.1]?).bind (·.dst)=some x.2.1∧x.2.1<a.tmps.size:=by
  intro x hx
  have:=List.all_eq_true.1 h3 _ (List.mem_map_of_mem hx)
  simp only[Bool.and_eq_true,beq_iff_eq,decide_eq_true_eq]at this
  exact this
 refine wp_region_any hm (Ux (fun listed a' W=>listed.size=ops.size∧VJ ops a w pr ex listed a' W) dag (fun listed a' W i o hJ hs ho hn hd=>wpOp_mono (fun a'' W'' hh=>⟨by simpa using hs,hh⟩) (hJ.2.step hs ho hn hd nodup hk.all hex vok hds (hops i o ho))) (fun listed a' W hJ' hl=>?_) _ _ _ _ (by simp) (by simp) ⟨by simp,?_⟩)
 ·obtain⟨hsz,hJ⟩:=hJ'
  have hlt:∀ (i t:Nat),(ops[i]?).bind (·.dst)=some t→i<ops.size:=by
   intro i t h
   apply bCo
   intro hn
   rw[Array.getElem?_eq_none (by omega)]at h
   cases h
  have hv:=fun x hx=>hJ.val x hx (hl _ (hlt _ _ (vok x hx).1))
  have e:=hJ.lit
  rw[hds]at e
  rw[e]
  exact hend _ W hJ.below hJ.ext hv
 ·have hd0:Below w.heap.size w { w with drawn:=w.drawn+1 }:=⟨rfl,rfl,rfl,nlr _,fun _ _=>rfl⟩
  refine⟨rfl,rfl,fun _ _=>rfl,hd0,hex undef _ _ h0 hd0,fun x hx hl=>?_,fun _ _ _ _ _ _=>rfl,fun j _ _ hl=>?_⟩
  ·rw[show(Array.replicate ops.size false).getD x.1 false=false by simp[Array.getD]]at hl;cases hl
  ·rw[show(Array.replicate ops.size false).getD j false=false by simp[Array.getD]]at hl;cases hl
theorem VOk.of{i:Nat}{o:Oper}{d:Tmp}{q:Value→World→Prop}(hg:o.guard=none)(hq:pr.filter (fun x=>x.1 == i)=[(i,d,q)])
  (h:∀ y W,Below w.heap.size w W→ex W→(∀ x∈pr,depB o x.1=true→x.2.2 (y x.2.1) W)→(∀ t,XL ops i t=true→y t=a.tmps.getD t undef)→Yl P o (fr a ds y) W q):VOk P ops a w pr ex ds i o:=.inl ⟨.inl hg,d,q,hq,h⟩
theorem VOk.on{i j:Nat}{o:Oper}{b:Bool}{d e:Tmp}{q:Value→World→Prop}(hg:o.guard=some (j,b))(hd:depB o j=true)(hj:pr.find? (fun x=>x.1 == j)=some (j,e,VC (.bool b)))(hq:pr.filter (fun x=>x.1 == i)=[(i,d,q)])
  (h:∀ y W,Below w.heap.size w W→ex W→(∀ x∈pr,depB o x.1=true→x.2.2 (y x.2.1) W)→(∀ t,XL ops i t=true→y t=a.tmps.getD t undef)→Yl P o (fr a ds y) W q):VOk P ops a w pr ex ds i o:=
 .inl ⟨.inr ⟨j,b,hg,hd,_,Z2 hj,rfl,fun _ _ h=>h⟩,d,q,hq,h⟩
theorem VOk.off{i j:Nat}{o:Oper}{b:Bool}{d e:Tmp}(hg:o.guard=some (j,!b))(hd:depB o j=true)(hj:pr.find? (fun x=>x.1 == j)=some (j,e,VC (.bool b)))(hq:pr.filter (fun x=>x.1 == i)=[(i,d,VC undef)]):VOk P ops a w pr ex ds i o:=
 .inr ⟨⟨j,b,hg,hd,_,Z2 hj,rfl,fun _ _ h=>h⟩,fun x hx he W=>Yi (i:=i) (d:=d) hq (show VC undef undef W from rfl) x hx he⟩
end
section
variable {P:Program}{a:Act}{W:World}{o:Oper}{q:Value→World→Prop}{v:Value}{ds:List Tmp}{y:Nat→Value}{pr:List Wd}
theorem fr_in{t:Nat}(h:(ds.contains t && decide (t<a.tmps.size))=true):(fr a ds y).eval (.tmp t)=y t:=by
 simp only[Bool.and_eq_true,List.contains_iff_mem,decide_eq_true_eq]at h
 show(Zf a.tmps ds y).getD t undef=y t
 rw[Array.getD_eq_getD_getElem?,XV _ _ _ _ h.2,if_pos h.1];rfl
theorem fr_out{t:Nat}(h:ds.contains t=false)(hv:a.tmps.getD t undef=v):(fr a ds y).eval (.tmp t)=v:=by
 have hn:t ∉ ds:=fun hm=>by rw[List.contains_iff_mem.2 hm]at h;cases h
 show(Zf a.tmps ds y).getD t undef=v
 rw[← hv,Array.getD_eq_getD_getElem?]
 by_cases ht:t<a.tmps.size
 ·rw[XV _ _ _ _ ht,if_neg hn];simp[Array.getD,ht]
 ·rw[Array.getElem?_eq_none (by rw[X7];omega)];simp[Array.getD,ht]
theorem KA{t:Nat}(h:(ds.contains t && decide (t<a.tmps.size))=true)(hU:y t=a.tmps.getD t undef)(hv:a.tmps.getD t undef=v):(fr a ds y).eval (.tmp t)=v:=(fr_in h).trans (hU.trans hv)
theorem hget(hV:∀ x∈pr,depB o x.1=true→x.2.2 (y x.2.1) W)(j:Nat){t:Nat}{p:Value→World→Prop}(hf:pr.find? (fun x=>x.1 == j)=some (j,t,p))(hd:depB o j=true):p (y t) W:=hV _ (Z2 hf) hd
theorem hend(hV:∀ x∈pr,x.2.2 (y x.2.1) W)(j:Nat){t:Nat}{p:Value→World→Prop}(hf:pr.find? (fun x=>x.1 == j)=some (j,t,p)):p (y t) W:=hV _ (Z2 hf)
theorem Yl.run(h:(execOp a.eval o).run P W=.ok (.value v) W)(hq:q v W):Yl P o a W q:=by
 refine⟨fun K Q' hK=>?_⟩
 unfold Oper.wp;rw[h];exact hK v W (Below.refl _ _) hq
theorem Yl.move{x:Operand}(ho:o.op=.move x)(hx:a.eval x=v)(hq:q v W):Yl P o a W q:=.run (by simp only[execOp,ho,hx,Sem.run_pure]) hq
theorem Yl.assign{x:Operand}(ho:o.op=.assign x)(hx:a.eval x=v)(hq:q v W):Yl P o a W q:=.run (by simp only[execOp,ho,hx,Sem.run_pure]) hq
theorem Yl.pick{c x z:Operand}{b:Bool}(ho:o.op=.pick c x z)(hc:a.eval c=.bool b)(hx:a.eval (if b then x else z)=v)(hq:q v W):Yl P o a W q:=
 .run (by cases b <;> simp only[Bool.false_eq_true,if_true,if_false]at hx <;> simp[execOp,ho,hc,hx,asBool]) hq
theorem Yl.instr{s:Sem Value}(ho:execOp a.eval o=(do pure (.value (← s))))(hs:s.run P W=.ok v W)(hq:q v W):Yl P o a W q:=
 .run (by rw[ho];simp only[Sem.run_bind,hs,Result.andThen_ok,Sem.run_pure]) hq
theorem Yl.fieldAddr{S:TypeId}{x:Operand}{f:Nat}{p:Value}(ho:o.op=.fieldAddr S x f)(hx:a.eval x=p)(h:(Instr.fieldAt S p f).run P W=.ok v W)(hq:q v W):Yl P o a W q:=.instr (s:=Instr.fieldAt S p f) (by simp only[execOp,ho,hx]) h hq
theorem Yl.indexAddr{S:TypeId}{x i:Operand}{p k:Value}(ho:o.op=.indexAddr S x i)(hx:a.eval x=p)(hi:a.eval i=k)(h:(Instr.indexAt S p k).run P W=.ok v W)(hq:q v W):Yl P o a W q:=.instr (s:=Instr.indexAt S p k) (by simp only[execOp,ho,hx,hi]) h hq
theorem Yl.load1{T:TypeId}{x:Operand}{p:Value}(ho:o.op=.load T x)(hx:a.eval x=p)(h:(Instr.loadAt T p).run P W=.ok v W)(hq:q v W):Yl P o a W q:=.instr (s:=Instr.loadAt T p) (by simp only[execOp,ho,hx]) h hq
theorem Yl.unOp{op:UnOp}{T:TypeId}{x:Operand}{p:Value}(ho:o.op=.unOp op T x)(hx:a.eval x=p)(h:(Op.unary op p).run P W=.ok v W)(hq:q v W):Yl P o a W q:=.instr (s:=Op.unary op p) (by simp only[execOp,ho,hx]) h hq
theorem Yl.convert{S D:TypeId}{x:Operand}{p:Value}(ho:o.op=.convert S D x)(hx:a.eval x=p)(h:(convert S D p).run P W=.ok v W)(hq:q v W):Yl P o a W q:=.instr (s:=Go.convert S D p) (by simp only[execOp,ho,hx]) h hq
theorem Yl.binOp{op:BinOp}{S D:TypeId}{x z:Operand}{p r:Value}(ho:o.op=.binOp op S x z D)(hx:a.eval x=p)(hz:a.eval z=r)(h:(do eqGuard op S x z p r;binOp op S p r:Sem Value).run P W=.ok v W)(hq:q v W):Yl P o a W q:=
 .instr (s:=do eqGuard op S x z p r;Go.binOp op S p r) (by simp only[execOp,ho,hx,hz]) h hq
theorem ZeR{ρ:Operand→Value}{c:Call}{f:FuncId}{fn:Func}{b:Code}{args:Array Value}(ho:o.op=.call c)(hc:c.callee=.value (.func f))(hρ:ρ (.func f)=.func (.func f) #[] #[])
  (hf : P.funcs[f]? = some fn) (hname : (fn.name == "runtime.NumGoroutine") = false) (hb : fn.body = some b) (ha : c.args.map ρ = args) : (execOp ρ o).run P W = .ok (.enter f args) W := by
 have h1:(callFunc f args).run P W=.ok (.enter f args) W:=by
  unfold callFunc
  have hn : ¬ fn.name = "runtime.NumGoroutine" := by simpa using hname
  simp[hf,hn,hb]
 simp[execOp,ho,resolve,hc,hρ,ha,Deferred.ofValue,invoke,h1]
theorem Yl.call {c : Call} {f : FuncId} {fn : Func} {b : Code} {args : Array Value} (hf : P.funcs[f]? = some fn) (hname : (fn.name == "runtime.NumGoroutine") = false) (hb : fn.body = some b) (ho : o.op = .call c) (hc : c.callee = .value (.func f))
  (ha:c.args.map a.eval=args) (hq:Calls P f args W (Zb q W)):Yl P o a W q:=by
 refine⟨fun K Q' hK=>?_⟩
 unfold Oper.wp;rw[ZeR ho hc rfl hf hname hb ha]
 show Calls P f args W _
 refine hq.mono ?_
 rintro e w' ⟨v,rfl,hv,hb⟩
 exact hK v w' hb hv
theorem Xf{ρ:Operand→Value}{x:Operand}{u:Value}(h:ρ x=u):(#[x]:Array Operand).map ρ=#[u]:=by simp[h]
theorem Zg{ρ:Operand→Value}{x z:Operand}{u t:Value}(h:ρ x=u)(k:ρ z=t):(#[x,z]:Array Operand).map ρ=#[u,t]:=by simp[h,k]
theorem Yl.load{T:TypeId}{x:Operand}{g k n:Nat}{vs:Array Value}{d:TypeDesc}(ho:o.op=.load T x)(hx:a.eval x=.pointer (some ⟨g,k,none⟩))(hc:Cells W g vs)
  (hn:k+n≤vs.size) (hu:P.underlying T=some d) (hd:d.isRow=true) (hi:(P.info? T).map (·.size)=some n) (hq:q (.agg (vs.extract k (k+n))) W):Yl P o a W q:=by
 refine⟨fun K Q' hK=>?_⟩
 have hr:W.rangeAt g k ((vs.extract k (k+n)).toList):=fun j v hv=>by
  rw[Array.getElem?_toList]at hv
  have hj:j<n:=by
   have:=(Array.getElem?_eq_some_iff.1 hv).1
   rw[Array.size_extract]at this;omega
  rw[hc.2.1 (k+j) (by omega),← hv,Array.getElem?_extract]
  rw[if_pos (by omega)]
 exact wp_load_mid T x ho g k hx _ d hr hu hd (by rw[hi];simp;omega) (hK _ W (Below.refl _ _) hq)
theorem Yl.loadAll{T:TypeId}{x:Operand}{g n:Nat}{vs:Array Value}{d:TypeDesc}(ho:o.op=.load T x)(hx:a.eval x=.pointer (some ⟨g,0,none⟩))(hc:Cells W g vs)
  (hn:vs.size=n) (hu:P.underlying T=some d) (hd:d.isRow=true) (hi:(P.info? T).map (·.size)=some n) (hq:q (.agg vs) W):Yl P o a W q:=
 .load (k:=0) (n:=n) ho hx hc (by omega) hu hd hi (by rw[show vs.extract 0 (0+n)=vs by subst hn;simp];exact hq)
end
theorem Za{P:Program}{W:World}{T:TypeId}{g k:Nat}{v:Value}{d:TypeDesc}(hu:P.underlying T=some d)(hd:d.isRow=false)(hc:W.cell? ⟨g,k,none⟩=some v):(Instr.loadAt T (.pointer (some ⟨g,k,none⟩))).run P W=.ok v W:=by
 have hagg:(isAgg T).run P W=.ok false W:=by
  unfold isAgg
  rw[Sem.run_bind,run_underlying hu W]
  cases d <;> simp_all
 simp[Instr.loadAt,Instr.sureAddr,loadVar,hagg,go_sem,hc]
section
variable {P:Program}{a:Act}{w:World}{B:Nat}{pr:List Wd}{bxs:List BxS}{olds:List BxO}{ex:World→Prop}{ds:List Tmp}
theorem FOk.val{i:Nat}{o:Oper}{d:Tmp}{q:Value→World→Prop}(hg:o.guard=none)(hb:(bxs.all fun b=>b.at' != i && b.st != i)=true)(ho:(olds.all fun c=>c.st != i)=true)(hq:pr.filter (fun x=>x.1 == i)=[(i,d,q)])
  (h:∀ y W,Below B w W→ex W→(∀ c∈olds,c.st=999→Cells W c.g c.zero)→(∀ x∈pr,depB o x.1=true→x.2.2 (y x.2.1) W)→Yl P o (fr a ds y) W q):FOk P a B w pr bxs olds ex ds i o:=by
 refine .inl ⟨.inl hg,.inl ⟨fun b hb'=>?_,fun c hc=>?_,fun y W h1 h2 h3 h4 K Q' hK=>(h y W h1 h2 h3 h4).out K Q' (fun v W' hB hv=>hK v W' hB (Yi hq hv))⟩⟩
 ·have:=List.all_eq_true.1 hb b hb'
  simpa using this
 ·have:=List.all_eq_true.1 ho c hc
  simpa using this
end
theorem Only.setCells(g:Nat):∀ (vs:List Value) (o:Nat) (W:World),Only g W (W.setCells g o vs)
 | [],_,W=>⟨rfl,rfl,rfl,rfl,fun _ _=>rfl⟩
 | v::r,o,W=>by
  rw[World.setCells]
  exact(Only.setCell W g o v).trans (Only.setCells g r (o+1) _)
theorem Zbl{W:World}{g k:Nat}{us zs vs:Array Value}(h:Cells W g zs)(hk:k+us.size≤zs.size)(hv:vs.toList=zs.toList.take k++us.toList++zs.toList.drop (k+us.size)):Cells (W.setCells g k us.toList) g vs:=by
 have ht:∀ j,j<us.toList.length→(W.cell? ⟨g,k+j,none⟩).isSome=true:=fun j hj=>by
  have hj':k+j<zs.size:=by simp at hj;omega
  rw[h.2.1 _ hj',Array.getElem?_eq_getElem hj'];rfl
 have hs:vs.size=zs.size:=by
  have:=congrArg List.length hv
  simp at this;omega
 refine⟨by rw[(Only.setCells g _ _ W).size];exact h.1,fun i hi=>?_,fun i=>by rw[World.frozen?_setCells];exact h.2.2 i⟩
 rw[← Array.getElem?_toList,hv]
 by_cases h1:i<k
 ·rw[World.cell?_setCells_out g _ k W ⟨g,i,none⟩ (fun _ _=>.inl h1),h.2.1 i (by omega),List.append_assoc,List.getElem?_append_left (by simp;omega),List.getElem?_take_of_lt h1,Array.getElem?_toList]
 ·by_cases h2:i<k+us.size
  ·obtain⟨j,rfl⟩:∃ j,i=k+j:=⟨i-k,by omega⟩
   rw[World.cell?_setCells_in g _ k W ht j (by simp;omega),List.getElem?_append_left (by simp;omega),List.getElem?_append_right (by simp;omega),← List.getElem?_eq_getElem]
   congr 1;simp;omega
  ·rw[World.cell?_setCells_out g _ k W ⟨g,i,none⟩ (fun _ _=>.inr (by simp;omega)),h.2.1 i (by omega),List.getElem?_append_right (by simp;omega),List.getElem?_drop,Array.getElem?_toList]
   congr 1;simp;omega
def Fit(us:Array Value):Prop:=∀ u∈us.toList,u.oneCell'=true∧∀ q n,u≠.int q n
theorem Fit.all{us:Array Value}(h:Fit us):us.all (·.oneCell')=true:=Array.all_eq_true_iff_forall_mem.2 fun v hv=>(h v (by simpa using hv)).1
theorem IC.fit{W:World}{u v:Value}{z:Int}(h:IC W u v z):(u.oneCell'=true∧∀ q n,u≠.int q n)∧v.oneCell'=true∧∀ q n,v≠.int q n:=by
 obtain⟨A,c,rfl,rfl,-⟩:=h
 exact⟨⟨rfl,fun _ _=>by simp⟩,rfl,fun _ _=>by simp⟩
theorem ICs.fit:∀ {l:List (Value × Value × Int)} {W:World},ICs W l→∀ {us:Array Value},us.toList=l.flatMap (fun x=>[x.1,x.2.1])→Fit us
 | [],_,_,us,e=>by intro u hu;rw[e]at hu;cases hu
 | (a,b,n)::l,W,⟨h1,h2⟩,us,e=>by
  intro u hu
  rw[e]at hu
  rcases List.mem_cons.1 hu with rfl | hu
  ·exact h1.fit.1
  rcases List.mem_cons.1 hu with rfl | hu
  ·exact h1.fit.2
  ·exact h2.fit (us:=(l.flatMap fun x:Value × Value × Int=>[x.1,x.2.1]).toArray) rfl u hu
section
variable {P:Program}{o:Oper}{a:Act}{W:World}{K:Act→World→Prop}{Q':Exit→Act→World→Prop}{T:TypeId}{x z:Operand}{g k n:Nat}{us zs vs:Array Value}
theorem WpS.stoC(ho:o.op=.store T x z)(hx:a.eval x=.pointer (some ⟨g,k,none⟩))(hz:a.eval z=.agg us)(hu:us.all (·.oneCell')=true)(hc:Cells W g zs)(hs:us.size=n)(hk:k+n≤zs.size)(hv:vs.toList=zs.toList.take k++us.toList++zs.toList.drop (k+n))
  (hi:(P.info? T).map (·.size)=some n) (hK:∀ W',Cells W' g vs→Only g W W'→K (a.put o.dst undef) W'):WpS P o a W K Q':=by
 subst hs
 refine⟨wp_store_mid T x z ho g k us hx hz (fun j hj=>?_) hi hu (hK _ (Zbl hc hk hv) (Only.setCells ..))⟩
 have hj':k+j<zs.size:=by omega
 rw[hc.2.1 _ hj',Array.getElem?_eq_getElem hj']
 exact⟨rfl,hc.2.2 _⟩
end
open Go.RowKit FF
section
variable {P:Program}{a:Act}{W:World}{o:Oper}{v:Value}{ds:List Tmp}{y:Nat→Value}{pr:List Wd}
theorem fgt(hV:∀ x∈pr,depB o x.1=true→x.2.2 (y x.2.1) W)(j:Nat){t:Nat}(hf:pr.find? (fun x=>x.1 == j)=some (j,t,VC v))(hd:depB o j=true:=by kernel_rfl)(h:(ds.contains t && decide (t<a.tmps.size))=true:=by kernel_rfl):(fr a ds y).eval (.tmp t)=v:=(fr_in h).trans (hget hV j hf hd)
theorem fou{t:Nat}(h:ds.contains t=false:=by kernel_rfl)(hv:a.tmps.getD t undef=v:=by kernel_rfl):(fr a ds y).eval (.tmp t)=v:=fr_out h hv
end
section
open Go.RowKit FF
variable {P:Program}{ops:Array Oper}{a:Act}{w W:World}{o:Oper}{v:Value}{ds:List Tmp}{y:Nat→Value}{pr:List Wd}{ex:World→Prop}
theorem fri{t:Nat}(h:(ds.contains t && decide (t<a.tmps.size))=true:=by kernel_rfl):(fr a ds y).eval (.tmp t)=y t:=fr_in h
theorem hge(hV:∀ x∈pr,depB o x.1=true→x.2.2 (y x.2.1) W)(j:Nat){t:Nat}{p:Value→World→Prop}(hf:pr.find? (fun x=>x.1 == j)=some (j,t,p))(hd:depB o j=true:=by kernel_rfl):p (y t) W:=hget hV j hf hd
theorem brf(B:Nat)(w:World):Below B w w:=Below.refl B w
theorem aEs{α:Type _}{b:α}{xs:Array α}{i:Nat}:xs[i]?=some b↔∃ h:i<xs.size,xs[i]=b:=Array.getElem?_eq_some_iff
theorem mGe{α:Type _}{l:List α}{i:Nat}{a:α}(h:l[i]?=some a):a∈l:=List.mem_of_getElem? h
theorem fC0{α β:Type _}{f:β→α→β}{b:β}{c:α}{l:List α}:(c::l).foldl f b=l.foldl f (f b c):=rfl
theorem fN0{α β:Type _}{f:β→α→β}{b:β}:([]:List α).foldl f b=b:=rfl
theorem sA0{α:Type _}(l:List α)(i:Nat)(b:α):l.toArray.setIfInBounds i b=(l.set i b).toArray:=List.setIfInBounds_toArray l i b
theorem sZ0{α:Type _}{x y:α}{l:List α}:(x::l).set 0 y=y::l:=rfl
theorem sS0{α:Type _}{x y:α}{l:List α}{n:Nat}:(x::l).set (n+1) y=x::l.set n y:=rfl
theorem kv{e:Value}:Keeps (VC e):=Keeps.vc e
theorem mvX{i d t:Nat}(hg:o.guard=none)(hq:pr.filter (fun x=>x.1 == i)=[(i,d,VC v)])(ho:o.op=.move (.tmp t))(h:ds.contains t=false:=by kernel_rfl)(hv:a.tmps.getD t undef=v:=by kernel_rfl):VOk P ops a w pr ex ds i o:=.of hg hq fun _ _ _ _ _ _=>.move ho (fr_out h hv) rfl
end
end
section
open Go.RowKit FF
structure BxC where
 g:Nat
 st:Nat
 old:Array Value
 new:Array Value
section
variable {P:Program}{ops:Array Oper}{Q:Exit→Act→World→Prop}{a:Act}{w:World}{B:Nat}{pr:List (Nat × Nat × Value)}{olds:List BxC}{ds:List Tmp}
structure SJ(ops:Array Oper)(a:Act)(B:Nat)(w:World)(pr:List (Nat × Nat × Value))(olds:List BxC)(listed:Array Bool)(a':Act)(W:World):Prop where
 defers:a'.defers=a.defers
 size:a'.tmps.size=a.tmps.size
 frame:∀ t,(∀ (i:Nat) (o:Oper),ops[i]?=some o→o.dst≠some t)→a'.tmps.getD t undef=a.tmps.getD t undef
 below:Below B w W
 big:w.heap.size≤W.heap.size
 val:∀ x∈pr,listed.getD x.1 false=true→a'.tmps.getD x.2.1 undef=x.2.2
 old:∀ c∈olds,Cells W c.g (if listed.getD c.st false=true then c.new else c.old)
def SVal(P:Program)(a:Act)(B:Nat)(w:World)(pr:List (Nat × Nat × Value))(olds:List BxC)(ds:List Tmp)(i:Nat)(o:Oper):Prop:=
 (∀ c ∈ olds, c.st ≠ i) ∧ ∃ d v, pr.filter (fun x => x.1 == i) = [(i, d, v)] ∧
  ∀ y W,Below B w W→w.heap.size≤W.heap.size→(∀ c∈olds,c.st=999→Cells W c.g c.old)→(∀ x∈pr,depB o x.1=true→y x.2.1=x.2.2)→Yl P o (fr a ds y) W (VC v)
def SSto(P:Program)(a:Act)(B:Nat)(pr:List (Nat × Nat × Value))(olds:List BxC)(ds:List Tmp)(i:Nat)(o:Oper):Prop:=
 o.dst=none∧(∀ x∈pr,x.1≠i)∧(∃ c∈olds,c.st=i∧B≤c.g∧(∀ d∈olds,(d.st=i→d=c)∧(d.g=c.g→d=c)) ∧
  ∀ y W,Cells W c.g c.old→(∀ x∈pr,depB o x.1=true→y x.2.1=x.2.2)→∀ K Q',(∀ W',Cells W' c.g c.new→Only c.g W W'→K ((fr a ds y).put o.dst undef) W')→WpS P o (fr a ds y) W K Q')
def SOk(P:Program)(a:Act)(B:Nat)(w:World)(pr:List (Nat × Nat × Value))(olds:List BxC)(ds:List Tmp)(i:Nat)(o:Oper):Prop:=
 o.guard=none∧(SVal P a B w pr olds ds i o∨SSto P a B pr olds ds i o)
theorem SJ.lit{listed:Array Bool}{a':Act}{W:World}(h:SJ ops a B w pr olds listed a' W):a'=fr a (ops.toList.filterMap (·.dst)) (fun t=>a'.tmps.getD t undef):=by
 rcases a' with⟨tm,df⟩
 have hd:=h.defers;have hs:=h.size;have hf:=h.frame
 simp only[fr]at hd hs hf ⊢
 rw[hd]
 congr 1
 apply Array.ext_getElem?
 intro j
 by_cases hj:j<a.tmps.size
 ·rw[XV _ _ _ _ hj]
  have hj':j<tm.size:=by rw[hs];exact hj
  by_cases hm:j∈ops.toList.filterMap (·.dst)
  ·rw[if_pos hm];simp[Array.getD,hj']
  ·rw[if_neg hm]
   have:=hf j (fun i o ho hd=>hm (List.mem_filterMap.2 ⟨o,by rw[Array.mem_toList_iff];exact Array.mem_of_getElem? ho,hd⟩))
   simp only[Array.getD,hj,hj',dite_true]at this
   rw[Array.getElem?_eq_getElem hj,Array.getElem?_eq_getElem hj']
   exact congrArg some this
 ·rw[Array.getElem?_eq_none (by rw[hs];omega),Array.getElem?_eq_none (by rw[X7];omega)]
theorem SJ.step{listed:Array Bool}{a':Act}{W:World}{i:Nat}{o:Oper}(h:SJ ops a B w pr olds listed a' W)(hs:listed.size=ops.size)(ho:ops[i]?=some o)(hn:listed.getD i true=false)
  (hd:∀ e∈o.after,Region.binds .any e=true→listed.getD e.on false=true)
  (nodup:∀ (i j:Nat) (o o':Oper) (t:Tmp),ops[i]?=some o→ops[j]?=some o'→o.dst=some t→o'.dst=some t→i=j)
  (vok:∀ x∈pr,(ops[x.1]?).bind (·.dst)=some x.2.1∧x.2.1<a.tmps.size) (hBw:B≤w.heap.size) (h999:ops.size≤999)
  (hds:ops.toList.filterMap (·.dst)=ds) (hok:SOk P a B w pr olds ds i o):wpOp P ops Q i (SJ ops a B w pr olds (listed.setIfInBounds i true)) a' W:=by
 have hi:i<listed.size:=by
  rw[hs];exact(Array.getElem?_eq_some_iff.1 ho).1
 have hL:=fun j=>Xq (listed:=listed) (i:=i) (j:=j) hi
 have hnf:listed.getD i false=false:=by simpa[Array.getD,hi] using hn
 have hslot:∀ j t,j≠i→(ops[j]?).bind (·.dst)=some t→o.dst≠some t:=by
  intro j t hj h1 h2
  cases hoj:ops[j]? with
  | none=>rw[hoj]at h1;cases h1
  | some oj=>rw[hoj]at h1;exact hj (nodup j i oj o t hoj ho h1 h2)
 have hV:∀ x∈pr,depB o x.1=true→a'.tmps.getD x.2.1 undef=x.2.2:=fun x hx hdx=>h.val x hx (Zw hdx hd)
 have hlit:=h.lit
 rw[hds]at hlit
 have hY:∃ y:Nat→Value,(∀ t,a'.tmps.getD t undef=y t)∧a'=fr a ds y:=⟨_,fun _=>rfl,hlit⟩
 obtain⟨y,hy,hay⟩:=hY
 simp only[hy]at hV
 clear hlit
 have hvo:∀ v,∀ x∈pr,x.1≠i→(a'.put o.dst v).tmps.getD x.2.1 undef=a'.tmps.getD x.2.1 undef:=fun v x hx hxi =>
  Zs (hslot _ _ hxi (vok x hx).1)
 have hfr:∀ v t,(∀ (i:Nat) (o:Oper),ops[i]?=some o→o.dst≠some t)→(a'.put o.dst v).tmps.getD t undef=a.tmps.getD t undef:=fun v t ht=>by
  rw[Zs (ht i o ho)];exact h.frame t ht
 have hBW:B≤W.heap.size:=Nat.le_trans hBw h.big
 have hO:∀ c∈olds,c.st=999→Cells W c.g c.old:=fun c hc hn=>by
  have:=h.old c hc
  rw[hn,show listed.getD 999 false=false from by simp[Array.getD,show ¬ 999<listed.size by omega],if_neg (by simp)]at this
  exact this
 unfold wpOp
 rw[ho]
 obtain⟨hg,hok⟩:=hok
 have hw:Region.wanted o (yielded ops a'.tmps)=true:=by simp only[Region.wanted,hg]
 simp only[hw,if_true]
 refine .inl ?_
 rcases hok with⟨hne,d,v,hq,hok⟩ | ⟨hdn,hx0,c0,hc0,hci,hcB,hcu,hc3⟩
 ·rw[hay]
  refine(hok y W h.below h.big hO hV).out _ _ (fun v' W' hB hv=>?_)
  rw[← hay]
  have hv':v'=v:=hv
  subst hv'
  refine⟨(Z8 ..).trans h.defers,(Xv ..).trans h.size,hfr v',h.below.trans (hB.mono hBW),Nat.le_trans h.big hB.size,fun x hx hl=>?_,fun c hc=>?_⟩
  ·by_cases hxi:x.1=i
   ·have hm:x∈pr.filter (fun x=>x.1 == i):=List.mem_filter.2 ⟨hx,by simpa using hxi⟩
    rw[hq]at hm
    obtain rfl:=List.mem_singleton.1 hm
    have h1:=(vok _ hx)
    simp only at h1
    rw[ho]at h1
    have h2:o.dst=some d:=h1.1
    rw[h2,Xi (by rw[h.size];exact h1.2)]
   ·rw[hL,if_neg hxi]at hl
    rw[hvo v' x hx hxi]
    exact h.val x hx hl
  ·rw[hL,if_neg (hne c hc)]
   exact(h.old c hc).keep hB
 ·have hz:=h.old c0 hc0
  rw[hci,hnf,if_neg (by simp)]at hz
  rw[hay]
  refine(hc3 y W hz hV _ _ (fun W' hC hOn=>?_)).out
  rw[← hay]
  have hput:∀ v t,(a'.put o.dst v).tmps.getD t undef=a'.tmps.getD t undef:=fun v t=>by rw[hdn];rfl
  refine⟨(Z8 ..).trans h.defers,(Xv ..).trans h.size,hfr _,hOn.below h.below hcB,by rw[hOn.size];exact h.big,fun x hx hl=>?_,fun c hc=>?_⟩
  ·rw[hL,if_neg (hx0 x hx)]at hl
   rw[hput]
   exact h.val x hx hl
  ·by_cases hcc:c=c0
   ·subst hcc
    rw[hL,if_pos hci,if_pos rfl];exact hC
   ·rw[hL,if_neg (fun e=>hcc ((hcu c hc).1 e))]
    exact(h.old c hc).only hOn (fun e=>hcc ((hcu c hc).2 e))
theorem YC{id:Nat}(B:Nat)(pr:List (Nat × Nat × Value))(olds:List BxC)(ds:List Tmp)(hBw:B≤w.heap.size)(hds:ops.toList.filterMap (·.dst)=ds)(hm:P.follows .mixedOrders=true)
  (hB:Yb ops a.tmps.size (pr.map fun x=>(x.1,x.2.1)) [] []=true) (hold:∀ c∈olds,Cells w c.g c.old)
  (hops:∀ (i:Nat) (o:Oper),ops[i]?=some o→SOk P a B w pr olds ds i o)
  (hend:∀ (y:Nat→Value) W,Below B w W→(∀ c∈olds,(c.st=999→Cells W c.g c.old)∧(c.st<ops.size→Cells W c.g c.new))→(∀ x∈pr,y x.2.1=x.2.2)→Q .normal (fr a ds y) W) :
  (Code.region id ops true).wp P Q a w:=by
 unfold Yb at hB
 simp only[Bool.and_eq_true]at hB
 obtain⟨⟨⟨⟨⟨h1,h2⟩,h3⟩,-⟩,h5⟩,-⟩:=hB
 have h999:ops.size≤999:=by simpa using h5
 clear h5
 have dag:∀ (i:Nat) (o:Oper),ops[i]?=some o→∀ e∈o.after,Region.binds .any e=true→e.on<i:=by
  intro i o ho e he hb
  have hi:=(Array.getElem?_eq_some_iff.1 ho).1
  have:=List.all_eq_true.1 h1 i (List.mem_range.2 hi)
  rw[ho]at this
  simp only[Option.map_some,Option.getD_some,Array.all_eq_true']at this
  have:=this e he
  rw[hb]at this
  simpa using this
 have nodup:∀ (i j:Nat) (o o':Oper) (t:Tmp),ops[i]?=some o→ops[j]?=some o'→o.dst=some t→o'.dst=some t→i=j:=by
  intro i j o o' t ho ho' hd hd'
  have hi:=(Array.getElem?_eq_some_iff.1 ho).1
  have hj:=(Array.getElem?_eq_some_iff.1 ho').1
  have:=List.all_eq_true.1 (List.all_eq_true.1 h2 i (List.mem_range.2 hi)) j (List.mem_range.2 hj)
  simp only[YB,ho,ho',Option.bind_some,hd,hd']at this
  simpa using this
 have vok:∀ x∈pr,(ops[x.1]?).bind (·.dst)=some x.2.1∧x.2.1<a.tmps.size:=by
  intro x hx
  have:=List.all_eq_true.1 h3 _ (List.mem_map_of_mem hx)
  simp only[Bool.and_eq_true,beq_iff_eq,decide_eq_true_eq]at this
  exact this
 have hrep:∀ j,(Array.replicate ops.size false).getD j false=false:=fun j=>by simp[Array.getD]
 refine wp_region_any hm (Ux (fun listed a' W=>listed.size=ops.size∧SJ ops a B w pr olds listed a' W) dag (fun listed a' W i o hJ hs ho hn hd=>wpOp_mono (fun a'' W'' hh=>⟨by simpa using hs,hh⟩) (hJ.2.step hs ho hn hd nodup vok hBw h999 hds (hops i o ho))) (fun listed a' W hJ' hl=>?_) _ _ _ _ (by simp) (by simp) ⟨by simp,?_⟩)
 ·obtain⟨hsz,hJ⟩:=hJ'
  have hlt:∀ (i t:Nat),(ops[i]?).bind (·.dst)=some t→i<ops.size:=by
   intro i t h
   apply bCo
   intro hn
   rw[Array.getElem?_eq_none (by omega)]at h
   cases h
  have hv:=fun x hx=>hJ.val x hx (hl _ (hlt _ _ (vok x hx).1))
  have e:=hJ.lit
  rw[hds]at e
  rw[e]
  refine hend _ W hJ.below (fun c hc=>⟨fun h9=>?_,fun h9=>?_⟩) hv
  ·have:=hJ.old c hc
   rw[h9,show listed.getD 999 false=false from by simp[Array.getD,show ¬ 999<listed.size by omega],if_neg (by simp)]at this
   exact this
  ·have:=hJ.old c hc
   rw[hl _ h9,if_pos rfl]at this;exact this
 ·refine⟨rfl,rfl,fun _ _=>rfl,⟨rfl,rfl,rfl,nlr _,fun _ _=>rfl⟩,nlr _,fun x hx hl=>?_,fun c hc=>?_⟩
  ·rw[hrep]at hl;cases hl
  ·rw[hrep,if_neg (by simp)];exact(hold c hc).keep ⟨rfl,rfl,rfl,Nat.le_refl _,fun _ _=>rfl⟩
theorem SOk.val{i:Nat}{o:Oper}{d:Tmp}{v:Value}(hg:o.guard=none)(hne:(olds.all fun c=>c.st != i)=true)(hq:pr.filter (fun x=>x.1 == i)=[(i,d,v)])
  (h:∀ y W,Below B w W→w.heap.size≤W.heap.size→(∀ c∈olds,c.st=999→Cells W c.g c.old)→(∀ x∈pr,depB o x.1=true→y x.2.1=x.2.2)→Yl P o (fr a ds y) W (VC v)):SOk P a B w pr olds ds i o:=
 ⟨hg,.inl ⟨fun c hc=>by simpa using List.all_eq_true.1 hne c hc,d,v,hq,h⟩⟩
theorem SOk.sto{i:Nat}{o:Oper}{c:BxC}(hg:o.guard=none)(hdn:o.dst=none)(hp:(pr.all fun x=>x.1 != i)=true)(hc:c∈olds)(hi:c.st=i)(hB:B≤c.g)(hu:∀ d∈olds,(d.st=i→d=c)∧(d.g=c.g→d=c))
  (h:∀ y W,Cells W c.g c.old→(∀ x∈pr,depB o x.1=true→y x.2.1=x.2.2)→∀ K Q',(∀ W',Cells W' c.g c.new→Only c.g W W'→K ((fr a ds y).put o.dst undef) W')→WpS P o (fr a ds y) W K Q'):SOk P a B w pr olds ds i o:=
 ⟨hg,.inr ⟨hdn,fun x hx=>by simpa using List.all_eq_true.1 hp x hx,c,hc,hi,hB,hu,h⟩⟩
theorem sgt{o:Oper}{y:Nat→Value}(hV:∀ x∈pr,depB o x.1=true→y x.2.1=x.2.2)(j:Nat){t:Nat}{v:Value}(hf:pr.find? (fun x=>x.1 == j)=some (j,t,v))(hd:depB o j=true:=by kernel_rfl)(h:(ds.contains t && decide (t<a.tmps.size))=true:=by kernel_rfl):(fr a ds y).eval (.tmp t)=v:=
 (fr_in h).trans (hV _ (List.mem_of_find?_eq_some hf) hd)
end
end
end Go.Proofs.YthkklilhjnpedaaGreatDoor
