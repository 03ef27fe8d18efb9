/- A law of regions that draw their order: an invariant that each operation keeps holds behind the region, whatever the order. -/
import Derived.Test.YthkklilhjnpedaaGreatDoorUQa0
set_option maxHeartbeats 16000000
set_option maxRecDepth 8000
namespace Go.Proofs.YthkklilhjnpedaaGreatDoor
open Go.RowKit FF
section
variable {P:Program}{ops:Array Oper}{Q:Exit→Act→World→Prop}
theorem Kg{md:Region.Mode}{listed:Array Bool}{i:Nat}(h:i∈Region.ready md ops listed) :
  i<ops.size∧listed.getD i true=false∧∀ o,ops[i]?=some o→∀ e∈o.after,Region.binds md e=true→listed.getD e.on false=true:=by
 unfold Region.ready at h
 obtain⟨h1,h2⟩:=List.mem_filter.1 h
 have hi:=List.mem_range.1 h1
 simp only[Bool.and_eq_true,Bool.not_eq_true']at h2
 refine⟨hi,h2.1,fun o ho e he hb=>?_⟩
 have h3:=h2.2
 rw[ho]at h3
 simp only[Option.map_some,Option.getD_some,Array.all_eq_true']at h3
 have:=h3 e he
 rw[hb]at this
 simpa using this
theorem Un{listed:Array Bool}(hl:listed.size=ops.size)(dag:∀ (i:Nat) (o:Oper),ops[i]?=some o→∀ e∈o.after,Region.binds .any e=true→e.on<i)
  (h:Region.ready .any ops listed=[]):∀ i,i<ops.size→listed.getD i false=true:=by
 intro i
 induction i using Nat.strongRecOn with
 | ind i ih =>
  intro hi
  apply bCo
  intro hno
  have hf:listed.getD i true=false:=by
   have:listed.getD i false=listed[i]'(by omega):=by simp[Array.getD,hl,hi]
   rw[this]at hno
   simp[Array.getD,hl,hi]
   simpa using hno
  have:i∈Region.ready .any ops listed:=by
   unfold Region.ready
   refine List.mem_filter.2 ⟨List.mem_range.2 hi,?_⟩
   simp only[Bool.and_eq_true,Bool.not_eq_true']
   refine⟨hf,?_⟩
   rw[Array.getElem?_eq_getElem hi]
   simp only[Option.map_some,Option.getD_some,Array.all_eq_true']
   intro e he
   cases hb:Region.binds .any e
   ·rfl
   ·have hlt:=dag i _ (Array.getElem?_eq_getElem hi) e he hb
    rw[ih e.on hlt (by omega)]
    rfl
  rw[h]at this
  cases this
theorem Ya{listed:Array Bool}{i:Nat}(h:listed.getD i true=false) :
  (listed.setIfInBounds i true).toList.count false+1=listed.toList.count false:=by
 have hi:i<listed.size:=by
  apply bCo
  intro hn
  simp[Array.getD,hn]at h
 have hv:listed.toList[i]'(by simpa using hi)=false:=by simpa[Array.getD,hi] using h
 have hp:0<listed.toList.count false:=List.count_pos_iff.2 (hv ▸ List.getElem_mem _)
 rw[Array.toList_setIfInBounds,List.count_set (by simpa using hi),hv]
 have e1:((false:Bool) == false)=true:=rfl
 have e2:((true:Bool) == false)=false:=rfl
 rw[e1,e2]
 rw[if_pos rfl,if_neg (by simp)]
 omega
theorem Ux(J:Array Bool→Act→World→Prop)(dag:∀ (i:Nat) (o:Oper),ops[i]?=some o→∀ e∈o.after,Region.binds .any e=true→e.on<i)
  (hstep:∀ listed a w i o,J listed a w→listed.size=ops.size→ops[i]?=some o→listed.getD i true=false→(∀ e∈o.after,Region.binds .any e=true→listed.getD e.on false=true)→wpOp P ops Q i (J (listed.setIfInBounds i true)) a w)
  (hend:∀ listed a w,J listed a w→(∀ i,i<ops.size→listed.getD i false=true)→Q .normal a w) :
  ∀ fuel listed a w,listed.size=ops.size→listed.toList.count false≤fuel→J listed a w→wpAny P .any ops Q fuel listed a w:=by
 intro fuel
 induction fuel with
 | zero =>
  intro listed a w hs hc hJ
  have hr:Region.ready .any ops listed=[]:=by
   rw[List.eq_nil_iff_forall_not_mem]
   intro i hi
   have:=Ya (Kg hi).2.1
   omega
  exact⟨hr,hend _ _ _ hJ (Un hs dag hr)⟩
 | succ fuel ih =>
  intro listed a w hs hc hJ
  refine⟨fun hr=>hend _ _ _ hJ (Un hs dag hr),fun i hi=>?_⟩
  obtain⟨h1,h2,h3⟩:=Kg hi
  have ho:=Array.getElem?_eq_getElem h1
  refine wpOp_mono (fun a' w' h=>ih _ a' w' (by simpa using hs) ?_ h) (hstep listed a w i _ hJ hs ho h2 (h3 _ ho))
  have:=Ya h2
  omega
def YB(ops:Array Oper)(i:Nat):Option Tmp:=(ops[i]?).bind (·.dst)
def Zf(tmps:Array Value)(l:List Tmp)(y:Nat→Value):Array Value:=l.foldl (fun t d=>t.setIfInBounds d (y d)) tmps
theorem X7(l:List Tmp)(y:Nat→Value):∀ tmps,(Zf tmps l y).size=tmps.size:=by
 induction l with
 | nil=>intro tmps;rfl
 | cons d l ih=>intro tmps;exact(ih _).trans (by simp)
theorem XV(l:List Tmp)(y:Nat→Value)(j:Nat):∀ tmps:Array Value,j<tmps.size→(Zf tmps l y)[j]?=if j∈l then some (y j) else tmps[j]?:=by
 induction l with
 | nil=>intro tmps _;simp[Zf]
 | cons d l ih =>
  intro tmps hj
  have h:=ih (tmps.setIfInBounds d (y d)) (by simpa using hj)
  have e:Zf tmps (d::l) y=Zf (tmps.setIfInBounds d (y d)) l y:=rfl
  rw[e,h]
  by_cases h1:j∈l
  ·simp[h1]
  ·rw[if_neg h1]
   by_cases h2:d=j
   ·subst h2
    simp[hj]
   ·rw[Array.getElem?_setIfInBounds_ne h2,if_neg (by simp[h1,Ne.symm h2])]
structure BoxS where
 at':Nat
 slot:Nat
 st:Nat
 zero:Array Value
 fin:Array Value
structure BoxO where
 g:Nat
 st:Nat
 zero:Array Value
 fin:Array Value
def depB(o:Oper)(j:Nat):Bool:=o.after.any fun e=>Region.binds .any e && e.on == j
theorem Zw{o:Oper}{j:Nat}{listed:Array Bool}(h:depB o j=true)(hd:∀ e∈o.after,Region.binds .any e=true→listed.getD e.on false=true):listed.getD j false=true:=by
 unfold depB at h
 obtain⟨e,he,h2⟩:=Array.any_eq_true'.1 h
 simp only[Bool.and_eq_true,beq_iff_eq]at h2
 exact h2.2 ▸ hd e he h2.1
structure Only(g:Nat)(W W':World):Prop where
 os:W'.os=W.os
 tape:W'.tape=W.tape
 output:W'.output=W.output
 size:W'.heap.size=W.heap.size
 block:∀ k,k≠g→W'.heap[k]?=W.heap[k]?
theorem Only.setCell(W:World)(g k:Nat)(v:Value):Only g W (W.setCell ⟨g,k,none⟩ v):=by
 have hb:=(Below.refl g W).setCell (p:=⟨g,k,none⟩) (nlr _) v
 refine⟨hb.os,hb.tape,hb.output,by simp,fun j hj=>?_⟩
 exact Below.heap_setCell _ _ _ _ hj
theorem Only.trans{g:Nat}{A B C:World}(h:Only g A B)(k:Only g B C):Only g A C:=
 ⟨k.os.trans h.os,k.tape.trans h.tape,k.output.trans h.output,k.size.trans h.size,fun i hi=>(k.block i hi).trans (h.block i hi)⟩
theorem Only.below{g b:Nat}{w W W':World}(h:Only g W W')(hb:Below b w W)(hg:b≤g):Below b w W':=
 ⟨h.os.trans hb.os,h.tape.trans hb.tape,h.output.trans hb.output,by rw[h.size];exact hb.size,fun k hk=>(h.block k (by omega)).trans (hb.block k hk)⟩
theorem Cells.put1{W:World}{b:Nat}{v0:Value}(hc:Cells W b #[v0])(u0:Value):Cells (W.setCell ⟨b,0,none⟩ u0) b #[u0]:=by
 have h0:W.cell? ⟨b,0,none⟩=some v0:=hc.2.1 0 (by simp)
 refine⟨by simpa[World.setCell] using hc.1,fun i hi=>?_,fun i=>by simp[go_sem,hc.2.2 i]⟩
 match i,hi with
 | 0,_=>simp[go_sem,h0]
theorem Cells.of_block{W W':World}{b:Nat}{vs:Array Value}(h:Cells W b vs)(hs:W.heap.size≤W'.heap.size)(hb:W'.heap[b]?=W.heap[b]?):Cells W' b vs:=by
 have hB:Below (b+1) { W with heap:=W.heap.extract b (b+1) } { W with heap:=W.heap.extract b (b+1) }:=Below.refl _ _
 clear hB
 refine⟨nLl h.1 hs,fun i hi=>?_,fun i=>?_⟩
 ·rw[← h.2.1 i hi];simp only[World.cell?,hb]
 ·rw[← h.2.2 i];simp only[World.frozen?,hb]
theorem Cells.only{W W':World}{b g:Nat}{vs:Array Value}(h:Cells W b vs)(ho:Only g W W')(hg:b≠g):Cells W' b vs:=
 h.of_block (Nat.le_of_eq ho.size.symm) (ho.block b hg)
variable {a:Act}{w:World}{B:Nat}{vals:List (Nat × Nat × Value)}{bxs:List BoxS}{olds:List BoxO}
def fr(a:Act)(ds:List Tmp)(y:Nat→Value):Act:=⟨Zf a.tmps ds y,a.defers⟩
theorem Zs{a:Act}{d:Option Tmp}{v:Value}{t:Nat}(h:d≠some t):(a.put d v).tmps.getD t undef=a.tmps.getD t undef:=by
 cases d with
 | none=>rfl
 | some d =>
  have hd:d≠t:=fun e=>h (by rw[e])
  simp only[Act.put,Array.getD_eq_getD_getElem?,Array.getElem?_setIfInBounds_ne hd]
theorem Xi{a:Act}{v:Value}{t:Nat}(h:t<a.tmps.size):(a.put (some t) v).tmps.getD t undef=v:=by
 simp only[Act.put,Array.getD_eq_getD_getElem?,Array.getElem?_setIfInBounds_self_of_lt h,Option.getD_some]
theorem Xv(a:Act)(d:Option Tmp)(v:Value):(a.put d v).tmps.size=a.tmps.size:=by
 cases d <;> simp[Act.put]
theorem Z8(a:Act)(d:Option Tmp)(v:Value):(a.put d v).defers=a.defers:=by
 cases d <;> simp[Act.put]
theorem Xq{listed:Array Bool}{i j:Nat}(hi:i<listed.size):(listed.setIfInBounds i true).getD j false=if j=i then true else listed.getD j false:=by
 by_cases h:j=i
 ·subst h;simp[Array.getD_eq_getD_getElem?,Array.getElem?_setIfInBounds_self_of_lt hi]
 ·rw[if_neg h];simp[Array.getD_eq_getD_getElem?,Array.getElem?_setIfInBounds_ne (Ne.symm h)]
end
def AllFrom(C:Nat→Oper→Prop):Nat→List Oper→Prop
 | _,[]=>True
 | k,o::l=>C k o∧AllFrom C (k+1) l
theorem AllFrom.get{C:Nat→Oper→Prop}:∀ (l:List Oper) (k:Nat),AllFrom C k l→∀ (i:Nat) (o:Oper),l[i]?=some o→C (k+i) o
 | [],_,_,i,o,h=>by simp at h
 | x::l,k,⟨h1,h2⟩,0,o,h=>by
  have:x=o:=by simpa using h
  exact this ▸ h1
 | x::l,k,⟨h1,h2⟩,i+1,o,h=>by
  have:=AllFrom.get l (k+1) h2 i o (by simpa using h)
  rwa [show k+1+i=k+(i+1) by omega]at this
theorem Zl{C:Nat→Oper→Prop}{l:List Oper}(h:AllFrom C 0 l):∀ (i:Nat) (o:Oper),l.toArray[i]?=some o→C i o:=fun i o ho=>by
 have:=AllFrom.get l 0 h i o (by simpa using ho)
 rwa [Nat.zero_add]at this
abbrev zz2:Array Value:=#[.bool false,.slice none 0 0,.bool false,.slice none 0 0]
abbrev zz4:Array Value:=#[.bool false,.slice none 0 0,.bool false,.slice none 0 0,.bool false,.slice none 0 0,.bool false,.slice none 0 0]
abbrev zz8:Array Value:=#[.bool false,.slice none 0 0,.bool false,.slice none 0 0,.bool false,.slice none 0 0,.bool false,.slice none 0 0,.bool false,.slice none 0 0,.bool false,.slice none 0 0,.bool false,.slice none 0 0,.bool false,.slice none 0 0]
end Go.Proofs.YthkklilhjnpedaaGreatDoor
