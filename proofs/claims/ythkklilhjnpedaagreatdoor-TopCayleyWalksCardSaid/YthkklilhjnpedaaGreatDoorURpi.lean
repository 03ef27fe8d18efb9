/- Checks of algebras and elements, in the program and in the reference. Checks of elements and of lists of elements, in the program and in the reference. Checks of lists of elements, in the program and in the reference. -/
import Derived.Test.YthkklilhjnpedaaGreatDoorURpt
import Derived.RangeFuncNested
import Derived.RangeFuncBound
import Derived.RangeFuncCalls
import Derived.RangeFuncLeaves
import Derived.RangeFuncBox
import Derived.Shelf.Abstract
import Derived.Shelf.RegionOpen
import Derived.OwnWalkIn
import Derived.TacticsInMore
import Derived.OrdersIn
import Derived.Test.YthkklilhjnpedaaGreatDoorUQa0
import Derived.Test.YthkklilhjnpedaaGreatDoorUSym0
import Derived.Test.YthkklilhjnpedaaGreatDoorUQn0
set_option maxHeartbeats 16000000
set_option maxRecDepth 8000
namespace Go.Proofs.YthkklilhjnpedaaGreatDoor
section
open Go.RowKit FF
section
variable {P:Program}{ops:Array Oper}{Q:Exit→Act→World→Prop}{a:Act}{w:World}{pr:List Wd}{ex:World→Prop}{ds:List Tmp}{k l n:Nat}
theorem ZeS{P:Program}{row:String}{args:Array Value}{w:World}{R:Value→World→Prop}(h:Rows P row args w R):RowsIn (Fence.wide.inRound l) n P row args w R:=
 fun c cs _=>let ⟨v,w',r,s⟩:=h c cs;⟨v,w',r,stepsIn_wide.2 s⟩
theorem Yl.wpIn{o:Oper}{W:World}{q:Value→World→Prop}{K:Act→World→Prop}{Q':Exit→Act→World→Prop}(h:Yl P o a W q)(hnd:∀ c,o.op≠.defer c)(hK:∀ v W',Below W.heap.size W W'→q v W'→K (a.put o.dst v) W'):o.wpIn (Fence.wide.inRound l) n P a W K Q':=by
 refine⟨fun _ _=>trivial,?_⟩
 rw[Oper.semAt_eq _ _ _ hnd]
 have hh:=h.out K (fun _ _ _=>False) hK
 unfold Oper.wp at hh
 generalize (execOp a.eval o).run P W=r at *
 cases r with
 | ok x w' =>
  cases x <;> simp only[Oper.uponIn,Oper.upon]at hh ⊢ <;>
   first
    | exact hh
    | exact⟨fun h=>(by cases h),CallsIn.inRound l (callsIn_wide.2 (Calls.mono hh (fun e w'' he=>by
      cases e with
      | returned v=>exact he
      | panicked c=>exact he.elim
      | outgrown=>obtain⟨_,_,hf⟩:=he;exact hf.elim)))⟩
    | exact⟨fun h=>(by cases h),ZeS hh⟩
    | exact hh.elim
 | halt x w'=>cases x <;> simp only[Oper.upon]at hh ⊢ <;> exact hh.elim
def Zgy(o:Oper):Bool:=match o.op with
 | .defer _=>false
 | _=>true
theorem ZeT(h:ops.all Zgy=true):∀ (i:Nat) (o:Oper),ops[i]?=some o→∀ c,o.op≠.defer c:=fun i o ho c e=>by
 have:=Array.all_eq_true_iff_forall_mem.1 h o (Array.mem_of_getElem? ho)
 simp[Zgy,e]at this
theorem ZfH(J:Array Bool→Act→World→Prop)(dag:∀ (i:Nat) (o:Oper),ops[i]?=some o→∀ e∈o.after,Region.binds .any e=true→e.on<i)
  (hstep:∀ listed a w i o,J listed a w→listed.size=ops.size→ops[i]?=some o→listed.getD i true=false→(∀ e∈o.after,Region.binds .any e=true→listed.getD e.on false=true)→wpOpIn (Fence.wide.inRound l) n P ops Q i (J (listed.setIfInBounds i true)) a w)
  (hend:∀ listed a w,J listed a w→(∀ i,i<ops.size→listed.getD i false=true)→Q .normal a w) :
  ∀ fuel listed a w,listed.size=ops.size→listed.toList.count false≤fuel→J listed a w→wpAnyIn (Fence.wide.inRound l) n P .any ops Q fuel listed a w:=by
 intro fuel
 induction fuel with
 | zero =>
  intro listed a w hs hc hJ
  have hr:Region.ready .any ops listed=[]:=by
   rw[List.eq_nil_iff_forall_not_mem]
   intro i hi
   have:=Ya (Kg hi).2.1
   omega
  exact⟨hr,hend _ _ _ hJ (Un hs dag hr)⟩
 | succ fuel ih =>
  intro listed a w hs hc hJ
  refine⟨fun hr=>hend _ _ _ hJ (Un hs dag hr),fun i hi=>?_⟩
  obtain⟨h1,h2,h3⟩:=Kg hi
  have ho:=Array.getElem?_eq_getElem h1
  refine wpOpIn_mono (fun a' w' h=>ih _ a' w' (by simpa using hs) ?_ h) (hstep listed a w i _ hJ hs ho h2 (h3 _ ho))
  have:=Ya h2
  omega
theorem TJ.stepIn{listed:Array Bool}{a':Act}{W:World}{i:Nat}{o:Oper}(h:TJ k ops a w pr ex listed a' W)(hs:listed.size=ops.size)(ho:ops[i]?=some o)(hn:listed.getD i true=false)
  (hd:∀ e∈o.after,Region.binds .any e=true→listed.getD e.on false=true)
  (nodup:∀ (i j:Nat) (o o':Oper) (t:Tmp),ops[i]?=some o→ops[j]?=some o'→o.dst=some t→o'.dst=some t→i=j) (hk:∀ x∈pr,Keeps x.2.2) (hex:Keeps (fun _=>ex))
  (vok:∀ x∈pr,(ops[x.1]?).bind (·.dst)=some x.2.1∧x.2.1<a.tmps.size)
  (hik:i<k) (hds:(ops.toList.take k).filterMap (·.dst)=ds) (hnd:∀ (i:Nat) (o:Oper),ops[i]?=some o→∀ c,o.op≠.defer c) (hok:VOk P ops a w pr ex ds i o):wpOpIn (Fence.wide.inRound l) n P ops Q i (TJ k ops a w pr ex (listed.setIfInBounds i true)) a' W:=by
 have hi:i<listed.size:=by
  rw[hs];exact(Array.getElem?_eq_some_iff.1 ho).1
 have hL:=fun j=>Xq (listed:=listed) (i:=i) (j:=j) hi
 have hslot:∀ j t,j≠i→(ops[j]?).bind (·.dst)=some t→o.dst≠some t:=by
  intro j t hj h1 h2
  cases hoj:ops[j]? with
  | none=>rw[hoj]at h1;cases h1
  | some oj=>rw[hoj]at h1;exact hj (nodup j i oj o t hoj ho h1 h2)
 have hV:∀ x∈pr,depB o x.1=true→x.2.2 (a'.tmps.getD x.2.1 undef) W:=fun x hx hdx=>h.val x hx (Zw hdx hd)
 have hnf:listed.getD i false=false:=by simpa[Array.getD,hi] using hn
 have hU:∀ t,XL ops i t=true→a'.tmps.getD t undef=a.tmps.getD t undef:=fun t ht=>by
  obtain⟨oj,hm,hj⟩:=Array.any_eq_true'.1 ht
  simp only[Bool.and_eq_true,beq_iff_eq]at hj
  obtain⟨j,hjs,hje⟩:=Array.mem_iff_getElem.1 hm
  have hoj:ops[j]?=some oj:=by rw[Array.getElem?_eq_getElem hjs,hje]
  refine h.init j oj t hoj hj.1 ?_
  cases hl:listed.getD j false with
  | false=>rfl
  | true =>
   have:=h.closed j oj hoj hl i hj.2
   rw[hnf]at this;cases this
 have hlit:=h.lit
 rw[hds]at hlit
 have hY:∃ y:Nat→Value,(∀ t,a'.tmps.getD t undef=y t)∧a'=fr a ds y:=⟨_,fun _=>rfl,hlit⟩
 obtain⟨y,hy,hay⟩:=hY
 simp only[hy]at hV hU
 clear hlit
 have hyi:∀ j want b,Uy pr o j want b→Region.wanted o (yielded ops a'.tmps)=(b == want):=by
  rintro j want b ⟨g1,g2,x,hx,rfl,hxb⟩
  have h1:=hxb _ _ (h.val x hx (Zw g2 hd))
  have h2:=vok x hx
  have h3:x.2.1<a'.tmps.size:=by rw[h.size];exact h2.2
  have h4:a'.tmps[x.2.1]?=some (.bool b):=by
   rw[Array.getElem?_eq_getElem h3]
   simpa[Array.getD,h3] using h1
  simp only[Region.wanted,g1,yielded,h2.1,Option.bind_some,h4]
  cases b <;> cases want <;> rfl
 have hinit:∀ (v:Value) (j:Nat) (oj:Oper) (t:Tmp),ops[j]?=some oj→oj.dst=some t→(listed.setIfInBounds i true).getD j false=false→(a'.put o.dst v).tmps.getD t undef=a.tmps.getD t undef:=fun v j oj t hoj hjd hl=>by
  rw[hL]at hl
  by_cases hji:j=i
  ·rw[if_pos hji]at hl;cases hl
  ·rw[if_neg hji]at hl
   rw[Zs (hslot j t hji (by rw[hoj];exact hjd))]
   exact h.init j oj t hoj hjd hl
 have hclosed:∀ (j:Nat) (oj:Oper),ops[j]?=some oj→(listed.setIfInBounds i true).getD j false=true→∀ k,depB oj k=true→(listed.setIfInBounds i true).getD k false=true:=fun j oj hoj hl k hk'=>by
  rw[hL]
  split
  ·rfl
  ·rw[hL]at hl
   by_cases hji:j=i
   ·subst hji
    rw[ho]at hoj
    injection hoj with hoj
    subst hoj
    exact Zw hk' hd
   ·rw[if_neg hji]at hl
    exact h.closed j oj hoj hl k hk'
 have hval:∀ v W',Below W.heap.size W W'→(∀ x∈pr,x.1=i→x.2.2 v W')→TJ k ops a w pr ex (listed.setIfInBounds i true) (a'.put o.dst v) W':=by
  intro v W' hB hv1
  refine⟨(Z8 ..).trans h.defers,(Xv ..).trans h.size,fun t ht=>by rw[Zs (ht i o hik ho)];exact h.frame t ht,h.below.trans (hB.mono h.below.size),hex undef _ _ h.ext hB,fun x hx hl=>?_,hinit v,hclosed⟩
  by_cases hxi:x.1=i
  ·have h1:=(vok x hx)
   rw[hxi,ho]at h1
   have h2:o.dst=some x.2.1:=h1.1
   rw[h2,Xi (by rw[h.size];exact h1.2)]
   exact hv1 x hx hxi
  ·rw[hL,if_neg hxi]at hl
   rw[Zs (hslot _ _ hxi (vok x hx).1)]
   exact hk x hx _ _ _ (h.val x hx hl) hB
 unfold wpOpIn
 rw[ho]
 rcases hok with⟨hg,d,q,hq,hok⟩ | ⟨⟨j,b,hg⟩,hu1⟩
 rotate_left
 ·simp only[hyi _ _ _ hg,show(b == !b)=false by cases b <;> rfl,Bool.false_eq_true,if_false]
  exact⟨fun _ _=>trivial,hval undef W (brf _ _) (fun x hx e=>hu1 x hx e W)⟩
 have hw:Region.wanted o (yielded ops a'.tmps)=true:=by
  rcases hg with hg | ⟨j,b,hg⟩
  ·simp only[Region.wanted,hg]
  ·rw[hyi _ _ _ hg];cases b <;> rfl
 simp only[hw,if_true]
 rw[hay]
 refine(hok y W h.below h.ext hV hU).wpIn (hnd i o ho) (fun v W' hB hv=>?_)
 rw[← hay]
 exact hval v W' hB (Yi hq hv)
theorem U5{id:Nat}(k:Nat)(pr:List Wd)(ex:World→Prop)(ds:List Tmp)(hds:(ops.toList.take k).filterMap (·.dst)=ds)(hm:P.follows .mixedOrders=true)
  (hB:Yb ops a.tmps.size (pr.map fun x=>(x.1,x.2.1)) [] []=true) (hpk:(pr.all fun x=>decide (x.1<k))=true) (ht:waitB ops k=true) (hk:KeepsL pr) (hex:Keeps (fun _=>ex)) (h0:ex w) (hkn:k<ops.size) (hnd:∀ (i:Nat) (o:Oper),ops[i]?=some o→∀ c,o.op≠.defer c)
  (hops:∀ (i:Nat) (o:Oper),i<k→ops[i]?=some o→VOk P ops a w pr ex ds i o)
  (hend:∀ (y:Nat→Value) W,Below w.heap.size w W→ex W→(∀ x∈pr,x.2.2 (y x.2.1) W)→wpListIn (Fence.wide.inRound l) n P ops Q (ops.toList.drop k) (fr a ds y) W) :
  (Code.region id ops true).wpIn (Fence.wide.inRound l) n P Q a w:=by
 unfold Yb at hB
 simp only[Bool.and_eq_true]at hB
 obtain⟨⟨⟨⟨⟨h1,h2⟩,h3⟩,-⟩,-⟩,-⟩:=hB
 have dag:∀ (i:Nat) (o:Oper),ops[i]?=some o→∀ e∈o.after,Region.binds .any e=true→e.on<i:=by
  intro i o ho e he hb
  have hi:=(Array.getElem?_eq_some_iff.1 ho).1
  have:=List.all_eq_true.1 h1 i (List.mem_range.2 hi)
  rw[ho]at this
  simp only[Option.map_some,Option.getD_some,Array.all_eq_true']at this
  have:=this e he
  rw[hb]at this
  simpa using this
 have dag2:∀ (j:Nat) (oj:Oper),ops[j]?=some oj→∀ q,depB oj q=true→q<j:=by
  intro j oj hoj q hq
  obtain⟨e,he,h2⟩:=Array.any_eq_true'.1 hq
  simp only[Bool.and_eq_true,beq_iff_eq]at h2
  have:=dag j oj hoj e he h2.1
  omega
 have nodup:∀ (i j:Nat) (o o':Oper) (t:Tmp),ops[i]?=some o→ops[j]?=some o'→o.dst=some t→o'.dst=some t→i=j:=by
  intro i j o o' t ho ho' hd hd'
  have hi:=(Array.getElem?_eq_some_iff.1 ho).1
  have hj:=(Array.getElem?_eq_some_iff.1 ho').1
  have:=List.all_eq_true.1 (List.all_eq_true.1 h2 i (List.mem_range.2 hi)) j (List.mem_range.2 hj)
  simp only[YB,ho,ho',Option.bind_some,hd,hd']at this
  simpa using this
 have vok:∀ x∈pr,(ops[x.1]?).bind (·.dst)=some x.2.1∧x.2.1<a.tmps.size:=by
  intro x hx
  have:=List.all_eq_true.1 h3 _ (List.mem_map_of_mem hx)
  simp only[Bool.and_eq_true,beq_iff_eq,decide_eq_true_eq]at this
  exact this
 have hrep:∀ j,(Array.replicate ops.size false).getD j false=false:=fun j=>by simp[Array.getD]
 refine wpIn_region_any hm (ZfH (fun listed a' W=>listed.size=ops.size∧((∀ i,k≤i→listed.getD i false=false)∧TJ k ops a w pr ex listed a' W∨∃ m,k≤m∧(∀ i,listed.getD i false=decide (i<m))∧wpListIn (Fence.wide.inRound l) n P ops Q (ops.toList.drop m) a' W)) dag
  (fun listed a' W i o hJ hs ho hn hd=>?_) (fun listed a' W hJ' hl=>?_) _ _ _ _ (by simp) (by simp) ⟨by simp,.inl ⟨fun i _=>hrep i,?_⟩⟩)
 ·have hi:i<ops.size:=(Array.getElem?_eq_some_iff.1 ho).1
  have hL:=fun j=>Xq (listed:=listed) (i:=i) (j:=j) (by rw[hs];exact hi)
  have hnf:listed.getD i false=false:=by simpa[Array.getD,hs,hi] using hn
  have hdrop:ops.toList.drop i=o::ops.toList.drop (i+1):=by
   have h5:i<ops.toList.length:=by simpa using hi
   rw[List.drop_eq_getElem_cons h5]
   congr 1
   have:=(Array.getElem?_eq_some_iff.1 ho).2
   simpa using this
  have hgo:∀ act,wpListIn (Fence.wide.inRound l) n P ops Q (ops.toList.drop i) act W→(∀ j,j<i→listed.getD j false=true)→(∀ j,i<j→listed.getD j false=false)→k≤i →
    wpOpIn (Fence.wide.inRound l) n P ops Q i (fun a'' W''=>(listed.setIfInBounds i true).size=ops.size∧((∀ q,k≤q→(listed.setIfInBounds i true).getD q false=false)∧TJ k ops a w pr ex (listed.setIfInBounds i true) a'' W''∨∃ m,k≤m∧(∀ q,(listed.setIfInBounds i true).getD q false=decide (q<m))∧wpListIn (Fence.wide.inRound l) n P ops Q (ops.toList.drop m) a'' W'')) act W:=by
   intro act hw hlo hhi hki
   rw[hdrop]at hw
   refine wpOpIn_mono (K:=wpListIn (Fence.wide.inRound l) n P ops Q (ops.toList.drop (i+1))) (fun a'' W'' hh=>⟨by simpa using hs,.inr ⟨i+1,by omega,fun q=>?_,hh⟩⟩) ?_
   ·rw[hL]
    by_cases hqi:q=i
    ·subst hqi;simp
    ·rw[if_neg hqi]
     rcases Nat.lt_or_gt_of_ne hqi with h | h
     ·rw[hlo q h];simp;omega
     ·rw[hhi q h];simp;omega
   ·unfold wpOpIn
    rw[ho]
    exact hw
  rcases hJ with⟨-,⟨hk0,hT⟩ | ⟨m,hkm,hlm,hw⟩⟩
  ·by_cases hik:i<k
   ·refine wpOpIn_mono (fun a'' W'' hh=>⟨by simpa using hs,.inl ⟨fun q hq=>?_,hh⟩⟩) (hT.stepIn hs ho hn hd nodup hk.all hex vok hik hds hnd (hops i o hik ho))
    rw[hL,if_neg (by omega)];exact hk0 q hq
   ·have hall:=KW ht (Nat.le_of_not_lt hik) hi ho hd (fun j oj _ hoj hlj q hq=>hT.closed j oj hoj hlj q hq)
    have hike:i=k:=by
     by_cases h:i=k
     ·exact h
     ·have:=hall k (by omega)
      rw[hk0 k (nlr _)]at this;cases this
    subst hike
    have hv:∀ x∈pr,x.2.2 (a'.tmps.getD x.2.1 undef) W:=fun x hx=>hT.val x hx (hall _ (by simpa using List.all_eq_true.1 hpk x hx))
    have e:=hT.lit
    rw[hds]at e
    have hw:=hend (fun t=>a'.tmps.getD t undef) W hT.below hT.ext hv
    rw[← e]at hw
    exact hgo a' hw hall (fun j hj=>hk0 j (by omega)) (nlr _)
  ·have hge:m≤i:=by
    have h5:=hlm i
    rw[hnf]at h5
    have:=of_decide_eq_false h5.symm
    omega
   have hall:=KW ht (Nat.le_trans hkm hge) hi ho hd (fun j oj _ hoj hlj q hq=>by
    rw[hlm]at hlj ⊢
    have:=dag2 j oj hoj q hq
    have h6:=of_decide_eq_true hlj
    exact deT (by omega))
   have him:i=m:=by
    by_cases h:i=m
    ·exact h
    ·have:=hall m (by omega)
     rw[hlm]at this
     have:=of_decide_eq_true this
     omega
   subst him
   exact hgo a' hw hall (fun j hj=>by rw[hlm];simp;omega) hkm
 ·rcases hJ' with⟨-,⟨hk0,hT⟩ | ⟨m,hkm,hlm,hw⟩⟩
  ·have:=hl k hkn
   rw[hk0 k (nlr _)]at this;cases this
  ·have hsm:ops.size≤m:=by
    apply bCo
    intro hn
    have:=hl m (by omega)
    rw[hlm]at this
    have:=of_decide_eq_true this
    omega
   rw[List.drop_eq_nil_of_le (by simpa using hsm)]at hw
   exact hw
 ·have hd0:Below w.heap.size w { w with drawn:=w.drawn+1 }:=⟨rfl,rfl,rfl,nlr _,fun _ _=>rfl⟩
  refine⟨rfl,rfl,fun _ _=>rfl,hd0,hex undef _ _ h0 hd0,fun x hx hl=>?_,fun _ _ _ _ _ _=>rfl,fun j _ _ hl=>?_⟩
  ·rw[hrep]at hl;cases hl
  ·rw[hrep]at hl;cases hl
end
end
section
open Go.RowKit FF
theorem aE_cases(a b:Int):(a=0∧aE a b=10)∨(a≠0∧b=0∧aE a b=10)∨(a≠0∧b≠0∧a < -1000∧aE a b=2)∨(a≠0∧b≠0∧-1000≤a∧1000<a∧aE a b=2) ∨
  (a≠0∧b≠0∧-1000≤a∧a≤1000∧b < -1000∧aE a b=2)∨(a≠0∧b≠0∧-1000≤a∧a≤1000∧-1000≤b∧1000<b∧aE a b=2)∨(a≠0∧b≠0∧-1000≤a∧a≤1000∧-1000≤b∧b≤1000∧aE a b=0):=by
 unfold aE aB;simp only[decide_eq_true_iff];split
 ·omega
 ·split <;> omega
theorem Zhp(a b:Int)(w:World) :
  Calls Tryz.prog 68 #[.agg #[.int .i64 a,.int .i64 b]] w fun e w'=>e=.returned (.int .i64 (aE a b))∧Below w.heap.size w w':=by
 have HB:=lhd (fun o=>(brf w.heap.size w).alloc (nlr _) o)
 rcases aE_cases a b with⟨h1,he⟩ | ⟨h1,h2,he⟩ | ⟨h1,h2,h3,he⟩ | ⟨h1,h2,h3,h4,he⟩ | ⟨h1,h2,h3,h4,h5,he⟩ | ⟨h1,h2,h3,h4,h5,h6,he⟩ | ⟨h1,h2,h3,h4,h5,h6,he⟩
 all_goals (rw[he];clear he)
 ·have d1:(a == 0)=true:=t_beq h1
  go_enter Tryz.func68,Tryz.ntmps68
  go_wp2_with fail
  go_ret;exact⟨rfl,HB.out _⟩
 ·have d1:(a == 0)=false:=Xx h1
  have d2:(b == 0)=true:=t_beq h2
  go_enter Tryz.func68,Tryz.ntmps68
  go_wp2_with fail
  go_ret;exact⟨rfl,HB.out _⟩
 all_goals (
  have d1:(a == 0)=false:=Xx h1
  have d2:(b == 0)=false:=Xx h2
  go_enter Tryz.func68,Tryz.ntmps68
  go_wp2_with fail
  go_ret;exact⟨rfl,HB.out _⟩)
open Go.RowKit FF
theorem ZfI(A:Option Addr)(l:List Qt)(n c:Nat)(w:World)(hx:ShowsI w A (X9 l))(hn:l.length=n)(hn9:n≤100) :
  Calls Tryz.prog 69 #[.slice A n c] w fun e w'=>e=.returned (.int .i64 (qsE l))∧Below w.heap.size w w':=by
 have HN:=lhd hn
 have HX:=lhd hx
 have HC:=lhd KS
 have H0:=lhd (brf w.heap.size w)
 clear hx hn
 go_enter Tryz.func69,Tryz.ntmps69
 go_wp2_with fail
 go_loopw [8] (fun s8 wr=>∃ (k:Nat),s8=.int .i64 k∧k≤n∧(∀ j,j<k→qB (l.getD j Qt.zero)=true)∧Below w.heap.size w wr) (fun s _=>n-(intOf s).toNat)
 case atStart=>exact⟨0,rfl,by omega,fun j hj=>absurd hj (by omega),H0.out⟩
 case round =>
  obtain⟨k,rfl,hk,hall,hb⟩:=hrel
  have HA:=lhd hall;clear hall
  have HB:=lhd hb;clear hb
  by_cases h0:k<n
  ·obtain⟨b1,o1,rfl,hb1,hc1⟩:=(HX.out.below HB.out) (by rw[YN,HN.out];omega)
   obtain⟨f0,f1,f2,f3,f4⟩:=ZiY (l:=l) (i:=k) (by rw[HN.out];exact h0)
   have x0:=hc1 (5*k) (by rw[YN,HN.out];omega)
   have x1:=hc1 (5*k+1) (by rw[YN,HN.out];omega)
   have x2:=hc1 (5*k+2) (by rw[YN,HN.out];omega)
   have x3:=hc1 (5*k+3) (by rw[YN,HN.out];omega)
   have x4:=hc1 (5*k+4) (by rw[YN,HN.out];omega)
   rw[f0,show o1+5*k=o1+k*5 by omega]at x0
   rw[f1,show o1+(5*k+1)=o1+k*5+1 by omega]at x1
   rw[f2,show o1+(5*k+2)=o1+k*5+2 by omega]at x2
   rw[f3,show o1+(5*k+3)=o1+k*5+3 by omega]at x3
   rw[f4,show o1+(5*k+4)=o1+k*5+4 by omega]at x4
   clear hc1 f0 f1 f2 f3 f4
   have HE:=lhd (fun (h:qB (l.getD k Qt.zero)=false)=>qsE_take (l:=l) (k:=k) (by rw[HN.out];exact h0) HA.out h)
   have HS:=lhd (fun (h:qB (l.getD k Qt.zero)=true)=>(show ∀ j,j<k+1→qB (l.getD j Qt.zero)=true from fun j hj=>by
    rcases Nat.lt_or_ge j k with g | g
    ·exact HA.out j g
    ·rw[show j=k by omega];exact h))
   clear HA
   generalize l.getD k Qt.zero=q at *
   have HQ:=lhd (fun w=>HC.out q w)
   have HD:=lhd (qE_cases q)
   generalize qE q=E at *
   simp only[qv]at HQ
   generalize q.w=a at *
   generalize q.x=b at *
   generalize q.y=cc at *
   generalize q.z=d at *
   generalize q.d=e at *
   go_wp2_with fail
   refine(HQ.out _).mono ?_
   rintro e1 w1 ⟨rfl,hbb⟩
   have HB1:=lhd ((HB.out.alloc HB.out.size _).trans (hbb.mono (by have:=HB.out.size;simp;omega)))
   clear hbb HB HQ HC x0 x1 x2 x3 x4 hb1
   rcases HD.out with⟨hq,rfl⟩ | ⟨hq,rfl⟩
   ·have HS2:=lhd (HS.out hq)
    clear HS HE HD hq
    go_wp2_with fail
    exact⟨⟨k+1,by go_num,by omega,HS2.out,HB1.out⟩,by simp[intOf];omega⟩
   ·have HS2:=lhd (HE.out hq)
    clear HS HE HD hq
    go_wp2_with fail
    go_ret
    exact⟨Zp HS2.out.symm,HB1.out⟩
  ·obtain rfl:k=n:=by omega
   have HQ:=lhd (show 0=qsE l from(qsE_done (fun j hj=>HA.out j (by rw[HN.out]at hj;exact hj))).symm)
   clear HA
   go_wp2_with fail
   go_ret
   exact⟨Zp HQ.out,HB.out⟩
theorem Zjf(a b:Int)(A:Option Addr)(l:List Qt)(n c:Nat)(w:World)(hx:ShowsI w A (X9 l))(hn:l.length=n)(hn9:n≤100) :
  Calls Tryz.prog 34 #[.agg #[.int .i64 a,.int .i64 b],.slice A n c] w fun e w'=>e=.returned (.int .i64 (allE a b l))∧Below w.heap.size w w':=by
 have HC:=lhd (fun w=>Zhp a b w)
 have HL:=lhd (fun (w':World) (hb:Below w.heap.size w w')=>ZfI A l n c w' (hx.below hb) hn hn9)
 have HE:=lhd (show allE a b l=if aE a b=0 then qsE l else aE a b from rfl)
 have H0:=lhd (brf w.heap.size w)
 clear hx hn hn9
 generalize aE a b=E at *
 generalize allE a b l=F at *
 go_enter Tryz.func34,Tryz.ntmps34
 go_wp2_with fail
 refine(HC.out _).mono ?_
 rintro e1 w1 ⟨rfl,hbb⟩
 have HB1:=lhd ((H0.out.alloc (Nat.le_refl _) _).trans (hbb.mono (by simp)))
 clear hbb HC H0
 by_cases h:E=0
 ·subst h
  have HF:=lhd (HE.out.trans (if_pos rfl))
  clear HE
  generalize qsE l=G at *
  go_wp2_with fail
  refine(HL.out _ HB1.out).mono ?_
  rintro e1 w2 ⟨rfl,hbb⟩
  have HB2:=lhd (HB1.out.trans (hbb.mono HB1.out.size))
  clear hbb HL HB1
  go_wp2_with fail
  go_ret
  exact⟨Zp HF.out.symm,HB2.out⟩
 ·have HF:=lhd (HE.out.trans (if_neg h))
  have d1:(E == 0)=false:=Xx h
  clear HE HL
  go_wp2_with fail
  go_ret
  exact⟨Zp HF.out.symm,HB1.out⟩
end
end Go.Proofs.YthkklilhjnpedaaGreatDoor
