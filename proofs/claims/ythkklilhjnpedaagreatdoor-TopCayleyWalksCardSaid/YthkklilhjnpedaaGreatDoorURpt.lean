/- Regions that draw: operations that yield values, and among them, in a chain, operations that change rows or boxes of the call's own. -/
import Derived.Test.YthkklilhjnpedaaGreatDoorURpg
import Derived.Test.YthkklilhjnpedaaGreatDoorUGsl
import Derived.Great.BuildSlice
set_option maxHeartbeats 16000000
set_option maxRecDepth 8000
namespace Go.Proofs.YthkklilhjnpedaaGreatDoor
section
open Go.RowKit FF
section
variable {P:Program}{ops:Array Oper}{Q:Exit→Act→World→Prop}{a:Act}{w:World}{pr:List Wd}{ex:World→Prop}{ds:List Tmp}{k:Nat}
structure TJ(k:Nat)(ops:Array Oper)(a:Act)(w:World)(pr:List Wd)(ex:World→Prop)(listed:Array Bool)(a':Act)(W:World):Prop where
 defers:a'.defers=a.defers
 size:a'.tmps.size=a.tmps.size
 frame:∀ t,(∀ (i:Nat) (o:Oper),i<k→ops[i]?=some o→o.dst≠some t)→a'.tmps.getD t undef=a.tmps.getD t undef
 below:Below w.heap.size w W
 ext:ex W
 val:∀ x∈pr,listed.getD x.1 false=true→x.2.2 (a'.tmps.getD x.2.1 undef) W
 init:∀ (j:Nat) (oj:Oper) (t:Tmp),ops[j]?=some oj→oj.dst=some t→listed.getD j false=false→a'.tmps.getD t undef=a.tmps.getD t undef
 closed:∀ (j:Nat) (oj:Oper),ops[j]?=some oj→listed.getD j false=true→∀ i,depB oj i=true→listed.getD i false=true
theorem TJ.lit{listed:Array Bool}{a':Act}{W:World}(h:TJ k ops a w pr ex listed a' W):a'=fr a ((ops.toList.take k).filterMap (·.dst)) (fun t=>a'.tmps.getD t undef):=by
 rcases a' with⟨tm,df⟩
 have hd:=h.defers;have hs:=h.size;have hf:=h.frame
 simp only[fr]at hd hs hf ⊢
 rw[hd]
 congr 1
 apply Array.ext_getElem?
 intro j
 by_cases hj:j<a.tmps.size
 ·rw[XV _ _ _ _ hj]
  have hj':j<tm.size:=by rw[hs];exact hj
  by_cases hm:j∈(ops.toList.take k).filterMap (·.dst)
  ·rw[if_pos hm];simp[Array.getD,hj']
  ·rw[if_neg hm]
   have:=hf j (fun i o hik ho hd=>hm (List.mem_filterMap.2 ⟨o,mGe (i:=i) (by rw[List.getElem?_take_of_lt hik,Array.getElem?_toList];exact ho),hd⟩))
   simp only[Array.getD,hj,hj',dite_true]at this
   rw[Array.getElem?_eq_getElem hj,Array.getElem?_eq_getElem hj']
   exact congrArg some this
 ·rw[Array.getElem?_eq_none (by rw[hs];omega),Array.getElem?_eq_none (by rw[X7];omega)]
theorem TJ.step{listed:Array Bool}{a':Act}{W:World}{i:Nat}{o:Oper}(h:TJ k ops a w pr ex listed a' W)(hs:listed.size=ops.size)(ho:ops[i]?=some o)(hn:listed.getD i true=false)
  (hd:∀ e∈o.after,Region.binds .any e=true→listed.getD e.on false=true)
  (nodup:∀ (i j:Nat) (o o':Oper) (t:Tmp),ops[i]?=some o→ops[j]?=some o'→o.dst=some t→o'.dst=some t→i=j) (hk:∀ x∈pr,Keeps x.2.2) (hex:Keeps (fun _=>ex))
  (vok:∀ x∈pr,(ops[x.1]?).bind (·.dst)=some x.2.1∧x.2.1<a.tmps.size)
  (hik:i<k) (hds:(ops.toList.take k).filterMap (·.dst)=ds) (hok:VOk P ops a w pr ex ds i o):wpOp P ops Q i (TJ k ops a w pr ex (listed.setIfInBounds i true)) a' W:=by
 have hi:i<listed.size:=by
  rw[hs];exact(Array.getElem?_eq_some_iff.1 ho).1
 have hL:=fun j=>Xq (listed:=listed) (i:=i) (j:=j) hi
 have hslot:∀ j t,j≠i→(ops[j]?).bind (·.dst)=some t→o.dst≠some t:=by
  intro j t hj h1 h2
  cases hoj:ops[j]? with
  | none=>rw[hoj]at h1;cases h1
  | some oj=>rw[hoj]at h1;exact hj (nodup j i oj o t hoj ho h1 h2)
 have hV:∀ x∈pr,depB o x.1=true→x.2.2 (a'.tmps.getD x.2.1 undef) W:=fun x hx hdx=>h.val x hx (Zw hdx hd)
 have hnf:listed.getD i false=false:=by simpa[Array.getD,hi] using hn
 have hU:∀ t,XL ops i t=true→a'.tmps.getD t undef=a.tmps.getD t undef:=fun t ht=>by
  obtain⟨oj,hm,hj⟩:=Array.any_eq_true'.1 ht
  simp only[Bool.and_eq_true,beq_iff_eq]at hj
  obtain⟨j,hjs,hje⟩:=Array.mem_iff_getElem.1 hm
  have hoj:ops[j]?=some oj:=by rw[Array.getElem?_eq_getElem hjs,hje]
  refine h.init j oj t hoj hj.1 ?_
  cases hl:listed.getD j false with
  | false=>rfl
  | true =>
   have:=h.closed j oj hoj hl i hj.2
   rw[hnf]at this;cases this
 have hlit:=h.lit
 rw[hds]at hlit
 have hY:∃ y:Nat→Value,(∀ t,a'.tmps.getD t undef=y t)∧a'=fr a ds y:=⟨_,fun _=>rfl,hlit⟩
 obtain⟨y,hy,hay⟩:=hY
 simp only[hy]at hV hU
 clear hlit
 have hyi:∀ j want b,Uy pr o j want b→Region.wanted o (yielded ops a'.tmps)=(b == want):=by
  rintro j want b ⟨g1,g2,x,hx,rfl,hxb⟩
  have h1:=hxb _ _ (h.val x hx (Zw g2 hd))
  have h2:=vok x hx
  have h3:x.2.1<a'.tmps.size:=by rw[h.size];exact h2.2
  have h4:a'.tmps[x.2.1]?=some (.bool b):=by
   rw[Array.getElem?_eq_getElem h3]
   simpa[Array.getD,h3] using h1
  simp only[Region.wanted,g1,yielded,h2.1,Option.bind_some,h4]
  cases b <;> cases want <;> rfl
 have hinit:∀ (v:Value) (j:Nat) (oj:Oper) (t:Tmp),ops[j]?=some oj→oj.dst=some t→(listed.setIfInBounds i true).getD j false=false→(a'.put o.dst v).tmps.getD t undef=a.tmps.getD t undef:=fun v j oj t hoj hjd hl=>by
  rw[hL]at hl
  by_cases hji:j=i
  ·rw[if_pos hji]at hl;cases hl
  ·rw[if_neg hji]at hl
   rw[Zs (hslot j t hji (by rw[hoj];exact hjd))]
   exact h.init j oj t hoj hjd hl
 have hclosed:∀ (j:Nat) (oj:Oper),ops[j]?=some oj→(listed.setIfInBounds i true).getD j false=true→∀ k,depB oj k=true→(listed.setIfInBounds i true).getD k false=true:=fun j oj hoj hl k hk'=>by
  rw[hL]
  split
  ·rfl
  ·rw[hL]at hl
   by_cases hji:j=i
   ·subst hji
    rw[ho]at hoj
    injection hoj with hoj
    subst hoj
    exact Zw hk' hd
   ·rw[if_neg hji]at hl
    exact h.closed j oj hoj hl k hk'
 have hval:∀ v W',Below W.heap.size W W'→(∀ x∈pr,x.1=i→x.2.2 v W')→TJ k ops a w pr ex (listed.setIfInBounds i true) (a'.put o.dst v) W':=by
  intro v W' hB hv1
  refine⟨(Z8 ..).trans h.defers,(Xv ..).trans h.size,fun t ht=>by rw[Zs (ht i o hik ho)];exact h.frame t ht,h.below.trans (hB.mono h.below.size),hex undef _ _ h.ext hB,fun x hx hl=>?_,hinit v,hclosed⟩
  by_cases hxi:x.1=i
  ·have h1:=(vok x hx)
   rw[hxi,ho]at h1
   have h2:o.dst=some x.2.1:=h1.1
   rw[h2,Xi (by rw[h.size];exact h1.2)]
   exact hv1 x hx hxi
  ·rw[hL,if_neg hxi]at hl
   rw[Zs (hslot _ _ hxi (vok x hx).1)]
   exact hk x hx _ _ _ (h.val x hx hl) hB
 unfold wpOp
 rw[ho]
 rcases hok with⟨hg,d,q,hq,hok⟩ | ⟨⟨j,b,hg⟩,hu1⟩
 rotate_left
 ·simp only[hyi _ _ _ hg,show(b == !b)=false by cases b <;> rfl,Bool.false_eq_true,if_false]
  exact hval undef W (brf _ _) (fun x hx e=>hu1 x hx e W)
 have hw:Region.wanted o (yielded ops a'.tmps)=true:=by
  rcases hg with hg | ⟨j,b,hg⟩
  ·simp only[Region.wanted,hg]
  ·rw[hyi _ _ _ hg];cases b <;> rfl
 simp only[hw,if_true]
 refine .inl ?_
 rw[hay]
 refine(hok y W h.below h.ext hV hU).out _ _ (fun v W' hB hv=>?_)
 rw[← hay]
 exact hval v W' hB (Yi hq hv)
def waitB(ops:Array Oper)(k:Nat):Bool:=(List.range ops.size).all fun i=>decide (i<k) || (List.range i).all fun j=>(List.range (i+1)).any fun q=>decide (j<q) && ((ops[q]?).map fun o=>depB o j).getD false
theorem KW{listed:Array Bool}{i:Nat}{o:Oper}(ht:waitB ops k=true)(hik:k≤i)(hi:i<ops.size)(ho:ops[i]?=some o)(hd:∀ e∈o.after,Region.binds .any e=true→listed.getD e.on false=true)
  (hc:∀ (j:Nat) (oj:Oper),j<i→ops[j]?=some oj→listed.getD j false=true→∀ q,depB oj q=true→listed.getD q false=true):∀ j,j<i→listed.getD j false=true:=by
 have h1:=List.all_eq_true.1 ht i (List.mem_range.2 hi)
 simp only[Bool.or_eq_true,decide_eq_true_eq]at h1
 have h2:=h1.resolve_left (by omega)
 have key:∀ n j,j<i→i≤j+n→listed.getD j false=true:=by
  intro n
  induction n with
  | zero=>intro j hj hn;omega
  | succ n ih =>
   intro j hj hn
   have h3:=List.all_eq_true.1 h2 j (List.mem_range.2 hj)
   obtain⟨q,hq,h4⟩:=List.any_eq_true.1 h3
   simp only[Bool.and_eq_true,decide_eq_true_eq]at h4
   obtain⟨h5,h6⟩:=h4
   have hqi:=List.mem_range.1 hq
   cases hoq:ops[q]? with
   | none=>rw[hoq]at h6;cases h6
   | some oq =>
    rw[hoq]at h6
    have h7:depB oq j=true:=by simpa using h6
    by_cases hqe:q=i
    ·subst hqe
     rw[ho]at hoq
     injection hoq with hoq
     subst hoq
     exact Zw h7 hd
    ·exact hc q oq (by omega) hoq (ih q (by omega) (by omega)) j h7
 exact fun j hj=>key i j hj (by omega)
theorem ZcO{id:Nat}(k:Nat)(pr:List Wd)(ex:World→Prop)(ds:List Tmp)(hds:(ops.toList.take k).filterMap (·.dst)=ds)(hm:P.follows .mixedOrders=true)
  (hB:Yb ops a.tmps.size (pr.map fun x=>(x.1,x.2.1)) [] []=true) (hpk:(pr.all fun x=>decide (x.1<k))=true) (ht:waitB ops k=true) (hk:KeepsL pr) (hex:Keeps (fun _=>ex)) (h0:ex w) (hkn:k<ops.size)
  (hops:∀ (i:Nat) (o:Oper),i<k→ops[i]?=some o→VOk P ops a w pr ex ds i o)
  (hend:∀ (y:Nat→Value) W,Below w.heap.size w W→ex W→(∀ x∈pr,x.2.2 (y x.2.1) W)→wpList P ops Q (ops.toList.drop k) (fr a ds y) W) :
  (Code.region id ops true).wp P Q a w:=by
 unfold Yb at hB
 simp only[Bool.and_eq_true]at hB
 obtain⟨⟨⟨⟨⟨h1,h2⟩,h3⟩,-⟩,-⟩,-⟩:=hB
 have dag:∀ (i:Nat) (o:Oper),ops[i]?=some o→∀ e∈o.after,Region.binds .any e=true→e.on<i:=by
  intro i o ho e he hb
  have hi:=(Array.getElem?_eq_some_iff.1 ho).1
  have:=List.all_eq_true.1 h1 i (List.mem_range.2 hi)
  rw[ho]at this
  simp only[Option.map_some,Option.getD_some,Array.all_eq_true']at this
  have:=this e he
  rw[hb]at this
  simpa using this
 have dag2:∀ (j:Nat) (oj:Oper),ops[j]?=some oj→∀ q,depB oj q=true→q<j:=by
  intro j oj hoj q hq
  obtain⟨e,he,h2⟩:=Array.any_eq_true'.1 hq
  simp only[Bool.and_eq_true,beq_iff_eq]at h2
  have:=dag j oj hoj e he h2.1
  omega
 have nodup:∀ (i j:Nat) (o o':Oper) (t:Tmp),ops[i]?=some o→ops[j]?=some o'→o.dst=some t→o'.dst=some t→i=j:=by
  intro i j o o' t ho ho' hd hd'
  have hi:=(Array.getElem?_eq_some_iff.1 ho).1
  have hj:=(Array.getElem?_eq_some_iff.1 ho').1
  have:=List.all_eq_true.1 (List.all_eq_true.1 h2 i (List.mem_range.2 hi)) j (List.mem_range.2 hj)
  simp only[YB,ho,ho',Option.bind_some,hd,hd']at this
  simpa using this
 have vok:∀ x∈pr,(ops[x.1]?).bind (·.dst)=some x.2.1∧x.2.1<a.tmps.size:=by
  intro x hx
  have:=List.all_eq_true.1 h3 _ (List.mem_map_of_mem hx)
  simp only[Bool.and_eq_true,beq_iff_eq,decide_eq_true_eq]at this
  exact this
 have hrep:∀ j,(Array.replicate ops.size false).getD j false=false:=fun j=>by simp[Array.getD]
 refine wp_region_any hm (Ux (fun listed a' W=>listed.size=ops.size∧((∀ i,k≤i→listed.getD i false=false)∧TJ k ops a w pr ex listed a' W∨∃ m,k≤m∧(∀ i,listed.getD i false=decide (i<m))∧wpList P ops Q (ops.toList.drop m) a' W)) dag
  (fun listed a' W i o hJ hs ho hn hd=>?_) (fun listed a' W hJ' hl=>?_) _ _ _ _ (by simp) (by simp) ⟨by simp,.inl ⟨fun i _=>hrep i,?_⟩⟩)
 ·have hi:i<ops.size:=(Array.getElem?_eq_some_iff.1 ho).1
  have hL:=fun j=>Xq (listed:=listed) (i:=i) (j:=j) (by rw[hs];exact hi)
  have hnf:listed.getD i false=false:=by simpa[Array.getD,hs,hi] using hn
  have hdrop:ops.toList.drop i=o::ops.toList.drop (i+1):=by
   have h5:i<ops.toList.length:=by simpa using hi
   rw[List.drop_eq_getElem_cons h5]
   congr 1
   have:=(Array.getElem?_eq_some_iff.1 ho).2
   simpa using this
  have hgo:∀ act,wpList P ops Q (ops.toList.drop i) act W→(∀ j,j<i→listed.getD j false=true)→(∀ j,i<j→listed.getD j false=false)→k≤i →
    wpOp P ops Q i (fun a'' W''=>(listed.setIfInBounds i true).size=ops.size∧((∀ q,k≤q→(listed.setIfInBounds i true).getD q false=false)∧TJ k ops a w pr ex (listed.setIfInBounds i true) a'' W''∨∃ m,k≤m∧(∀ q,(listed.setIfInBounds i true).getD q false=decide (q<m))∧wpList P ops Q (ops.toList.drop m) a'' W'')) act W:=by
   intro act hw hlo hhi hki
   rw[hdrop]at hw
   refine wpOp_mono (K:=wpList P ops Q (ops.toList.drop (i+1))) (fun a'' W'' hh=>⟨by simpa using hs,.inr ⟨i+1,by omega,fun q=>?_,hh⟩⟩) ?_
   ·rw[hL]
    by_cases hqi:q=i
    ·subst hqi;simp
    ·rw[if_neg hqi]
     rcases Nat.lt_or_gt_of_ne hqi with h | h
     ·rw[hlo q h];simp;omega
     ·rw[hhi q h];simp;omega
   ·unfold wpOp
    rw[ho]
    exact hw
  rcases hJ with⟨-,⟨hk0,hT⟩ | ⟨m,hkm,hlm,hw⟩⟩
  ·by_cases hik:i<k
   ·refine wpOp_mono (fun a'' W'' hh=>⟨by simpa using hs,.inl ⟨fun q hq=>?_,hh⟩⟩) (hT.step hs ho hn hd nodup hk.all hex vok hik hds (hops i o hik ho))
    rw[hL,if_neg (by omega)];exact hk0 q hq
   ·have hall:=KW ht (Nat.le_of_not_lt hik) hi ho hd (fun j oj _ hoj hlj q hq=>hT.closed j oj hoj hlj q hq)
    have hike:i=k:=by
     by_cases h:i=k
     ·exact h
     ·have:=hall k (by omega)
      rw[hk0 k (nlr _)]at this;cases this
    subst hike
    have hv:∀ x∈pr,x.2.2 (a'.tmps.getD x.2.1 undef) W:=fun x hx=>hT.val x hx (hall _ (by simpa using List.all_eq_true.1 hpk x hx))
    have e:=hT.lit
    rw[hds]at e
    have hw:=hend (fun t=>a'.tmps.getD t undef) W hT.below hT.ext hv
    rw[← e]at hw
    exact hgo a' hw hall (fun j hj=>hk0 j (by omega)) (nlr _)
  ·have hge:m≤i:=by
    have h5:=hlm i
    rw[hnf]at h5
    have:=of_decide_eq_false h5.symm
    omega
   have hall:=KW ht (Nat.le_trans hkm hge) hi ho hd (fun j oj _ hoj hlj q hq=>by
    rw[hlm]at hlj ⊢
    have:=dag2 j oj hoj q hq
    have h6:=of_decide_eq_true hlj
    exact deT (by omega))
   have him:i=m:=by
    by_cases h:i=m
    ·exact h
    ·have:=hall m (by omega)
     rw[hlm]at this
     have:=of_decide_eq_true this
     omega
   subst him
   exact hgo a' hw hall (fun j hj=>by rw[hlm];simp;omega) hkm
 ·rcases hJ' with⟨-,⟨hk0,hT⟩ | ⟨m,hkm,hlm,hw⟩⟩
  ·have:=hl k hkn
   rw[hk0 k (nlr _)]at this;cases this
  ·have hsm:ops.size≤m:=by
    apply bCo
    intro hn
    have:=hl m (by omega)
    rw[hlm]at this
    have:=of_decide_eq_true this
    omega
   rw[List.drop_eq_nil_of_le (by simpa using hsm)]at hw
   exact hw
 ·have hd0:Below w.heap.size w { w with drawn:=w.drawn+1 }:=⟨rfl,rfl,rfl,nlr _,fun _ _=>rfl⟩
  refine⟨rfl,rfl,fun _ _=>rfl,hd0,hex undef _ _ h0 hd0,fun x hx hl=>?_,fun _ _ _ _ _ _=>rfl,fun j _ _ hl=>?_⟩
  ·rw[hrep]at hl;cases hl
  ·rw[hrep]at hl;cases hl
end
theorem Zn{C:Nat→Oper→Prop}{l:List Oper}(k:Nat)(h:AllFrom C 0 (l.take k)):∀ (i:Nat) (o:Oper),i<k→l.toArray[i]?=some o→C i o:=fun i o hik ho=>by
 have:=AllFrom.get (l.take k) 0 h i o (by rw[List.getElem?_take_of_lt hik];simpa using ho)
 rwa [Nat.zero_add]at this
theorem Keeps.vi(z:Int):Keeps (VI z):=(Firm.vi z).keeps
theorem ZeU{ρ:Operand→Value}{x z r s:Operand}{u t v q:Value}(h:ρ x=u)(k:ρ z=t)(l:ρ r=v)(m:ρ s=q):(#[x,z,r,s]:Array Operand).map ρ=#[u,t,v,q]:=by simp[h,k,l,m]
theorem Zhq{P:Program}{W:World}{T:TypeId}{g o n c k:Nat}{E:TypeId}{i:TypeInfo}(hT:P.underlying T=some (.slice E))(hi:P.info? E=some i)(h:k<n):(Instr.indexAt T (.slice (some ⟨g,o,none⟩) n c) (.int .i64 (k:Int))).run P W=.ok (.pointer (some ⟨g,o+k*i.size,none⟩)) W:=by
 have e:(asIntOf (Value.int IntKind.i64 (k:Int))).run P W=.ok (.i64,(k:Int)) W:=rfl
 simp[Instr.indexAt,run_underlying hT,sizeOf,typeInfo,hi,Addr.add,e,h,Result.andThen]
section
variable {P:Program}{a:Act}{W:World}{o:Oper}{g k:Nat}{x j:Operand}
theorem Yl.rowAt{S E:TypeId}{i:TypeInfo}{b off n c m:Nat}(hT:P.underlying S=some (.slice E))(hi:P.info? E=some i)(hs:i.size=m)(ho:o.op=.indexAddr S x j)(hx:a.eval x=.slice (some ⟨b,off,none⟩) n c)(hj:a.eval j=.int .i64 (k:Int))(h:k<n):Yl P o a W (VC (.pointer (some ⟨b,off+k*m,none⟩))):=by
 subst hs
 exact .indexAddr ho hx hj (Zhq hT hi h) rfl
theorem Yl.lenS{S E:TypeId}{A:Option Addr}{n c:Nat}(hT:P.underlying S=some (.slice E))(ho:o.op=.call { callee:=.builtin .len,args:=#[x],argTypes:=#[S] })(hx:a.eval x=.slice A n c):Yl P o a W (VC (.int .i64 (n:Int))):=by
 refine .run (v:=.int .i64 (n:Int)) ?_ rfl
 have h:(Builtin.len_ #[S] o.type #[.slice A n c]).run P W=.ok (.int .i64 (n:Int)) W:=by
  simp[Builtin.len_,run_underlying hT];rfl
 simp[execOp,ho,resolve,invoke,builtin,hx,h,Result.andThen]
theorem Yl.loadL{T:TypeId}{n:Nat}{us:List Value}{d:TypeDesc}(ho:o.op=.load T x)(hx:a.eval x=.pointer (some ⟨g,k,none⟩))(hc:∀ d u,us[d]?=some u→W.cell? ⟨g,k+d,none⟩=some u)
  (hn:us.length=n) (hu:P.underlying T=some d) (hd:d.isRow=true) (hi:(P.info? T).map (·.size)=some n) {q:Value→World→Prop} (hq:q (.agg us.toArray) W):Yl P o a W q:=by
 refine⟨fun K Q' hK=>?_⟩
 exact wp_load_mid T x ho g k hx us d (fun j v hv=>hc j v hv) hu hd (by rw[hi];simpa using hn.symm) (hK _ W (Below.refl _ _) hq)
theorem Uz{u v:Value}(h0:W.cell? ⟨g,k,none⟩=some u)(h1:W.cell? ⟨g,k+1,none⟩=some v):∀ d z,[u,v][d]?=some z→W.cell? ⟨g,k+d,none⟩=some z:=by
 intro d z hz
 rcases d with _ | _ | d
 ·injection hz with hz;subst hz;exact h0
 ·injection hz with hz;subst hz;exact h1
 ·simp at hz
end
theorem Yl.loadI{a:Act}{W:World}{o:Oper}{g k:Nat}{x:Operand}{u v:Value}{z:Int}(ho:o.op=.load 57 x)(hx:a.eval x=.pointer (some ⟨g,k,none⟩))(h0:W.cell? ⟨g,k,none⟩=some u)(h1:W.cell? ⟨g,k+1,none⟩=some v)(hI:IC W u v z):Yl Tryz.prog o a W (VI z):=
 .loadL (us:=[u,v]) ho hx (Uz h0 h1) rfl Tryz.underlying57 rfl (by kernel_rfl) ⟨u,v,rfl,hI⟩
theorem Yl.loadI'{a:Act}{w W:World}{o:Oper}{g k:Nat}{x:Operand}{u v:Value}{z:Int}(hB:Below w.heap.size w W)(hg:g<w.heap.size)(h0:w.cell? ⟨g,k,none⟩=some u)(h1:w.cell? ⟨g,k+1,none⟩=some v)(hI:IC w u v z)(ho:o.op=.load 57 x)(hx:a.eval x=.pointer (some ⟨g,k,none⟩)):Yl Tryz.prog o a W (VI z):=
 .loadI ho hx ((hB.cell (p:=⟨g,k,none⟩) hg).trans h0) ((hB.cell (p:=⟨g,k+1,none⟩) hg).trans h1) (hI.keep hB)
theorem Zjg{n:Nat}(h:n≤4000000000):IntKind.i64.wrap (n:Int)=n:=by
 exact IntWalk.i64_in _ (by omega)
section
variable {P:Program}{a:Act}{W:World}{o:Oper}{x z:Operand}{S D:TypeId}{p q:Nat}
theorem Yl.addN(ho:o.op=.binOp .add S x z D)(hx:a.eval x=.int .i64 (p:Int))(hz:a.eval z=.int .i64 (q:Int))(h:p+q≤4000000000):Yl P o a W (VC (.int .i64 ((p+q:Nat):Int))):=by
 refine .binOp ho hx hz ?_ rfl
 have:=Zjg h
 push_cast at this
 simp[go_sem,eqGuard,this]
end
theorem Yl.makeFunc1{P:Program}{a:Act}{W:World}{o:Oper}{x:Operand}{fn:Fn}{v:Value}(ho:o.op=.makeFunc fn #[] #[x])(hx:a.eval x=v):Yl P o a W (VC (.func fn #[] #[v])):=
 .instr (s:=Instr.makeFunc fn #[] #[v]) (by simp only[execOp,ho,List.map_toArray,List.map_cons,List.map_nil,hx]) (by simp[Instr.makeFunc]) rfl
def OneI(z:Int):Value→World→Prop:=fun s W=>∃ g u v,s=.slice (some ⟨g,0,none⟩) 1 1∧g<W.heap.size∧W.cell? ⟨g,0,none⟩=some u∧W.cell? ⟨g,1,none⟩=some v∧IC W u v z
theorem Keeps.oneI(z:Int):Keeps (OneI z):=by
 rintro s W W' ⟨g,u,v,e,h0,h1,h2,h3⟩ hb
 exact⟨g,u,v,e,nLl h0 hb.size,(hb.cell (p:=⟨g,0,none⟩) h0).trans h1,(hb.cell (p:=⟨g,1,none⟩) h0).trans h2,h3.keep hb⟩
theorem Yl.buildI{a:Act}{W:World}{o:Oper}{x:Operand}{T:TypeId}{u v:Value}{z:Int}(hT:Tryz.prog.underlying T=some (.slice 57))(ho:o.op=.buildSlice T 1 #[(0,x)])(hx:a.eval x=.agg #[u,v])(hI:IC W u v z):Yl Tryz.prog o a W (OneI z):=by
 refine⟨fun K Q' hK=>?_⟩
 obtain⟨i0,hi,hz0,hz1,hz2⟩:=info_parts Xw
 refine wp_buildSlice T 57 1 #[(0,x)] ho #[u,v] i0 _ hT hi hz0 (by rw[hz1];decide) (by rw[hz1];decide) ?_ ?_
 ·obtain⟨A,c,rfl,rfl,-⟩:=hI
  rw[hz1]
  simp only[List.map_toArray,List.map_cons,List.map_nil,hx]
  kernel_rfl
 ·have hB:=(brf W.heap.size W).alloc (nlr _) (.cells #[u,v] 57)
  exact hK _ _ hB ⟨W.heap.size,u,v,rfl,by simp,by simp[go_sem],by simp[go_sem],hI.keep hB⟩
end
section
open Go.RowKit FF
structure Ye(P:Program)(o:Oper)(a:Act)(W:World)(q:Value→World→Prop):Prop where
 out:∀ (K:Act→World→Prop) Q',(∀ v W',q v W'→K (a.put o.dst v) W')→Oper.wp P o a W K Q'
section
variable {P:Program}{ops:Array Oper}{Q:Exit→Act→World→Prop}{a:Act}{w:World}{pr:List Wd}{ex:Nat→(Nat→Value)→World→Prop}{ds:List Tmp}{eff lim:List Nat}{es:Nat→List Nat}
structure EJ(eff:List Nat)(ops:Array Oper)(a:Act)(pr:List Wd)(ex:Nat→(Nat→Value)→World→Prop)(listed:Array Bool)(a':Act)(W:World):Prop where
 defers:a'.defers=a.defers
 size:a'.tmps.size=a.tmps.size
 frame:∀ t,(∀ (i:Nat) (o:Oper),ops[i]?=some o→o.dst≠some t)→a'.tmps.getD t undef=a.tmps.getD t undef
 ext:∃ k,k≤eff.length∧(∀ j,j<eff.length→listed.getD (eff.getD j 0) false=decide (j<k))∧ex k (fun t=>a'.tmps.getD t undef) W
 val:∀ x∈pr,listed.getD x.1 false=true→x.2.2 (a'.tmps.getD x.2.1 undef) W
 init:∀ (j:Nat) (oj:Oper) (t:Tmp),ops[j]?=some oj→oj.dst=some t→listed.getD j false=false→a'.tmps.getD t undef=a.tmps.getD t undef
 closed:∀ (j:Nat) (oj:Oper),ops[j]?=some oj→listed.getD j false=true→∀ i,depB oj i=true→listed.getD i false=true
def YY(ops:Array Oper):Nat→Nat→Nat→Bool
 | 0,_,_=>false
 | n+1,e,i=>match ops[e]? with
  | none=>false
  | some o=>depB o i || (List.range e).any fun m=>depB o m && YY ops n m i
def limB(ops:Array Oper)(eff lim:List Nat):Bool:=(List.range ops.size).all fun i=>eff.contains i || decide (eff.length≤lim.getD i 0) || YY ops 6 (eff.getD (lim.getD i 0) 0) i
def effB(ops:Array Oper)(eff:List Nat):Bool:=(List.range eff.length).all fun j=>decide (eff.getD j 0<ops.size) && (j == 0 || YY ops 6 (eff.getD j 0) (eff.getD (j-1) 0))
theorem YZ{listed:Array Bool}(hc:∀ (j:Nat) (oj:Oper),ops[j]?=some oj→listed.getD j false=true→∀ i,depB oj i=true→listed.getD i false=true) :
  ∀ (n e i:Nat),YY ops n e i=true→listed.getD e false=true→listed.getD i false=true
 | 0,_,_,h,_=>by simp[YY]at h
 | n+1,e,i,h,hl=>by
  unfold YY at h
  cases ho:ops[e]? with
  | none=>rw[ho]at h;cases h
  | some o =>
   rw[ho]at h
   simp only[Bool.or_eq_true]at h
   rcases h with h | h
   ·exact hc e o ho hl i h
   ·obtain⟨m,-,hm⟩:=List.any_eq_true.1 h
    simp only[Bool.and_eq_true]at hm
    exact YZ hc n m i hm.2 (hc e o ho hl m hm.1)
theorem Zhr{listed:Array Bool}(hc:∀ (j:Nat) (oj:Oper),ops[j]?=some oj→listed.getD j false=true→∀ i,depB oj i=true→listed.getD i false=true){n e i:Nat}{o:Oper}(ho:ops[e]?=some o)(hd:∀ m,depB o m=true→listed.getD m false=true)
  (h:YY ops (n+1) e i=true):listed.getD i false=true:=by
 unfold YY at h
 rw[ho]at h
 simp only[Bool.or_eq_true]at h
 rcases h with h | h
 ·exact hd i h
 ·obtain⟨m,-,hm⟩:=List.any_eq_true.1 h
  simp only[Bool.and_eq_true]at hm
  exact YZ hc n m i hm.2 (hd m hm.1)
def EOk(P:Program)(eff lim:List Nat)(ops:Array Oper)(a:Act)(pr:List Wd)(ex:Nat→(Nat→Value)→World→Prop)(ds:List Tmp)(i:Nat)(o:Oper):Prop:=
 o.guard=none∧((eff.contains i=false∧∃ d q,pr.filter (fun x=>x.1 == i)=[(i,d,q)]∧∀ y W k,k≤lim.getD i 0→ex k y W→(∀ x∈pr,depB o x.1=true→x.2.2 (y x.2.1) W)→(∀ t,XL ops i t=true→y t=a.tmps.getD t undef)→Yl P o (fr a ds y) W q) ∨
  ∃ k,eff[k]?=some i∧∀ y W,ex k y W→(∀ x∈pr,depB o x.1=true→x.2.2 (y x.2.1) W)→(∀ t,XL ops i t=true→y t=a.tmps.getD t undef) →
   Ye P o (fr a ds y) W (fun v W'=>(∀ y':Nat→Value,(∀ t,o.dst≠some t→y' t=y t)→(∀ t,o.dst=some t→y' t=v)→ex (k+1) y' W')∧(∀ x∈pr,x.1=i→x.2.2 v W')∧∀ x∈pr,x.1≠i→∀ u,x.2.2 u W→x.2.2 u W'))
def esB(ops:Array Oper)(eff:List Nat)(es:Nat→List Nat):Bool:=(List.range (eff.length+1)).all fun k=>(es k).all fun t=>(List.range ops.size).any fun j=>((ops[j]?).bind (·.dst) == some t) && decide (0<k) && (eff.getD (k-1) 0 == j || YY ops 6 (eff.getD (k-1) 0) j)
theorem EJ.lit{listed:Array Bool}{a':Act}{W:World}(h:EJ eff ops a pr ex listed a' W):a'=fr a (ops.toList.filterMap (·.dst)) (fun t=>a'.tmps.getD t undef):=by
 rcases a' with⟨tm,df⟩
 have hd:=h.defers;have hs:=h.size;have hf:=h.frame
 simp only[fr]at hd hs hf ⊢
 rw[hd]
 congr 1
 apply Array.ext_getElem?
 intro j
 by_cases hj:j<a.tmps.size
 ·rw[XV _ _ _ _ hj]
  have hj':j<tm.size:=by rw[hs];exact hj
  by_cases hm:j∈ops.toList.filterMap (·.dst)
  ·rw[if_pos hm];simp[Array.getD,hj']
  ·rw[if_neg hm]
   have:=hf j (fun i o ho hd=>hm (List.mem_filterMap.2 ⟨o,by rw[Array.mem_toList_iff];exact Array.mem_of_getElem? ho,hd⟩))
   simp only[Array.getD,hj,hj',dite_true]at this
   rw[Array.getElem?_eq_getElem hj,Array.getElem?_eq_getElem hj']
   exact congrArg some this
 ·rw[Array.getElem?_eq_none (by rw[hs];omega),Array.getElem?_eq_none (by rw[X7];omega)]
theorem EJ.step(hdst:∀ (i:Nat) (o:Oper) (t:Tmp),ops[i]?=some o→o.dst=some t→t<a.tmps.size){listed:Array Bool}{a':Act}{W:World}{i:Nat}{o:Oper}(h:EJ eff ops a pr ex listed a' W)(hs:listed.size=ops.size)(ho:ops[i]?=some o)(hn:listed.getD i true=false)
  (hd:∀ e∈o.after,Region.binds .any e=true→listed.getD e.on false=true)
  (nodup:∀ (i j:Nat) (o o':Oper) (t:Tmp),ops[i]?=some o→ops[j]?=some o'→o.dst=some t→o'.dst=some t→i=j) (hk:∀ x∈pr,Keeps x.2.2) (hex:∀ k y,Keeps (fun _=>ex k y)) (hcg:∀ k y y' W,(∀ t∈es k,y' t=y t)→ex k y W→ex k y' W) (hes:esB ops eff es=true)
  (vok:∀ x∈pr,(ops[x.1]?).bind (·.dst)=some x.2.1∧x.2.1<a.tmps.size) (hlim:limB ops eff lim=true) (heff:effB ops eff=true) (hnd:eff.Nodup)
  (hds:ops.toList.filterMap (·.dst)=ds) (hok:EOk P eff lim ops a pr ex ds i o):wpOp P ops Q i (EJ eff ops a pr ex (listed.setIfInBounds i true)) a' W:=by
 have hi:i<listed.size:=by
  rw[hs];exact(Array.getElem?_eq_some_iff.1 ho).1
 have hL:=fun j=>Xq (listed:=listed) (i:=i) (j:=j) hi
 have hslot:∀ j t,j≠i→(ops[j]?).bind (·.dst)=some t→o.dst≠some t:=by
  intro j t hj h1 h2
  cases hoj:ops[j]? with
  | none=>rw[hoj]at h1;cases h1
  | some oj=>rw[hoj]at h1;exact hj (nodup j i oj o t hoj ho h1 h2)
 have hV:∀ x∈pr,depB o x.1=true→x.2.2 (a'.tmps.getD x.2.1 undef) W:=fun x hx hdx=>h.val x hx (Zw hdx hd)
 have hnf:listed.getD i false=false:=by simpa[Array.getD,hi] using hn
 have hU:∀ t,XL ops i t=true→a'.tmps.getD t undef=a.tmps.getD t undef:=fun t ht=>by
  obtain⟨oj,hm,hj⟩:=Array.any_eq_true'.1 ht
  simp only[Bool.and_eq_true,beq_iff_eq]at hj
  obtain⟨j,hjs,hje⟩:=Array.mem_iff_getElem.1 hm
  have hoj:ops[j]?=some oj:=by rw[Array.getElem?_eq_getElem hjs,hje]
  refine h.init j oj t hoj hj.1 ?_
  cases hl:listed.getD j false with
  | false=>rfl
  | true =>
   have:=h.closed j oj hoj hl i hj.2
   rw[hnf]at this;cases this
 have hlit:=h.lit
 rw[hds]at hlit
 have hY:∃ y:Nat→Value,(∀ t,a'.tmps.getD t undef=y t)∧a'=fr a ds y:=⟨_,fun _=>rfl,hlit⟩
 obtain⟨y,hy,hay⟩:=hY
 simp only[hy]at hV hU
 clear hlit
 have hinit:∀ (v:Value) (j:Nat) (oj:Oper) (t:Tmp),ops[j]?=some oj→oj.dst=some t→(listed.setIfInBounds i true).getD j false=false→(a'.put o.dst v).tmps.getD t undef=a.tmps.getD t undef:=fun v j oj t hoj hjd hl=>by
  rw[hL]at hl
  by_cases hji:j=i
  ·rw[if_pos hji]at hl;cases hl
  ·rw[if_neg hji]at hl
   rw[Zs (hslot j t hji (by rw[hoj];exact hjd))]
   exact h.init j oj t hoj hjd hl
 have hclosed:∀ (j:Nat) (oj:Oper),ops[j]?=some oj→(listed.setIfInBounds i true).getD j false=true→∀ k,depB oj k=true→(listed.setIfInBounds i true).getD k false=true:=fun j oj hoj hl k hk'=>by
  rw[hL]
  split
  ·rfl
  ·rw[hL]at hl
   by_cases hji:j=i
   ·subst hji
    rw[ho]at hoj
    injection hoj with hoj
    subst hoj
    exact Zw hk' hd
   ·rw[if_neg hji]at hl
    exact h.closed j oj hoj hl k hk'
 obtain⟨k0,hk0,hkl,hk1⟩:=h.ext
 simp only[hy]at hk1
 have hesk:∀ t∈es k0,o.dst≠some t:=fun t ht e=>by
  have h1:=List.all_eq_true.1 (List.all_eq_true.1 hes k0 (List.mem_range.2 (by omega))) t ht
  obtain⟨j,-,h2⟩:=List.any_eq_true.1 h1
  simp only[Bool.and_eq_true,beq_iff_eq,decide_eq_true_eq,Bool.or_eq_true]at h2
  obtain⟨⟨h3,h4⟩,h5⟩:=h2
  have h6:listed.getD (eff.getD (k0-1) 0) false=true:=by rw[hkl (k0-1) (by omega),deT (by omega)]
  have h7:listed.getD j false=true:=by
   rcases h5 with h5 | h5
   ·rw[← h5];exact h6
   ·exact YZ h.closed _ _ _ h5 h6
  have h8:j≠i:=fun e=>by rw[e,hnf]at h7;cases h7
  exact hslot j t h8 h3 e
 unfold wpOp
 rw[ho]
 obtain⟨hg,hok⟩:=hok
 have hw:Region.wanted o (yielded ops a'.tmps)=true:=by simp only[Region.wanted,hg]
 simp only[hw,if_true]
 refine .inl ?_
 rcases hok with⟨hne,d,q,hq,hok⟩ | ⟨k,hki,hok⟩
 ·have hkle:k0≤lim.getD i 0:=by
   apply bCo
   intro hlt
   have h1:=List.all_eq_true.1 hlim i (List.mem_range.2 (by rw[← hs];exact hi))
   rw[hne]at h1
   simp only[Bool.or_eq_true,decide_eq_true_eq,Bool.false_eq_true,false_or]at h1
   rcases h1 with h1 | h1
   ·omega
   ·have h2:=hkl (lim.getD i 0) (by omega)
    rw[deT (by omega)]at h2
    have:=YZ h.closed _ _ _ h1 h2
    rw[hnf]at this;cases this
  rw[hay]
  refine(hok y W k0 hkle hk1 hV hU).out _ _ (fun v W' hB hv=>?_)
  rw[← hay]
  refine⟨(Z8 ..).trans h.defers,(Xv ..).trans h.size,fun t ht=>by rw[Zs (ht i o ho)];exact h.frame t ht,⟨k0,hk0,fun j hj=>?_,hcg k0 y _ _ (fun t ht=>by rw[Zs (hesk t ht)];exact hy t) (hex k0 y undef _ _ hk1 hB)⟩,fun x hx hl=>?_,hinit v,hclosed⟩
  ·rw[hL,if_neg,hkl j hj]
   intro e
   have hm:i∈eff:=by
    rw[← e,gDg,gEe hj];exact List.getElem_mem ..
   rw[List.contains_iff_mem.2 hm]at hne;cases hne
  ·by_cases hxi:x.1=i
   ·have h1:=(vok x hx)
    rw[hxi,ho]at h1
    have h2:o.dst=some x.2.1:=h1.1
    rw[h2,Xi (by rw[h.size];exact h1.2)]
    exact Yi hq hv x hx hxi
   ·rw[hL,if_neg hxi]at hl
    rw[Zs (hslot _ _ hxi (vok x hx).1)]
    exact hk x hx _ _ _ (h.val x hx hl) hB
 ·have hkl':k<eff.length:=(List.getElem?_eq_some_iff.1 hki).1
  have hkg:eff.getD k 0=i:=by rw[gDg,hki];rfl
  have hke:k0=k:=by
   have h1:=hkl k hkl'
   rw[hkg,hnf]at h1
   have h2:=of_decide_eq_false h1.symm
   rcases Nat.lt_or_ge k0 k with h3 | h3
   ·have h4:=List.all_eq_true.1 heff k (List.mem_range.2 hkl')
    simp only[Bool.and_eq_true,Bool.or_eq_true,beq_iff_eq]at h4
    have h5:=h4.2.resolve_left (by omega)
    rw[hkg]at h5
    have h6:=Zhr h.closed (n:=5) ho (fun m hm=>Zw hm hd) h5
    rw[hkl (k-1) (by omega)]at h6
    have:=of_decide_eq_true h6
    omega
   ·omega
  subst hke
  rw[hay]
  refine(hok y W hk1 hV hU).out _ _ (fun v W' hv=>?_)
  rw[← hay]
  obtain⟨hv1,hv2,hv3⟩:=hv
  have hdl:∀ t,o.dst=some t→t<a'.tmps.size:=fun t ht=>by rw[h.size];exact hdst i o t ho ht
  refine⟨(Z8 ..).trans h.defers,(Xv ..).trans h.size,fun t ht=>by rw[Zs (ht i o ho)];exact h.frame t ht,⟨k0+1,hkl',fun j hj=>?_,hv1 _ (fun t ht=>by rw[Zs ht];exact hy t) (fun t ht=>by rw[ht,Xi (hdl t ht)])⟩,fun x hx hl=>?_,hinit v,hclosed⟩
  ·rw[hL]
   by_cases hjk:j=k0
   ·subst hjk;rw[if_pos hkg,deT (by omega)]
   ·rw[if_neg,hkl j hj]
    ·by_cases h1:j<k0
     ·rw[deT h1,deT (by omega)]
     ·rw[deF h1,deF (by omega)]
    ·intro e
     apply hjk
     have h1:eff[j]?=some i:=by rw[gEe hj,← e,gDg,gEe hj];rfl
     exact(List.getElem?_inj hj hnd).1 (h1.trans hki.symm)
  ·by_cases hxi:x.1=i
   ·have h1:=(vok x hx)
    rw[hxi,ho]at h1
    have h2:o.dst=some x.2.1:=h1.1
    rw[h2,Xi (by rw[h.size];exact h1.2)]
    exact hv2 x hx hxi
   ·rw[hL,if_neg hxi]at hl
    rw[Zs (hslot _ _ hxi (vok x hx).1)]
    exact hv3 x hx hxi _ (h.val x hx hl)
theorem KB{id:Nat}(eff lim:List Nat)(es:Nat→List Nat)(pr:List Wd)(ex:Nat→(Nat→Value)→World→Prop)(ds:List Tmp)(hds:ops.toList.filterMap (·.dst)=ds)(hm:P.follows .mixedOrders=true)
  (hB:Yb ops a.tmps.size (pr.map fun x=>(x.1,x.2.1)) [] []=true) (hlim:limB ops eff lim=true) (heff:effB ops eff=true) (hnd:eff.Nodup) (hk:KeepsL pr) (hex:∀ k y,Keeps (fun _=>ex k y)) (hcg:∀ k y y' W,(∀ t∈es k,y' t=y t)→ex k y W→ex k y' W) (hes:esB ops eff es=true) (h0:∀ y,ex 0 y w) (hdb:(ds.all fun t=>decide (t<a.tmps.size))=true)
  (hops:∀ (i:Nat) (o:Oper),ops[i]?=some o→EOk P eff lim ops a pr ex ds i o)
  (hend:∀ (y:Nat→Value) W,ex eff.length y W→(∀ x∈pr,x.2.2 (y x.2.1) W)→Q .normal (fr a ds y) W) :
  (Code.region id ops true).wp P Q a w:=by
 unfold Yb at hB
 simp only[Bool.and_eq_true]at hB
 obtain⟨⟨⟨⟨⟨h1,h2⟩,h3⟩,-⟩,-⟩,-⟩:=hB
 have dag:∀ (i:Nat) (o:Oper),ops[i]?=some o→∀ e∈o.after,Region.binds .any e=true→e.on<i:=by
  intro i o ho e he hb
  have hi:=(Array.getElem?_eq_some_iff.1 ho).1
  have:=List.all_eq_true.1 h1 i (List.mem_range.2 hi)
  rw[ho]at this
  simp only[Option.map_some,Option.getD_some,Array.all_eq_true']at this
  have:=this e he
  rw[hb]at this
  simpa using this
 have nodup:∀ (i j:Nat) (o o':Oper) (t:Tmp),ops[i]?=some o→ops[j]?=some o'→o.dst=some t→o'.dst=some t→i=j:=by
  intro i j o o' t ho ho' hd hd'
  have hi:=(Array.getElem?_eq_some_iff.1 ho).1
  have hj:=(Array.getElem?_eq_some_iff.1 ho').1
  have:=List.all_eq_true.1 (List.all_eq_true.1 h2 i (List.mem_range.2 hi)) j (List.mem_range.2 hj)
  simp only[YB,ho,ho',Option.bind_some,hd,hd']at this
  simpa using this
 have vok:∀ x∈pr,(ops[x.1]?).bind (·.dst)=some x.2.1∧x.2.1<a.tmps.size:=by
  intro x hx
  have:=List.all_eq_true.1 h3 _ (List.mem_map_of_mem hx)
  simp only[Bool.and_eq_true,beq_iff_eq,decide_eq_true_eq]at this
  exact this
 have hdst:∀ (i:Nat) (o:Oper) (t:Tmp),ops[i]?=some o→o.dst=some t→t<a.tmps.size:=fun i o t ho hd=>by
  have hm:t∈ds:=by
   rw[← hds]
   exact List.mem_filterMap.2 ⟨o,by rw[Array.mem_toList_iff];exact Array.mem_of_getElem? ho,hd⟩
  simpa using List.all_eq_true.1 hdb t hm
 have hrep:∀ j,(Array.replicate ops.size false).getD j false=false:=fun j=>by simp[Array.getD]
 refine wp_region_any hm (Ux (fun listed a' W=>listed.size=ops.size∧EJ eff ops a pr ex listed a' W) dag (fun listed a' W i o hJ hs ho hn hd=>wpOp_mono (fun a'' W'' hh=>⟨by simpa using hs,hh⟩) (hJ.2.step hdst hs ho hn hd nodup hk.all hex hcg hes vok hlim heff hnd hds (hops i o ho))) (fun listed a' W hJ' hl=>?_) _ _ _ _ (by simp) (by simp) ⟨by simp,?_⟩)
 ·obtain⟨hsz,hJ⟩:=hJ'
  have hlt:∀ (i t:Nat),(ops[i]?).bind (·.dst)=some t→i<ops.size:=by
   intro i t h
   apply bCo
   intro hn
   rw[Array.getElem?_eq_none (by omega)]at h
   cases h
  have hv:=fun x hx=>hJ.val x hx (hl _ (hlt _ _ (vok x hx).1))
  have e:=hJ.lit
  rw[hds]at e
  rw[e]
  obtain⟨k,hk0,hkl,hk1⟩:=hJ.ext
  have hke:k=eff.length:=by
   apply bCo
   intro hne
   have h4:=hkl k (by omega)
   have h5:=List.all_eq_true.1 heff k (List.mem_range.2 (by omega))
   simp only[Bool.and_eq_true,decide_eq_true_eq]at h5
   rw[hl _ h5.1]at h4
   have:=of_decide_eq_true h4.symm
   omega
  subst hke
  exact hend _ W hk1 hv
 ·have hd0:Below w.heap.size w { w with drawn:=w.drawn+1 }:=⟨rfl,rfl,rfl,nlr _,fun _ _=>rfl⟩
  refine⟨rfl,rfl,fun _ _=>rfl,⟨0,Nat.zero_le _,fun j hj=>by rw[hrep];simp,hex 0 _ undef _ _ (h0 _) hd0⟩,fun x hx hl=>?_,fun _ _ _ _ _ _=>rfl,fun j _ _ hl=>?_⟩
  ·rw[hrep]at hl;cases hl
  ·rw[hrep]at hl;cases hl
theorem EOk.yld{i:Nat}{o:Oper}{d:Tmp}{q:Value→World→Prop}(hg:o.guard=none)(he:eff.contains i=false)(hq:pr.filter (fun x=>x.1 == i)=[(i,d,q)])
  (h:∀ y W k,k≤lim.getD i 0→ex k y W→(∀ x∈pr,depB o x.1=true→x.2.2 (y x.2.1) W)→(∀ t,XL ops i t=true→y t=a.tmps.getD t undef)→Yl P o (fr a ds y) W q):EOk P eff lim ops a pr ex ds i o:=⟨hg,.inl ⟨he,d,q,hq,h⟩⟩
end
section
variable {P:Program}{ops:Array Oper}{Q:Exit→Act→World→Prop}{a:Act}{w:World}{pr:List Wd}{ds:List Tmp}{eff lim:List Nat}
theorem YD{id:Nat}(eff lim:List Nat)(pr:List Wd)(ex:Nat→World→Prop)(ds:List Tmp)(hds:ops.toList.filterMap (·.dst)=ds)(hm:P.follows .mixedOrders=true)
  (hB:Yb ops a.tmps.size (pr.map fun x=>(x.1,x.2.1)) [] []=true) (hlim:limB ops eff lim=true) (heff:effB ops eff=true) (hnd:eff.Nodup) (hk:KeepsL pr) (hex:∀ k,Keeps (fun _=>ex k)) (h0:ex 0 w)
  (hops:∀ (i:Nat) (o:Oper),ops[i]?=some o→EOk P eff lim ops a pr (fun k _=>ex k) ds i o) (hdb:(ds.all fun t=>decide (t<a.tmps.size))=true)
  (hend:∀ (y:Nat→Value) W,ex eff.length W→(∀ x∈pr,x.2.2 (y x.2.1) W)→Q .normal (fr a ds y) W) :
  (Code.region id ops true).wp P Q a w:=
 KB eff lim (fun _=>[]) pr (fun k _=>ex k) ds hds hm hB hlim heff hnd hk (fun k _=>hex k) (fun _ _ _ _ _ h=>h) (List.all_eq_true.2 fun _ _=>rfl) (fun _=>h0) hdb hops hend
end
section
variable {P:Program}{ops:Array Oper}{Q:Exit→Act→World→Prop}{a:Act}{w:World}{pr:List Wd}{ex:Nat→(Nat→Value)→World→Prop}{ds:List Tmp}{eff lim:List Nat}
def KeepW(i:Nat)(W W':World):List Wd→Prop
 | []=>True
 | x::l=>(x.1=i∨∀ u,x.2.2 u W→x.2.2 u W')∧KeepW i W W' l
theorem KeepW.all{i:Nat}{W W':World}:∀ {l:List Wd},KeepW i W W' l→∀ x∈l,x.1≠i→∀ u,x.2.2 u W→x.2.2 u W'
 | _::_,⟨h1,h2⟩,x,hx=>by
  rcases List.mem_cons.1 hx with rfl | hx
  ·exact fun hn=>h1.resolve_left hn
  ·exact KeepW.all h2 x hx
theorem EOk.chgy{i:Nat}{o:Oper}{d:Tmp}{q:Value→World→Prop}(k:Nat)(hg:o.guard=none)(he:eff[k]?=some i)(hq:pr.filter (fun x=>x.1 == i)=[(i,d,q)])
  (h : ∀ y W, ex k y W → (∀ x ∈ pr, depB o x.1 = true → x.2.2 (y x.2.1) W) → (∀ t, XL ops i t = true → y t = a.tmps.getD t undef) →
   Ye P o (fr a ds y) W (fun v W'=>(∀ y':Nat→Value,(∀ t,o.dst≠some t→y' t=y t)→(∀ t,o.dst=some t→y' t=v)→ex (k+1) y' W')∧q v W'∧KeepW i W W' pr)):EOk P eff lim ops a pr ex ds i o:=
 ⟨hg,.inr ⟨k,he,fun y W h1 h2 h3=>⟨fun K Q' hK=>(h y W h1 h2 h3).out K Q' fun v W' hv=>hK v W' ⟨hv.1,Yi hq hv.2.1,hv.2.2.all⟩⟩⟩⟩
theorem EOk.chg{ex:Nat→World→Prop}{i:Nat}{o:Oper}{d:Tmp}{q:Value→World→Prop}(k:Nat)(hg:o.guard=none)(he:eff[k]?=some i)(hq:pr.filter (fun x=>x.1 == i)=[(i,d,q)])
  (h : ∀ y W, ex k W → (∀ x ∈ pr, depB o x.1 = true → x.2.2 (y x.2.1) W) → (∀ t, XL ops i t = true → y t = a.tmps.getD t undef) →
   Ye P o (fr a ds y) W (fun v W'=>ex (k+1) W'∧q v W'∧KeepW i W W' pr)):EOk P eff lim ops a pr (fun k _=>ex k) ds i o:=
 .chgy k hg he hq fun y W h1 h2 h3=>⟨fun K Q' hK=>(h y W h1 h2 h3).out K Q' fun v W' hv=>hK v W' ⟨fun _ _ _=>hv.1,hv.2⟩⟩
theorem EOk.sto{i:Nat}{o:Oper}(k:Nat)(hg:o.guard=none)(he:eff[k]?=some i)(hq:pr.filter (fun x=>x.1 == i)=[])
  (hdn : o.dst = none) (h : ∀ y W, ex k y W → (∀ x ∈ pr, depB o x.1 = true → x.2.2 (y x.2.1) W) → (∀ t, XL ops i t = true → y t = a.tmps.getD t undef) →
   Ye P o (fr a ds y) W (fun _ W'=>ex (k+1) y W'∧KeepW i W W' pr)):EOk P eff lim ops a pr ex ds i o:=
 ⟨hg,.inr ⟨k,he,fun y W h1 h2 h3=>⟨fun K Q' hK=>(h y W h1 h2 h3).out K Q' fun v W' hv=>hK v W' ⟨fun y' hy' _=>(funext fun t=>hy' t (by rw[hdn];simp):y'=y) ▸ hv.1,fun x hx hxi=>absurd (List.mem_filter.2 ⟨hx,by simp[hxi]⟩:x∈pr.filter (fun x=>x.1 == i)) (by rw[hq];simp),hv.2.all⟩⟩⟩⟩
end
theorem ZcP{ρ:Operand→Value}{x z r:Operand}{u t v:Value}(h:ρ x=u)(k:ρ z=t)(l:ρ r=v):(#[x,z,r]:Array Operand).map ρ=#[u,t,v]:=by simp[h,k,l]
section
variable {P:Program}{o:Oper}{a:Act}{W:World}{q:Value→World→Prop}
theorem Ye.append{α:Type}{e:El α}{w:World}{v:Value}{rs:List (α × List Value)}(s x:Operand)(t:TypeId)
  (ho:o.op=.call { callee:=.builtin .append,args:=#[s,x],argTypes:=#[t,t] }) (i:TypeInfo)
  (ht:P.underlying t=some (.slice e.T)) (hi:P.info? e.T=some i) (hz:i.zero=some e.z) (hsize:i.size=e.n) (hby:i.bytes=e.bytes)
  (h:Own e w v rs W) {y:α} {cs:List Value} (hy:e.E y cs W) (ad:Addr) (c:Nat) (hs:a.eval s=v) (hx:a.eval x=.slice (some ad) 1 c)
  (h0:∀ d u,cs[d]?=some u→W.cell? (ad.add d)=some u) (hl:rs.length≤1000000)
  (hq:∀ v' W',Own e w v' (rs++[(y,cs)]) W'→W.grownBy W' v.ownBlock→q v' W'):Ye P o a W q:=by
 obtain⟨v',W',hr,k1,k2⟩:=Xy (P:=P) t o.type i ht hi hz hsize hby h hy ad c h0 hl
 refine⟨fun K Q' hK=>?_⟩
 unfold Oper.wp execOp
 simp only[ho,resolve,invoke,builtin,Sem.run_bind,Sem.run_pure,Result.andThen_ok,List.map_toArray,List.map_cons,List.map_nil,hs,hx,hr]
 exact hK _ _ (hq v' W' k1 k2)
def plainV:Value→Bool
 | .int _ _ | .bool _ | .string _ | .slice _ _ _ | .pointer _=>true
 | _=>false
theorem Ye.store{T:TypeId}{x z:Operand}{g k:Nat}{v u:Value}(ho:o.op=.store T x z)(hx:a.eval x=.pointer (some ⟨g,k,none⟩))(hz:a.eval z=v)(hv:plainV v=true)
  (hsz:∀ w,(sizeOf T).run P w=.ok 1 w) (hc:W.cell? ⟨g,k,none⟩=some u) (hf:W.frozen? ⟨g,k,none⟩=false) (hq:q undef (W.setCell ⟨g,k,none⟩ v)):Ye P o a W q:=by
 refine⟨fun K Q' hK=>?_⟩
 unfold Oper.wp execOp
 simp only[ho,hx,hz]
 have hr:(Instr.storeAt T (.pointer (some ⟨g,k,none⟩)) v).run P W=.ok () (W.setCell ⟨g,k,none⟩ v):=by
  cases v with
  | int k n | bool b | string s | slice A n c | pointer p=>simp[Instr.storeAt,Instr.sureAddr,storeVar,go_sem,hc,hf,hsz]
  | _=>cases hv
 simp only[Sem.run_bind,hr,Result.andThen_ok,Sem.run_pure]
 exact hK _ _ hq
end
open Go.RowKit FF in
theorem wrt{P:Program}{ops:Array Oper}{Q:Exit→Act→World→Prop}{a:Act}{w:World}{id:Nat}(k:Nat)(pr:List Wd)(ex:World→Prop)(ds:List Tmp)(hk:KeepsL pr)(hex:Keeps (fun _=>ex))(h0:ex w)(hkn:k<ops.size)(hops:∀ (i:Nat) (o:Oper),i<k→ops[i]?=some o→VOk P ops a w pr ex ds i o)(hend:∀ (y:Nat→Value) W,Below w.heap.size w W→ex W→(∀ x∈pr,x.2.2 (y x.2.1) W)→wpList P ops Q (ops.toList.drop k) (fr a ds y) W)(hds:(ops.toList.take k).filterMap (·.dst)=ds:=by kernel_rfl)(hm:P.follows .mixedOrders=true:=by kernel_rfl)(hB:Yb ops a.tmps.size (pr.map fun x=>(x.1,x.2.1)) [] []=true:=by kernel_rfl)(hpk:(pr.all fun x=>decide (x.1<k))=true:=by kernel_rfl)(ht:waitB ops k=true:=by kernel_rfl):(Code.region id ops true).wp P Q a w:=ZcO k pr ex ds hds hm hB hpk ht hk hex h0 hkn hops hend
end
end Go.Proofs.YthkklilhjnpedaaGreatDoor
