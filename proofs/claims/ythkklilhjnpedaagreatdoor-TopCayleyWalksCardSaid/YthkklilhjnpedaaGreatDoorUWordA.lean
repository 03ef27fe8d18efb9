/- Slices that show lists of numbers; what keeps them. Words of integers: of, size, made, Of, negative. Words of integers: Of. Words: compare. Words: plus, minus. -/
import Derived.Test.YthkklilhjnpedaaGreatDoorUBase
import Derived.Below
import Derived.Handy
import Derived.Deep.Draws
import Derived.Deep.AppendSrc
import Derived.OwnWalk
import Derived.Deep.OwnRows
set_option maxHeartbeats 16000000
set_option maxRecDepth 8000
namespace Go.Proofs.YthkklilhjnpedaaGreatDoor
open Go.RowKit FF
def Shows(k:IntKind)(w:World)(A:Option Addr)(xs:List Nat):Prop:=
 0<xs.length→∃ b o,A=some ⟨b,o,none⟩∧b<w.heap.size∧∀ i,i<xs.length→w.cell? ⟨b,o+i,none⟩=some (.int k (xs.getD i 0:Nat))
section
variable {k:IntKind}{w w':World}{A:Option Addr}{xs:List Nat}
theorem Shows.nil:Shows k w A []:=fun h=>absurd h (by simp)
theorem Shows.keep(h:Shows k w A xs)(hs:w.heap.size≤w'.heap.size)(hk:∀ p:Addr,p.block<w.heap.size→w'.cell? p=w.cell? p):Shows k w' A xs:=by
 intro hn
 obtain⟨b,o,e,hb,hc⟩:=h hn
 exact⟨b,o,e,by omega,fun i hi=>(hk ⟨b,o+i,none⟩ hb).trans (hc i hi)⟩
theorem Shows.below(h:Shows k w A xs)(hb:Below w.heap.size w w'):Shows k w' A xs:=h.keep hb.size fun _ hp=>hb.cell hp
theorem Shows.drewN(h:Shows k w A xs)(n:Nat):Shows k (w.drewN n) A xs:=h
theorem Shows.alloc(h:Shows k w A xs)(o:Obj):Shows k (w.alloc o) A xs:=h.keep (by simp) fun p hp=>World.cell?_alloc_lt w o p hp
theorem Shows.take(h:Shows k w A xs)(n:Nat):Shows k w A (xs.take n):=by
 intro hn
 rw[List.length_take]at hn
 obtain⟨b,o,e,hb,hc⟩:=h (by omega)
 refine⟨b,o,e,hb,fun i hi=>?_⟩
 rw[List.length_take]at hi
 rw[hc i (by omega)]
 simp only[List.getD_eq_getElem?_getD]
 rw[List.getElem?_take_of_lt (by omega)]
end
def Fresh(B:Nat)(A:Option Addr):Prop:=∀ a,A=some a→B≤a.block
theorem Fresh.none{B:Nat}:Fresh B none:=fun _ h=>by cases h
theorem Fresh.mk{B b o:Nat}(h:B≤b):Fresh B (some ⟨b,o,Option.none⟩):=fun a e=>by injection e with e;subst e;exact h
theorem Fresh.mono{B B':Nat}{A:Option Addr}(h:Fresh B A)(hB:B'≤B):Fresh B' A:=fun a e=>Nat.le_trans hB (h a e)
theorem Shows.setCell{k:IntKind}{w:World}{A:Option Addr}{xs:List Nat}{B:Nat}(h:Shows k w A xs)(hf:Fresh B A){p:Addr}(hp:p.block<B)(v:Value):Shows k (w.setCell p v) A xs:=by
 intro hn
 obtain⟨b,o,e,hb,hc⟩:=h hn
 refine⟨b,o,e,by simpa[World.setCell] using hb,fun i hi=>?_⟩
 rw[World.cell?_setCell_other w p ⟨b,o+i,Option.none⟩ v (fun e2=>by
  have:=hf _ e
  have e3:p.block=b:=by rw[e2]
  simp at this
  omega)]
 exact hc i hi
theorem ZdA{A:Option Addr}{m n:Nat}(h:m=n):Ending.returned (.slice A m m)=.returned (.slice A n n):=by rw[h]
def WB:Nat:=4294967296
theorem WB2:2≤WB:=by unfold WB;omega
def wl(n:Nat):Nat:=(digs WB n).length
theorem ZgB:wl 0=0:=rfl
theorem XE{n:Nat}:wl n=0↔n=0:=Zd3 WB2
theorem Z4(A:Option Addr)(xs:List Nat)(c:Nat)(w:World)(h:Shows .u32 w A xs)(hd:Dig WB xs)(hc:xs.length≤c)(hc2:c≤maxLen) :
  Calls Tryz.prog 181 #[.slice A xs.length c] w fun e w'=>e=.returned (.slice A (wl (val WB xs)) (wl (val WB xs)))∧w=w':=by
 unfold maxLen at hc2
 have HA:=lhd h;clear h
 have hrel0:=lhd (show val WB (xs.take xs.length)=val WB xs by rw[tOl (nlr _)])
 have hfin:=lhd (fun (j:Nat) (hj:j≤xs.length) (hv:val WB (xs.take j)=val WB xs) (hl:0<j→xs.getD (j-1) 0≠0) =>
  (show j=wl (val WB xs) by unfold wl;rw[← Ut WB2 hd hj hv hl,List.length_take];omega))
 have hstep:=lhd (fun (j:Nat) (hj:j<xs.length) (h0:xs.getD j 0=0) (hv:val WB (xs.take (j+1))=val WB xs)=>Yw (B:=WB) hj h0 hv)
 go_enter Tryz.func181,Tryz.ntmps181
 go_wp2
 unfold Shows at HA
 generalize xs.length=n at *
 go_loop [3] (fun t=>∃ k:Nat,t=.int .i64 k∧k≤n∧val WB (xs.take k)=val WB xs) (fun t=>(intOf t).toNat)
 case atStart=>exact⟨n,rfl,nlr _,hrel0.out⟩
 case round =>
  obtain⟨k,rfl,hk,hv⟩:=hrel
  have HV:=lhd hv;clear hv
  by_cases h0:0<k
  ·obtain⟨j,rfl⟩:∃ j,k=j+1:=⟨k-1,by omega⟩
   obtain⟨b,o,rfl,hb,hcell⟩:=HA.out (by omega)
   have hx:=hcell j (by omega)
   have hS:=lhd (fun h0=>hstep.out j (by omega) h0 HV.out)
   have hF:=lhd (fun h0=>hfin.out (j+1) hk HV.out (fun _=>h0))
   clear hcell hrel0 hfin hstep HA
   rw[Nat.add_sub_cancel]at hF
   generalize xs.getD j 0=x at *
   have e1:((j+1:Nat):Int)=(j:Int)+1:=by omega
   rw[e1]
   by_cases c0:x=0
   ·have hS2:=lhd (hS.out c0)
    clear hF hS
    subst c0
    go_wp2
    exact⟨⟨j,rfl,by omega,hS2.out⟩,by simp[intOf]⟩
   ·have d0:((x:Int) == 0)=false:=Xx (by omega)
    have hF2:=lhd (hF.out c0)
    clear hF hS c0
    go_wp2
    go_ret
    exact⟨ZdA hF2.out,rfl⟩
  ·obtain rfl:k=0:=by omega
   have hF:=lhd (hfin.out 0 (by omega) HV.out (fun h=>absurd h (by omega)))
   clear hfin hstep HA
   go_wp2
   go_ret
   exact⟨ZdA hF.out,rfl⟩
theorem Shows.trim{w:World}{A:Option Addr}{xs:List Nat}(h:Shows .u32 w A xs)(hd:Dig WB xs):Shows .u32 w A (digs WB (val WB xs)):=by
  have key:∀ f k,k≤f→k≤xs.length→val WB (xs.take k)=val WB xs→∃ j,xs.take j=digs WB (val WB xs):=by
    intro f
    induction f with
    | zero => intro k h1 h2 h3
              exact⟨0,Ut WB2 hd (by omega) (by rw[show k=0 by omega]at h3;exact h3) (fun h=>absurd h (by omega))⟩
    | succ f ih =>
      intro k h1 h2 h3
      by_cases h0:k=0
      · subst h0;exact⟨0,Ut WB2 hd (by omega) h3 (fun h=>absurd h (by omega))⟩
      · by_cases hx:xs.getD (k-1) 0=0
        · exact ih (k-1) (by omega) (by omega) (Yw (by omega) hx (by rw[show k-1+1=k by omega];exact h3))
        · exact⟨k,Ut WB2 hd h2 h3 (fun _=>hx)⟩
  obtain⟨j,hj⟩:=key xs.length xs.length (nlr _) (nlr _) (by rw[tOl (nlr _)])
  rw[← hj];exact h.take j
theorem Kb(A:Option Addr)(xs:List Nat)(c:Nat)(i:Nat)(w:World)(h:Shows .u32 w A xs)(hi:i≤4611686018427387904)(hd:Dig WB xs) :
  Calls Tryz.prog 182 #[.slice A xs.length c,.int .i64 i] w (Ret w (.int .u64 (xs.getD i 0:Nat))):=by
 by_cases hlt:i<xs.length
 ·obtain⟨b,o,rfl,hb,hcell⟩:=h (by omega)
  have hx:=hcell i hlt
  have hxl:=hd.getD (by decide) i
  unfold WB at hxl
  clear hcell h hd
  generalize xs.getD i 0=x at *
  generalize xs.length=n at *
  go_enter Tryz.func182,Tryz.ntmps182
  go_wp2
  go_ret
  exact Ret.eq0 (Zp (by simp))
 ·have hz:=lhd (show xs.getD i 0=0 by rw[gDg,List.getElem?_eq_none (by omega)];rfl)
  clear h hd
  generalize xs.length=n at *
  go_enter Tryz.func182,Tryz.ntmps182
  go_wp2
  go_ret
  exact Ret.eq0 (Zp (by rw[hz.out];rfl))
open Go.RowKit FF
section
variable {P:Program}(w:World)
theorem Zaq{ops:Array Oper}{rest:List Oper}{o:Oper}{a:Act}{Q:Exit→Act→World→Prop}(hgd:o.guard=none)(s x:Operand)(t tx:TypeId)
  (ho:o.op=.call { callee:=.builtin .append,args:=#[s,x],argTypes:=#[t,tx] })
  (e e':TypeId) (i:TypeInfo) (z:Value) (ht:P.underlying t=some (.slice e)) (htx:P.underlying tx=some (.slice e')) (hi:P.info? e=some i) (hz:i.zero=some z)
  (hsize:i.size=1) (hby:i.bytes≤64) (hs:a.eval s=.slice none 0 0)
  (ad:Addr) (m c:Nat) (news:List Value) (hx:a.eval x=.slice (some ad) m c) (hl:news.length=m) (hnews:∀ j u,news[j]?=some u→w.cell? (ad.add j)=some u) (h1:∀ u∈news,u.oneCell'=true)
  (h0:0<m) (hm:m≤1073741824)
  (h:∀ (cap:Nat) (more:Array Value),m≤cap→cap≤maxLen→wpList P ops Q rest (a.put o.dst (.slice (some ⟨w.heap.size,0,none⟩) m cap)) (w.drew.alloc (.cells (news.toArray++more) e))) :
  wpList P ops Q (o::rest) a w:=by
 refine wpList_plain hgd fun K hK=>?_
 have hsrc:Src P i.size tx (.slice (some ad) m c) m news w:=Src.ofSlice w htx ad m c news (by rw[hsize,hl,Nat.mul_one]) hnews h1
 have hmb:m*i.bytes≤281474976710656:=Nat.le_trans (Nat.mul_le_mul hm hby) (by decide)
 have hr:=run_append_grow_src (P:=P) w t tx o.type e i z ht hi hz none 0 0 [] (run_firstCells_none w.drew i.size 0 0 0) (.slice (some ad) m c) m news hsrc (by omega) (by omega)
  (by rw[Nat.zero_add,nextslicecap_zero h0];exact hmb)
 unfold Oper.wp execOp
 simp only[ho,resolve,invoke,builtin,Sem.run_bind,Sem.run_pure,Result.andThen_ok,List.map_toArray,List.map_cons,List.map_nil,hs,hx,hr]
 refine hK _ _ ?_
 have hge:=grownCap_ge w (0+m) 0 e
 have hcm:=grownCap_le_maxLen w (0+m) 0 e (by simp only[maxLen];omega)
 have:=h (grownCap w (0+m) 0 e) (Builtin.zeroCells z.cells (grownCap w (0+m) 0 e-(0+m))) (by omega) hcm
 simpa only[Nat.zero_add,List.nil_append] using this
end
theorem Shows.new{k:IntKind}{w:World}{cs:Array Value}{T:TypeId}{xs:List Nat}(h:∀ i,i<xs.length→cs[i]?=some (.int k (xs.getD i 0:Nat))) :
  Shows k (w.alloc (.cells cs T)) (some ⟨w.heap.size,0,none⟩) xs:=by
 intro _
 refine⟨w.heap.size,0,rfl,by simp,fun i hi=>?_⟩
 rw[Nat.zero_add]
 exact(World.cell?_alloc_at (w:=w) cs T w.heap.size i rfl).trans (h i hi)
theorem dig_two(n:Nat)(hn:n<18446744073709551616):Dig WB [n % 4294967296,n / 4294967296]∧val WB [n % 4294967296,n / 4294967296]=n:=by
 unfold WB
 refine⟨fun x hx=>?_,by simp only[val];omega⟩
 simp at hx
 rcases hx with rfl | rfl <;> omega
theorem of_any(n:Nat)(w:World)(hn:n<18446744073709551616) :
  Calls Tryz.prog 148 #[.int .u64 n] w fun e w'=>∃ A,e=.returned (.slice A (wl n) (wl n))∧Shows .u32 w' A (digs WB n)∧Fresh w.heap.size A∧Below w.heap.size w w':=by
 obtain⟨h1,h2⟩:=dig_two n hn
 have H1:=lhd h1
 have H2:=lhd h2
 have hsh:Shows .u32 (w.alloc (.cells #[.int .u32 ((n:Int) % 4294967296),.int .u32 ((n:Int) / 4294967296)] 135)) (some ⟨w.heap.size,0,none⟩) [n % 4294967296,n / 4294967296]:=
  Shows.new (fun i hi=>by
   match i,hi with
   | 0,_=>rfl
   | 1,_=>rfl)
 have hC:=Z4 (some ⟨w.heap.size,0,none⟩) [n % 4294967296,n / 4294967296] 2 _ hsh h1 (by simp) (by unfold maxLen;omega)
 rw[h2]at hC
 have HC:=lhd hC
 have HT:=lhd (h2 ▸ hsh.trim h1)
 clear hC hsh h1 h2
 go_enter Tryz.func148,Tryz.ntmps148
 go_wp2_with fail
 refine HC.out.mono ?_
 rintro e w' ⟨rfl,rfl⟩
 go_wp2
 go_ret
 exact⟨_,rfl,HT.out,Fresh.mk (nlr _),(Below.refl _ _).alloc (nlr _) _⟩
theorem Xg(b:Bool)(A:Option Addr)(xs:List Nat)(c:Nat)(w:World)(h:Shows .u32 w A xs)(hd:Dig WB xs)(hc:xs.length≤c)(hc2:c≤maxLen) :
  Calls Tryz.prog 138 #[.agg #[.bool b,.slice A xs.length c]] w fun e w'=>e=.returned (.slice A (wl (val WB xs)) (wl (val WB xs)))∧Below w.heap.size w w':=by
 have HC:=lhd (fun (w1:World) (h1:Shows .u32 w1 A xs)=>Z4 A xs c w1 h1 hd hc hc2)
 have HA:=lhd h;clear h hc hc2
 go_enter Tryz.func138,Tryz.ntmps138
 go_wp2_with fail
 refine(HC.out _ (HA.out.alloc _)).mono ?_
 rintro e w' ⟨rfl,rfl⟩
 go_wp2
 go_ret
 exact⟨rfl,(Below.refl _ _).alloc (nlr _) _⟩
theorem Uh:(Tryz.prog.info? 135).map (fun i=>(i.zero,i.size,i.bytes))=some (some (.int .u32 0),1,4):=by kernel_rfl
theorem ZM:(Tryz.prog.info? 3).map (fun i=>(i.zero,i.size,i.bytes))=some (some (.int .i64 0),1,8):=by kernel_rfl
def cells(k:IntKind)(xs:List Nat):List Value:=xs.map fun x:Nat=>Value.int k (x:Int)
theorem XN(k:IntKind)(xs:List Nat):(cells k xs).length=xs.length:=by unfold cells;rw[List.length_map]
theorem Kj{k:IntKind}{xs:List Nat}{j:Nat}(h:j<xs.length):(cells k xs)[j]?=some (.int k (xs.getD j 0:Nat)):=by
 unfold cells;rw[List.getElem?_map,gEe h,gDg,gEe h];rfl
theorem Za7(k:IntKind)(xs:List Nat):∀ u∈cells k xs,u.oneCell'=true:=by
 intro u hu;unfold cells at hu;obtain⟨x,_,rfl⟩:=List.mem_map.1 hu;rfl
theorem Ui{k:IntKind}{w:World}{ad:Addr}{xs:List Nat}(h:Shows k w (some ad) xs):∀ j u,(cells k xs)[j]?=some u→w.cell? (ad.add j)=some u:=by
 intro j u hu
 have hj:j<xs.length:=by
  rcases Nat.lt_or_ge j xs.length with h1 | h1
  ·exact h1
  ·rw[List.getElem?_eq_none (by rw[XN];exact h1)]at hu;cases hu
 obtain⟨b,o,e,hb,hc⟩:=h (by omega)
 injection e with e
 subst e
 rw[Kj hj]at hu
 rw[← hu,← hc j hj,Addr.add_lit]
theorem XX(b:Bool)(A:Option Addr)(xs:List Nat)(c:Nat)(w:World)(h:Shows .u32 w A xs)(hd:Dig WB xs)(hc:xs.length≤c)(hc2:c≤maxLen)(hl:wl (val WB xs)≤1000000) :
  Calls Tryz.prog 136 #[.bool b,.slice A xs.length c] w fun e w' =>
   ∃ A' c',e=.returned (.agg #[.bool (b && decide (val WB xs≠0)),.slice A' (wl (val WB xs)) c'])∧Shows .u32 w' A' (digs WB (val WB xs))∧wl (val WB xs)≤c'∧c'≤maxLen∧Fresh w.heap.size A'∧Below w.heap.size w w':=by
 have HC:=lhd (fun (w1:World) (h1:Shows .u32 w1 A xs)=>Z4 A xs c w1 h1 hd hc hc2)
 have HA:=lhd (h.trim hd)
 have HS:=lhd h
 clear h hc hc2 hd
 obtain⟨i0,hi,hz0,hz1,hz2⟩:=info_parts Uh
 have HI:=lhd hi;have HZ0:=lhd hz0;have HZ1:=lhd hz1;have HZ2:=lhd hz2
 clear hi hz0 hz1 hz2
 by_cases h0:val WB xs=0
 ·have hl0:wl (val WB xs)=0:=by rw[h0];rfl
  have HL:=lhd hl0
  have HF:=lhd h0
  clear h0 hl0 hl
  go_enter Tryz.func136,Tryz.ntmps136
  go_wp2_with fail
  have hC:=HC.out _ (HS.out.alloc (.cells #[.bool false,.slice none 0 0] 57))
  rw[HL.out]at hC
  refine hC.mono ?_
  rintro e w' ⟨rfl,rfl⟩
  clear hC
  go_wp2
  refine bodyPost_ret (v:=.agg #[.bool false,.slice none 0 0]) (by simp[results,Tryz.results136,go_sem]) rfl ?_
  refine⟨none,0,?_,?_,by rw[HL.out];omega,by simp[maxLen],Fresh.none,?_⟩
  ·rw[HL.out,HF.out];simp
  ·rw[HF.out,XC];exact Shows.nil
  ·go_grown
 ·have hb:(b && decide (val WB xs≠0))=b:=by simp[h0]
  have HB:=lhd hb
  have hlp:0<wl (val WB xs):=by
   apply Nat.pos_of_ne_zero;intro e;exact h0 (XE.1 e)
  clear h0 hb
  go_enter Tryz.func136,Tryz.ntmps136
  go_wp2_with fail
  have hC:=HC.out _ (HS.out.alloc (.cells #[.bool false,.slice none 0 0] 57))
  have hA:=HA.out.alloc (.cells #[.bool false,.slice none 0 0] 57)
  obtain⟨b0,o0,rfl,hb0,hcell⟩:=hA hlp
  refine hC.mono ?_
  rintro e w' ⟨rfl,rfl⟩
  have HA2:=lhd hA
  clear hC hA hcell HC HA HS
  have hml:(cells .u32 (digs WB (val WB xs))).length=wl (val WB xs):=XN _ _
  have HM:=lhd hml;clear hml
  generalize hm:wl (val WB xs)=m at *
  have Hm:=lhd hm;clear hm
  have d0:((m:Int) == 0)=false:=Xx (by omega)
  go_wp2_with (at_builtin;refine Zaq _ rfl (.const (.slice none 0 0)) (.tmp 12) 55 183 rfl 135 135 i0 _ Tryz.underlying55 Tryz.underlying183 HI.out HZ0.out HZ1.out (by rw[HZ2.out];omega) rfl ⟨b0,o0,none⟩ m m (cells .u32 (digs WB (val WB xs))) rfl HM.out (Ui HA2.out) (Za7 _ _) hlp (by omega) ?_;intro cap more hcap1 hcap2)
  refine bodyPost_ret (v:=.agg #[.bool b,.slice (some ⟨w.heap.size+1,0,none⟩) m cap]) (by simp[results,Tryz.results136,go_sem]) rfl ?_
  refine⟨some ⟨w.heap.size+1,0,none⟩,cap,?_,?_,?_,hcap2,Fresh.mk (Nat.le_succ _),?_⟩
  ·rw[Hm.out,HB.out]
  ·have hn:=Shows.new (k:=.u32) (w:=w.alloc (Obj.cells #[Value.bool b,Value.slice (some { block:=w.heap.size+1,off:=0 }) m cap] 57)) (cs:=(cells IntKind.u32 (digs WB (val WB xs))).toArray++more) (T:=135) (xs:=digs WB (val WB xs)) (fun i hi=>by
    rw[Array.getElem?_append_left (by simpa[XN] using hi)]
    simpa using Kj hi)
   rw[World.size_alloc]at hn
   exact hn
  ·rw[Hm.out];exact hcap1
  ·go_grown
open Go.RowKit FF
theorem XR{w w1:World}{cs:Array Value}{T:TypeId}(hb:Below (w.heap.size+1) (w.alloc (.cells cs T)) w1) :
  (∀ i,w1.cell? ⟨w.heap.size,i,none⟩=cs[i]?)∧(∀ i,w1.frozen? ⟨w.heap.size,i,none⟩=false)∧w.heap.size<w1.heap.size:=by
 refine⟨fun i=>?_,fun i=>?_,?_⟩
 ·rw[hb.cell (p:=⟨w.heap.size,i,none⟩) (Nat.lt_succ_self _)];exact World.cell?_alloc_at (w:=w) cs T w.heap.size i rfl
 ·rw[hb.frozen (p:=⟨w.heap.size,i,none⟩) (Nat.lt_succ_self _)];simp
 ·have:=hb.size;rw[World.size_alloc]at this;omega
theorem Xp{w w1:World}{o:Obj}(hb:Below (w.heap.size+1) (w.alloc o) w1):Below w.heap.size w w1:=
 ((Below.refl _ _).alloc (nlr _) _).trans (hb.mono (Nat.le_succ _))
theorem Zfh{n:Nat}(h:n<18446744073709551616):wl n≤2:=Zm WB2 (by unfold WB;omega)
theorem Of_any(n:Int)(w:World)(hn:I64 n) :
  Calls Tryz.prog 92 #[.int .i64 n] w fun e w' =>
   ∃ A' c',e=.returned (.agg #[.bool (decide (n<0)),.slice A' (wl n.natAbs) c'])∧Shows .u32 w' A' (digs WB n.natAbs)∧wl n.natAbs≤c'∧c'≤maxLen∧Fresh w.heap.size A'∧Below w.heap.size w w':=by
 obtain⟨h1,h2⟩:=hn
 have hO:=lhd (fun w=>of_any n.natAbs w (by omega))
 have hl:wl n.natAbs≤2:=Zfh (by omega)
 have HL:=lhd hl
 have hM0:=fun (b:Bool) (A:Option Addr) (w:World) (h:Shows .u32 w A (digs WB n.natAbs))=>by
  have:=XX b A (digs WB n.natAbs) (wl n.natAbs) w h (Zh WB2 _) (nlr _) (by unfold maxLen;omega) (by rw[Ze WB2];omega)
  rw[Ze WB2]at this;exact this
 clear hl
 by_cases h0:n<0
 ·have hd:decide (n<0)=true:=deT h0
  have hb:(true && decide (n.natAbs≠0))=decide (n<0):=by rw[hd];simp;omega
  have hM1:=hM0 true
  rw[hb]at hM1
  have hM:=lhd hM1
  clear hM0 hM1 hd hb
  generalize decide (n<0)=dn at *
  generalize hm:n.natAbs=m at *
  obtain rfl:-(m:Int)=n:=by omega
  have e1:IntKind.u64.wrap (-(IntKind.u64.wrap (-(m:Int))))=(m:Int):=by
   simp only[IntKind.wrap,IntKind.bits,IntKind.signed];simp;omega
  clear hm
  go_enter Tryz.func92,Tryz.ntmps92
  go_wp2_with fail
  refine(hO.out _).mono ?_
  rintro e w1 ⟨A,rfl,hs,hf1,hb1⟩
  rw[World.size_alloc]at hb1
  have HS:=lhd hs;have HB1:=lhd hb1;clear hs hb1 hf1
  go_wp2_with fail
  refine(hM.out _ _ HS.out).mono ?_
  rintro e w2 ⟨A',c',rfl,hs2,hc1,hc2,hf2,hb2⟩
  have hz1:w.heap.size+1≤w1.heap.size:=by have:=HB1.out.size;rw[World.size_alloc]at this;exact this
  have hb3:Below (w.heap.size+1) (w.alloc (.cells #[.bool false,.slice none 0 0] 57)) w2:=HB1.out.trans (hb2.mono hz1)
  obtain⟨k1,k2,k3⟩:=XR hb3
  have HF2:=lhd (hf2.mono hz1)
  have HS2:=lhd ((hs2.setCell (hf2.mono hz1) (p:=⟨w.heap.size,0,none⟩) (Nat.lt_succ_self _) (.bool dn)).setCell (hf2.mono hz1) (p:=⟨w.heap.size,1,none⟩) (Nat.lt_succ_self _) (.slice A' (wl m) c'))
  have HB3:=lhd (((Xp hb3).setCell (p:=⟨w.heap.size,0,none⟩) (nlr _) (.bool dn)).setCell (p:=⟨w.heap.size,1,none⟩) (nlr _) (.slice A' (wl m) c'))
  clear hs2 hb2 hb3 HS HB1 hf2
  go_wp2_with fail
  refine bodyPost_ret (v:=.agg #[.bool dn,.slice A' (wl m) c']) (by simp[results,Tryz.results92,go_sem,k1]) rfl ?_
  exact⟨A',c',rfl,HS2.out,hc1,hc2,HF2.out.mono (Nat.le_succ _),HB3.out⟩
 ·have hd:decide (n<0)=false:=deF h0
  have hb:(false && decide (n.natAbs≠0))=decide (n<0):=by rw[hd];simp
  have hM1:=hM0 false
  rw[hb]at hM1
  have hM:=lhd hM1
  clear hM0 hM1 hd hb
  generalize decide (n<0)=dn at *
  generalize hm:n.natAbs=m at *
  obtain rfl:(m:Int)=n:=by omega
  clear hm
  go_enter Tryz.func92,Tryz.ntmps92
  go_wp2_with fail
  refine(hO.out _).mono ?_
  rintro e w1 ⟨A,rfl,hs,hf1,hb1⟩
  rw[World.size_alloc]at hb1
  have HS:=lhd hs;have HB1:=lhd hb1;clear hs hb1 hf1
  go_wp2_with fail
  refine(hM.out _ _ HS.out).mono ?_
  rintro e w2 ⟨A',c',rfl,hs2,hc1,hc2,hf2,hb2⟩
  have hz1:w.heap.size+1≤w1.heap.size:=by have:=HB1.out.size;rw[World.size_alloc]at this;exact this
  have hb3:Below (w.heap.size+1) (w.alloc (.cells #[.bool false,.slice none 0 0] 57)) w2:=HB1.out.trans (hb2.mono hz1)
  obtain⟨k1,k2,k3⟩:=XR hb3
  have HF2:=lhd (hf2.mono hz1)
  have HS2:=lhd ((hs2.setCell (hf2.mono hz1) (p:=⟨w.heap.size,0,none⟩) (Nat.lt_succ_self _) (.bool dn)).setCell (hf2.mono hz1) (p:=⟨w.heap.size,1,none⟩) (Nat.lt_succ_self _) (.slice A' (wl m) c'))
  have HB3:=lhd (((Xp hb3).setCell (p:=⟨w.heap.size,0,none⟩) (nlr _) (.bool dn)).setCell (p:=⟨w.heap.size,1,none⟩) (nlr _) (.slice A' (wl m) c'))
  clear hs2 hb2 hb3 HS HB1 hf2
  go_wp2_with fail
  refine bodyPost_ret (v:=.agg #[.bool dn,.slice A' (wl m) c']) (by simp[results,Tryz.results92,go_sem,k1]) rfl ?_
  exact⟨A',c',rfl,HS2.out,hc1,hc2,HF2.out.mono (Nat.le_succ _),HB3.out⟩
open Go.RowKit FF
theorem Us(A A':Option Addr)(a b c c':Nat)(w:World)(ha:Shows .u32 w A (digs WB a))(hb:Shows .u32 w A' (digs WB b))(hal:wl a≤1000000) :
  Calls Tryz.prog 141 #[.slice A (wl a) c,.slice A' (wl b) c'] w (Ret w (.int .i64 (cmpN a b))):=by
 have h1:=lhd (fun h:wl a<wl b=>Zcz (Zf8 WB2 h))
 have h2:=lhd (fun h:wl b<wl a=>Zga (Zf8 WB2 h))
 by_cases hne:wl a=wl b
 ·have hl:(digs WB a).length=(digs WB b).length:=hne
  have hda:=Zh WB2 a
  have hdb:=Zh WB2 b
  have va:=Ze WB2 a
  have vb:=Ze WB2 b
  have f1:=lhd (fun (i:Nat) (hi:i<(digs WB a).length) (hd:(digs WB a).drop (i+1)=(digs WB b).drop (i+1)) (h:(digs WB a).getD i 0<(digs WB b).getD i 0) =>
   Zcz (by have:=Zf9 hda hl hi hd h;rwa [va,vb]at this))
  have f2:=lhd (fun (i:Nat) (hi:i<(digs WB a).length) (hd:(digs WB a).drop (i+1)=(digs WB b).drop (i+1)) (h:(digs WB b).getD i 0<(digs WB a).getD i 0) =>
   Zga (by have:=Zf9 hdb hl.symm (by omega) hd.symm h;rwa [va,vb]at this))
  have f3:=lhd (fun (i:Nat) (hi:i<(digs WB a).length) (hd:(digs WB a).drop (i+1)=(digs WB b).drop (i+1)) (h:(digs WB a).getD i 0=(digs WB b).getD i 0)=>ZhR hl hi hd h)
  have f4:=lhd (fun (hd:(digs WB a).drop 0=(digs WB b).drop 0)=>cmpN_eq (show a=b by have:=congrArg (val WB) hd;rw[List.drop_zero,List.drop_zero,va,vb]at this;exact this))
  have g0:=lhd (show(digs WB a).drop (wl a)=(digs WB b).drop (wl a) from drop_len hl)
  have HA:=lhd (show 0<wl a→∃ b o,A=some ⟨b,o,none⟩∧b<w.heap.size∧∀ i,i<wl a→w.cell? ⟨b,o+i,none⟩=some (.int .u32 ((digs WB a).getD i 0:Nat)) from ha)
  have HB:=lhd (show 0<wl b→∃ b' o,A'=some ⟨b',o,none⟩∧b'<w.heap.size∧∀ i,i<wl b→w.cell? ⟨b',o+i,none⟩=some (.int .u32 ((digs WB b).getD i 0:Nat)) from hb)
  change Hid (∀ (i:Nat),i<wl a→_) at f1 f2 f3
  clear h1 h2 ha hb hl hda hdb va vb
  rw[← hne]at HB ⊢
  clear hne
  generalize wl a=n at *
  go_enter Tryz.func141,Tryz.ntmps141
  go_wp2
  go_loopw [5] (fun s wr=>∃ k:Nat,s=.int .i64 ((k:Int)-1)∧k≤n∧(digs WB a).drop k=(digs WB b).drop k∧∃ m,wr=w.drewN m) (fun s _=>(intOf s+1).toNat)
  case atStart=>exact⟨n,rfl,nlr _,g0.out,0,rfl⟩
  case round =>
   clear g0
   obtain⟨k,rfl,hk,hd,m,rfl⟩:=hrel
   have HD:=lhd hd;clear hd
   by_cases h0:0<k
   ·obtain⟨j,rfl⟩:∃ j,k=j+1:=⟨k-1,by omega⟩
    rw[show((j+1:Nat):Int)-1=(j:Int) by omega]
    obtain⟨b1,o1,rfl,hb1,hc1⟩:=HA.out (by omega)
    obtain⟨b2,o2,rfl,hb2,hc2⟩:=HB.out (by omega)
    have x1:=hc1 j (by omega)
    have x2:=hc2 j (by omega)
    have q1:=f1.out j (by omega) HD.out
    have q2:=f2.out j (by omega) HD.out
    have q3:=f3.out j (by omega) HD.out
    clear hc1 hc2 f1 f2 f3 f4 HA HB HD
    generalize (digs WB a).getD j 0=x at *
    generalize (digs WB b).getD j 0=y at *
    have hj:(j:Int)<n:=by omega
    by_cases hxy:x=y
    ·have hQ:=lhd (q3 hxy)
     clear q1 q2 q3
     subst hxy
     go_wp2
     go_quiet (fail)
     go_wp2
     exact⟨⟨j,rfl,by omega,hQ.out,_,rfl⟩,by simp[intOf]⟩
    ·by_cases hlt:x<y
     ·have hQ:=lhd (q1 hlt)
      clear q1 q2 q3
      have d1:((x:Int) != y)=true:=bne_iff_ne.2 (by omega)
      have hlt':(x:Int)<y:=by omega
      clear hxy
      go_wp2
      go_quiet (fail)
      go_wp2
      go_quiet (fail)
      go_wp2
      go_ret
      exact Ret.eqqq _ _ _ (Zp hQ.out.symm)
     ·have hQ:=lhd (q2 (by omega))
      clear q1 q2 q3
      have d1:((x:Int) != y)=true:=bne_iff_ne.2 (by omega)
      have hlt':¬ (x:Int)<y:=by omega
      clear hxy
      go_wp2
      go_quiet (fail)
      go_wp2
      go_quiet (fail)
      go_wp2
      go_ret
      exact Ret.eqqq _ _ _ (Zp hQ.out.symm)
   ·obtain rfl:k=0:=by omega
    have hF:=lhd (f4.out HD.out)
    clear f1 f2 f3 f4 HA HB HD
    go_wp2
    go_ret
    exact Ret.eq _ (Zp hF.out.symm)
 ·have d0:(((wl a:Nat):Int) != (wl b:Nat))=true:=bne_iff_ne.2 (by omega)
  clear ha hb
  by_cases hlt:wl a<wl b
  ·have hQ:=lhd (h1.out hlt)
   clear h1 h2
   generalize wl a=n at *
   generalize wl b=m at *
   go_enter Tryz.func141,Tryz.ntmps141
   go_wp2
   go_ret
   exact Ret.eq0 (Zp hQ.out.symm)
  ·have hQ:=lhd (h2.out (by omega))
   clear h1 h2
   generalize wl a=n at *
   generalize wl b=m at *
   go_enter Tryz.func141,Tryz.ntmps141
   go_wp2
   go_ret
   exact Ret.eq0 (Zp hQ.out.symm)
open Go.RowKit FF
theorem Zi{B:Nat}{a w:World}(h:Below B a w)(n:Nat):Below B a (w.drewN n):=⟨h.os,h.tape,h.output,h.size,h.block⟩
def rowF(ds:List Nat):Nat→Value:=fun j=>.int .u32 (ds.getD j 0:Nat)
theorem ZbV:(fun _:Nat=>Value.int .u32 0)=rowF []:=by funext j;simp[rowF]
theorem UP{w:World}{G T n:Nat}{ds:List Nat}{d:Nat}(h:w.rowIs G T n (rowF ds)):(w.setCell ⟨G,ds.length,none⟩ (.int .u32 (d:Nat))).rowIs G T n (rowF (ds++[d])):=by
 refine(h.set ds.length (.int .u32 (d:Nat))).congr fun i _=>?_
 unfold rowF
 rw[Zc0]
 split <;> rfl
theorem Kr{w:World}{G T n:Nat}{ds:List Nat}(h:w.rowIs G T n (rowF ds))(hl:ds.length=n):Shows .u32 w (some ⟨G,0,none⟩) ds:=by
 intro _
 refine⟨G,0,rfl,h.lt,fun i hi=>?_⟩
 rw[Nat.zero_add]
 exact h.cell (by omega)
theorem ZdB(m N:Nat)(h:N=m+1)(hl:N≤1000000000):∀ W:World,(Instr.makeSlice 183 (.int .i64 ((m:Int)+1)) (.int .i64 ((m:Int)+1))).run Tryz.prog W =
  .ok (.slice (some ⟨W.heap.size,0,none⟩) N N) (W.alloc (.cells (madeCells #[.int .u32 0] N) 135)):=by
 intro W
 have:=run_make_row' (P:=Tryz.prog) 183 135 (.int .u32 0) 4 Tryz.underlying183 Uh rfl .i64 .i64 N (by omega) (by omega) W
 rw[show(N:Int)=(m:Int)+1 by omega]at this
 exact this
theorem Zfi(A A':Option Addr)(xs ys:List Nat)(c c':Nat)(w:World)(hx:Shows .u32 w A xs)(hy:Shows .u32 w A' ys)(dx:Dig WB xs)(dy:Dig WB ys)(hxl:xs.length≤1000000)(hyl:ys.length≤1000000) :
  Calls Tryz.prog 140 #[.slice A xs.length c,.slice A' ys.length c'] w fun e w' =>
   ∃ A2,e=.returned (.slice A2 (wl (val WB xs+val WB ys)) (wl (val WB xs+val WB ys)))∧Shows .u32 w' A2 (digs WB (val WB xs+val WB ys))∧Fresh w.heap.size A2∧Below w.heap.size w w':=by
 obtain⟨N,hN⟩:=nmx (max xs.length ys.length+1)
 have hNl:N≤1000001:=by omega
 have hatx:=lhd (fun (i:Nat) (w':World) (hi:i≤N) (h:Shows .u32 w' A xs)=>Kb A xs c i w' h (by omega) dx)
 have haty:=lhd (fun (i:Nat) (w':World) (hi:i≤N) (h:Shows .u32 w' A' ys)=>Kb A' ys c' i w' h (by omega) dy)
 have bx:=lhd (fun i=>dx.getD (show 0<WB by decide) i)
 have by':=lhd (fun i=>dy.getD (show 0<WB by decide) i)
 have HX:=lhd hx;have HY:=lhd hy
 have fin1:=lhd (show xs.take N=xs from tOl (by omega))
 have fin2:=lhd (show ys.take N=ys from tOl (by omega))
 have lim:=lhd (show val WB xs+val WB ys<WB ^ N by
  have h1:=ZT dx
  have h2:=ZT dy
  have h3:WB ^ xs.length≤WB ^ (N-1):=Nat.pow_le_pow_right (by decide) (by omega)
  have h4:WB ^ ys.length≤WB ^ (N-1):=Nat.pow_le_pow_right (by decide) (by omega)
  have h5:WB ^ N=WB ^ (N-1)*WB:=by rw[← Nat.pow_succ];congr 1;omega
  have h6:WB ^ (N-1)*2≤WB ^ (N-1)*WB:=Nat.mul_le_mul_left _ WB2
  omega)
 clear hx hy dx dy
 have HN:=lhd hN;clear hN
 by_cases hlt:(xs.length:Int)<ys.length
 ·have hmk:=ZdB ys.length N (by have:=HN.out;omega) (by omega)
  generalize hn1:xs.length=n1 at *
  generalize hn2:ys.length=n2 at *
  go_enter Tryz.func140,Tryz.ntmps140
  go_wp2
  go_loopw [6,7,8,18] (fun s6 _ _ s18 wr=>∃ (i cy:Nat) (ds:List Nat),s6=.int .u64 cy∧s18=.int .i64 i∧i≤N∧cy≤1∧ds.length=i∧Dig WB ds∧val WB ds+WB ^ i*cy=val WB (xs.take i)+val WB (ys.take i)∧wr.rowIs w.heap.size 135 N (rowF ds)∧Below w.heap.size w wr) (fun _ _ _ s _=>N-(intOf s).toNat)
  case atStart=>exact⟨0,0,[],rfl,rfl,Nat.zero_le _,Nat.zero_le _,rfl,fun x hx=>absurd hx (by simp),by simp[val],(World.rowIs_made w _ N _).congr (fun i _=>by rw[← ZbV]),(Below.refl _ _).alloc (Nat.le_refl _) _⟩
  case round =>
   obtain⟨i,cy,ds,rfl,rfl,hi,hcy,hdl,hdd,hv,hr,hb⟩:=hrel
   by_cases hiN:i<N
   ·have sx:=HX.out.below hb
    have sy:=HY.out.below hb
    have bxi:=bx.out i
    have byi:=by'.out i
    have cx:=lhd (fun W (h:Shows .u32 W A xs)=>hatx.out i W (by omega) h)
    have cyy:=lhd (fun W (h:Shows .u32 W A' ys)=>haty.out i W (by omega) h)
    have hstep:=lhd (Zas (B:=WB) (c:=cy) hdl hv (rfl:xs.getD i 0+ys.getD i 0+cy=_))
    unfold WB at bxi byi
    have hcell:=hr.cell hiN
    have hfro:=hr.frozen i
    have hGs:w.heap.size<wr.heap.size:=hr.lt
    have HR:=lhd hr;have HB:=lhd hb;have HD:=lhd hdd;have HL:=lhd hdl
    have SX:=lhd sx;have SY:=lhd sy
    clear hv hr hb hdd hdl sx sy hatx haty bx by' fin1 fin2 lim hmk
    generalize xs.getD i 0=x at *
    generalize ys.getD i 0=y at *
    go_wp2_with fail
    refine(cx.out _ SX.out).mono ?_
    rintro e w' ⟨rfl,n3,rfl⟩
    go_wp2_with fail
    refine(cyy.out _ (SY.out.drewN _)).mono ?_
    rintro e w' ⟨rfl,n4,rfl⟩
    go_wp2_with fail
    refine⟨⟨i+1,(x+y+cy) / 4294967296,ds++[(x+y+cy) % 4294967296],rfl,by go_num,by omega,by omega,by simp[HL.out],XS HD.out (Nat.mod_lt _ (by decide)),hstep.out,?_,?_⟩,by simp[intOf];omega⟩
    ·have:=UP (d:=(x+y+cy) % 4294967296) (w:=wr.drewN (n3+n4)) (HR.out:(wr.drewN (n3+n4)).rowIs w.heap.size 135 N (rowF ds))
     rw[HL.out]at this
     exact this
    ·exact(Zi HB.out _).setCell (nlr _) _
   ·obtain rfl:N=i:=by omega
    have hz:cy=0:=by
     apply bCo;intro hc
     have h1:=lim.out
     have h2:WB ^ N*1≤WB ^ N*cy:=Nat.mul_le_mul_left _ (by omega)
     rw[fin1.out,fin2.out]at hv
     omega
    rw[fin1.out,fin2.out,hz,Nat.mul_zero,Nat.add_zero]at hv
    have sh:=Kr hr hdl
    have T1:=Z4 (some ⟨w.heap.size,0,none⟩) ds N wr sh hdd (by omega) (by unfold maxLen;omega)
    have S1:=sh.trim hdd
    rw[hdl,hv]at T1
    rw[hv]at S1
    have HT:=lhd T1;have HS:=lhd S1;have HB:=lhd hb
    clear T1 S1 hv hr hb hdd hdl sh hatx haty bx by' fin1 fin2 lim hmk hz
    go_wp2_with fail
    refine HT.out.mono ?_
    rintro e w' ⟨rfl,rfl⟩
    go_wp2_with fail
    go_ret
    exact⟨_,rfl,HS.out,Fresh.mk (nlr _),HB.out⟩
 ·have hmk:=ZdB xs.length N (by have:=HN.out;omega) (by omega)
  generalize hn1:xs.length=n1 at *
  generalize hn2:ys.length=n2 at *
  go_enter Tryz.func140,Tryz.ntmps140
  go_wp2
  go_loopw [6,7,8,18] (fun s6 _ _ s18 wr=>∃ (i cy:Nat) (ds:List Nat),s6=.int .u64 cy∧s18=.int .i64 i∧i≤N∧cy≤1∧ds.length=i∧Dig WB ds∧val WB ds+WB ^ i*cy=val WB (xs.take i)+val WB (ys.take i)∧wr.rowIs w.heap.size 135 N (rowF ds)∧Below w.heap.size w wr) (fun _ _ _ s _=>N-(intOf s).toNat)
  case atStart=>exact⟨0,0,[],rfl,rfl,Nat.zero_le _,Nat.zero_le _,rfl,fun x hx=>absurd hx (by simp),by simp[val],(World.rowIs_made w _ N _).congr (fun i _=>by rw[← ZbV]),(Below.refl _ _).alloc (Nat.le_refl _) _⟩
  case round =>
   obtain⟨i,cy,ds,rfl,rfl,hi,hcy,hdl,hdd,hv,hr,hb⟩:=hrel
   by_cases hiN:i<N
   ·have sx:=HX.out.below hb
    have sy:=HY.out.below hb
    have bxi:=bx.out i
    have byi:=by'.out i
    have cx:=lhd (fun W (h:Shows .u32 W A xs)=>hatx.out i W (by omega) h)
    have cyy:=lhd (fun W (h:Shows .u32 W A' ys)=>haty.out i W (by omega) h)
    have hstep:=lhd (Zas (B:=WB) (c:=cy) hdl hv (rfl:xs.getD i 0+ys.getD i 0+cy=_))
    unfold WB at bxi byi
    have hcell:=hr.cell hiN
    have hfro:=hr.frozen i
    have hGs:w.heap.size<wr.heap.size:=hr.lt
    have HR:=lhd hr;have HB:=lhd hb;have HD:=lhd hdd;have HL:=lhd hdl
    have SX:=lhd sx;have SY:=lhd sy
    clear hv hr hb hdd hdl sx sy hatx haty bx by' fin1 fin2 lim hmk
    generalize xs.getD i 0=x at *
    generalize ys.getD i 0=y at *
    go_wp2_with fail
    refine(cx.out _ SX.out).mono ?_
    rintro e w' ⟨rfl,n3,rfl⟩
    go_wp2_with fail
    refine(cyy.out _ (SY.out.drewN _)).mono ?_
    rintro e w' ⟨rfl,n4,rfl⟩
    go_wp2_with fail
    refine⟨⟨i+1,(x+y+cy) / 4294967296,ds++[(x+y+cy) % 4294967296],rfl,by go_num,by omega,by omega,by simp[HL.out],XS HD.out (Nat.mod_lt _ (by decide)),hstep.out,?_,?_⟩,by simp[intOf];omega⟩
    ·have:=UP (d:=(x+y+cy) % 4294967296) (w:=wr.drewN (n3+n4)) (HR.out:(wr.drewN (n3+n4)).rowIs w.heap.size 135 N (rowF ds))
     rw[HL.out]at this
     exact this
    ·exact(Zi HB.out _).setCell (nlr _) _
   ·obtain rfl:N=i:=by omega
    have hz:cy=0:=by
     apply bCo;intro hc
     have h1:=lim.out
     have h2:WB ^ N*1≤WB ^ N*cy:=Nat.mul_le_mul_left _ (by omega)
     rw[fin1.out,fin2.out]at hv
     omega
    rw[fin1.out,fin2.out,hz,Nat.mul_zero,Nat.add_zero]at hv
    have sh:=Kr hr hdl
    have T1:=Z4 (some ⟨w.heap.size,0,none⟩) ds N wr sh hdd (by omega) (by unfold maxLen;omega)
    have S1:=sh.trim hdd
    rw[hdl,hv]at T1
    rw[hv]at S1
    have HT:=lhd T1;have HS:=lhd S1;have HB:=lhd hb
    clear T1 S1 hv hr hb hdd hdl sh hatx haty bx by' fin1 fin2 lim hmk hz
    go_wp2_with fail
    refine HT.out.mono ?_
    rintro e w' ⟨rfl,rfl⟩
    go_wp2_with fail
    go_ret
    exact⟨_,rfl,HS.out,Fresh.mk (nlr _),HB.out⟩
end Go.Proofs.YthkklilhjnpedaaGreatDoor
