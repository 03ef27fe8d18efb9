/- Elements of algebras in the program: numerators, greatest common divisors, checks, lowest terms. A region that draws its order, whose first operations only read and call what leaves all that lay unturned, and whose last ones stand in a chain behind all others: one walk in the order of the text. Greatest common divisors, lowest terms, what fits, products in the program. -/
import Derived.Test.YthkklilhjnpedaaGreatDoorUBase
import Derived.Test.YthkklilhjnpedaaGreatDoorUQn0
import Derived.Deep.RegionWith
import Derived.BigRegion
import Derived.Deep.Quiet
import Derived.Deep.QuietTactic
import Derived.StillTail
import Derived.Lib.QuietBelow
import Derived.Deep.RegionHeld3
import Derived.Deep.DeepCutAuto
set_option maxHeartbeats 16000000
set_option maxRecDepth 8000
namespace Go.Proofs.YthkklilhjnpedaaGreatDoor
open Go.RowKit FF
def qv(q:Qt):Value:=.agg #[.int .i64 q.w,.int .i64 q.x,.int .i64 q.y,.int .i64 q.z,.int .i64 q.d]
def cv(w x y z:Int):Value:=.agg #[.int .i64 w,.int .i64 x,.int .i64 y,.int .i64 z]
theorem qabs_any(n:Int)(w:World)(h1:-9223372036854775807≤n)(h2:n≤9223372036854775807) :
  Calls Tryz.prog 159 #[.int .i64 n] w (Ret w (.int .i64 n.natAbs)):=by
 by_cases h:n<0
 ·have hN:=lhd (show(n.natAbs:Int) = -n by omega)
  go_enter Tryz.func159,Tryz.ntmps159
  go_wp2
  go_ret
  exact Ret.eq0 (Zp hN.out.symm)
 ·have hN:=lhd (show(n.natAbs:Int)=n by omega)
  go_enter Tryz.func159,Tryz.ntmps159
  go_wp2
  go_ret
  exact Ret.eq0 (Zp hN.out.symm)
theorem Uc{w:World}(o1 o2:Obj):Below w.heap.size w ((w.alloc o1).alloc o2):=((Below.refl _ _).alloc (Nat.le_refl _) _).alloc (by simp) _
theorem below_q3{w:World}(o1 o2 o3:Obj)(n:Nat):Below w.heap.size w ((((w.alloc o1).alloc o2).alloc o3).drewN n):=Zi ((Uc o1 o2).alloc (by simp;omega) _) n
theorem Zbh(a b c d e:Int)(w:World) :
  Calls Tryz.prog 35 #[.agg #[.int .i64 a,.int .i64 b,.int .i64 c,.int .i64 d,.int .i64 e]] w fun e w'=>e=.returned (cv a b c d)∧Below w.heap.size w w':=by
 go_enter Tryz.func35,Tryz.ntmps35
 go_wp2_with fail
 refine bodyPost_ret (v:=cv a b c d) (by simp[results,Tryz.results35,go_sem,cv]) rfl ?_
 exact⟨rfl,Uc _ _⟩
theorem ZiR(a b c d:Int)(w:World)(hb:-4611686018427387904≤b∧b≤4611686018427387904)(hc:-4611686018427387904≤c∧c≤4611686018427387904)(hd:-4611686018427387904≤d∧d≤4611686018427387904) :
  Calls Tryz.prog 39 #[cv a b c d] w fun e w'=>e=.returned (cv a (-b) (-c) (-d))∧Below w.heap.size w w':=by
 obtain⟨b1,b2⟩:=hb
 obtain⟨c1,c2⟩:=hc
 obtain⟨d1,d2⟩:=hd
 unfold cv
 go_enter Tryz.func39,Tryz.ntmps39
 go_wp2_with fail
 refine bodyPost_ret (v:=cv a (-b) (-c) (-d)) (by simp[results,Tryz.results39,go_sem,cv]) rfl ?_
 exact⟨rfl,Uc _ _⟩
@[local go_sem] theorem run_idx0 (c0 c1 c2 c3:Value) (w:World):(Instr.index 78 (.agg #[c0,c1,c2,c3]) (.int .i64 0)).run Tryz.prog w=.ok c0 w:=by kernel_rfl
@[local go_sem] theorem run_idx1 (c0 c1 c2 c3:Value) (w:World):(Instr.index 78 (.agg #[c0,c1,c2,c3]) (.int .i64 1)).run Tryz.prog w=.ok c1 w:=by kernel_rfl
@[local go_sem] theorem run_idx2 (c0 c1 c2 c3:Value) (w:World):(Instr.index 78 (.agg #[c0,c1,c2,c3]) (.int .i64 2)).run Tryz.prog w=.ok c2 w:=by kernel_rfl
@[local go_sem] theorem run_idx3 (c0 c1 c2 c3:Value) (w:World):(Instr.index 78 (.agg #[c0,c1,c2,c3]) (.int .i64 3)).run Tryz.prog w=.ok c3 w:=by kernel_rfl
theorem KR(n:Int):(n < -1000000∧cB n=false)∨(-1000000≤n∧1000000<n∧cB n=false)∨(-1000000≤n∧n≤1000000∧cB n=true):=by
 unfold cB;simp only[decide_eq_true_iff,decide_eq_false_iff_not];omega
theorem dB_cases(n:Int):(n<1∧dB n=false)∨(1≤n∧1000000<n∧dB n=false)∨(1≤n∧n≤1000000∧dB n=true):=by
 unfold dB;simp only[decide_eq_true_iff,decide_eq_false_iff_not];omega
set_option maxRecDepth 100000 in
theorem KS(q:Qt)(w:World) :
  Calls Tryz.prog 38 #[qv q] w fun e w'=>e=.returned (.int .i64 (qE q))∧Below w.heap.size w w':=by
 obtain⟨a,b,c,d,e⟩:=q
 have HO:=lhd (fun w=>Zbh a b c d e w)
 have HE:=lhd (show qE ⟨a,b,c,d,e⟩=if (cB a && cB b && cB c && cB d && dB e) then 0 else 3 from rfl)
 generalize qE ⟨a,b,c,d,e⟩=E at *
 unfold qv
 go_enter Tryz.func38,Tryz.ntmps38
 go_wp2_with fail
 refine(HO.out _).mono ?_
 rintro e1 w1 ⟨rfl,hb1⟩
 unfold cv
 have k:∀ i,w1.cell? ⟨w.heap.size,i,none⟩=#[Value.int .i64 a,.int .i64 b,.int .i64 c,.int .i64 d,.int .i64 e][i]?:=fun i=>by
  rw[hb1.cell (p:=⟨w.heap.size,i,none⟩) (by simp)];simp[go_sem]
 have k4:=k 4
 have HB:=lhd (((Below.refl w.heap.size w).alloc (Nat.le_refl _) _).trans (hb1.mono (by simp)))
 clear k hb1 HO
 go_wp2_with fail
 refine wp_loop_rounds 5 ?_
 rcases KR a with⟨g1,ha⟩ | ⟨g1,g2,ha⟩ | ⟨g1,g2,ha⟩
 ·have HQ:=lhd (HE.out.trans (by rw[ha]))
  clear HE ha
  rw[rounds_succ]
  go_wp2_with fail
  go_ret
  exact⟨Zp HQ.out.symm,HB.out⟩
 ·have HQ:=lhd (HE.out.trans (by rw[ha]))
  clear HE ha
  rw[rounds_succ]
  go_wp2_with fail
  go_ret
  exact⟨Zp HQ.out.symm,HB.out⟩
 have Ha:=lhd ha
 clear ha
 rw[rounds_succ]
 go_wp2_with fail
 clear g1 g2
 rcases KR b with⟨g1,hb⟩ | ⟨g1,g2,hb⟩ | ⟨g1,g2,hb⟩
 ·have HQ:=lhd (HE.out.trans (by rw[Ha.out,hb]))
  clear HE hb
  rw[rounds_succ]
  go_wp2_with fail
  go_ret
  exact⟨Zp HQ.out.symm,HB.out⟩
 ·have HQ:=lhd (HE.out.trans (by rw[Ha.out,hb]))
  clear HE hb
  rw[rounds_succ]
  go_wp2_with fail
  go_ret
  exact⟨Zp HQ.out.symm,HB.out⟩
 have Hb:=lhd hb
 clear hb
 rw[rounds_succ]
 go_wp2_with fail
 clear g1 g2
 rcases KR c with⟨g1,hc⟩ | ⟨g1,g2,hc⟩ | ⟨g1,g2,hc⟩
 ·have HQ:=lhd (HE.out.trans (by rw[Ha.out,Hb.out,hc]))
  clear HE hc
  rw[rounds_succ]
  go_wp2_with fail
  go_ret
  exact⟨Zp HQ.out.symm,HB.out⟩
 ·have HQ:=lhd (HE.out.trans (by rw[Ha.out,Hb.out,hc]))
  clear HE hc
  rw[rounds_succ]
  go_wp2_with fail
  go_ret
  exact⟨Zp HQ.out.symm,HB.out⟩
 have Hc:=lhd hc
 clear hc
 rw[rounds_succ]
 go_wp2_with fail
 clear g1 g2
 rcases KR d with⟨g1,hd⟩ | ⟨g1,g2,hd⟩ | ⟨g1,g2,hd⟩
 ·have HQ:=lhd (HE.out.trans (by rw[Ha.out,Hb.out,Hc.out,hd]))
  clear HE hd
  rw[rounds_succ]
  go_wp2_with fail
  go_ret
  exact⟨Zp HQ.out.symm,HB.out⟩
 ·have HQ:=lhd (HE.out.trans (by rw[Ha.out,Hb.out,Hc.out,hd]))
  clear HE hd
  rw[rounds_succ]
  go_wp2_with fail
  go_ret
  exact⟨Zp HQ.out.symm,HB.out⟩
 have Hd:=lhd hd
 clear hd
 rw[rounds_succ]
 go_wp2_with fail
 clear g1 g2
 rcases dB_cases e with⟨g1,he⟩ | ⟨g1,g2,he⟩ | ⟨g1,g2,he⟩
 ·have HQ:=lhd (HE.out.trans (by rw[Ha.out,Hb.out,Hc.out,Hd.out,he]))
  clear HE he
  rw[rounds_succ]
  go_wp2_with fail
  go_ret
  exact⟨Zp HQ.out.symm,HB.out⟩
 ·have HQ:=lhd (HE.out.trans (by rw[Ha.out,Hb.out,Hc.out,Hd.out,he]))
  clear HE he
  rw[rounds_succ]
  go_wp2_with fail
  go_ret
  exact⟨Zp HQ.out.symm,HB.out⟩
 ·have HQ:=lhd (HE.out.trans (by rw[Ha.out,Hb.out,Hc.out,Hd.out,he]))
  clear HE he
  rw[rounds_succ]
  go_wp2_with fail
  go_ret
  exact⟨Zp HQ.out.symm,HB.out⟩
open Go.RowKit FF
def Cells(W:World)(b:Nat)(vs:Array Value):Prop:=b<W.heap.size∧(∀ i,i<vs.size→W.cell? ⟨b,i,none⟩=vs[i]?)∧∀ i,W.frozen? ⟨b,i,none⟩=false
theorem Cells.new(W:World)(vs:Array Value)(T:TypeId){b:Nat}(hb:W.heap.size=b):Cells (W.alloc (.cells vs T)) b vs:=by
 subst hb
 exact⟨by simp,fun i _=>by simp[go_sem],fun i=>by simp[go_sem]⟩
theorem Cells.keep{W W':World}{b:Nat}{vs:Array Value}(h:Cells W b vs)(hb:Below W.heap.size W W'):Cells W' b vs:=
 ⟨nLl h.1 hb.size,fun i hi=>(hb.cell (p:=⟨b,i,none⟩) h.1).trans (h.2.1 i hi),fun i=>(hb.frozen (p:=⟨b,i,none⟩) h.1).trans (h.2.2 i)⟩
theorem Cells.alloc{W:World}{b:Nat}{vs:Array Value}(h:Cells W b vs)(o:Obj):Cells (W.alloc o) b vs:=h.keep ((Below.refl _ _).alloc (nlr _) _)
theorem Cells.one{W:World}{b:Nat}{v0:Value}(h:Cells W b #[v0]):W.cell? ⟨b,0,none⟩=some v0:=h.2.1 0 (by simp)
theorem Cells.two{W:World}{b:Nat}{v0 v1:Value}(h:Cells W b #[v0,v1]):W.cell? ⟨b,0,none⟩=some v0∧W.cell? ⟨b,1,none⟩=some v1:=⟨h.2.1 0 (by simp),h.2.1 1 (by simp)⟩
theorem Cells.four{W:World}{b:Nat}{v0 v1 v2 v3:Value}(h:Cells W b #[v0,v1,v2,v3]):W.cell? ⟨b,0,none⟩=some v0∧W.cell? ⟨b,1,none⟩=some v1∧W.cell? ⟨b,2,none⟩=some v2∧W.cell? ⟨b,3,none⟩=some v3:=
 ⟨h.2.1 0 (by simp),h.2.1 1 (by simp),h.2.1 2 (by simp),h.2.1 3 (by simp)⟩
theorem Cells.five{W:World}{b:Nat}{v0 v1 v2 v3 v4:Value}(h:Cells W b #[v0,v1,v2,v3,v4]):W.cell? ⟨b,0,none⟩=some v0∧W.cell? ⟨b,1,none⟩=some v1∧W.cell? ⟨b,2,none⟩=some v2∧W.cell? ⟨b,3,none⟩=some v3∧W.cell? ⟨b,4,none⟩=some v4:=
 ⟨h.2.1 0 (by simp),h.2.1 1 (by simp),h.2.1 2 (by simp),h.2.1 3 (by simp),h.2.1 4 (by simp)⟩
theorem Cells.fr{W:World}{b:Nat}{vs:Array Value}(h:Cells W b vs):W.frozen? ⟨b,0,none⟩=false∧W.frozen? ⟨b,1,none⟩=false∧W.frozen? ⟨b,2,none⟩=false∧W.frozen? ⟨b,3,none⟩=false∧W.frozen? ⟨b,4,none⟩=false:=⟨h.2.2 0,h.2.2 1,h.2.2 2,h.2.2 3,h.2.2 4⟩
def KT(w:World)(a:Addr):Value:=(w.cell? a).getD undef
theorem U3{w:World}{a:Addr}(h:∃ v,w.cell? a=some v):w.cell? a=some (KT w a):=by obtain⟨v,h⟩:=h;unfold KT;rw[h];rfl
structure Reg(w:World)(L:List (Nat × Array Value))(r n:Nat)(w':World):Prop where
 below:Below w.heap.size w w'
 bx:∀ x∈L,x.1<w'.heap.size∧x.1≠r∧∀ i,i<x.2.size→w'.cell? ⟨x.1,i,none⟩=x.2[i]?
 rge:w.heap.size≤r
 rlt:r<w'.heap.size
 rc:∀ i,i<n→∃ v,w'.cell? ⟨r,i,none⟩=some v
 fr:∀ i,w'.frozen? ⟨r,i,none⟩=false
section
variable {w w0 w1:World}{L:List (Nat × Array Value)}{r n:Nat}
theorem Reg.keep(h:Reg w L r n w0)(hb:Below w0.heap.size w0 w1):Reg w L r n w1:=
 ⟨h.below.trans (hb.mono h.below.size), fun x hx => ⟨nLl (h.bx x hx).1 hb.size, (h.bx x hx).2.1, fun i hi => (hb.cell (p := ⟨x.1, i, none⟩) (h.bx x hx).1).trans ((h.bx x hx).2.2 i hi)⟩, h.rge, nLl h.rlt hb.size,
  fun i hi=>by rw[hb.cell (p:=⟨r,i,none⟩) h.rlt];exact h.rc i hi,fun i=>(hb.frozen (p:=⟨r,i,none⟩) h.rlt).trans (h.fr i)⟩
theorem Reg.set(h:Reg w L r n w0)(k:Nat)(v:Value):Reg w L r n (w0.setCell ⟨r,k,none⟩ v):=
 ⟨h.below.setCell h.rge v, fun x hx => ⟨by simpa [World.setCell] using (h.bx x hx).1, (h.bx x hx).2.1, fun i hi => by
   rw[World.cell?_setCell_other _ _ _ _ (fun e=>(h.bx x hx).2.1 (by injection e with e;exact e.symm))];exact(h.bx x hx).2.2 i hi⟩,h.rge,by simpa[World.setCell] using h.rlt,
  fun i hi=>by
   obtain⟨u,hu⟩:=h.rc i hi
   by_cases hik:k=i
   ·subst hik;exact⟨v,by simp[go_sem,hu]⟩
   ·exact⟨u,by rw[World.cell?_setCell_other _ _ _ _ (fun e=>hik (by injection e))];exact hu⟩,
  fun i=>by simp[go_sem,h.fr]⟩
theorem Reg.box(h:Reg w L r n w0){b:Nat}{vs:Array Value}(hm:(b,vs)∈L)(i:Nat)(hi:i<vs.size):w0.cell? ⟨b,i,none⟩=vs[i]?:=(h.bx (b,vs) hm).2.2 i hi
theorem Reg.two(h:Reg w L r n w0){b:Nat}{v0 v1:Value}(hm:(b,#[v0,v1])∈L):w0.cell? ⟨b,0,none⟩=some v0∧w0.cell? ⟨b,1,none⟩=some v1:=⟨h.box hm 0 (by simp),h.box hm 1 (by simp)⟩
theorem Reg.five(h:Reg w L r n w0){b:Nat}{v0 v1 v2 v3 v4:Value}(hm:(b,#[v0,v1,v2,v3,v4])∈L):w0.cell? ⟨b,0,none⟩=some v0∧w0.cell? ⟨b,1,none⟩=some v1∧w0.cell? ⟨b,2,none⟩=some v2∧w0.cell? ⟨b,3,none⟩=some v3∧w0.cell? ⟨b,4,none⟩=some v4:=
 ⟨h.box hm 0 (by simp),h.box hm 1 (by simp),h.box hm 2 (by simp),h.box hm 3 (by simp),h.box hm 4 (by simp)⟩
abbrev Res5(r:Nat)(w':World):Prop:=
 w'.cell? ⟨r,0,none⟩=some (KT w' ⟨r,0,none⟩)∧w'.cell? ⟨r,1,none⟩=some (KT w' ⟨r,1,none⟩)∧w'.cell? ⟨r,2,none⟩=some (KT w' ⟨r,2,none⟩)∧w'.cell? ⟨r,3,none⟩=some (KT w' ⟨r,3,none⟩)∧w'.cell? ⟨r,4,none⟩=some (KT w' ⟨r,4,none⟩) ∧
 w'.frozen? ⟨r,0,none⟩=false∧w'.frozen? ⟨r,1,none⟩=false∧w'.frozen? ⟨r,2,none⟩=false∧w'.frozen? ⟨r,3,none⟩=false∧w'.frozen? ⟨r,4,none⟩=false
theorem Reg.res5(h:Reg w L r 5 w0):Res5 r w0:=⟨U3 (h.rc 0 (by omega)),U3 (h.rc 1 (by omega)),U3 (h.rc 2 (by omega)),U3 (h.rc 3 (by omega)),U3 (h.rc 4 (by omega)),h.fr 0,h.fr 1,h.fr 2,h.fr 3,h.fr 4⟩
theorem Reg.set5(h:Reg w L r 5 w0)(u0 u1 u2 u3 u4:Value):Reg w L r 5 (((((w0.setCell ⟨r,0,none⟩ u0).setCell ⟨r,1,none⟩ u1).setCell ⟨r,2,none⟩ u2).setCell ⟨r,3,none⟩ u3).setCell ⟨r,4,none⟩ u4):=((((h.set 0 u0).set 1 u1).set 2 u2).set 3 u3).set 4 u4
theorem Reg.fin5(h:Reg w L r 5 w0)(u0 u1 u2 u3 u4:Value):∃ W9,(((((w0.setCell ⟨r,0,none⟩ u0).setCell ⟨r,1,none⟩ u1).setCell ⟨r,2,none⟩ u2).setCell ⟨r,3,none⟩ u3).setCell ⟨r,4,none⟩ u4)=W9 ∧
  W9.cell? ⟨r,0,none⟩=some u0∧W9.cell? ⟨r,1,none⟩=some u1∧W9.cell? ⟨r,2,none⟩=some u2∧W9.cell? ⟨r,3,none⟩=some u3∧W9.cell? ⟨r,4,none⟩=some u4∧Below w.heap.size w W9:=by
 obtain⟨v0,h0⟩:=h.rc 0 (by omega)
 obtain⟨v1,h1⟩:=h.rc 1 (by omega)
 obtain⟨v2,h2⟩:=h.rc 2 (by omega)
 obtain⟨v3,h3⟩:=h.rc 3 (by omega)
 obtain⟨v4,h4⟩:=h.rc 4 (by omega)
 refine⟨_,rfl,?_,?_,?_,?_,?_,(h.set5 u0 u1 u2 u3 u4).below⟩ <;> simp[go_sem,h0,h1,h2,h3,h4]
theorem Reg.nil(hb:Below w.heap.size w w0)(hr:w.heap.size≤r){vs:Array Value}(hc:Cells w0 r vs):Reg w [] r vs.size w0:=
 ⟨hb,fun x hx=>(by cases hx),hr,hc.1,fun i hi=>⟨vs[i],by rw[hc.2.1 i hi,Array.getElem?_eq_getElem hi]⟩,hc.2.2⟩
theorem Reg.cons(h:Reg w L r n w0){b:Nat}{vs:Array Value}(hc:Cells w0 b vs)(hr:b≠r):Reg w ((b,vs)::L) r n w0:=
 ⟨h.below, fun x hx => by
  rcases List.mem_cons.1 hx with e | e
  ·subst e;exact⟨hc.1,hr,hc.2.1⟩
  ·exact h.bx x e,h.rge,h.rlt,h.rc,h.fr⟩
end
open Go.RowKit FF
theorem qgcd_any(A:Option Addr)(xs:List Int)(n c:Nat)(w:World)(hx:ShowsI w A xs)(hn:xs.length=n)(hn9:n≤100)(hb:∀ i,i<n→-4611686018427387904≤xs.getD i 0∧xs.getD i 0≤4611686018427387904) :
  Calls Tryz.prog 115 #[.slice A n c] w (Ret w (.int .i64 (gcdL xs))):=by
 have HN:=lhd hn
 have HX:=lhd hx
 have HB:=lhd hb
 have hAbs:=lhd qabs_any
 clear hx hn hb
 go_enter Tryz.func115,Tryz.ntmps115
 go_wp2_with fail
 go_loopw [3,8] (fun s3 s8 wr=>∃ (k:Nat) (g:Int),s8=.int .i64 k∧k≤n∧s3=.int .i64 g∧g=gcdL (xs.take k)∧0≤g∧g≤4611686018427387904∧∃ m,wr=w.drewN m) (fun _ s _=>n-(intOf s).toNat)
 case atStart=>exact⟨0,0,rfl,by omega,rfl,rfl,by omega,by omega,0,rfl⟩
 case round =>
  obtain⟨k,g,rfl,hk,rfl,hg,g0,g1,m,rfl⟩:=hrel
  have HG:=lhd hg;clear hg
  by_cases h0:k<n
  ·obtain⟨b1,o1,rfl,hb1,hc1⟩:=HX.out (by rw[HN.out];omega)
   have x1:=hc1 k (by rw[HN.out];omega)
   obtain⟨b1,b2⟩:=HB.out k h0
   have HT:=lhd (show gcdL (xs.take (k+1))=Int.gcd g (xs.getD k 0) by
    rw[List.take_succ_eq_append_getElem (by rw[HN.out];exact h0),ZiX,HG.out,gDg,gEe (by rw[HN.out];exact h0)];rfl)
   clear hc1
   generalize xs.getD k 0=y at *
   have HA:=lhd (fun w=>hAbs.out y w (by omega) (by omega))
   have hy:∃ z:Int,(y.natAbs:Int)=z∧0≤z∧z≤4611686018427387904:=⟨_,rfl,by omega,by omega⟩
   obtain⟨z,hz,z0,z1⟩:=hy
   have HT2:=lhd (show(gcdL (xs.take (k+1)):Int)=Int.gcd g z by
    rw[HT.out,← hz];simp only[Int.gcd,Int.natAbs_natCast])
   rw[hz]at HA
   clear HT hz
   go_wp2_with fail
   refine(HA.out _).mono ?_
   rintro e w' ⟨rfl,n1,rfl⟩
   go_wp2_with fail
   go_loopw [3,5] (fun s3 s5 wr=>∃ (x z:Int),s3=.int .i64 x∧s5=.int .i64 z∧0≤x∧x≤4611686018427387904∧0≤z∧z≤4611686018427387904∧(gcdL (xs.take (k+1)):Int)=Int.gcd x z∧∃ m,wr=w.drewN m) (fun _ s _=>(intOf s).toNat)
   case atStart=>exact⟨g,z,rfl,rfl,g0,g1,z0,z1,HT2.out,_,rfl⟩
   case round =>
    clear HT2 g0 g1 z0 z1 HA
    obtain⟨x,z,rfl,rfl,x0,x9,z0,z9,hT,m2,rfl⟩:=hrel
    have HT:=lhd hT;clear hT
    rcases Int.lt_or_le 0 z with hz | hz
    ·have HT3:=lhd (show(gcdL (xs.take (k+1)):Int)=Int.gcd z (x % z) by
      rw[HT.out,← Int.tmod_eq_emod_of_nonneg x0,Zd1])
     have r0:=Int.emod_nonneg x (b:=z) (by omega)
     have r1:=Int.emod_lt_of_pos x hz
     clear HT
     go_wp2_with fail
     go_quiet (fail)
     go_wp2_with fail
     exact⟨⟨z,x % z,rfl,rfl,by omega,by omega,r0,by omega,HT3.out,_,by rw[World.drewN_drewN]⟩,by simp[intOf];omega⟩
    ·obtain rfl:z=0:=by omega
     have HT3:=lhd (show x=gcdL (xs.take (k+1)) by rw[HT.out];simp;omega)
     clear HT
     go_wp2_with fail
     exact⟨⟨k+1,x,by go_num,by omega,rfl,HT3.out,x0,x9,_,rfl⟩,by simp[intOf];omega⟩
  ·obtain rfl:k=n:=by omega
   have HQ:=lhd (show g=gcdL xs by rw[HG.out,tOl (by rw[HN.out];exact nlr _)])
   clear HG HB hAbs
   go_wp2_with fail
   go_ret
   exact Ret.eq _ (Zp HQ.out)
abbrev S4(W:World)(a:Nat)(v0 v1 v2 v3:Value)(w':World):Prop:=Below W.heap.size W w'∧w'.cell? ⟨a,0,none⟩=some v0∧w'.cell? ⟨a,1,none⟩=some v1∧w'.cell? ⟨a,2,none⟩=some v2∧w'.cell? ⟨a,3,none⟩=some v3
theorem S4.keep{W:World}{a:Nat}{v0 v1 v2 v3:Value}{w0 w1:World}(h:S4 W a v0 v1 v2 v3 w0)(ha:a<W.heap.size)(hb:Below w0.heap.size w0 w1):S4 W a v0 v1 v2 v3 w1:=by
 obtain⟨b,h1,h2,h3,h4⟩:=h
 have h5:=nLl ha b.size
 exact⟨b.trans (hb.mono b.size),(hb.cell (p:=⟨a,0,none⟩) h5).trans h1,(hb.cell (p:=⟨a,1,none⟩) h5).trans h2,(hb.cell (p:=⟨a,2,none⟩) h5).trans h3,(hb.cell (p:=⟨a,3,none⟩) h5).trans h4⟩
theorem Zhd(W:World)(T:TypeId){B:Nat}(hB:W.heap.size=B)(a b c d e:Int):ShowsI (W.alloc (.cells #[.int .i64 a,.int .i64 b,.int .i64 c,.int .i64 d,.int .i64 e] T)) (some ⟨B,0,none⟩) [a,b,c,d,e]:=by
 subst hB
 exact ShowsI.new fun i hi=>by match i,hi with | 0,_=>rfl | 1,_=>rfl | 2,_=>rfl | 3,_=>rfl | 4,_=>rfl
def KU(q:Qt):Prop:=(-4611686018427387904≤q.w∧q.w≤4611686018427387904)∧(-4611686018427387904≤q.x∧q.x≤4611686018427387904)∧(-4611686018427387904≤q.y∧q.y≤4611686018427387904)∧(-4611686018427387904≤q.z∧q.z≤4611686018427387904)∧(-4611686018427387904≤q.d∧q.d≤4611686018427387904)
set_option maxRecDepth 100000 in
theorem ZiS(a b c d e:Int)(w:World)(hf:KU ⟨a,b,c,d,e⟩)(he:e≠0) :
  Calls Tryz.prog 70 #[cv a b c d,.int .i64 e] w fun r w'=>r=.returned (.tuple #[qv (nrm ⟨a,b,c,d,e⟩),.bool (qB (nrm ⟨a,b,c,d,e⟩))])∧Below w.heap.size w w':=by
 have HC:=lhd (fun w=>KS (nrm ⟨a,b,c,d,e⟩) w)
 have HE:=lhd (show(qE (nrm ⟨a,b,c,d,e⟩) == 0)=qB (nrm ⟨a,b,c,d,e⟩) by unfold qE;cases qB (nrm ⟨a,b,c,d,e⟩) <;> rfl)
 have hg:=gs_ne (q:=⟨a,b,c,d,e⟩) he
 have hgq:=gq_pos (q:=⟨a,b,c,d,e⟩) he
 have hgl:(gq ⟨a,b,c,d,e⟩:Int)≤4611686018427387904:=by
  have h1:=Int.le_of_dvd (show(0:Int)<(e.natAbs:Int) by omega) (Int.dvd_natAbs.2 (gq_dvd ⟨a,b,c,d,e⟩).2.2.2.2)
  have h2:=hf.2.2.2.2
  simp only at h2
  omega
 have hgs:gs ⟨a,b,c,d,e⟩=if e<0 then -(gq ⟨a,b,c,d,e⟩:Int) else gq ⟨a,b,c,d,e⟩:=rfl
 have hG:=lhd (fun (A:Option Addr) (cc:Nat) (w:World) (hx:ShowsI w A [a,b,c,d,e])=>(show Calls Tryz.prog 115 #[.slice A 5 cc] w (Ret w (.int .i64 (gq ⟨a,b,c,d,e⟩))) by
  have h:=qgcd_any A [a,b,c,d,e] 5 cc w hx rfl (by omega) (fun i hi=>by
   obtain⟨h1,h2,h3,h4,h5⟩:=hf
   match i,hi with
   | 0,_=>exact h1
   | 1,_=>exact h2
   | 2,_=>exact h3
   | 3,_=>exact h4
   | 4,_=>exact h5)
  rw[ZiW]at h
  exact h))
 have hN:nrm ⟨a,b,c,d,e⟩=⟨a.tdiv (gs ⟨a,b,c,d,e⟩),b.tdiv (gs ⟨a,b,c,d,e⟩),c.tdiv (gs ⟨a,b,c,d,e⟩),d.tdiv (gs ⟨a,b,c,d,e⟩),e.tdiv (gs ⟨a,b,c,d,e⟩)⟩:=rfl
 obtain⟨⟨a1,a2⟩,⟨b1,b2⟩,⟨c1,c2⟩,⟨d1,d2⟩,⟨e1,e2⟩⟩:=hf
 simp only at a1 a2 b1 b2 c1 c2 d1 d2 e1 e2
 obtain⟨ta1,ta2⟩:=Kx (a:=a) (g:=gs ⟨a,b,c,d,e⟩) (m:=4611686018427387904) ⟨a1,a2⟩
 obtain⟨tb1,tb2⟩:=Kx (a:=b) (g:=gs ⟨a,b,c,d,e⟩) (m:=4611686018427387904) ⟨b1,b2⟩
 obtain⟨tc1,tc2⟩:=Kx (a:=c) (g:=gs ⟨a,b,c,d,e⟩) (m:=4611686018427387904) ⟨c1,c2⟩
 obtain⟨td1,td2⟩:=Kx (a:=d) (g:=gs ⟨a,b,c,d,e⟩) (m:=4611686018427387904) ⟨d1,d2⟩
 obtain⟨te1,te2⟩:=Kx (a:=e) (g:=gs ⟨a,b,c,d,e⟩) (m:=4611686018427387904) ⟨e1,e2⟩
 generalize qE (nrm ⟨a,b,c,d,e⟩)=E at *
 generalize qB (nrm ⟨a,b,c,d,e⟩)=B at *
 generalize nrm ⟨a,b,c,d,e⟩=N at *
 subst hN
 generalize gs ⟨a,b,c,d,e⟩=g at *
 generalize gq ⟨a,b,c,d,e⟩=G at *
 unfold cv
 go_enter Tryz.func70,Tryz.ntmps70
 go_wp2_with fail
 refine(hG.out _ _ _ (Zhd _ _ (by simp) a b c d e)).mono ?_
 rintro e' w' ⟨rfl,n1,rfl⟩
 clear hG
 have hW:∃ W7:World,W7=((((w.alloc (.cells #[.int .i64 a,.int .i64 b,.int .i64 c,.int .i64 d] 78)).alloc (.cells #[.int .i64 0,.int .i64 0,.int .i64 0,.int .i64 0,.int .i64 0] 37)).alloc (.cells #[.int .i64 a,.int .i64 b,.int .i64 c,.int .i64 d,.int .i64 e] 3)).drewN n1):=⟨_,rfl⟩
 obtain⟨W7,hW⟩:=hW
 rw[← hW]
 have HB:=lhd (show Below w.heap.size w W7 by rw[hW];exact below_q3 _ _ _ _)
 have hC:=show Cells W7 w.heap.size #[.int .i64 a,.int .i64 b,.int .i64 c,.int .i64 d] by rw[hW];exact(((Cells.new w _ _ rfl).alloc _).alloc _).keep (Zi (Below.refl _ _) _)
 have hR:=lhd (show Cells W7 (w.heap.size+1) #[.int .i64 0,.int .i64 0,.int .i64 0,.int .i64 0,.int .i64 0] by rw[hW];exact((Cells.new (w.alloc _) _ _ (by simp)).alloc _).keep (Zi (Below.refl _ _) _))
 have hs:W7.heap.size=w.heap.size+3:=by rw[hW];simp
 obtain⟨k0,k1,k2,k3⟩:=hC.four
 clear hW hC
 have wrap_of:∀ x:Int,-4611686018427387904≤x→x≤4611686018427387904→IntKind.i64.wrap x=x:=fun x h1 h2=>by rw[IntKind.wrap_i64];omega
 have ea:=wrap_of _ ta1 ta2
 have eb:=wrap_of _ tb1 tb2
 have ec:=wrap_of _ tc1 tc2
 have ed:=wrap_of _ td1 td2
 have ee:=wrap_of _ te1 te2
 clear wrap_of ta1 ta2 tb1 tb2 tc1 tc2 td1 td2 te1 te2
 have ha:w.heap.size<W7.heap.size:=by omega
 have HS0:S4 W7 w.heap.size (.int .i64 a) (.int .i64 b) (.int .i64 c) (.int .i64 d) W7:=⟨Below.refl _ _,k0,k1,k2,k3⟩
 rcases Int.lt_or_le e 0 with hl | hl
 ·rw[if_pos hl]at hgs
  have hn:-4611686018427387904≤-(G:Int):=by omega
  have hn2:-(G:Int)≤4611686018427387904:=by omega
  clear hgq hgl
  go_upto_region 4 with fail
  rw[← hgs]
  clear hgs hl hn hn2 he a1 a2 b1 b2 c1 c2 d1 d2 e1 e2
  go_region_held3 (fun w'=>Below W7.heap.size W7 w'∧w'.cell? ⟨w.heap.size,0,none⟩=some (.int .i64 a)∧w'.cell? ⟨w.heap.size,1,none⟩=some (.int .i64 b)∧w'.cell? ⟨w.heap.size,2,none⟩=some (.int .i64 c)∧w'.cell? ⟨w.heap.size,3,none⟩=some (.int .i64 d))
   (first
    | exact⟨(Below.refl _ _).drew,k0,k1,k2,k3⟩
    | exact S4.keep (by assumption) ha ((Below.refl _ _).alloc (nlr _) _)
    | exact S4.keep HS0 ha ((Below.refl _ _).alloc (nlr _) _).drew)
   (fail)
  clear HS0 k0 k1 k2 k3 ea eb ec ed ee
  generalize hna:a.tdiv g=na at *
  generalize hnb:b.tdiv g=nb at *
  generalize hnc:c.tdiv g=nc at *
  generalize hnd:d.tdiv g=nd at *
  generalize hne:e.tdiv g=ne at *
  simp only[qv]at HC
  obtain⟨W8,hW8⟩:∃ W8:World,W8=(W7.alloc (.cells #[.int .i64 na,.int .i64 nb,.int .i64 nc,.int .i64 nd,.int .i64 ne] 37)).drew:=⟨_,rfl⟩
  rw[← hW8]
  have hN:=show Cells W8 (w.heap.size+3) #[.int .i64 na,.int .i64 nb,.int .i64 nc,.int .i64 nd,.int .i64 ne] by rw[hW8];exact(Cells.new W7 _ _ hs).keep (Below.refl _ _).drew
  have HR:=lhd (show Cells W8 (w.heap.size+1) #[.int .i64 0,.int .i64 0,.int .i64 0,.int .i64 0,.int .i64 0] by rw[hW8];exact(hR.out.alloc _).keep (Below.refl _ _).drew)
  have HB8:=lhd (show Below w.heap.size w W8 by rw[hW8];exact(HB.out.alloc HB.out.size _).drew)
  clear hW8 hR HB
  rename_i hHeld
  clear hHeld
  obtain⟨k0,k1,k2,k3,k4⟩:=hN.five
  have HG:=show Reg w [(w.heap.size+3,#[.int .i64 na,.int .i64 nb,.int .i64 nc,.int .i64 nd,.int .i64 ne])] (w.heap.size+1) 5 W8 from(Reg.nil HB8.out (by omega) HR.out).cons hN (by omega)
  have mk:=fun w' (h:Reg w [(w.heap.size+3,#[.int .i64 na,.int .i64 nb,.int .i64 nc,.int .i64 nd,.int .i64 ne])] (w.heap.size+1) 5 w')=>And.intro h (And.intro (h.five (List.mem_singleton.2 rfl)) h.res5)
  have MK:=lhd mk
  have HG:=lhd (mk _ (HG.keep (Below.refl _ _).drew))
  clear mk hN HR
  go_upto_region 5 with fail
  go_region_held3 (fun w'=>Reg w [(w.heap.size+3,#[.int .i64 na,.int .i64 nb,.int .i64 nc,.int .i64 nd,.int .i64 ne])] (w.heap.size+1) 5 w'∧(w'.cell? ⟨w.heap.size+3,0,none⟩=some (.int .i64 na)∧w'.cell? ⟨w.heap.size+3,1,none⟩=some (.int .i64 nb)∧w'.cell? ⟨w.heap.size+3,2,none⟩=some (.int .i64 nc)∧w'.cell? ⟨w.heap.size+3,3,none⟩=some (.int .i64 nd)∧w'.cell? ⟨w.heap.size+3,4,none⟩=some (.int .i64 ne))∧Res5 (w.heap.size+1) w')
   (first
    | exact HG.out
    | exact MK.out _ (Reg.keep (And.left (by assumption)) (by assumption))
    | exact MK.out _ (Reg.set5 (And.left (by assumption)) _ _ _ _ _))
   (first
    | (go_at_call 38;(with_reducible refine(HC.out _).mono ?_);rintro e w' ⟨rfl,hb⟩))
  obtain⟨W9,e9,q0,q1,q2,q3,q4,B9⟩:=Reg.fin5 (HG.out.1.keep hb) (.int .i64 na) (.int .i64 nb) (.int .i64 nc) (.int .i64 nd) (.int .i64 ne)
  rw[e9]
  clear e9 HG MK hb
  go_wp2_with fail
  refine bodyPost_ret (v:=.tuple #[qv ⟨na,nb,nc,nd,ne⟩,.bool B]) (by simp[results,Tryz.results70,go_sem,q0,q1,q2,q3,q4,qv,HE.out]) rfl ?_
  exact⟨by rw[hna,hnb,hnc,hnd,hne],B9⟩
 ·rw[if_neg (by omega)]at hgs
  clear hgq hgl
  go_upto_region 4 with fail
  rw[← hgs]
  clear hgs hl he a1 a2 b1 b2 c1 c2 d1 d2 e1 e2
  go_region_held3 (fun w'=>Below W7.heap.size W7 w'∧w'.cell? ⟨w.heap.size,0,none⟩=some (.int .i64 a)∧w'.cell? ⟨w.heap.size,1,none⟩=some (.int .i64 b)∧w'.cell? ⟨w.heap.size,2,none⟩=some (.int .i64 c)∧w'.cell? ⟨w.heap.size,3,none⟩=some (.int .i64 d))
   (first
    | exact⟨(Below.refl _ _).drew,k0,k1,k2,k3⟩
    | exact S4.keep (by assumption) ha ((Below.refl _ _).alloc (nlr _) _)
    | exact S4.keep HS0 ha ((Below.refl _ _).alloc (nlr _) _).drew)
   (fail)
  clear HS0 k0 k1 k2 k3 ea eb ec ed ee
  generalize hna:a.tdiv g=na at *
  generalize hnb:b.tdiv g=nb at *
  generalize hnc:c.tdiv g=nc at *
  generalize hnd:d.tdiv g=nd at *
  generalize hne:e.tdiv g=ne at *
  simp only[qv]at HC
  obtain⟨W8,hW8⟩:∃ W8:World,W8=(W7.alloc (.cells #[.int .i64 na,.int .i64 nb,.int .i64 nc,.int .i64 nd,.int .i64 ne] 37)).drew:=⟨_,rfl⟩
  rw[← hW8]
  have hN:=show Cells W8 (w.heap.size+3) #[.int .i64 na,.int .i64 nb,.int .i64 nc,.int .i64 nd,.int .i64 ne] by rw[hW8];exact(Cells.new W7 _ _ hs).keep (Below.refl _ _).drew
  have HR:=lhd (show Cells W8 (w.heap.size+1) #[.int .i64 0,.int .i64 0,.int .i64 0,.int .i64 0,.int .i64 0] by rw[hW8];exact(hR.out.alloc _).keep (Below.refl _ _).drew)
  have HB8:=lhd (show Below w.heap.size w W8 by rw[hW8];exact(HB.out.alloc HB.out.size _).drew)
  clear hW8 hR HB
  rename_i hHeld
  clear hHeld
  obtain⟨k0,k1,k2,k3,k4⟩:=hN.five
  have HG:=show Reg w [(w.heap.size+3,#[.int .i64 na,.int .i64 nb,.int .i64 nc,.int .i64 nd,.int .i64 ne])] (w.heap.size+1) 5 W8 from(Reg.nil HB8.out (by omega) HR.out).cons hN (by omega)
  have mk:=fun w' (h:Reg w [(w.heap.size+3,#[.int .i64 na,.int .i64 nb,.int .i64 nc,.int .i64 nd,.int .i64 ne])] (w.heap.size+1) 5 w')=>And.intro h (And.intro (h.five (List.mem_singleton.2 rfl)) h.res5)
  have MK:=lhd mk
  have HG:=lhd (mk _ (HG.keep (Below.refl _ _).drew))
  clear mk hN HR
  go_upto_region 5 with fail
  go_region_held3 (fun w'=>Reg w [(w.heap.size+3,#[.int .i64 na,.int .i64 nb,.int .i64 nc,.int .i64 nd,.int .i64 ne])] (w.heap.size+1) 5 w'∧(w'.cell? ⟨w.heap.size+3,0,none⟩=some (.int .i64 na)∧w'.cell? ⟨w.heap.size+3,1,none⟩=some (.int .i64 nb)∧w'.cell? ⟨w.heap.size+3,2,none⟩=some (.int .i64 nc)∧w'.cell? ⟨w.heap.size+3,3,none⟩=some (.int .i64 nd)∧w'.cell? ⟨w.heap.size+3,4,none⟩=some (.int .i64 ne))∧Res5 (w.heap.size+1) w')
   (first
    | exact HG.out
    | exact MK.out _ (Reg.keep (And.left (by assumption)) (by assumption))
    | exact MK.out _ (Reg.set5 (And.left (by assumption)) _ _ _ _ _))
   (first
    | (go_at_call 38;(with_reducible refine(HC.out _).mono ?_);rintro e w' ⟨rfl,hb⟩))
  obtain⟨W9,e9,q0,q1,q2,q3,q4,B9⟩:=Reg.fin5 (HG.out.1.keep hb) (.int .i64 na) (.int .i64 nb) (.int .i64 nc) (.int .i64 nd) (.int .i64 ne)
  rw[e9]
  clear e9 HG MK hb
  go_wp2_with fail
  refine bodyPost_ret (v:=.tuple #[qv ⟨na,nb,nc,nd,ne⟩,.bool B]) (by simp[results,Tryz.results70,go_sem,q0,q1,q2,q3,q4,qv,HE.out]) rfl ?_
  exact⟨by rw[hna,hnb,hnc,hnd,hne],B9⟩
end Go.Proofs.YthkklilhjnpedaaGreatDoor
