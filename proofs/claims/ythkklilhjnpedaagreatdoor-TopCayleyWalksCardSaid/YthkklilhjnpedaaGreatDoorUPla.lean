/- The plane modulo 5 in the program: matrices of quaternions, classes in normal form, the root of -1, the plane itself. -/
import Derived.Test.YthkklilhjnpedaaGreatDoorUJw
import Derived.Test.YthkklilhjnpedaaGreatDoorUPfn
import Derived.Test.YthkklilhjnpedaaGreatDoorURep
import Derived.Test.YthkklilhjnpedaaGreatDoorUCrt0
set_option maxHeartbeats 16000000
set_option maxRecDepth 8000
namespace Go.Proofs.YthkklilhjnpedaaGreatDoor
section
open Go.RowKit FF
theorem tm5(n:Int):(n.tmod 5+5).tmod 5=n % 5:=by
 rcases Int.le_total 0 n with h | h
 ·rw[Int.tmod_eq_emod_of_nonneg h,Int.tmod_eq_emod_of_nonneg (by omega)];omega
 ·have e:n.tmod 5 = -((-n) % 5):=by
   have:=Int.neg_tmod (a:=-n) (b:=5)
   rw[Int.neg_neg]at this
   rw[this,Int.tmod_eq_emod_of_nonneg (by omega)]
  rw[e,Int.tmod_eq_emod_of_nonneg (by omega)];omega
theorem Zgs(n:Int):-4≤n.tmod 5∧n.tmod 5≤4:=by
 rcases Int.le_total 0 n with h | h
 ·rw[Int.tmod_eq_emod_of_nonneg h];omega
 ·have e:n.tmod 5 = -((-n) % 5):=by
   have:=Int.neg_tmod (a:=-n) (b:=5)
   rw[Int.neg_neg]at this
   rw[this,Int.tmod_eq_emod_of_nonneg (by omega)]
  omega
theorem tm5e(n:Int):(n.tmod 5+5) % 5=n % 5:=by
 have h:=tm5 n
 have:=Zgs n
 rw[Int.tmod_eq_emod_of_nonneg (by omega)]at h
 exact h
def PlV(X G:Nat)(W:World):Prop:=Cells W X #[.int .i64 5,.slice (some ⟨G,0,none⟩) 5 5]∧Cells W G #[.int .i64 0,.int .i64 1,.int .i64 3,.int .i64 2,.int .i64 4]
theorem PlV.keep{X G:Nat}{W W':World}(h:PlV X G W)(hb:Below W.heap.size W W'):PlV X G W':=⟨h.1.keep hb,h.2.keep hb⟩
theorem pmod_any{X G:Nat}(n:Int)(w:World)(h:PlV X G w):Calls Tryz.prog 61 #[.pointer (some ⟨X,0,none⟩),.int .i64 n] w (Ret w (.int .i64 (n % 5))):=by
 have H:=lhd (tm5e n)
 obtain⟨b1,b2⟩:=Zgs n
 obtain⟨c0,-⟩:=h.1.two
 clear h
 go_enter Tryz.func61,Tryz.ntmps61
 go_wp2_with fail
 go_quiet (fail)
 go_wp2_with fail
 go_ret
 exact⟨by rw[← H.out];rfl,_,rfl⟩
theorem Yv{X G:Nat}(n:Int)(w:World)(h:PlV X G w):Calls Tryz.prog 61 #[.pointer (some ⟨X,0,none⟩),.int .i64 n] w (Zb (VC (.int .i64 (n % 5))) w):=(pmod_any n w h).mono fun _ _ h=>YG h
theorem In5.hb{m:Hw}(h:In5 m):Hb 1000000 m:=by
 have k:∀ n∈up5,-1000000≤n∧n≤1000000:=by decide
 exact⟨k _ h.1,k _ h.2.1,k _ h.2.2.1,k _ h.2.2.2⟩
theorem pdet_any{X G:Nat}(m:Hw)(w:World)(h:PlV X G w)(hm:Hb 1000000 m):Calls Tryz.prog 26 #[.pointer (some ⟨X,0,none⟩),hv m] w (Zb (VC (.int .i64 (cdet m))) w):=by
 have HD:=lhd (show cdet m=(m.a*m.d-m.b*m.c) % 5 from rfl)
 obtain⟨k1,l1⟩:=mulm hm.1 hm.2.2.2;obtain⟨k2,l2⟩:=mulm hm.2.1 hm.2.2.1
 clear hm
 obtain⟨a,b,c,d⟩:=m
 generalize cdet ⟨a,b,c,d⟩=r at *
 simp only at HD k1 l1 k2 l2
 have HP:=lhd (fun W n (hP:PlV X G W)=>Yv n W hP)
 have hB:=(brf w.heap.size w).alloc (nlr _) (.cells #[.int .i64 a,.int .i64 b,.int .i64 c,.int .i64 d] 67)
 have HH:=lhd (h.keep hB);have HB:=lhd hB
 clear h hB
 unfold hv cv
 go_enter Tryz.func26,Tryz.ntmps26
 go_wp2_with fail
 refine(HP.out _ _ HH.out).mono ?_
 rintro e w1 ⟨_,rfl,rfl,hb⟩
 have HB1:=lhd (HB.out.trans (hb.mono HB.out.size))
 clear hb
 go_wp2_with fail
 go_ret
 exact⟨_,rfl,by rw[HD.out];rfl,HB1.out⟩
theorem Yl.loadN{a:Act}{w W:World}{o:Oper}{g i:Nat}{x:Operand}{vs:Array Value}{z:Int}(hB:Below w.heap.size w W)(hC:Cells w g vs)(hi:vs[i]?=some (.int .i64 z))(ho:o.op=.load 3 x)(hx:a.eval x=.pointer (some ⟨g,i,none⟩)):Yl Tryz.prog o a W (VC (.int .i64 z)):=by
 have hlt:i<vs.size:=(Array.getElem?_eq_some_iff.1 hi).1
 refine .load1 ho hx (Za Tryz.underlying3 rfl ?_) rfl
 rw[hB.cell (p:=⟨g,i,none⟩) hC.1,hC.2.1 i hlt]
 exact hi
theorem XY{x y:Int}(hx:-1000000≤x∧x≤1000000)(hy:-1000000≤y∧y≤1000000):-4000000000000000000≤x*y∧x*y≤4000000000000000000:=by have:=mulm hx hy;omega
theorem Zbf{x y z t:Int}(hx:-1000000≤x∧x≤1000000)(hy:-1000000≤y∧y≤1000000)(hz:-1000000≤z∧z≤1000000)(ht:-1000000≤t∧t≤1000000):-4000000000000000000≤x*y+z*t∧x*y+z*t≤4000000000000000000:=by have:=mulm hx hy;have:=mulm hz ht;omega
theorem Zhc{X G:Nat}(m n:Hw)(w:World)(h:PlV X G w)(hm:Hb 1000000 m)(hn:Hb 1000000 n):Calls Tryz.prog 28 #[.pointer (some ⟨X,0,none⟩),hv m,hv n] w (Zb (VC (hv (cmul m n))) w):=by
 have HM:=lhd hm;have HNn:=lhd hn
 have HR:=lhd (show cmul m n=⟨(m.a*n.a+m.b*n.c) % 5,(m.a*n.b+m.b*n.d) % 5,(m.c*n.a+m.d*n.c) % 5,(m.c*n.b+m.d*n.d) % 5⟩ from rfl)
 generalize cmul m n=r at *
 have h1:=(Cells.new w #[.int .i64 m.a,.int .i64 m.b,.int .i64 m.c,.int .i64 m.d] 67 rfl).alloc (.cells #[.int .i64 n.a,.int .i64 n.b,.int .i64 n.c,.int .i64 n.d] 67) |>.alloc (.cells #[.int .i64 0,.int .i64 0,.int .i64 0,.int .i64 0] 67)
 have h2:=(Cells.new (w.alloc (.cells #[.int .i64 m.a,.int .i64 m.b,.int .i64 m.c,.int .i64 m.d] 67)) #[.int .i64 n.a,.int .i64 n.b,.int .i64 n.c,.int .i64 n.d] 67 (b:=w.heap.size+1) (by simp)).alloc (.cells #[.int .i64 0,.int .i64 0,.int .i64 0,.int .i64 0] 67)
 have h3:=Cells.new ((w.alloc (.cells #[.int .i64 m.a,.int .i64 m.b,.int .i64 m.c,.int .i64 m.d] 67)).alloc (.cells #[.int .i64 n.a,.int .i64 n.b,.int .i64 n.c,.int .i64 n.d] 67)) #[.int .i64 0,.int .i64 0,.int .i64 0,.int .i64 0] 67 (b:=w.heap.size+1+1) (by simp)
 have hb:=(Uc (w:=w) (.cells #[.int .i64 m.a,.int .i64 m.b,.int .i64 m.c,.int .i64 m.d] 67) (.cells #[.int .i64 n.a,.int .i64 n.b,.int .i64 n.c,.int .i64 n.d] 67)).alloc (by simp;omega) (.cells #[.int .i64 0,.int .i64 0,.int .i64 0,.int .i64 0] 67)
 have hp:=h.keep (hb)
 unfold hv cv
 go_enter Tryz.func28,Tryz.ntmps28
 go_upto_region 1 with fail
 obtain⟨W3,hW3⟩:=nmx ((((w.alloc (.cells #[.int .i64 m.a,.int .i64 m.b,.int .i64 m.c,.int .i64 m.d] 67)).alloc (.cells #[.int .i64 n.a,.int .i64 n.b,.int .i64 n.c,.int .i64 n.d] 67)).alloc (.cells #[.int .i64 0,.int .i64 0,.int .i64 0,.int .i64 0] 67)))
 rw[← hW3]at h1 h2 h3 hb hp ⊢
 obtain⟨R1,hR1⟩:∃ R,R=w.heap.size:=⟨_,rfl⟩
 obtain⟨R2,hR2⟩:∃ R,R=w.heap.size+1:=⟨_,rfl⟩
 obtain⟨R3,hR3⟩:∃ R,R=w.heap.size+1+1:=⟨_,rfl⟩
 have HN3:=lhd (show w.heap.size≤R3 by omega)
 rw[← hR1]at h1
 rw[← hR2]at h2
 rw[← hR3]at h3
 rw[← hR3,← hR2,← hR1]
 have H1:=lhd h1;have H2:=lhd h2;have H3:=lhd h3;have HB:=lhd hb;have HP:=lhd hp
 clear h hm hn h1 h2 h3 hb hp hW3 hR1 hR2 hR3
 refine wrt 52 [(0,7,VC (.pointer (some ⟨X,0,none⟩))),(1,8,VC (.pointer (some ⟨R1,0,none⟩))),(2,9,VC (.int .i64 m.a)),(3,10,VC (.pointer (some ⟨R2,0,none⟩))),(4,11,VC (.int .i64 n.a)),(5,12,VC (.int .i64 (m.a*n.a))),(6,13,VC (.pointer (some ⟨R1,1,none⟩))),(7,14,VC (.int .i64 m.b)),(8,15,VC (.pointer (some ⟨R2,2,none⟩))),(9,16,VC (.int .i64 n.c)),(10,17,VC (.int .i64 (m.b*n.c))),(11,18,VC (.int .i64 (m.a*n.a+m.b*n.c))),(12,19,VC (.int .i64 ((m.a*n.a+m.b*n.c) % 5))),(13,20,VC (.pointer (some ⟨X,0,none⟩))),(14,21,VC (.pointer (some ⟨R1,0,none⟩))),(15,22,VC (.int .i64 m.a)),(16,23,VC (.pointer (some ⟨R2,1,none⟩))),(17,24,VC (.int .i64 n.b)),(18,25,VC (.int .i64 (m.a*n.b))),(19,26,VC (.pointer (some ⟨R1,1,none⟩))),(20,27,VC (.int .i64 m.b)),(21,28,VC (.pointer (some ⟨R2,3,none⟩))),(22,29,VC (.int .i64 n.d)),(23,30,VC (.int .i64 (m.b*n.d))),(24,31,VC (.int .i64 (m.a*n.b+m.b*n.d))),(25,32,VC (.int .i64 ((m.a*n.b+m.b*n.d) % 5))),(26,33,VC (.pointer (some ⟨X,0,none⟩))),(27,34,VC (.pointer (some ⟨R1,2,none⟩))),(28,35,VC (.int .i64 m.c)),(29,36,VC (.pointer (some ⟨R2,0,none⟩))),(30,37,VC (.int .i64 n.a)),(31,38,VC (.int .i64 (m.c*n.a))),(32,39,VC (.pointer (some ⟨R1,3,none⟩))),(33,40,VC (.int .i64 m.d)),(34,41,VC (.pointer (some ⟨R2,2,none⟩))),(35,42,VC (.int .i64 n.c)),(36,43,VC (.int .i64 (m.d*n.c))),(37,44,VC (.int .i64 (m.c*n.a+m.d*n.c))),(38,45,VC (.int .i64 ((m.c*n.a+m.d*n.c) % 5))),(39,46,VC (.pointer (some ⟨X,0,none⟩))),(40,47,VC (.pointer (some ⟨R1,2,none⟩))),(41,48,VC (.int .i64 m.c)),(42,49,VC (.pointer (some ⟨R2,1,none⟩))),(43,50,VC (.int .i64 n.b)),(44,51,VC (.int .i64 (m.c*n.b))),(45,52,VC (.pointer (some ⟨R1,3,none⟩))),(46,53,VC (.int .i64 m.d)),(47,54,VC (.pointer (some ⟨R2,3,none⟩))),(48,55,VC (.int .i64 n.d)),(49,56,VC (.int .i64 (m.d*n.d))),(50,57,VC (.int .i64 (m.c*n.b+m.d*n.d))),(51,58,VC (.int .i64 ((m.c*n.b+m.d*n.d) % 5)))] (fun _=>True) [7,8,9,10,11,12,13,14,15,16,17,18,19,20,21,22,23,24,25,26,27,28,29,30,31,32,33,34,35,36,37,38,39,40,41,42,43,44,45,46,47,48,49,50,51,52,53,54,55,56,57,58] ⟨kv,kv,kv,kv,kv,kv,kv,kv,kv,kv,kv,kv,kv,kv,kv,kv,kv,kv,kv,kv,kv,kv,kv,kv,kv,kv,kv,kv,kv,kv,kv,kv,kv,kv,kv,kv,kv,kv,kv,kv,kv,kv,kv,kv,kv,kv,kv,kv,kv,kv,kv,kv,trivial⟩ (fun _ _ _ _ _=>trivial) trivial (by decide) (Zn _ ⟨?_,?_,?_,?_,?_,?_,?_,?_,?_,?_,?_,?_,?_,?_,?_,?_,?_,?_,?_,?_,?_,?_,?_,?_,?_,?_,?_,?_,?_,?_,?_,?_,?_,?_,?_,?_,?_,?_,?_,?_,?_,?_,?_,?_,?_,?_,?_,?_,?_,?_,?_,?_,trivial⟩) ?_
 ·exact mvX rfl rfl rfl
 ·exact .of rfl rfl fun _ _ _ _ _ _=>.indexAddr rfl (fou (v:=.pointer (some ⟨R1,0,none⟩))) rfl (by kernel_rfl) rfl
 ·exact .of rfl rfl fun _ _ hB _ hV _=>.loadN hB H1.out rfl rfl (fgt hV 1 rfl)
 ·exact .of rfl rfl fun _ _ _ _ _ _=>.indexAddr rfl (fou (v:=.pointer (some ⟨R2,0,none⟩))) rfl (by kernel_rfl) rfl
 ·exact .of rfl rfl fun _ _ hB _ hV _=>.loadN hB H2.out rfl rfl (fgt hV 3 rfl)
 ·exact .of rfl rfl fun _ _ _ _ hV _=>.mulI rfl (fgt hV 2 rfl) (fgt hV 4 rfl) (XY HM.out.1 HNn.out.1)
 ·exact .of rfl rfl fun _ _ _ _ _ _=>.indexAddr rfl (fou (v:=.pointer (some ⟨R1,0,none⟩))) rfl (by kernel_rfl) rfl
 ·exact .of rfl rfl fun _ _ hB _ hV _=>.loadN hB H1.out rfl rfl (fgt hV 6 rfl)
 ·exact .of rfl rfl fun _ _ _ _ _ _=>.indexAddr rfl (fou (v:=.pointer (some ⟨R2,0,none⟩))) rfl (by kernel_rfl) rfl
 ·exact .of rfl rfl fun _ _ hB _ hV _=>.loadN hB H2.out rfl rfl (fgt hV 8 rfl)
 ·exact .of rfl rfl fun _ _ _ _ hV _=>.mulI rfl (fgt hV 7 rfl) (fgt hV 9 rfl) (XY HM.out.2.1 HNn.out.2.2.1)
 ·exact .of rfl rfl fun _ _ _ _ hV _=>.addI rfl (fgt hV 5 rfl) (fgt hV 10 rfl) (Zbf HM.out.1 HNn.out.1 HM.out.2.1 HNn.out.2.2.1)
 ·exact .of rfl rfl fun _ W hB _ hV _=>.call Tryz.func61 (by kernel_rfl) rfl rfl rfl (Zg (fgt hV 0 rfl) (fgt hV 11 rfl)) (Yv _ W (HP.out.keep hB))
 ·exact mvX rfl rfl rfl
 ·exact .of rfl rfl fun _ _ _ _ _ _=>.indexAddr rfl (fou (v:=.pointer (some ⟨R1,0,none⟩))) rfl (by kernel_rfl) rfl
 ·exact .of rfl rfl fun _ _ hB _ hV _=>.loadN hB H1.out rfl rfl (fgt hV 14 rfl)
 ·exact .of rfl rfl fun _ _ _ _ _ _=>.indexAddr rfl (fou (v:=.pointer (some ⟨R2,0,none⟩))) rfl (by kernel_rfl) rfl
 ·exact .of rfl rfl fun _ _ hB _ hV _=>.loadN hB H2.out rfl rfl (fgt hV 16 rfl)
 ·exact .of rfl rfl fun _ _ _ _ hV _=>.mulI rfl (fgt hV 15 rfl) (fgt hV 17 rfl) (XY HM.out.1 HNn.out.2.1)
 ·exact .of rfl rfl fun _ _ _ _ _ _=>.indexAddr rfl (fou (v:=.pointer (some ⟨R1,0,none⟩))) rfl (by kernel_rfl) rfl
 ·exact .of rfl rfl fun _ _ hB _ hV _=>.loadN hB H1.out rfl rfl (fgt hV 19 rfl)
 ·exact .of rfl rfl fun _ _ _ _ _ _=>.indexAddr rfl (fou (v:=.pointer (some ⟨R2,0,none⟩))) rfl (by kernel_rfl) rfl
 ·exact .of rfl rfl fun _ _ hB _ hV _=>.loadN hB H2.out rfl rfl (fgt hV 21 rfl)
 ·exact .of rfl rfl fun _ _ _ _ hV _=>.mulI rfl (fgt hV 20 rfl) (fgt hV 22 rfl) (XY HM.out.2.1 HNn.out.2.2.2)
 ·exact .of rfl rfl fun _ _ _ _ hV _=>.addI rfl (fgt hV 18 rfl) (fgt hV 23 rfl) (Zbf HM.out.1 HNn.out.2.1 HM.out.2.1 HNn.out.2.2.2)
 ·exact .of rfl rfl fun _ W hB _ hV _=>.call Tryz.func61 (by kernel_rfl) rfl rfl rfl (Zg (fgt hV 13 rfl) (fgt hV 24 rfl)) (Yv _ W (HP.out.keep hB))
 ·exact mvX rfl rfl rfl
 ·exact .of rfl rfl fun _ _ _ _ _ _=>.indexAddr rfl (fou (v:=.pointer (some ⟨R1,0,none⟩))) rfl (by kernel_rfl) rfl
 ·exact .of rfl rfl fun _ _ hB _ hV _=>.loadN hB H1.out rfl rfl (fgt hV 27 rfl)
 ·exact .of rfl rfl fun _ _ _ _ _ _=>.indexAddr rfl (fou (v:=.pointer (some ⟨R2,0,none⟩))) rfl (by kernel_rfl) rfl
 ·exact .of rfl rfl fun _ _ hB _ hV _=>.loadN hB H2.out rfl rfl (fgt hV 29 rfl)
 ·exact .of rfl rfl fun _ _ _ _ hV _=>.mulI rfl (fgt hV 28 rfl) (fgt hV 30 rfl) (XY HM.out.2.2.1 HNn.out.1)
 ·exact .of rfl rfl fun _ _ _ _ _ _=>.indexAddr rfl (fou (v:=.pointer (some ⟨R1,0,none⟩))) rfl (by kernel_rfl) rfl
 ·exact .of rfl rfl fun _ _ hB _ hV _=>.loadN hB H1.out rfl rfl (fgt hV 32 rfl)
 ·exact .of rfl rfl fun _ _ _ _ _ _=>.indexAddr rfl (fou (v:=.pointer (some ⟨R2,0,none⟩))) rfl (by kernel_rfl) rfl
 ·exact .of rfl rfl fun _ _ hB _ hV _=>.loadN hB H2.out rfl rfl (fgt hV 34 rfl)
 ·exact .of rfl rfl fun _ _ _ _ hV _=>.mulI rfl (fgt hV 33 rfl) (fgt hV 35 rfl) (XY HM.out.2.2.2 HNn.out.2.2.1)
 ·exact .of rfl rfl fun _ _ _ _ hV _=>.addI rfl (fgt hV 31 rfl) (fgt hV 36 rfl) (Zbf HM.out.2.2.1 HNn.out.1 HM.out.2.2.2 HNn.out.2.2.1)
 ·exact .of rfl rfl fun _ W hB _ hV _=>.call Tryz.func61 (by kernel_rfl) rfl rfl rfl (Zg (fgt hV 26 rfl) (fgt hV 37 rfl)) (Yv _ W (HP.out.keep hB))
 ·exact mvX rfl rfl rfl
 ·exact .of rfl rfl fun _ _ _ _ _ _=>.indexAddr rfl (fou (v:=.pointer (some ⟨R1,0,none⟩))) rfl (by kernel_rfl) rfl
 ·exact .of rfl rfl fun _ _ hB _ hV _=>.loadN hB H1.out rfl rfl (fgt hV 40 rfl)
 ·exact .of rfl rfl fun _ _ _ _ _ _=>.indexAddr rfl (fou (v:=.pointer (some ⟨R2,0,none⟩))) rfl (by kernel_rfl) rfl
 ·exact .of rfl rfl fun _ _ hB _ hV _=>.loadN hB H2.out rfl rfl (fgt hV 42 rfl)
 ·exact .of rfl rfl fun _ _ _ _ hV _=>.mulI rfl (fgt hV 41 rfl) (fgt hV 43 rfl) (XY HM.out.2.2.1 HNn.out.2.1)
 ·exact .of rfl rfl fun _ _ _ _ _ _=>.indexAddr rfl (fou (v:=.pointer (some ⟨R1,0,none⟩))) rfl (by kernel_rfl) rfl
 ·exact .of rfl rfl fun _ _ hB _ hV _=>.loadN hB H1.out rfl rfl (fgt hV 45 rfl)
 ·exact .of rfl rfl fun _ _ _ _ _ _=>.indexAddr rfl (fou (v:=.pointer (some ⟨R2,0,none⟩))) rfl (by kernel_rfl) rfl
 ·exact .of rfl rfl fun _ _ hB _ hV _=>.loadN hB H2.out rfl rfl (fgt hV 47 rfl)
 ·exact .of rfl rfl fun _ _ _ _ hV _=>.mulI rfl (fgt hV 46 rfl) (fgt hV 48 rfl) (XY HM.out.2.2.2 HNn.out.2.2.2)
 ·exact .of rfl rfl fun _ _ _ _ hV _=>.addI rfl (fgt hV 44 rfl) (fgt hV 49 rfl) (Zbf HM.out.2.2.1 HNn.out.2.1 HM.out.2.2.2 HNn.out.2.2.2)
 ·exact .of rfl rfl fun _ W hB _ hV _=>.call Tryz.func61 (by kernel_rfl) rfl rfl rfl (Zg (fgt hV 39 rfl) (fgt hV 50 rfl)) (Yv _ W (HP.out.keep hB))
 intro y W hB hE hV
 have e19:y 19=_:=hend hV 12 rfl
 have e32:y 32=_:=hend hV 25 rfl
 have e45:y 45=_:=hend hV 38 rfl
 have e58:y 58=_:=hend hV 51 rfl
 have HC3:=lhd (H3.out.keep hB)
 have HB2:=lhd (HB.out.trans (hB.mono HB.out.size))
 clear hB hE hV H1 H2 H3 HB HP
 generalize hact:fr _ _ y=act
 simp only[fr,Zf,fC0,fN0,sA0,sZ0,sS0,e19,e32,e45,e58]at hact
 subst hact
 clear e19 e32 e45 e58
 obtain⟨c0,c1,c2,c3⟩:=HC3.out.four
 obtain⟨f0,f1,f2,f3,-⟩:=HC3.out.fr
 show wpList _ _ _ [_,_] _ _
 go_wp2_with fail
 refine bodyPost_ret (v:=hv r) (by rw[HR.out];simp[results,Tryz.results28,go_sem,hv,cv,c0,c1,c2,c3]) rfl ?_
 exact⟨_,rfl,rfl,ZY HB2.out HN3.out _ _ _ _⟩
theorem Yl.negI{P:Program}{a:Act}{W:World}{o:Oper}{x:Operand}{T:TypeId}{p:Int}(ho:o.op=.unOp .neg T x)(hx:a.eval x=.int .i64 p)(h:-4000000000000000000≤p∧p≤4000000000000000000):Yl P o a W (VC (.int .i64 (-p))):=by
 have:=IntWalk.i64_in (-p) (by omega)
 refine .unOp ho hx ?_ rfl
 simp[Op.unary,go_sem,this]
theorem ZfB{X G:Nat}(g:Hw)(w:World)(h:PlV X G w)(hg:Hb 1000000 g):Calls Tryz.prog 23 #[.pointer (some ⟨X,0,none⟩),qv (g1 g),.int .i64 2] w (Zb (VC (hv (cmat g))) w):=by
 have HM:=lhd hg
 have HR:=lhd (show cmat g=⟨(g.a+2*g.b) % 5,(g.c+2*g.d) % 5,(-g.c+2*g.d) % 5,(g.a-2*g.b) % 5⟩ from rfl)
 have H2:=lhd (show -1000000≤(2:Int)∧(2:Int)≤1000000 by omega)
 generalize cmat g=r at *
 have h1:=(Cells.new w #[.int .i64 g.a,.int .i64 g.b,.int .i64 g.c,.int .i64 g.d,.int .i64 1] 37 rfl).alloc (.cells #[.int .i64 0,.int .i64 0,.int .i64 0,.int .i64 0] 67)
 have h3:=Cells.new (w.alloc (.cells #[.int .i64 g.a,.int .i64 g.b,.int .i64 g.c,.int .i64 g.d,.int .i64 1] 37)) #[.int .i64 0,.int .i64 0,.int .i64 0,.int .i64 0] 67 (b:=w.heap.size+1) (by simp)
 have hb:=Uc (w:=w) (.cells #[.int .i64 g.a,.int .i64 g.b,.int .i64 g.c,.int .i64 g.d,.int .i64 1] 37) (.cells #[.int .i64 0,.int .i64 0,.int .i64 0,.int .i64 0] 67)
 have hp:=h.keep hb
 unfold qv g1
 go_enter Tryz.func23,Tryz.ntmps23
 go_upto_region 1 with fail
 obtain⟨W3,hW3⟩:=nmx (((w.alloc (.cells #[.int .i64 g.a,.int .i64 g.b,.int .i64 g.c,.int .i64 g.d,.int .i64 1] 37)).alloc (.cells #[.int .i64 0,.int .i64 0,.int .i64 0,.int .i64 0] 67)))
 rw[← hW3]at h1 h3 hb hp ⊢
 obtain⟨R1,hR1⟩:∃ R,R=w.heap.size:=⟨_,rfl⟩
 obtain⟨R3,hR3⟩:∃ R,R=w.heap.size+1:=⟨_,rfl⟩
 have HN3:=lhd (show w.heap.size≤R3 by omega)
 rw[← hR1]at h1
 rw[← hR3]at h3
 rw[← hR3,← hR1]
 have H1:=lhd h1;have H3:=lhd h3;have HB:=lhd hb;have HP:=lhd hp
 clear h hg h1 h3 hb hp hW3 hR1 hR3
 refine wrt 37 [(0,7,VC (.pointer (some ⟨X,0,none⟩))),(1,8,VC (.pointer (some ⟨R1,0,none⟩))),(2,9,VC (.int .i64 g.a)),(3,10,VC (.int .i64 2)),(4,11,VC (.pointer (some ⟨R1,1,none⟩))),(5,12,VC (.int .i64 g.b)),(6,13,VC (.int .i64 (2*g.b))),(7,14,VC (.int .i64 (g.a+2*g.b))),(8,15,VC (.int .i64 ((g.a+2*g.b) % 5))),(9,16,VC (.pointer (some ⟨X,0,none⟩))),(10,17,VC (.pointer (some ⟨R1,2,none⟩))),(11,18,VC (.int .i64 g.c)),(12,19,VC (.int .i64 2)),(13,20,VC (.pointer (some ⟨R1,3,none⟩))),(14,21,VC (.int .i64 g.d)),(15,22,VC (.int .i64 (2*g.d))),(16,23,VC (.int .i64 (g.c+2*g.d))),(17,24,VC (.int .i64 ((g.c+2*g.d) % 5))),(18,25,VC (.pointer (some ⟨X,0,none⟩))),(19,26,VC (.pointer (some ⟨R1,2,none⟩))),(20,27,VC (.int .i64 g.c)),(21,28,VC (.int .i64 (-g.c))),(22,29,VC (.int .i64 2)),(23,30,VC (.pointer (some ⟨R1,3,none⟩))),(24,31,VC (.int .i64 g.d)),(25,32,VC (.int .i64 (2*g.d))),(26,33,VC (.int .i64 (-g.c+2*g.d))),(27,34,VC (.int .i64 ((-g.c+2*g.d) % 5))),(28,35,VC (.pointer (some ⟨X,0,none⟩))),(29,36,VC (.pointer (some ⟨R1,0,none⟩))),(30,37,VC (.int .i64 g.a)),(31,38,VC (.int .i64 2)),(32,39,VC (.pointer (some ⟨R1,1,none⟩))),(33,40,VC (.int .i64 g.b)),(34,41,VC (.int .i64 (2*g.b))),(35,42,VC (.int .i64 (g.a-2*g.b))),(36,43,VC (.int .i64 ((g.a-2*g.b) % 5)))] (fun _=>True) [7,8,9,10,11,12,13,14,15,16,17,18,19,20,21,22,23,24,25,26,27,28,29,30,31,32,33,34,35,36,37,38,39,40,41,42,43] ⟨kv,kv,kv,kv,kv,kv,kv,kv,kv,kv,kv,kv,kv,kv,kv,kv,kv,kv,kv,kv,kv,kv,kv,kv,kv,kv,kv,kv,kv,kv,kv,kv,kv,kv,kv,kv,kv,trivial⟩ (fun _ _ _ _ _=>trivial) trivial (by decide) (Zn _ ⟨?_,?_,?_,?_,?_,?_,?_,?_,?_,?_,?_,?_,?_,?_,?_,?_,?_,?_,?_,?_,?_,?_,?_,?_,?_,?_,?_,?_,?_,?_,?_,?_,?_,?_,?_,?_,?_,trivial⟩) ?_
 ·exact mvX rfl rfl rfl
 ·exact .of rfl rfl fun _ _ _ _ _ _=>.fieldAddr rfl (fou (v:=.pointer (some ⟨R1,0,none⟩))) (by kernel_rfl) rfl
 ·exact .of rfl rfl fun _ _ hB _ hV _=>.loadN hB H1.out rfl rfl (fgt hV 1 rfl)
 ·exact mvX rfl rfl rfl
 ·exact .of rfl rfl fun _ _ _ _ _ _=>.fieldAddr rfl (fou (v:=.pointer (some ⟨R1,0,none⟩))) (by kernel_rfl) rfl
 ·exact .of rfl rfl fun _ _ hB _ hV _=>.loadN hB H1.out rfl rfl (fgt hV 4 rfl)
 ·exact .of rfl rfl fun _ _ _ _ hV _=>.mulI rfl (fgt hV 3 rfl) (fgt hV 5 rfl) (XY H2.out HM.out.2.1)
 ·exact .of rfl rfl fun _ _ _ _ hV _=>.addI rfl (fgt hV 2 rfl) (fgt hV 6 rfl) (by have:=HM.out.1;have:=HM.out.2.1;omega)
 ·exact .of rfl rfl fun _ W hB _ hV _=>.call Tryz.func61 (by kernel_rfl) rfl rfl rfl (Zg (fgt hV 0 rfl) (fgt hV 7 rfl)) (Yv _ W (HP.out.keep hB))
 ·exact mvX rfl rfl rfl
 ·exact .of rfl rfl fun _ _ _ _ _ _=>.fieldAddr rfl (fou (v:=.pointer (some ⟨R1,0,none⟩))) (by kernel_rfl) rfl
 ·exact .of rfl rfl fun _ _ hB _ hV _=>.loadN hB H1.out rfl rfl (fgt hV 10 rfl)
 ·exact mvX rfl rfl rfl
 ·exact .of rfl rfl fun _ _ _ _ _ _=>.fieldAddr rfl (fou (v:=.pointer (some ⟨R1,0,none⟩))) (by kernel_rfl) rfl
 ·exact .of rfl rfl fun _ _ hB _ hV _=>.loadN hB H1.out rfl rfl (fgt hV 13 rfl)
 ·exact .of rfl rfl fun _ _ _ _ hV _=>.mulI rfl (fgt hV 12 rfl) (fgt hV 14 rfl) (XY H2.out HM.out.2.2.2)
 ·exact .of rfl rfl fun _ _ _ _ hV _=>.addI rfl (fgt hV 11 rfl) (fgt hV 15 rfl) (by have:=HM.out.2.2.1;have:=HM.out.2.2.2;omega)
 ·exact .of rfl rfl fun _ W hB _ hV _=>.call Tryz.func61 (by kernel_rfl) rfl rfl rfl (Zg (fgt hV 9 rfl) (fgt hV 16 rfl)) (Yv _ W (HP.out.keep hB))
 ·exact mvX rfl rfl rfl
 ·exact .of rfl rfl fun _ _ _ _ _ _=>.fieldAddr rfl (fou (v:=.pointer (some ⟨R1,0,none⟩))) (by kernel_rfl) rfl
 ·exact .of rfl rfl fun _ _ hB _ hV _=>.loadN hB H1.out rfl rfl (fgt hV 19 rfl)
 ·exact .of rfl rfl fun _ _ _ _ hV _=>.negI rfl (fgt hV 20 rfl) (by have:=HM.out.2.2.1;omega)
 ·exact mvX rfl rfl rfl
 ·exact .of rfl rfl fun _ _ _ _ _ _=>.fieldAddr rfl (fou (v:=.pointer (some ⟨R1,0,none⟩))) (by kernel_rfl) rfl
 ·exact .of rfl rfl fun _ _ hB _ hV _=>.loadN hB H1.out rfl rfl (fgt hV 23 rfl)
 ·exact .of rfl rfl fun _ _ _ _ hV _=>.mulI rfl (fgt hV 22 rfl) (fgt hV 24 rfl) (XY H2.out HM.out.2.2.2)
 ·exact .of rfl rfl fun _ _ _ _ hV _=>.addI rfl (fgt hV 21 rfl) (fgt hV 25 rfl) (by have:=HM.out.2.2.1;have:=HM.out.2.2.2;omega)
 ·exact .of rfl rfl fun _ W hB _ hV _=>.call Tryz.func61 (by kernel_rfl) rfl rfl rfl (Zg (fgt hV 18 rfl) (fgt hV 26 rfl)) (Yv _ W (HP.out.keep hB))
 ·exact mvX rfl rfl rfl
 ·exact .of rfl rfl fun _ _ _ _ _ _=>.fieldAddr rfl (fou (v:=.pointer (some ⟨R1,0,none⟩))) (by kernel_rfl) rfl
 ·exact .of rfl rfl fun _ _ hB _ hV _=>.loadN hB H1.out rfl rfl (fgt hV 29 rfl)
 ·exact mvX rfl rfl rfl
 ·exact .of rfl rfl fun _ _ _ _ _ _=>.fieldAddr rfl (fou (v:=.pointer (some ⟨R1,0,none⟩))) (by kernel_rfl) rfl
 ·exact .of rfl rfl fun _ _ hB _ hV _=>.loadN hB H1.out rfl rfl (fgt hV 32 rfl)
 ·exact .of rfl rfl fun _ _ _ _ hV _=>.mulI rfl (fgt hV 31 rfl) (fgt hV 33 rfl) (XY H2.out HM.out.2.1)
 ·exact .of rfl rfl fun _ _ _ _ hV _=>.subI rfl (fgt hV 30 rfl) (fgt hV 34 rfl) (by have:=HM.out.1;have:=HM.out.2.1;omega)
 ·exact .of rfl rfl fun _ W hB _ hV _=>.call Tryz.func61 (by kernel_rfl) rfl rfl rfl (Zg (fgt hV 28 rfl) (fgt hV 35 rfl)) (Yv _ W (HP.out.keep hB))
 intro y W hB hE hV
 have e0:y 15=_:=hend hV 8 rfl
 have e1:y 24=_:=hend hV 17 rfl
 have e2:y 34=_:=hend hV 27 rfl
 have e3:y 43=_:=hend hV 36 rfl
 have HC3:=lhd (H3.out.keep hB)
 have HB2:=lhd (HB.out.trans (hB.mono HB.out.size))
 clear hB hE hV H1 H3 HB HP
 generalize hact:fr _ _ y=act
 simp only[fr,Zf,fC0,fN0,sA0,sZ0,sS0,e0,e1,e2,e3]at hact
 subst hact
 clear e0 e1 e2 e3
 obtain⟨c0,c1,c2,c3⟩:=HC3.out.four
 obtain⟨f0,f1,f2,f3,-⟩:=HC3.out.fr
 show wpList _ _ _ [_,_] _ _
 go_wp2_with fail
 refine bodyPost_ret (v:=hv r) (by rw[HR.out];simp[results,Tryz.results23,go_sem,hv,cv,c0,c1,c2,c3]) rfl ?_
 exact⟨_,rfl,rfl,ZY HB2.out HN3.out _ _ _ _⟩
theorem ZiQ{X G:Nat}(w:World)(h:PlV X G w):Calls Tryz.prog 22 #[.pointer (some ⟨X,0,none⟩)] w (Zb (VC (.int .i64 2)) w):=by
 have HP:=lhd (fun W n (hP:PlV X G W)=>Yv n W hP)
 have H:=lhd h
 clear h
 go_enter Tryz.func22,Tryz.ntmps22
 go_wp2_with fail
 refine wp_loop_rounds 2 ?_
 rw[rounds_succ]
 go_wp2_with fail
 refine(HP.out _ _ H.out).mono ?_
 rintro e w1 ⟨_,rfl,rfl,hb⟩
 have H1:=lhd (H.out.keep hb);have HB:=lhd hb
 clear hb
 go_wp2_with fail
 rw[rounds_succ]
 go_wp2_with fail
 refine(HP.out _ _ H1.out).mono ?_
 rintro e w2 ⟨_,rfl,rfl,hb⟩
 have HB2:=lhd (HB.out.trans (hb.mono HB.out.size))
 clear hb
 go_wp2_with fail
 go_ret
 exact⟨_,rfl,rfl,HB2.out⟩
theorem ZfC{X G:Nat}(p:Int)(w:World)(h:PlV X G w)(hp:p=13∨p=17):Calls Tryz.prog 24 #[.pointer (some ⟨X,0,none⟩),.int .i64 p] w (Zb (VC (.bool false)) w):=by
 have HL:=lhd (show ∀ W,Calls Tryz.prog 59 #[.int .i64 p,.int .i64 5] W (Zb (VC (.tuple #[.int .i64 (-1),.int .i64 0])) W) from fun W=>by
  have h1:=Zat p 5 W (by rcases hp with rfl | rfl <;> (unfold I64;omega))
  rw[show legV p 5 = -1 by rcases hp with rfl | rfl <;> decide +kernel,show legE 5=0 by decide +kernel]at h1
  exact h1.mono fun _ _ h=>YG h)
 obtain⟨c0,-⟩:=h.1.two
 clear h hp
 go_enter Tryz.func24,Tryz.ntmps24
 go_wp2_with fail
 refine(HL.out _).mono ?_
 rintro e w1 ⟨_,rfl,rfl,hb⟩
 have HB:=lhd hb
 clear hb
 go_wp2_with fail
 go_ret
 exact⟨_,rfl,rfl,HB.out⟩
theorem ZeH(p:Int)(w:World)(hp:p=13∨p=17):Calls Tryz.prog 20 #[.int .i64 p,.int .i64 5] w (Zb (VC (.int .i64 120)) w):=by
 have HL:=lhd (show ∀ W,Calls Tryz.prog 59 #[.int .i64 p,.int .i64 5] W (Zb (VC (.tuple #[.int .i64 (-1),.int .i64 0])) W) from fun W=>by
  have h1:=Zat p 5 W (by rcases hp with rfl | rfl <;> (unfold I64;omega))
  rw[show legV p 5 = -1 by rcases hp with rfl | rfl <;> decide +kernel,show legE 5=0 by decide +kernel]at h1
  exact h1.mono fun _ _ h=>YG h)
 clear hp
 go_enter Tryz.func20,Tryz.ntmps20
 go_wp2_with fail
 refine(HL.out _).mono ?_
 rintro e w1 ⟨_,rfl,rfl,hb⟩
 have HB:=lhd hb
 clear hb
 go_wp2_with fail
 go_ret
 exact⟨_,rfl,rfl,HB.out⟩
@[local go_sem] theorem run_cls0 (c0 c1 c2 c3:Value) (w:World):(Instr.index 67 (.agg #[c0,c1,c2,c3]) (.int .i64 0)).run Tryz.prog w=.ok c0 w:=by kernel_rfl
@[local go_sem] theorem run_cls1 (c0 c1 c2 c3:Value) (w:World):(Instr.index 67 (.agg #[c0,c1,c2,c3]) (.int .i64 1)).run Tryz.prog w=.ok c1 w:=by kernel_rfl
@[local go_sem] theorem run_cls2 (c0 c1 c2 c3:Value) (w:World):(Instr.index 67 (.agg #[c0,c1,c2,c3]) (.int .i64 2)).run Tryz.prog w=.ok c2 w:=by kernel_rfl
@[local go_sem] theorem run_cls3 (c0 c1 c2 c3:Value) (w:World):(Instr.index 67 (.agg #[c0,c1,c2,c3]) (.int .i64 3)).run Tryz.prog w=.ok c3 w:=by kernel_rfl
theorem PlV.inv{X G:Nat}{W:World}{n:Int}(h:PlV X G W)(hn:n∈up5):∃ k:Nat,n=(k:Int)∧k<5∧W.cell? ⟨G,k,none⟩=some (.int .i64 (inv5 n)):=by
 simp only[up5,List.mem_cons,List.not_mem_nil,or_false]at hn
 rcases hn with rfl | rfl | rfl | rfl | rfl
 ·exact⟨0,rfl,by omega,h.2.2.1 0 (by simp)⟩
 ·exact⟨1,rfl,by omega,h.2.2.1 1 (by simp)⟩
 ·exact⟨2,rfl,by omega,h.2.2.1 2 (by simp)⟩
 ·exact⟨3,rfl,by omega,h.2.2.1 3 (by simp)⟩
 ·exact⟨4,rfl,by omega,h.2.2.1 4 (by simp)⟩
theorem Zbg{n:Int}(h:n∈up5):0≤n∧n≤4:=by
 have k:∀ n∈up5,0≤n∧n≤4:=by decide
 exact k n h
theorem Ub{n:Int}(h:n∈up5):0≤inv5 n∧inv5 n≤4:=by
 have k:∀ n∈up5,0≤inv5 n∧inv5 n≤4:=by decide
 exact k n h
theorem m44{x y:Int}(hx:0≤x∧x≤4)(hy:0≤y∧y≤4):0≤x*y∧x*y≤16:=⟨Int.mul_nonneg hx.1 hy.1,(mulb (m:=4) (n:=4) (by omega) (by omega)).2⟩
theorem ZfD{X G:Nat}(m:Hw)(w:World)(h:PlV X G w)(hm:In5 m):Calls Tryz.prog 27 #[.pointer (some ⟨X,0,none⟩),hv m] w (Zb (VC (hv (ZS m))) w):=by
 obtain⟨a,b,c,d⟩:=m
 obtain⟨ha,hb,hc,hd⟩:=hm
 simp only at ha hb hc hd
 have ba:=Zbg ha;have bb:=Zbg hb;have bc:=Zbg hc;have bd:=Zbg hd
 have h1:=(Cells.new w #[.int .i64 a,.int .i64 b,.int .i64 c,.int .i64 d] 67 rfl).alloc (.cells #[.int .i64 0,.int .i64 0,.int .i64 0,.int .i64 0] 67)
 have h3:=Cells.new (w.alloc (.cells #[.int .i64 a,.int .i64 b,.int .i64 c,.int .i64 d] 67)) #[.int .i64 0,.int .i64 0,.int .i64 0,.int .i64 0] 67 (b:=w.heap.size+1) (by simp)
 have hB:=Uc (w:=w) (.cells #[.int .i64 a,.int .i64 b,.int .i64 c,.int .i64 d] 67) (.cells #[.int .i64 0,.int .i64 0,.int .i64 0,.int .i64 0] 67)
 have hp:=h.keep hB
 have hXlt:=h.1.1
 have hGlt:=h.2.1
 unfold hv cv
 go_enter Tryz.func27,Tryz.ntmps27
 go_upto_region 1 with fail
 obtain⟨W3,hW3⟩:=nmx (((w.alloc (.cells #[.int .i64 a,.int .i64 b,.int .i64 c,.int .i64 d] 67)).alloc (.cells #[.int .i64 0,.int .i64 0,.int .i64 0,.int .i64 0] 67)))
 rw[← hW3]at h1 h3 hB hp ⊢
 obtain⟨R1,hR1⟩:∃ R,R=w.heap.size:=⟨_,rfl⟩
 obtain⟨R3,hR3⟩:∃ R,R=w.heap.size+1:=⟨_,rfl⟩
 have HN:=lhd (show w.heap.size≤R1∧w.heap.size≤R3 by omega)
 have n1:X≠R1:=by omega
 have n2:G≠R1:=by omega
 have n3:R3≠R1:=by omega
 rw[← hR1]at h1
 rw[← hR3]at h3
 rw[← hR3,← hR1]
 have H1:=lhd h1;have H3:=lhd h3;have HB:=lhd hB;have HP:=lhd hp
 clear h h1 h3 hB hp hW3 hR1 hR3 hXlt hGlt
 obtain⟨k0,k1,k2,k3⟩:=H1.out.four
 obtain⟨f0,f1,f2,f3,-⟩:=H1.out.fr
 obtain⟨z0,z1,z2,z3⟩:=H3.out.four
 obtain⟨y0,y1,y2,y3,-⟩:=H3.out.fr
 obtain⟨p0,p1⟩:=HP.out.1.two
 have HC:=lhd (show ZS ⟨a,b,c,d⟩=⟨a*cby ⟨a,b,c,d⟩ % 5,b*cby ⟨a,b,c,d⟩ % 5,c*cby ⟨a,b,c,d⟩ % 5,d*cby ⟨a,b,c,d⟩ % 5⟩ from rfl)
 have HY:=lhd (show cby ⟨a,b,c,d⟩=if a≠0 then inv5 a else if b≠0 then inv5 b else if c≠0 then inv5 c else inv5 d from rfl)
 generalize ZS ⟨a,b,c,d⟩=r at *
 generalize cby ⟨a,b,c,d⟩=q at *
 go_upto_region 3 with fail
 refine wp_loop_rounds 5 ?_
 rcases Decidable.em (a≠0) with c1 | c1
 ·obtain⟨k,hk,hk5,g0⟩:=HP.out.inv ha
  have hq:q=inv5 a:=by rw[HY.out,if_pos c1]
  have bq:=Ub ha
  rw[← hq]at g0 bq
  have HKq:=lhd hq
  have t2:(a == 0)=false:=by simpa using c1
  have t3:(a != 0)=true:=by simpa using c1
  obtain⟨ma0,ma1⟩:=m44 ba bq;obtain⟨mb0,mb1⟩:=m44 bb bq;obtain⟨mc0,mc1⟩:=m44 bc bq;obtain⟨md0,md1⟩:=m44 bd bq
  subst hk
  clear hq ha hb hc hd
  rw[rounds_succ]
  go_wp2_with fail
  refine wp_loop_rounds 5 ?_
  rw[rounds_succ]
  go_wp2_with fail
  rw[rounds_succ]
  go_wp2_with fail
  rw[rounds_succ]
  go_wp2_with fail
  rw[rounds_succ]
  go_wp2_with fail
  rw[rounds_succ]
  go_wp2_with fail
  refine bodyPost_ret (v:=hv r) (by rw[HC.out];simp[results,Tryz.results27,go_sem,hv,cv,z0,z1,z2,z3]) rfl ?_
  exact⟨_,rfl,rfl,ZY (ZY HB.out HN.out.1 _ _ _ _) HN.out.2 _ _ _ _⟩
 have c1':=Decidable.not_not.1 c1
 have HY1:=lhd (HY.out.trans (if_neg c1))
 subst c1'
 clear c1 HY
 rw[rounds_succ]
 go_wp2_with fail
 rcases Decidable.em (b≠0) with c1 | c1
 ·obtain⟨k,hk,hk5,g0⟩:=HP.out.inv hb
  have hq:q=inv5 b:=by rw[HY1.out,if_pos c1]
  have bq:=Ub hb
  rw[← hq]at g0 bq
  have HKq:=lhd hq
  have t2:(b == 0)=false:=by simpa using c1
  have t3:(b != 0)=true:=by simpa using c1
  obtain⟨ma0,ma1⟩:=m44 ba bq;obtain⟨mb0,mb1⟩:=m44 bb bq;obtain⟨mc0,mc1⟩:=m44 bc bq;obtain⟨md0,md1⟩:=m44 bd bq
  subst hk
  clear hq ha hb hc hd
  rw[rounds_succ]
  go_wp2_with fail
  refine wp_loop_rounds 5 ?_
  rw[rounds_succ]
  go_wp2_with fail
  rw[rounds_succ]
  go_wp2_with fail
  rw[rounds_succ]
  go_wp2_with fail
  rw[rounds_succ]
  go_wp2_with fail
  rw[rounds_succ]
  go_wp2_with fail
  refine bodyPost_ret (v:=hv r) (by rw[HC.out];simp[results,Tryz.results27,go_sem,hv,cv,z0,z1,z2,z3]) rfl ?_
  exact⟨_,rfl,rfl,ZY (ZY HB.out HN.out.1 _ _ _ _) HN.out.2 _ _ _ _⟩
 have c1':=Decidable.not_not.1 c1
 have HY2:=lhd (HY1.out.trans (if_neg c1))
 subst c1'
 clear c1 HY1
 rw[rounds_succ]
 go_wp2_with fail
 rcases Decidable.em (c≠0) with c1 | c1
 ·obtain⟨k,hk,hk5,g0⟩:=HP.out.inv hc
  have hq:q=inv5 c:=by rw[HY2.out,if_pos c1]
  have bq:=Ub hc
  rw[← hq]at g0 bq
  have HKq:=lhd hq
  have t2:(c == 0)=false:=by simpa using c1
  have t3:(c != 0)=true:=by simpa using c1
  obtain⟨ma0,ma1⟩:=m44 ba bq;obtain⟨mb0,mb1⟩:=m44 bb bq;obtain⟨mc0,mc1⟩:=m44 bc bq;obtain⟨md0,md1⟩:=m44 bd bq
  subst hk
  clear hq ha hb hc hd
  rw[rounds_succ]
  go_wp2_with fail
  refine wp_loop_rounds 5 ?_
  rw[rounds_succ]
  go_wp2_with fail
  rw[rounds_succ]
  go_wp2_with fail
  rw[rounds_succ]
  go_wp2_with fail
  rw[rounds_succ]
  go_wp2_with fail
  rw[rounds_succ]
  go_wp2_with fail
  refine bodyPost_ret (v:=hv r) (by rw[HC.out];simp[results,Tryz.results27,go_sem,hv,cv,z0,z1,z2,z3]) rfl ?_
  exact⟨_,rfl,rfl,ZY (ZY HB.out HN.out.1 _ _ _ _) HN.out.2 _ _ _ _⟩
 have c1':=Decidable.not_not.1 c1
 have HY3:=lhd (HY2.out.trans (if_neg c1))
 subst c1'
 clear c1 HY2
 rw[rounds_succ]
 go_wp2_with fail
 rcases Decidable.em (d≠0) with c1 | c1
 ·obtain⟨k,hk,hk5,g0⟩:=HP.out.inv hd
  have hq:q=inv5 d:=HY3.out
  have bq:=Ub hd
  rw[← hq]at g0 bq
  have HKq:=lhd hq
  have t2:(d == 0)=false:=by simpa using c1
  have t3:(d != 0)=true:=by simpa using c1
  obtain⟨ma0,ma1⟩:=m44 ba bq;obtain⟨mb0,mb1⟩:=m44 bb bq;obtain⟨mc0,mc1⟩:=m44 bc bq;obtain⟨md0,md1⟩:=m44 bd bq
  subst hk
  clear hq ha hb hc hd
  rw[rounds_succ]
  go_wp2_with fail
  refine wp_loop_rounds 5 ?_
  rw[rounds_succ]
  go_wp2_with fail
  rw[rounds_succ]
  go_wp2_with fail
  rw[rounds_succ]
  go_wp2_with fail
  rw[rounds_succ]
  go_wp2_with fail
  rw[rounds_succ]
  go_wp2_with fail
  refine bodyPost_ret (v:=hv r) (by rw[HC.out];simp[results,Tryz.results27,go_sem,hv,cv,z0,z1,z2,z3]) rfl ?_
  exact⟨_,rfl,rfl,ZY (ZY HB.out HN.out.1 _ _ _ _) HN.out.2 _ _ _ _⟩
 have c1':=Decidable.not_not.1 c1
 have HY4:=lhd HY3.out
 subst c1'
 clear c1 HY3
 rw[rounds_succ]
 go_wp2_with fail
 have hq0:q=0:=HY4.out.trans (by decide)
 subst hq0
 rw[rounds_succ]
 go_wp2_with fail
 refine wp_loop_rounds 5 ?_
 rw[rounds_succ]
 go_wp2_with fail
 rw[rounds_succ]
 go_wp2_with fail
 rw[rounds_succ]
 go_wp2_with fail
 rw[rounds_succ]
 go_wp2_with fail
 rw[rounds_succ]
 go_wp2_with fail
 refine bodyPost_ret (v:=hv r) (by rw[HC.out];simp[results,Tryz.results27,go_sem,hv,cv,z0,z1,z2,z3]) rfl ?_
 exact⟨_,rfl,rfl,ZY (ZY HB.out HN.out.1 _ _ _ _) HN.out.2 _ _ _ _⟩
end
end Go.Proofs.YthkklilhjnpedaaGreatDoor
