/- A range over a method value (an iterator with a receiver), whose body is never left early: the elements are those of a list. -/
import Derived.Test.YthkklilhjnpedaaGreatDoorUPla
import Derived.Test.YthkklilhjnpedaaGreatDoorUShelf
import Derived.Test.YthkklilhjnpedaaGreatDoorURpg
import Derived.Test.YthkklilhjnpedaaGreatDoorURep
import Derived.Test.YthkklilhjnpedaaGreatDoorUJw
import Derived.Test.YthkklilhjnpedaaGreatDoorUVn
import Derived.Test.YthkklilhjnpedaaGreatDoorUGsl
set_option maxHeartbeats 16000000
set_option maxRecDepth 8000
namespace Go.Proofs.YthkklilhjnpedaaGreatDoor
section
open Go.RowKit FF
@[local go_sem] theorem run_kls0 (c0 c1 c2 c3:Value) (w:World):(Instr.index 67 (.agg #[c0,c1,c2,c3]) (.int .i64 0)).run Tryz.prog w=.ok c0 w:=by kernel_rfl
@[local go_sem] theorem run_kls1 (c0 c1 c2 c3:Value) (w:World):(Instr.index 67 (.agg #[c0,c1,c2,c3]) (.int .i64 1)).run Tryz.prog w=.ok c1 w:=by kernel_rfl
@[local go_sem] theorem run_kls2 (c0 c1 c2 c3:Value) (w:World):(Instr.index 67 (.agg #[c0,c1,c2,c3]) (.int .i64 2)).run Tryz.prog w=.ok c2 w:=by kernel_rfl
@[local go_sem] theorem run_kls3 (c0 c1 c2 c3:Value) (w:World):(Instr.index 67 (.agg #[c0,c1,c2,c3]) (.int .i64 3)).run Tryz.prog w=.ok c3 w:=by kernel_rfl
def dg(n:Int):List UInt8:=[(48+n).toNat.toUInt8]
theorem Zbd{n:Int}(h:n∈up5)(w:World):Calls Tryz.prog 65 #[.int .i64 n] w fun e w'=>e=.returned (.string ⟨(dg n).toArray⟩)∧w'=w:=by
 simp only[up5,List.mem_cons,List.not_mem_nil,or_false]at h
 rcases h with rfl | rfl | rfl | rfl | rfl
 ·have h:=Tryz.strconv_Itoa_small 0 (by omega) w;rw[show Lib.decDigits 0=dg 0 by (unfold Lib.decDigits;rfl),show((0:Nat):Int)=0 by rfl]at h;exact h
 ·have h:=Tryz.strconv_Itoa_small 1 (by omega) w;rw[show Lib.decDigits 1=dg 1 by (unfold Lib.decDigits;rfl),show((1:Nat):Int)=1 by rfl]at h;exact h
 ·have h:=Tryz.strconv_Itoa_small 2 (by omega) w;rw[show Lib.decDigits 2=dg 2 by (unfold Lib.decDigits;rfl),show((2:Nat):Int)=2 by rfl]at h;exact h
 ·have h:=Tryz.strconv_Itoa_small 3 (by omega) w;rw[show Lib.decDigits 3=dg 3 by (unfold Lib.decDigits;rfl),show((3:Nat):Int)=3 by rfl]at h;exact h
 ·have h:=Tryz.strconv_Itoa_small 4 (by omega) w;rw[show Lib.decDigits 4=dg 4 by (unfold Lib.decDigits;rfl),show((4:Nat):Int)=4 by rfl]at h;exact h
theorem join4(a b c d:Int):Lib.join [dg a,dg b,dg c,dg d] [44]=ZX ⟨a,b,c,d⟩:=rfl
theorem Zei:(Tryz.prog.info? 9).map (fun i=>(i.zero,i.size,i.bytes))=some (some (.string ⟨#[]⟩),1,16):=by kernel_rfl
theorem UI{ops:Array Oper}{rest:List Oper}{o:Oper}{a:Act}{Q:Exit→Act→World→Prop}{w W:World}{v:Value}{rs:List (List UInt8 × List Value)}(hgd:o.guard=none)(s x:Operand)(t:TypeId)(ho:o.op=.call { callee:=.builtin .append,args:=#[s,x],argTypes:=#[t,t] })(ht:Tryz.prog.underlying t=some (.slice 9))
  (h:Own eStr w v rs W) (y:List UInt8) (T:TypeId) (R c:Nat) (hR:W.heap.size=R) (hs:a.eval s=v) (hx:a.eval x=.slice (some ⟨R,0,none⟩) 1 c) (hl:rs.length≤1000000)
  (K:∀ v' W',Own eStr w v' (rs++[(y,[.string ⟨y.toArray⟩])]) W'→wpList Tryz.prog ops Q rest (a.put o.dst v') W'):wpList Tryz.prog ops Q (o::rest) a (W.alloc (.cells #[.string ⟨y.toArray⟩] T)):=by
 subst hR
 obtain⟨i0,hi,hz0,hz1,hz2⟩:=info_parts Zei
 exact ZB hgd s x t ho i0 ht hi hz0 hz1 hz2 (h.keep ((brf _ _).alloc (nlr _) _)) (y:=y) (cs:=[.string ⟨y.toArray⟩]) rfl _ c hs hx (fun d u hd=>by
  rw[Addr.add_lit,Nat.zero_add,Xs]
  rcases d with _ | d
  ·injection hd with hd;subst hd;rfl
  ·simp at hd) hl K
theorem Zie(m:Hw)(w:World)(hm:In5 m):Calls Tryz.prog 31 #[hv m] w (Zb (VC (.string ⟨(ZX m).toArray⟩)) w):=by
 obtain⟨a,b,c,d⟩:=m
 obtain⟨ha,hb,hc,hd⟩:=hm
 simp only at ha hb hc hd
 have HA:=lhd (fun W=>Zbd ha W);have HBb:=lhd (fun W=>Zbd hb W);have HC:=lhd (fun W=>Zbd hc W);have HD:=lhd (fun W=>Zbd hd W)
 have HJ:=lhd (join4 a b c d)
 have HLen:=lhd (show(ZX ⟨a,b,c,d⟩).length≤140737488355328 by simp[ZX])
 generalize ZX ⟨a,b,c,d⟩=nm at *
 generalize dg a=sa at *
 generalize dg b=sb at *
 generalize dg c=sc at *
 generalize dg d=sd at *
 clear ha hb hc hd
 unfold hv cv
 have hB:=(brf w.heap.size w).alloc (nlr _) (.cells #[.int .i64 a,.int .i64 b,.int .i64 c,.int .i64 d] 67)
 go_enter Tryz.func31,Tryz.ntmps31
 go_upto_region 3 with fail
 obtain⟨W1,hW1⟩:=nmx (w.alloc (.cells #[.int .i64 a,.int .i64 b,.int .i64 c,.int .i64 d] 67))
 rw[← hW1]at hB ⊢
 have HO0:=lhd (Own.start eStr hB)
 clear hW1 hB
 refine wp_loop_rounds 6 ?_
 rw[rounds_succ]
 go_wp2_with fail
 refine(HA.out _).mono ?_
 rintro e q0 ⟨rfl,rfl⟩
 go_wp2_with (at_builtin;refine UI rfl (.tmp 10) (.tmp 13) 30 rfl Tryz.underlying30 HO0.out _ _ q0.heap.size 1 rfl rfl rfl (by simp) ?_;intro v1 p1 hg;have HO1:=lhd hg;clear hg)
 rw[rounds_succ]
 go_wp2_with fail
 refine(HBb.out _).mono ?_
 rintro e q1 ⟨rfl,rfl⟩
 go_wp2_with (at_builtin;refine UI rfl (.tmp 10) (.tmp 13) 30 rfl Tryz.underlying30 HO1.out _ _ q1.heap.size 1 rfl rfl rfl (by simp) ?_;intro v2 p2 hg;have HO2:=lhd hg;clear hg)
 rw[rounds_succ]
 go_wp2_with fail
 refine(HC.out _).mono ?_
 rintro e q2 ⟨rfl,rfl⟩
 go_wp2_with (at_builtin;refine UI rfl (.tmp 10) (.tmp 13) 30 rfl Tryz.underlying30 HO2.out _ _ q2.heap.size 1 rfl rfl rfl (by simp) ?_;intro v3 p3 hg;have HO3:=lhd hg;clear hg)
 rw[rounds_succ]
 go_wp2_with fail
 refine(HD.out _).mono ?_
 rintro e q3 ⟨rfl,rfl⟩
 go_wp2_with (at_builtin;refine UI rfl (.tmp 10) (.tmp 13) 30 rfl Tryz.underlying30 HO3.out _ _ q3.heap.size 1 rfl rfl rfl (by simp) ?_;intro v4 p4 hg;have HO4:=lhd hg;clear hg)
 rw[rounds_succ]
 go_wp2_with fail
 obtain⟨g,cap,rfl,hcap,-,-,hgs⟩:=HO4.out.form (by simp)
 have HC0:=HO4.out.cell (i:=0) rfl
 have HC1:=HO4.out.cell (i:=1) rfl
 have HC2:=HO4.out.cell (i:=2) rfl
 have HC3:=HO4.out.cell (i:=3) rfl
 have hj:=Tryz.strings_Join g 0 cap [⟨sa.toArray⟩,⟨sb.toArray⟩,⟨sc.toArray⟩,⟨sd.toArray⟩] ⟨#[44]⟩ p4 (fun j x hx=>by
  rcases j with _ | _ | _ | _ | j
  ·cases hx;exact HC0.1 0 _ rfl
  ·cases hx;exact HC1.1 0 _ rfl
  ·cases hx;exact HC2.1 0 _ rfl
  ·cases hx;exact HC3.1 0 _ rfl
  ·cases hx) hgs (by simp) hcap (by show(Lib.join [sa,sb,sc,sd] [44]).length≤_;rw[HJ.out];exact HLen.out)
 have hj2:Calls Tryz.prog 66 #[.slice (some ⟨g,0,none⟩) 4 cap,.string ⟨#[44]⟩] p4 fun e w'=>e=.returned (.string ⟨nm.toArray⟩)∧Below p4.heap.size p4 w':=by
  rw[← HJ.out];exact hj
 clear hj
 refine hj2.mono ?_
 rintro e q5 ⟨rfl,hq5⟩
 have HB5:=lhd (HO4.out.below.trans (hq5.mono HO4.out.below.size))
 clear hq5 hj2 HC0 HC1 HC2 HC3 hgs hcap
 go_wp2_with fail
 go_ret
 exact⟨_,rfl,rfl,HB5.out⟩
theorem Cells.set1{W:World}{b i:Nat}{vs:Array Value}(h:Cells W b vs)(hi:i<vs.size)(u:Value):Cells (W.setCell ⟨b,i,none⟩ u) b (vs.setIfInBounds i u):=by
 refine⟨by simpa[World.setCell] using h.1,fun j hj=>?_,fun j=>by simp[go_sem,h.2.2 j]⟩
 rw[Array.size_setIfInBounds]at hj
 rw[Array.getElem?_setIfInBounds]
 by_cases e:i=j
 ·subst e
  rw[if_pos rfl,if_pos hi]
  exact World.cell?_setCell_same' _ _ _ (by rw[h.2.1 i hi,Array.getElem?_eq_getElem hi];rfl)
 ·rw[if_neg e,← h.2.1 j hj]
  simp[go_sem]
theorem WpS.stoN{o:Oper}{a:Act}{W:World}{K:Act→World→Prop}{Q':Exit→Act→World→Prop}{x z:Operand}{g k:Nat}{v:Int}{zs:Array Value}(ho:o.op=.store 3 x z)(hx:a.eval x=.pointer (some ⟨g,k,none⟩))(hz:a.eval z=.int .i64 v)(hc:Cells W g zs)(hk:k<zs.size)
  (hK:K (a.put o.dst undef) (W.setCell ⟨g,k,none⟩ (.int .i64 v))):WpS Tryz.prog o a W K Q':=by
 have c:=hc.2.1 k hk
 rw[Array.getElem?_eq_getElem hk]at c
 have f:=hc.2.2 k
 refine⟨?_⟩
 unfold Oper.wp execOp
 simp only[ho,hx,hz]
 simp[go_sem,Instr.storeAt,Instr.sureAddr,c,f]
 exact hK
theorem Zfn(w:World):Calls Tryz.prog 21 #[.int .i64 5] w (Zb (fun v W=>∃ X G,v=.pointer (some ⟨X,0,none⟩)∧PlV X G W) w):=by
 have HIn:=lhd (show ∀ n,n∈[(1,1),(2,3),(3,2),(4,4)]→∀ W,Calls Tryz.prog 60 #[.int .i64 n.1,.int .i64 5] W (Zb (VC (.tuple #[.int .i64 n.2,.int .i64 0])) W) from fun n hn W=>by
  have h1:=Kq n.1 5 W (by simp only[List.mem_cons,List.not_mem_nil,or_false]at hn;rcases hn with rfl | rfl | rfl | rfl <;> (unfold I64;omega))
  have h2:∀ n∈[((1:Int),(1:Int)),(2,3),(3,2),(4,4)],invV n.1 5=n.2∧invE n.1 5=0:=by decide +kernel
  rw[(h2 n hn).1,(h2 n hn).2]at h1
  exact h1.mono fun _ _ h=>YG h)
 obtain⟨i0,hi,hz0,hz1,hz2⟩:=info_parts ZM
 have HI:=lhd hi;have HZ1:=lhd hz1
 clear hi hz0 hz1 hz2
 have hmk:(Instr.makeSlice 40 (.int .i64 5) (.int .i64 5)).run Tryz.prog w=.ok (.slice (some ⟨w.heap.size,0,none⟩) 5 5) (w.alloc (.cells #[.int .i64 0,.int .i64 0,.int .i64 0,.int .i64 0,.int .i64 0] 3)):=
  by
   have h:=KN 40 Tryz.underlying40 5 (by omega) w
   rw[show madeCells #[Value.int .i64 0] 5=#[.int .i64 0,.int .i64 0,.int .i64 0,.int .i64 0,.int .i64 0] by kernel_rfl]at h
   exact h
 go_enter Tryz.func21,Tryz.ntmps21
 go_upto_region 3 with fail
 clear hmk
 have h1:=(Cells.new w #[.int .i64 0,.int .i64 0,.int .i64 0,.int .i64 0,.int .i64 0] 3 rfl).alloc (.cells #[.int .i64 5,.slice (some ⟨w.heap.size,0,none⟩) 5 5] 104)
 have h2:=Cells.new (w.alloc (.cells #[.int .i64 0,.int .i64 0,.int .i64 0,.int .i64 0,.int .i64 0] 3)) #[.int .i64 5,.slice (some ⟨w.heap.size,0,none⟩) 5 5] 104 (b:=w.heap.size+1) (by simp)
 have hB:=Uc (w:=w) (.cells #[.int .i64 0,.int .i64 0,.int .i64 0,.int .i64 0,.int .i64 0] 3) (.cells #[.int .i64 5,.slice (some ⟨w.heap.size,0,none⟩) 5 5] 104)
 obtain⟨W1,hW1⟩:=nmx ((w.alloc (.cells #[.int .i64 0,.int .i64 0,.int .i64 0,.int .i64 0,.int .i64 0] 3)).alloc (.cells #[.int .i64 5,.slice (some ⟨w.heap.size,0,none⟩) 5 5] 104))
 rw[← hW1]at h1 h2 hB ⊢
 obtain⟨G,hG⟩:=nmx (w.heap.size)
 obtain⟨X,hX⟩:=nmx (w.heap.size+1)
 have HN:=lhd (show G≠X∧w.heap.size≤G by omega)
 rw[← hX]at h2 ⊢
 rw[← hG]at h1 h2 ⊢
 have HG1:=lhd h1;have HX1:=lhd h2;have HB1:=lhd hB
 clear hW1 hG hX h1 h2 hB
 refine wp_loop_rounds 5 ?_
 rw[rounds_succ]
 go_wp2_with fail
 refine YC w.heap.size [(0,16,(.pointer (some ⟨X,0,none⟩))),(1,17,(.pointer (some ⟨X,0,none⟩))),(2,18,(.pointer (some ⟨X,1,none⟩))),(3,19,(.slice (some ⟨G,0,none⟩) 5 5)),(4,20,(.int .i64 1)),(5,21,(.int .i64 1)),(6,22,(.int .i64 5)),(7,23,(.tuple #[.int .i64 1,.int .i64 0])),(8,15,(.tuple #[.int .i64 1,.int .i64 0])),(9,24,(.int .i64 1)),(10,25,(.int .i64 0)),(11,26,(.pointer (some ⟨G,0+1*1,none⟩)))] [⟨G,12,#[.int .i64 0,.int .i64 0,.int .i64 0,.int .i64 0,.int .i64 0],#[.int .i64 0,.int .i64 1,.int .i64 0,.int .i64 0,.int .i64 0]⟩,⟨X,999,#[.int .i64 5,.slice (some ⟨G,0,none⟩) 5 5],#[]⟩] [16,17,18,19,20,21,22,23,15,24,25,26] HB1.out.size (by kernel_rfl) (by kernel_rfl) (by kernel_rfl) (fun c hc=>?_) (Zl ⟨?_,?_,?_,?_,?_,?_,?_,?_,?_,?_,?_,?_,?_,trivial⟩) ?_
 ·simp only[List.mem_cons,List.not_mem_nil,or_false]at hc
  rcases hc with rfl | rfl
  ·exact HG1.out
  ·exact HX1.out
 ·exact .val rfl rfl rfl fun _ _ _ _ _ _=>.move rfl (fou (v:=.pointer (some ⟨X,0,none⟩))) rfl
 ·exact .val rfl rfl rfl fun _ _ _ _ _ hV=>.nilCheck rfl (sgt hV 0 rfl) rfl
 ·exact .val rfl rfl rfl fun _ _ _ _ _ hV=>.fieldAddr rfl (sgt hV 1 rfl) (by kernel_rfl) rfl
 ·exact .val rfl rfl rfl fun _ _ _ _ hO hV=>.load1 rfl (sgt hV 2 rfl) (Za Tryz.underlying40 rfl ((hO _ lm1 rfl).two.2)) rfl
 ·exact .val rfl rfl rfl fun _ _ _ _ _ _=>.move rfl (fou (v:=.int .i64 1)) rfl
 ·exact .val rfl rfl rfl fun _ _ _ _ _ _=>.move rfl (fou (v:=.int .i64 1)) rfl
 ·exact .val rfl rfl rfl fun _ _ _ _ _ _=>.move rfl (fou (v:=.int .i64 5)) rfl
 ·exact .val rfl rfl rfl fun _ W _ _ _ hV=>.call Tryz.func60 (by kernel_rfl) rfl rfl rfl (Zg (sgt hV 5 rfl) (sgt hV 6 rfl)) (HIn.out (1,1) (by decide) W)
 ·exact .val rfl rfl rfl fun _ _ _ _ _ hV=>.move rfl (sgt hV 7 rfl) rfl
 ·exact .val rfl rfl rfl fun _ _ _ _ _ hV=>.extract rfl (sgt hV 8 rfl) rfl rfl
 ·exact .val rfl rfl rfl fun _ _ _ _ _ hV=>.extract rfl (sgt hV 8 rfl) rfl rfl
 ·exact .val rfl rfl rfl fun _ _ _ _ _ hV=>.rowAt Tryz.underlying40 HI.out HZ1.out rfl (sgt hV 3 rfl) (sgt hV 4 rfl) (by decide)
 ·exact .sto rfl rfl rfl lm0 rfl HN.out.2 (fun d hd=>by
   simp only[List.mem_cons,List.not_mem_nil,or_false]at hd
   rcases hd with rfl | rfl
   ·exact⟨fun _=>rfl,fun _=>rfl⟩
   ·exact⟨fun h=>absurd (show(999:Nat)=12 from h) (by decide),fun h=>absurd h.symm HN.out.1⟩) fun y W hc hV K Q' hK=>WpS.stoN rfl (sgt hV 11 rfl) (sgt hV 9 rfl) hc (show 1<5 by decide) (hK _ (Cells.set1 hc (show 1<5 by decide) _) (Only.setCell ..))
 intro y W2 hB hO hV
 have HG2:=lhd (show Cells W2 G #[.int .i64 0,.int .i64 1,.int .i64 0,.int .i64 0,.int .i64 0] from(hO _ lm0).2 (show 12<13 by decide))
 have HX2:=lhd ((hO _ lm1).1 rfl)
 have HB2:=lhd (HB1.out.trans hB)
 clear hB hO hV HG1 HX1 HB1
 generalize hact:fr _ _ y=act
 simp only[fr,Zf,fC0,fN0,sA0,sZ0,sS0]at hact
 subst hact
 go_wp2_with fail
 rw[rounds_succ]
 go_wp2_with fail
 refine YC w.heap.size [(0,16,(.pointer (some ⟨X,0,none⟩))),(1,17,(.pointer (some ⟨X,0,none⟩))),(2,18,(.pointer (some ⟨X,1,none⟩))),(3,19,(.slice (some ⟨G,0,none⟩) 5 5)),(4,20,(.int .i64 2)),(5,21,(.int .i64 2)),(6,22,(.int .i64 5)),(7,23,(.tuple #[.int .i64 3,.int .i64 0])),(8,15,(.tuple #[.int .i64 3,.int .i64 0])),(9,24,(.int .i64 3)),(10,25,(.int .i64 0)),(11,26,(.pointer (some ⟨G,0+2*1,none⟩)))] [⟨G,12,#[.int .i64 0,.int .i64 1,.int .i64 0,.int .i64 0,.int .i64 0],#[.int .i64 0,.int .i64 1,.int .i64 3,.int .i64 0,.int .i64 0]⟩,⟨X,999,#[.int .i64 5,.slice (some ⟨G,0,none⟩) 5 5],#[]⟩] [16,17,18,19,20,21,22,23,15,24,25,26] HB2.out.size (by kernel_rfl) (by kernel_rfl) (by kernel_rfl) (fun c hc=>?_) (Zl ⟨?_,?_,?_,?_,?_,?_,?_,?_,?_,?_,?_,?_,?_,trivial⟩) ?_
 ·simp only[List.mem_cons,List.not_mem_nil,or_false]at hc
  rcases hc with rfl | rfl
  ·exact HG2.out
  ·exact HX2.out
 ·exact .val rfl rfl rfl fun _ _ _ _ _ _=>.move rfl (fou (v:=.pointer (some ⟨X,0,none⟩))) rfl
 ·exact .val rfl rfl rfl fun _ _ _ _ _ hV=>.nilCheck rfl (sgt hV 0 rfl) rfl
 ·exact .val rfl rfl rfl fun _ _ _ _ _ hV=>.fieldAddr rfl (sgt hV 1 rfl) (by kernel_rfl) rfl
 ·exact .val rfl rfl rfl fun _ _ _ _ hO hV=>.load1 rfl (sgt hV 2 rfl) (Za Tryz.underlying40 rfl ((hO _ lm1 rfl).two.2)) rfl
 ·exact .val rfl rfl rfl fun _ _ _ _ _ _=>.move rfl (fou (v:=.int .i64 2)) rfl
 ·exact .val rfl rfl rfl fun _ _ _ _ _ _=>.move rfl (fou (v:=.int .i64 2)) rfl
 ·exact .val rfl rfl rfl fun _ _ _ _ _ _=>.move rfl (fou (v:=.int .i64 5)) rfl
 ·exact .val rfl rfl rfl fun _ W _ _ _ hV=>.call Tryz.func60 (by kernel_rfl) rfl rfl rfl (Zg (sgt hV 5 rfl) (sgt hV 6 rfl)) (HIn.out (2,3) (by decide) W)
 ·exact .val rfl rfl rfl fun _ _ _ _ _ hV=>.move rfl (sgt hV 7 rfl) rfl
 ·exact .val rfl rfl rfl fun _ _ _ _ _ hV=>.extract rfl (sgt hV 8 rfl) rfl rfl
 ·exact .val rfl rfl rfl fun _ _ _ _ _ hV=>.extract rfl (sgt hV 8 rfl) rfl rfl
 ·exact .val rfl rfl rfl fun _ _ _ _ _ hV=>.rowAt Tryz.underlying40 HI.out HZ1.out rfl (sgt hV 3 rfl) (sgt hV 4 rfl) (by decide)
 ·exact .sto rfl rfl rfl lm0 rfl HN.out.2 (fun d hd=>by
   simp only[List.mem_cons,List.not_mem_nil,or_false]at hd
   rcases hd with rfl | rfl
   ·exact⟨fun _=>rfl,fun _=>rfl⟩
   ·exact⟨fun h=>absurd (show(999:Nat)=12 from h) (by decide),fun h=>absurd h.symm HN.out.1⟩) fun y W hc hV K Q' hK=>WpS.stoN rfl (sgt hV 11 rfl) (sgt hV 9 rfl) hc (show 2<5 by decide) (hK _ (Cells.set1 hc (show 2<5 by decide) _) (Only.setCell ..))
 intro y W3 hB hO hV
 have HG3:=lhd (show Cells W3 G #[.int .i64 0,.int .i64 1,.int .i64 3,.int .i64 0,.int .i64 0] from(hO _ lm0).2 (show 12<13 by decide))
 have HX3:=lhd ((hO _ lm1).1 rfl)
 have HB3:=lhd (HB2.out.trans hB)
 clear hB hO hV HG2 HX2 HB2
 generalize hact:fr _ _ y=act
 simp only[fr,Zf,fC0,fN0,sA0,sZ0,sS0]at hact
 subst hact
 go_wp2_with fail
 rw[rounds_succ]
 go_wp2_with fail
 refine YC w.heap.size [(0,16,(.pointer (some ⟨X,0,none⟩))),(1,17,(.pointer (some ⟨X,0,none⟩))),(2,18,(.pointer (some ⟨X,1,none⟩))),(3,19,(.slice (some ⟨G,0,none⟩) 5 5)),(4,20,(.int .i64 3)),(5,21,(.int .i64 3)),(6,22,(.int .i64 5)),(7,23,(.tuple #[.int .i64 2,.int .i64 0])),(8,15,(.tuple #[.int .i64 2,.int .i64 0])),(9,24,(.int .i64 2)),(10,25,(.int .i64 0)),(11,26,(.pointer (some ⟨G,0+3*1,none⟩)))] [⟨G,12,#[.int .i64 0,.int .i64 1,.int .i64 3,.int .i64 0,.int .i64 0],#[.int .i64 0,.int .i64 1,.int .i64 3,.int .i64 2,.int .i64 0]⟩,⟨X,999,#[.int .i64 5,.slice (some ⟨G,0,none⟩) 5 5],#[]⟩] [16,17,18,19,20,21,22,23,15,24,25,26] HB3.out.size (by kernel_rfl) (by kernel_rfl) (by kernel_rfl) (fun c hc=>?_) (Zl ⟨?_,?_,?_,?_,?_,?_,?_,?_,?_,?_,?_,?_,?_,trivial⟩) ?_
 ·simp only[List.mem_cons,List.not_mem_nil,or_false]at hc
  rcases hc with rfl | rfl
  ·exact HG3.out
  ·exact HX3.out
 ·exact .val rfl rfl rfl fun _ _ _ _ _ _=>.move rfl (fou (v:=.pointer (some ⟨X,0,none⟩))) rfl
 ·exact .val rfl rfl rfl fun _ _ _ _ _ hV=>.nilCheck rfl (sgt hV 0 rfl) rfl
 ·exact .val rfl rfl rfl fun _ _ _ _ _ hV=>.fieldAddr rfl (sgt hV 1 rfl) (by kernel_rfl) rfl
 ·exact .val rfl rfl rfl fun _ _ _ _ hO hV=>.load1 rfl (sgt hV 2 rfl) (Za Tryz.underlying40 rfl ((hO _ lm1 rfl).two.2)) rfl
 ·exact .val rfl rfl rfl fun _ _ _ _ _ _=>.move rfl (fou (v:=.int .i64 3)) rfl
 ·exact .val rfl rfl rfl fun _ _ _ _ _ _=>.move rfl (fou (v:=.int .i64 3)) rfl
 ·exact .val rfl rfl rfl fun _ _ _ _ _ _=>.move rfl (fou (v:=.int .i64 5)) rfl
 ·exact .val rfl rfl rfl fun _ W _ _ _ hV=>.call Tryz.func60 (by kernel_rfl) rfl rfl rfl (Zg (sgt hV 5 rfl) (sgt hV 6 rfl)) (HIn.out (3,2) (by decide) W)
 ·exact .val rfl rfl rfl fun _ _ _ _ _ hV=>.move rfl (sgt hV 7 rfl) rfl
 ·exact .val rfl rfl rfl fun _ _ _ _ _ hV=>.extract rfl (sgt hV 8 rfl) rfl rfl
 ·exact .val rfl rfl rfl fun _ _ _ _ _ hV=>.extract rfl (sgt hV 8 rfl) rfl rfl
 ·exact .val rfl rfl rfl fun _ _ _ _ _ hV=>.rowAt Tryz.underlying40 HI.out HZ1.out rfl (sgt hV 3 rfl) (sgt hV 4 rfl) (by decide)
 ·exact .sto rfl rfl rfl lm0 rfl HN.out.2 (fun d hd=>by
   simp only[List.mem_cons,List.not_mem_nil,or_false]at hd
   rcases hd with rfl | rfl
   ·exact⟨fun _=>rfl,fun _=>rfl⟩
   ·exact⟨fun h=>absurd (show(999:Nat)=12 from h) (by decide),fun h=>absurd h.symm HN.out.1⟩) fun y W hc hV K Q' hK=>WpS.stoN rfl (sgt hV 11 rfl) (sgt hV 9 rfl) hc (show 3<5 by decide) (hK _ (Cells.set1 hc (show 3<5 by decide) _) (Only.setCell ..))
 intro y W4 hB hO hV
 have HG4:=lhd (show Cells W4 G #[.int .i64 0,.int .i64 1,.int .i64 3,.int .i64 2,.int .i64 0] from(hO _ lm0).2 (show 12<13 by decide))
 have HX4:=lhd ((hO _ lm1).1 rfl)
 have HB4:=lhd (HB3.out.trans hB)
 clear hB hO hV HG3 HX3 HB3
 generalize hact:fr _ _ y=act
 simp only[fr,Zf,fC0,fN0,sA0,sZ0,sS0]at hact
 subst hact
 go_wp2_with fail
 rw[rounds_succ]
 go_wp2_with fail
 refine YC w.heap.size [(0,16,(.pointer (some ⟨X,0,none⟩))),(1,17,(.pointer (some ⟨X,0,none⟩))),(2,18,(.pointer (some ⟨X,1,none⟩))),(3,19,(.slice (some ⟨G,0,none⟩) 5 5)),(4,20,(.int .i64 4)),(5,21,(.int .i64 4)),(6,22,(.int .i64 5)),(7,23,(.tuple #[.int .i64 4,.int .i64 0])),(8,15,(.tuple #[.int .i64 4,.int .i64 0])),(9,24,(.int .i64 4)),(10,25,(.int .i64 0)),(11,26,(.pointer (some ⟨G,0+4*1,none⟩)))] [⟨G,12,#[.int .i64 0,.int .i64 1,.int .i64 3,.int .i64 2,.int .i64 0],#[.int .i64 0,.int .i64 1,.int .i64 3,.int .i64 2,.int .i64 4]⟩,⟨X,999,#[.int .i64 5,.slice (some ⟨G,0,none⟩) 5 5],#[]⟩] [16,17,18,19,20,21,22,23,15,24,25,26] HB4.out.size (by kernel_rfl) (by kernel_rfl) (by kernel_rfl) (fun c hc=>?_) (Zl ⟨?_,?_,?_,?_,?_,?_,?_,?_,?_,?_,?_,?_,?_,trivial⟩) ?_
 ·simp only[List.mem_cons,List.not_mem_nil,or_false]at hc
  rcases hc with rfl | rfl
  ·exact HG4.out
  ·exact HX4.out
 ·exact .val rfl rfl rfl fun _ _ _ _ _ _=>.move rfl (fou (v:=.pointer (some ⟨X,0,none⟩))) rfl
 ·exact .val rfl rfl rfl fun _ _ _ _ _ hV=>.nilCheck rfl (sgt hV 0 rfl) rfl
 ·exact .val rfl rfl rfl fun _ _ _ _ _ hV=>.fieldAddr rfl (sgt hV 1 rfl) (by kernel_rfl) rfl
 ·exact .val rfl rfl rfl fun _ _ _ _ hO hV=>.load1 rfl (sgt hV 2 rfl) (Za Tryz.underlying40 rfl ((hO _ lm1 rfl).two.2)) rfl
 ·exact .val rfl rfl rfl fun _ _ _ _ _ _=>.move rfl (fou (v:=.int .i64 4)) rfl
 ·exact .val rfl rfl rfl fun _ _ _ _ _ _=>.move rfl (fou (v:=.int .i64 4)) rfl
 ·exact .val rfl rfl rfl fun _ _ _ _ _ _=>.move rfl (fou (v:=.int .i64 5)) rfl
 ·exact .val rfl rfl rfl fun _ W _ _ _ hV=>.call Tryz.func60 (by kernel_rfl) rfl rfl rfl (Zg (sgt hV 5 rfl) (sgt hV 6 rfl)) (HIn.out (4,4) (by decide) W)
 ·exact .val rfl rfl rfl fun _ _ _ _ _ hV=>.move rfl (sgt hV 7 rfl) rfl
 ·exact .val rfl rfl rfl fun _ _ _ _ _ hV=>.extract rfl (sgt hV 8 rfl) rfl rfl
 ·exact .val rfl rfl rfl fun _ _ _ _ _ hV=>.extract rfl (sgt hV 8 rfl) rfl rfl
 ·exact .val rfl rfl rfl fun _ _ _ _ _ hV=>.rowAt Tryz.underlying40 HI.out HZ1.out rfl (sgt hV 3 rfl) (sgt hV 4 rfl) (by decide)
 ·exact .sto rfl rfl rfl lm0 rfl HN.out.2 (fun d hd=>by
   simp only[List.mem_cons,List.not_mem_nil,or_false]at hd
   rcases hd with rfl | rfl
   ·exact⟨fun _=>rfl,fun _=>rfl⟩
   ·exact⟨fun h=>absurd (show(999:Nat)=12 from h) (by decide),fun h=>absurd h.symm HN.out.1⟩) fun y W hc hV K Q' hK=>WpS.stoN rfl (sgt hV 11 rfl) (sgt hV 9 rfl) hc (show 4<5 by decide) (hK _ (Cells.set1 hc (show 4<5 by decide) _) (Only.setCell ..))
 intro y W5 hB hO hV
 have HG5:=lhd (show Cells W5 G #[.int .i64 0,.int .i64 1,.int .i64 3,.int .i64 2,.int .i64 4] from(hO _ lm0).2 (show 12<13 by decide))
 have HX5:=lhd ((hO _ lm1).1 rfl)
 have HB5:=lhd (HB4.out.trans hB)
 clear hB hO hV HG4 HX4 HB4
 generalize hact:fr _ _ y=act
 simp only[fr,Zf,fC0,fN0,sA0,sZ0,sS0]at hact
 subst hact
 go_wp2_with fail
 rw[rounds_succ]
 go_wp2_with fail
 go_ret
 exact⟨_,rfl,⟨X,G,rfl,HX5.out,HG5.out⟩,HB5.out⟩
set_option maxRecDepth 100000 in
theorem eq4k(x0 x1 x2 x3 y0 y1 y2 y3:Int)(w:World):(Op.equalIn 10000 67 (.agg #[.int .i64 x0,.int .i64 x1,.int .i64 x2,.int .i64 x3]) (.agg #[.int .i64 y0,.int .i64 y1,.int .i64 y2,.int .i64 y3])).run Tryz.prog w=.ok (x0 == y0 && (x1 == y1 && (x2 == y2 && x3 == y3))) w:=by
 have hp:∀ (x0 x1 x2 x3:Int) (w:World),(part 3 #[.int .i64 x0,.int .i64 x1,.int .i64 x2,.int .i64 x3] 0).run Tryz.prog w=.ok (.int .i64 x0) w∧(part 3 #[.int .i64 x0,.int .i64 x1,.int .i64 x2,.int .i64 x3] 1).run Tryz.prog w=.ok (.int .i64 x1) w∧(part 3 #[.int .i64 x0,.int .i64 x1,.int .i64 x2,.int .i64 x3] 2).run Tryz.prog w=.ok (.int .i64 x2) w∧(part 3 #[.int .i64 x0,.int .i64 x1,.int .i64 x2,.int .i64 x3] 3).run Tryz.prog w=.ok (.int .i64 x3) w:=fun _ _ _ _ _=>⟨by kernel_rfl,by kernel_rfl,by kernel_rfl,by kernel_rfl⟩
 have hi:∀ (x y:Int) (w:World),(Op.equalIn 9999 3 (.int .i64 x) (.int .i64 y)).run Tryz.prog w=.ok (x == y) w:=fun x y w=>run_equalIn_int w 9998 3 .i64 .i64 x y Tryz.underlying3
 have hc:Tryz.prog.cellsOf 3=1:=by kernel_rfl
 obtain⟨i0,hinfo,-⟩:=info_parts ZM
 rw[show(10000:Nat)=9999+1 from rfl,run_equalIn_array (w:=w) 9999 _ _ Tryz.underlying67 hinfo,hc,show List.range 4=[0,1,2,3] from rfl]
 generalize (9999:Nat)=dd at *
 cases h0:(x0 == y0) <;> cases h1:(x1 == y1) <;> cases h2:(x2 == y2) <;> cases h3:(x3 == y3) <;> simp[Op.eqItems,Sem.run_bind,hp,Result.andThen_ok,hi,h0,h1,h2,h3,-beq_iff_eq,-beq_eq_false_iff_ne]
theorem eqK_dec(x y:Hw):(x.a == y.a && (x.b == y.b && (x.c == y.c && x.d == y.d)))=decide (x=y):=by
 obtain⟨a,b,c,d⟩:=x
 obtain⟨e,f,g,h⟩:=y
 rw[Bool.eq_iff_iff]
 simp[Hw.mk.injEq]
theorem eqCls(x y:Hw)(w:World):(Op.equal 67 (hv x) (hv y)).run Tryz.prog w=.ok (decide (x=y)) w:=by
 have h:=eq4k x.a x.b x.c x.d y.a y.b y.c y.d w
 rw[eqK_dec]at h
 exact h
def clsE:List Hw→Nat→List MapEntry
 | [],_=>[]
 | m::l,i=>⟨hv m,.int .i64 (i:Int),i⟩::clsE l (i+1)
theorem Zbr(x:Hw)(w:World):∀ (l:List Hw) (i j:Nat),(Instr.findAsking 67 (hv x) (clsE l i) j).run Tryz.prog w=.ok (if x∈l then some (j+l.idxOf x,.int .i64 ((i+l.idxOf x:Nat):Int)) else none) w
 | [],i,j=>by simp[clsE,Instr.findAsking]
 | m::l,i,j=>by
  have ih:=Zbr x w l (i+1) (j+1)
  by_cases h:x=m
  ·subst h
   simp[clsE,Instr.findAsking,Sem.run_bind,eqCls,Result.andThen_ok]
  ·have h':¬ m=x:=fun e=>h e.symm
   simp only[clsE,Instr.findAsking,Sem.run_bind,eqCls,Result.andThen_ok,h,decide_false,Bool.false_eq_true,if_false,ih,List.mem_cons,false_or]
   by_cases hm:x∈l
   ·rw[if_pos hm,if_pos hm,List.idxOf_cons]
    have:(m == x)=false:=by simpa using h'
    rw[this]
    simp only[cond_false]
    rw[show j+1+l.idxOf x=j+(l.idxOf x+1) by omega,show i+1+l.idxOf x=i+(l.idxOf x+1) by omega]
   ·rw[if_neg hm,if_neg hm]
theorem Zej(x:Hw)(w:World)(l:List Hw):(Instr.findKey 67 (hv x) (clsE l 0)).run Tryz.prog w=.ok (if x∈l then some (l.idxOf x,.int .i64 (l.idxOf x:Int)) else none) w:=by
 have h:=Zbr x w l 0 0
 rw[Nat.zero_add]at h
 cases l with
 | nil=>simp[clsE,Instr.findKey,run_underlying Tryz.underlying67,Instr.findNow,Result.andThen_ok]
 | cons m l =>
  have hn:Instr.findNow (.array 4 3) (hv x) (clsE (m::l) 0) 0=none:=by simp[clsE,Instr.findNow,Instr.sameNow]
  simp only[Instr.findKey,Sem.run_bind,run_underlying Tryz.underlying67,Result.andThen_ok,hn]
  exact h
theorem Zc5(em:Bool)(x:Hw)(w:World):(Instr.checkKey em 10000 67 (hv x)).run Tryz.prog w=.ok () w:=by
 kernel_rfl
theorem Zc6(x:Hw):∀ (l:List Hw) (i:Nat),clsE (l++[x]) i=clsE l i++[⟨hv x,.int .i64 ((i+l.length:Nat):Int),i+l.length⟩]
 | [],i=>by simp[clsE]
 | m::l,i=>by
  simp only[List.cons_append,clsE,Zc6 x l (i+1),List.length_cons]
  rw[show i+1+l.length=i+(l.length+1) by omega]
def MapC(W:World)(b:Nat)(l:List Hw):Prop:=W.heap[b]?=some (.map (clsE l 0).toArray l.length)
theorem MapC.keep{W W':World}{b:Nat}{l:List Hw}(h:MapC W b l)(hb:Below W.heap.size W W'):MapC W' b l:=
 (hb.block b (Array.getElem?_eq_some_iff.1 h).1).trans h
theorem MapC.lt{W:World}{b:Nat}{l:List Hw}(h:MapC W b l):b<W.heap.size:=(Array.getElem?_eq_some_iff.1 h).1
theorem MapC.made(W:World):MapC (W.alloc (.map #[] 0)) W.heap.size []:=World.alloc_heap_new W _
theorem ZcF{W:World}{b:Nat}{l:List Hw}(h:MapC W b l){x:Hw}(hx:x ∉ l):(Instr.mapUpdate 69 (.map (some b)) (hv x) (.int .i64 (l.length:Int))).run Tryz.prog W=.ok () (W.putObj b (.map (clsE (l++[x]) 0).toArray (l++[x]).length)):=by
 have hf:=Zej x W l
 rw[if_neg hx]at hf
 have hs:=Zc6 x l 0
 simp only[Nat.zero_add]at hs
 rw[hs,List.length_append,List.length_singleton]
 simp[Instr.mapUpdate,run_underlying Tryz.underlying69,MapKept.run_getObj_map h,Zc5,hf,MapKept.run_setObj_map _ h,Result.andThen,World.putObj]
theorem ZcG{W:World}{b:Nat}{l:List Hw}(h:MapC W b l){x:Hw}(hx:x∈l):(Instr.lookup 69 (.map (some b)) (hv x) false).run Tryz.prog W=.ok (.int .i64 (l.idxOf x:Int)) W:=by
 have hf:=Zej x W l
 rw[if_pos hx]at hf
 simp[Instr.lookup,run_underlying Tryz.underlying69,MapKept.run_getObj_map h,Zc5,hf,Result.andThen]
def eCls:El Hw where
 T:=67
 n:=4
 bytes:=32
 z:=.agg #[.int .i64 0,.int .i64 0,.int .i64 0,.int .i64 0]
 E:=fun x cs _=>cs=hcs x
 Bad:=fun _=>False
 pos:=by decide
 small:=by decide
 zn:=rfl
 zg:=fun _ _ h=>h
 len:=by rintro x cs W rfl;rfl
 one:=by
  rintro x cs W rfl y hy
  simp only[hcs,List.mem_cons,List.not_mem_nil,or_false]at hy
  rcases hy with rfl | rfl | rfl | rfl <;> exact⟨rfl,fun h=>h⟩
 alt:=fun h _ _=>h
theorem Zek:(Tryz.prog.info? 67).map (fun i=>(i.zero,i.size,i.bytes))=some (some (.agg #[.int .i64 0,.int .i64 0,.int .i64 0,.int .i64 0]),4,32):=by kernel_rfl
theorem Zgg(y:Hw)(W:World)(T:TypeId):∀ d u,(hcs y)[d]?=some u→(W.alloc (.cells #[.int .i64 y.a,.int .i64 y.b,.int .i64 y.c,.int .i64 y.d] T)).cell? ((⟨W.heap.size,0,none⟩:Addr).add d)=some u:=fun d u hd=>by
 rw[Addr.add_lit,Nat.zero_add,Xs]
 rw[← hd]
 rcases d with _ | _ | _ | _ | d <;> rfl
section
variable {ops:Array Oper}{rest:List Oper}{o:Oper}{a:Act}{Q:Exit→Act→World→Prop}{w W:World}{v:Value}
theorem ZgP{rs:List (Hw × List Value)}(hgd:o.guard=none)(s x:Operand)(t:TypeId)(ho:o.op=.call { callee:=.builtin .append,args:=#[s,x],argTypes:=#[t,t] })(ht:Tryz.prog.underlying t=some (.slice 67))
  (h:Own eCls w v rs W) (y:Hw) (T:TypeId) (R c:Nat) (hR:W.heap.size=R) (hs:a.eval s=v) (hx:a.eval x=.slice (some ⟨R,0,none⟩) 1 c) (hl:rs.length≤1000000)
  (K:∀ v' W',Own eCls w v' (rs++[(y,hcs y)]) W'→wpList Tryz.prog ops Q rest (a.put o.dst v') W'):wpList Tryz.prog ops Q (o::rest) a (W.alloc (.cells #[.int .i64 y.a,.int .i64 y.b,.int .i64 y.c,.int .i64 y.d] T)):=by
 subst hR
 obtain⟨i0,hi,hz0,hz1,hz2⟩:=info_parts Zek
 exact ZB hgd s x t ho i0 ht hi hz0 hz1 hz2 (h.keep ((brf _ _).alloc (nlr _) _)) (y:=y) (cs:=hcs y) rfl _ c hs hx (Zgg y W T) hl K
end
theorem cls_at{l:List Hw}{A:Option Addr}{n c:Nat}{W:World}(h:Sl eCls l (.slice A n c) W){i:Nat}{z:Hw}(hi:l[i]?=some z):∃ b o,A=some ⟨b,o,none⟩∧b<W.heap.size ∧
  W.cell? ⟨b,o+i*4,none⟩=some (.int .i64 z.a)∧W.cell? ⟨b,o+i*4+1,none⟩=some (.int .i64 z.b)∧W.cell? ⟨b,o+i*4+2,none⟩=some (.int .i64 z.c)∧W.cell? ⟨b,o+i*4+3,none⟩=some (.int .i64 z.d):=by
 obtain⟨b,o,cs,e,hb,hE,hc⟩:=Sl.at h hi
 obtain rfl:cs=hcs z:=hE
 exact⟨b,o,e,hb,hc 0 _ rfl,hc 1 _ rfl,hc 2 _ rfl,hc 3 _ rfl⟩
theorem Yl.loadC{a:Act}{w W:World}{o:Oper}{g k:Nat}{x:Operand}{h:Hw}(hB:Below w.heap.size w W)(hg:g<w.heap.size)(hC:∀ d u,(hcs h)[d]?=some u→w.cell? ⟨g,k+d,none⟩=some u)(ho:o.op=.load 67 x)(hx:a.eval x=.pointer (some ⟨g,k,none⟩)):Yl Tryz.prog o a W (VC (hv h)):=by
 refine .loadL (us:=hcs h) ho hx (fun d u hd=>?_) rfl Tryz.underlying67 rfl (by kernel_rfl) rfl
 rw[hB.cell (p:=⟨g,k+d,none⟩) hg]
 exact hC d u hd
end
section
open Go.RowKit FF
variable {α:Type}{e:El α}{w w' W W':World}{v:Value}{rs:List (α × List Value)}
theorem Own.rebase(h:Own e w v rs W)(hs:w'.heap.size=w.heap.size)(hb:Below w'.heap.size w' W')(hk:∀ g,v.ownBlock=some g→W'.heap[g]?=W.heap[g]?)(hE:∀ x∈rs,e.E x.1 x.2 W'):Own e w' v rs W':=by
 refine⟨⟨h.1.1,?_⟩,hb,hE,fun g hg i u hu=>h.2.2.2 g hg i u ?_⟩
 ·rcases h.1.2 with h0 | ⟨g,cap,cur,h1,h2,h3,h4⟩
  ·exact .inl h0
  ·refine .inr ⟨g,cap,cur,h1,by rw[hs];exact h2,?_,h4⟩
   rw[hk g (by rw[h1];rfl)];exact h3
 ·simp only[World.cell?]at hu ⊢
  rw[← hk g hg];exact hu
theorem Own.store_low(h:Own e w v rs W){b i:Nat}{u:Value}(hb:b<w.heap.size)(hE:∀ x∈rs,e.E x.1 x.2 (W.setCell ⟨b,i,none⟩ u)):Own e (w.setCell ⟨b,i,none⟩ u) v rs (W.setCell ⟨b,i,none⟩ u):=by
 have hB:=h.below
 have hs:∀ X:World,(X.setCell ⟨b,i,none⟩ u).heap.size=X.heap.size:=fun X=>(Only.setCell X b i u).size
 refine h.rebase (hs w) ?_ (fun g hg=>?_) hE
 ·rw[hs]
  refine⟨?_,?_,?_,by rw[hs W,hs w];exact hB.size,fun k hk=>?_⟩
  ·exact hB.os
  ·exact hB.tape
  ·exact hB.output
  ·by_cases e1:k=b
   ·subst e1
    simp only[World.setCell,Array.getElem?_modify,hB.block k hk]
   ·rw[(Only.setCell W b i u).block k e1,(Only.setCell w b i u).block k e1,hB.block k hk]
 ·have:=h.row_ge g hg
  exact(Only.setCell W b i u).block g (by omega)
theorem Own.put_low(h:Own e w v rs W){b:Nat}{o:Obj}(hb:b<w.heap.size)(hE:∀ x∈rs,e.E x.1 x.2 (W.putObj b o)):Own e (w.putObj b o) v rs (W.putObj b o):=by
 have hB:=h.below
 have hs:∀ X:World,(X.putObj b o).heap.size=X.heap.size:=fun X=>by simp[World.putObj]
 refine h.rebase (hs w) ?_ (fun g hg=>?_) hE
 ·rw[hs]
  refine⟨hB.os,hB.tape,hB.output,by rw[hs W,hs w];exact hB.size,fun k hk=>?_⟩
  by_cases e1:k=b
  ·subst e1
   rw[World.putObj_heap_same hk,World.putObj_heap_same (nLl hk hB.size)]
  ·rw[World.putObj_heap_other e1,World.putObj_heap_other e1,hB.block k hk]
 ·have:=h.row_ge g hg
  exact World.putObj_heap_other (by omega)
theorem Own.grown(h:Own e w v rs W){B:Nat}{row:Option Nat}(hB:w.heap.size≤B)(hg:W.grownBy W' row)(hr:∀ r,row=some r→B≤r∧∃ o:Obj,W.heap[r]?=some o∧o.isCells=false)(hE:∀ x∈rs,e.E x.1 x.2 W'):Own e w v rs W':=by
 have hb:=h.below
 refine h.rebase rfl ⟨hg.os.trans hb.os,hg.tape.trans hb.tape,hg.output.trans hb.output,Nat.le_trans hb.size hg.size,fun k hk=>(hg.block k (nLl hk hb.size) (fun e1=>by have:=(hr k e1.symm).1;omega)).trans (hb.block k hk)⟩ (fun g hg1=>?_) hE
 refine hg.block g (h.1.lt g hg1).2 (fun e1=>?_)
 obtain⟨-,o,ho,hc⟩:=hr g e1.symm
 rcases h.1.2 with⟨h0,-⟩ | ⟨g',cap,cur,h1,h2,h3,h4⟩
 ·rw[h0]at hg1;cases hg1
 ·rw[h1]at hg1
  cases hg1
  rw[h3]at ho
  cases ho
  cases hc
end
section
open Go.RowKit FF
def Zgh{α:Type}(F:Fence)(n:Nat)(P:Program)(g:Nat)(fb:Array Value)(encs:α→Array Value)(Kp:World→World→Prop)(L:List α)(w:World):Prop:=
 ∀ (l:Nat) (J:List α→World→Prop) (W:World),Below w.heap.size w W→(∀ pre X Y,J pre X→Below X.heap.size X Y→J pre Y) →
  (∀ pre x W1,J pre W1→pre++[x] <+: L→YieldAt F (n-1) P l (encs x) W1 fun e W'=>e=.returned (.bool true)∧J (pre++[x]) W'∧Kp W1 W') →
  J [] W→CallsIn F n P g (fb++#[.func (.yield l) #[] #[]]) W fun e W'=>(∃ v,e=.returned v)∧J L W'
theorem ZaA{β:Type}{B:Nat}{I:β→World→Prop}(h:OwnFrom B I){s:β}{X Y:World}(hs:I s X)(hb:Below X.heap.size X Y):I s Y:=
 h s X Y none hs (Zcs hb none) (fun r e=>by cases e)
theorem Zb3{F:Fence}{n:Nat}{P:Program}{α:Type}{g:Operand}{ps:Array Tmp}{assign body:Code}{Q:Exit→Act→World→Prop}{a:Act}{w:World}
  (hro:F.round=none) (h1:1≤n) {gf:Nat} {fb:Array Value} (hg:a.eval g=.func (.func gf) fb #[]) (hFg:F.fn gf) (eg:∀ args w,(callFunc gf args).run P w=.ok (.enter gf args) w)
  {encs:α→Array Value} {Kp:World→World→Prop} {L:List α} {w0:World} (hseq:Zgh F (n-1) P gf fb encs Kp L w0)
  (hKt:∀ {A B C:World},Kp A B→Kp B C→Kp A C) (hKb:∀ (W:World) (l:Nat) (o o':Obj),w.heap.size≤l→W.heap[l]?=some o→o.isCells=false→o.isWalk=false→Kp W (W.putObj l o')) (hb0:Below w0.heap.size w0 w) (hps:∀ x,(encs x).size=ps.size)
  (I:List α→World→Prop) (hI:OwnFrom w.heap.size I) (h0:I [] w) (Ax:α→Act→World→Prop) (hAx:∀ x a',OwnFrom w.heap.size (fun (_:Unit) W=>Ax x a' W))
  (hassign : ∀ (l : Nat) (pre : List α) (x : α) (W : World) (K : Act → World → Prop), I pre W → (∀ a' W', KeepsFrom w.heap.size W W' → Kp W W' → I pre W' → Ax x a' W' → K a' W') →
   assign.wpIn (F.inRound l) (n-1-1) P (Exit.then K (fun _ _ _=>False)) { tmps:=(ps.zip (encs x)).foldl (fun t (p,v)=>t.setIfInBounds p v) a.tmps,defers:=[] } W)
  (hbody:∀ (l:Nat) (pre:List α) (x:α) (a':Act) (W:World),w.heap.size≤l→(∃ r,W.heap[l]?=some (.loop r))→I pre W→Ax x a' W→pre++[x] <+: L→body.wpIn (F.inRound l) (n-1-1) P (ownPostG w.heap.size Kp I (fun _ _ _=>False) (pre++[x]) W) a' W)
  (hdone:∀ (D:Nat) (W:World),w.heap.size≤D→I L W→W.heap[D]?=some (.deferred (some []))→Q .normal { a with defers:={ target:=.collected D,args:=#[] }::a.defers } W) :
  (Code.rangeFunc g ps assign body).wpIn F n P Q a w:=by
 refine wpIn_rangeFunc ?_
 intro fn hfn
 rw[hro]
 obtain⟨rec,hrec⟩:∃ rec:LoopState→Loop,rec=fun st=>{ state:=st,pending:=none,fn,tmps:=a.tmps,params:=ps,assign,body,defers:=w.heap.size }:=⟨_,rfl⟩
 have hsz:w.heap.size<w.heap.size+1:=Nat.lt_succ_self _
 obtain⟨W1,hW1⟩:=nmx ((w.alloc (.deferred (some []))).alloc (.loop (rec .ready)))
 have hB1:Below w.heap.size w W1:=by rw[hW1];exact((Below.refl _ w).alloc (Nat.le_refl _) _).alloc (by simp) _
 have hL1:W1.heap[w.heap.size+1]?=some (.loop (rec .ready)):=by
  rw[hW1];have:=World.alloc_heap_new (w.alloc (.deferred (some []))) (.loop (rec .ready));rwa [World.size_alloc]at this
 have hD1:W1.heap[w.heap.size]?=some (.deferred (some [])):=by
  rw[hW1];exact(Below.heap_alloc _ _ _ (by simp)).trans (World.alloc_heap_new w _)
 have hI1:I [] W1:=by rw[hW1];exact hI.alloc _ (hI.alloc _ h0)
 let J:List α→World→Prop:=fun pre W=>I pre W∧W.heap[w.heap.size+1]?=some (.loop (rec .ready))∧W.heap[w.heap.size]?=some (.deferred (some []))
 have hcall:=hseq (w.heap.size+1) J W1 (hb0.trans (hB1.mono hb0.size))
  (fun pre X Y hs hb=>⟨ZaA hI hs.1 hb,(hb.block _ (Array.getElem?_eq_some_iff.1 hs.2.1).1).trans hs.2.1,(hb.block _ (Array.getElem?_eq_some_iff.1 hs.2.2).1).trans hs.2.2⟩)
  (fun pre x W hs hpre => by
   obtain⟨hi,hl,hd⟩:=hs
   have hy:=run_yield (P:=P) (args:=encs x) hl (by rw[hrec];exact hps x)
   rw[hrec]at hy
   refine⟨fn,_,assign,body,hy,roundIn_of_wpIn hfn (hassign _ pre x W _ hi ?_)⟩
   clear hy
   intro a' Wa hk1 hp1 hia hax
   have hl1:=hk1.same _ _ (by omega) hl rfl
   have hd1:=hk1.same _ _ (nlr _) hd rfl
   have hlt:w.heap.size+1<Wa.heap.size:=(Array.getElem?_eq_some_iff.1 hl1).1
   obtain⟨Wb,hWb⟩:=nmx (Wa.putObj (w.heap.size+1) (.loop { rec .ready with state:=.busy }))
   have hl2:Wb.heap[w.heap.size+1]?=some (.loop { rec .ready with state:=.busy }):=by rw[hWb];exact World.putObj_heap_same hlt
   have hd2:Wb.heap[w.heap.size]?=some (.deferred (some [])):=by rw[hWb];exact(World.putObj_heap_other (by omega)).trans hd1
   have hp2:Kp Wa Wb:=by rw[hWb];exact hKb _ _ _ _ (by omega) hl1 rfl rfl
   refine⟨Wb,by rw[hWb];exact run_beginRound hl1 (by rw[hrec]),?_⟩
   refine wpIn_mono (hbody _ pre x a' Wb (by omega) ⟨_,hl2⟩ (by rw[hWb];exact hI.putObj _ hia (by omega) hl1 rfl) (by rw[hWb];exact(hAx x a').putObj (s:=()) _ hax (by omega) hl1 rfl) hpre) ?_
   rintro e a3 W3 hp
   cases e with
   | normal =>
    obtain⟨hk3,hkp3,hi3⟩:=hp
    have hl3:=hk3.same _ _ (by omega) hl2 rfl
    have hd3:=hk3.same _ _ (nlr _) hd2 rfl
    have hend:=run_endRound (P:=P) none hl3
    have hlt3:w.heap.size+1<W3.heap.size:=(Array.getElem?_eq_some_iff.1 hl3).1
    refine⟨_,_,hend,rfl,⟨hI.putObj _ hi3 (by omega) hl3 rfl,?_,(World.putObj_heap_other (by omega)).trans hd3⟩,hKt hp1 (hKt hp2 (hKt hkp3 (hKb _ _ _ _ (by omega) hl3 rfl rfl)))⟩
    rw[World.putObj_heap_same hlt3,hrec]
    rfl
   | ret=>exact hp.2.elim
   | exit id=>exact hp.2.elim
   | goto t=>exact hp.2.elim
   | panic ch=>exact hp.elim
   | outgrown=>exact hp.elim)
  ⟨hI1,hL1,hD1⟩
 refine⟨w.heap.size+1,[{ target:=.collected w.heap.size,args:=#[] }],W1,{ target:=.fn (.func gf) #[],args:=fb++#[.func (.yield (w.heap.size+1)) #[] #[]] },W1,gf,
  fb++#[.func (.yield (w.heap.size+1)) #[] #[]],W1,?_,?_,?_,?_,fun _=>h1,?_⟩
 ·rw[hW1,hrec];exact run_enterLoop_outer _ _ _ _ _
 ·simp only[resolve,hg]
  simp[go_sem]
 ·intro f' hf';simp[Target.leads]at hf';subst hf';exact hFg
 ·simp[invoke,go_sem,eg]
 ·refine hcall.mono ?_
  rintro e W2 ⟨⟨v,rfl⟩,hi,hl,hd⟩
  refine⟨none,_,by have:=run_endLoop (P:=P) hl (by rw[hrec];simp);rw[hrec]at this;exact this,hdone _ _ (Nat.le_refl _) (hI.putObj _ hi (by omega) hl rfl) ((World.putObj_heap_other (by omega)).trans hd)⟩
end
end Go.Proofs.YthkklilhjnpedaaGreatDoor
