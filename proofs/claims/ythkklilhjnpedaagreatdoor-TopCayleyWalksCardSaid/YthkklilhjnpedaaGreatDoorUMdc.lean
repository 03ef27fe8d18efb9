/- The characteristic polynomial of the constant graph modulo the first prime. -/
import Derived.Test.YthkklilhjnpedaaGreatDoorUMd2
set_option maxHeartbeats 16000000
set_option maxRecDepth 8000
namespace Go.Proofs.YthkklilhjnpedaaGreatDoor
open Go.RowKit FF
theorem Zeq:∀ l:List Int,Zk (l.map fun z=>(z,[Value.int .i64 z]))=l.map (fun z=>Value.int .i64 z)
 | []=>rfl
 | x::l=>by
  have:=Zeq l
  simp only[Zk,List.map_cons,List.flatMap_cons,List.singleton_append]at this ⊢
  rw[this]
theorem Zde(W:World):∀ (l:List Int) (o b:Nat),(∀ (i:Nat) z,l[i]?=some z→W.cell? ⟨b,o+i,none⟩=some (.int .i64 z))→∀ d u,(Zk (l.map fun z=>(z,[Value.int .i64 z])))[d]?=some u→W.cell? ((⟨b,o,none⟩:Addr).add d)=some u:=by
 intro l o b h d u hd
 rw[Zeq,List.getElem?_map]at hd
 cases hz:l[d]? with
 | none=>rw[hz]at hd;cases hd
 | some z =>
  rw[hz]at hd
  injection hd with hd
  rw[← hd]
  exact(congrArg W.cell? (by simp[Addr.add])).trans (h d z hz)
structure CS(B X G cap r0 r1:Nat)(w1 W5:World)(A m capA:Nat)(rsA:List (List Int × List Value))(N n capN:Nat)(l:List Int)(W:World):Prop where
 m5:M2 B X G cap r0 r1 999999937 1 2 3 0 W5
 a5:Own eRow w1 (.slice (some ⟨A,0,none⟩) m capA) rsA W5
 n5:∃ rr:List (Int × List Value),rr.map (·.1)=l∧Own eNum W5 (.slice (some ⟨N,0,none⟩) n capN) rr W
section
variable {B X G cap r0 r1:Nat}{w1 W5:World}{A m capA:Nat}{rsA:List (List Int × List Value)}{N n capN:Nat}{l:List Int}{W:World}
theorem CS.bel(h:CS B X G cap r0 r1 w1 W5 A m capA rsA N n capN l W):Below W5.heap.size W5 W:=by obtain⟨rr,-,h⟩:=h.n5;exact h.below
theorem CS.mat(h:CS B X G cap r0 r1 w1 W5 A m capA rsA N n capN l W):M2 B X G cap r0 r1 999999937 1 2 3 0 W:=h.m5.keep h.bel
theorem CS.all(h:CS B X G cap r0 r1 w1 W5 A m capA rsA N n capN l W):Own eRow w1 (.slice (some ⟨A,0,none⟩) m capA) rsA W:=h.a5.keep h.bel
theorem CS.cell(h:CS B X G cap r0 r1 w1 W5 A m capA rsA N n capN l W){i:Nat}{z:Int}(hz:l[i]?=some z):W.cell? ⟨N,i,none⟩=some (.int .i64 z)∧W.frozen? ⟨N,i,none⟩=false:=by
 obtain⟨rr,rfl,hn⟩:=h.n5
 exact YR hn hz
theorem CS.set(h:CS B X G cap r0 r1 w1 W5 A m capA rsA N n capN l W){i:Nat}(hi:i<l.length)(z:Int):CS B X G cap r0 r1 w1 W5 A m capA rsA N n capN (l.set i z) ((W.setCell ⟨N,i,none⟩ (.int .i64 z))):=by
 obtain⟨h1,h2,rr,rfl,h⟩:=h
 rw[List.length_map]at hi
 exact⟨h1,h2,_,by rw[List.map_set],Uj h hi z⟩
theorem CS.keep{W':World}(h:CS B X G cap r0 r1 w1 W5 A m capA rsA N n capN l W)(hb:Below W.heap.size W W'):CS B X G cap r0 r1 w1 W5 A m capA rsA N n capN l W':=by
 obtain⟨h1,h2,rr,e,h⟩:=h
 exact⟨h1,h2,rr,e,h.keep hb⟩
theorem ZC(h:Own eRow w1 (.slice (some ⟨A,0,none⟩) m capA) rsA W){i:Nat}{y:List Int}{v:Value}(hz:rsA[i]?=some (y,[v])):W.cell? ⟨A,i,none⟩=some v∧NP y v W:=by
 obtain⟨h1,u,e,h2⟩:=h.cell hz
 have e':[v]=[u]:=e
 injection e' with e'
 subst e'
 have:=h1 0 v rfl
 rw[show i*eRow.n+0=i from by show i*1+0=i;omega]at this
 exact⟨this,h2⟩
theorem Y9{l:List Int}{b n c i:Nat}{z:Int}(h:NP l (.slice (some ⟨b,0,none⟩) n c) W)(hz:l[i]?=some z):W.cell? ⟨b,i,none⟩=some (.int .i64 z):=by
 obtain⟨b1,o1,e1,-,h1⟩:=Zv h hz
 injection e1 with e1;injection e1 with ea eb;subst ea eb
 rw[Nat.zero_add]at h1
 exact h1
end
theorem ZbH{B X G cap r0 r1:Nat}{w:World}(h:M2 B X G cap r0 r1 999999937 1 2 3 0 w)(hm:2≤cap∧cap≤maxLen) :
  Calls Tryz.prog 122 #[.pointer (some ⟨X,0,none⟩)] w (Zb (NP [999999931,999999936,1]) w):=by
 obtain⟨i0,hi,hz0,hz1,hz2⟩:=info_parts Yc
 obtain⟨i1,hi1,hy0,hy1,hy2⟩:=info_parts ZM
 have HI:=lhd hi;have HZ0:=lhd hz0;have HZ1:=lhd hz1;have HZ2:=lhd hz2
 have HI1:=lhd hi1;have HY0:=lhd hy0;have HY1:=lhd hy1;have HY2:=lhd hy2
 have HBA:=lhd (show ∀ (W:World) o,Below W.heap.size W (W.alloc o) from fun W o=>(brf W.heap.size W).alloc (nlr _) o)
 clear hi hz0 hz1 hz2 hi1 hy0 hy1 hy2
 go_enter Tryz.func122,Tryz.ntmps122
 have H:=lhd h
 have HHe:=lhd (ZcI h hm (by decide) (by unfold I64;omega))
 clear h
 go_wp2_with fail
 refine HHe.out.mono ?_
 rintro e w1 ⟨rfl,hb1⟩
 have HB1:=lhd hb1
 have HA1:=lhd (Own.one (e:=eNum) (x:=1) (cs:=[.int .i64 1]) (brf w1.heap.size w1) rfl)
 have HA2:=lhd (Own.one (e:=eRow) (x:=[1]) (cs:=[.slice (some ⟨w1.heap.size,0,none⟩) 1 1]) HA1.out.below ⟨_,rfl,HA1.out.sl⟩)
 clear hb1
 go_upto_region 3 with fail
 obtain⟨W2,hW2⟩:=nmx ((w1.alloc (.cells #[.int .i64 1] 3)).alloc (.cells #[.slice (some ⟨w1.heap.size,0,none⟩) 1 1] 40))
 have HA:=lhd (show Own eRow w1 (.slice (some ⟨w1.heap.size+1,0,none⟩) 1 1) [([1],[.slice (some ⟨w1.heap.size,0,none⟩) 1 1])] W2 from by
  have:=HA2.out
  have e9:(w1.alloc (.cells #[.int .i64 1] eNum.T)).heap.size=w1.heap.size+1:=by simp
  rw[e9]at this
  rw[hW2];exact this)
 have HBW:=lhd HA.out.below
 have HM2:=lhd (show M2 B X G cap r0 r1 999999937 1 2 3 0 W2 from(H.out.keep HB1.out).keep HA.out.below)
 rw[← hW2]
 clear hW2 HA1 HA2
 generalize w1.heap.size+1=A1 at *
 generalize w1.heap.size=A0 at HA ⊢
 have x1:=HM2.out.x1
 go_wp2_with fail
 clear x1
 refine wp_loop_rounds 3 ?_
 rw[rounds_succ]
 have g0:∀ o,(W2.alloc o).cell? ⟨A1,0,none⟩=some (.slice (some ⟨A0,0,none⟩) 1 1):=fun o=>((HBA.out W2 o).cell (p:=⟨A1,0,none⟩) (HA.out.1.lt A1 rfl).2).trans (ZC HA.out (i:=0) rfl).1
 obtain⟨z0,o0,e0,hz0,-⟩:=Zv (ZC HA.out (i:=0) rfl).2 (i:=0) rfl
 injection e0 with e0;injection e0 with ea eb;subst ea eb
 have Z0:=lhd hz0
 clear hz0
 have NF0:=lhd (Y9 (ZC HA.out (i:=0) rfl).2 (i:=0) rfl)
 go_wp2_with (at_builtin;refine Yq rfl (.tmp 23) (.tmp 27) 40 rfl i1 Tryz.underlying40 HI1.out HY0.out HY1.out HY2.out (Own.one (e:=eNum) (x:=0) (cs:=[.int .i64 0]) (Below.refl W2.heap.size W2) rfl) (ys:=[(1,[.int .i64 1])]) (fun y hy=>by simp only[List.mem_cons,List.not_mem_nil,or_false]at hy;subst hy;rfl) (by decide) ⟨A0,0,none⟩ 1 1 rfl rfl rfl (Zde _ [1] 0 A0 (fun i z hz=>by rcases i with _ | i;(injection hz with hz;subst hz;exact((HBA.out W2 _).cell (p:=⟨A0,0,none⟩) Z0.out).trans NF0.out);simp at hz)) (by simp) ?_;intro v' w2 hg2;obtain⟨N0,capN0,rfl,hcap,hcm,hGl,hGh⟩:=hg2.form (by simp);have HN:=lhd hg2;clear hg2 hcap hcm hGl hGh)
 clear g0
 obtain⟨Wn0,hWn⟩:∃ W:World,W=w2:=⟨_,rfl⟩
 subst hWn
 have HC0:=lhd (show CS B X G cap r0 r1 w1 W2 A1 1 1 [([1],[.slice (some ⟨A0,0,none⟩) 1 1])] N0 2 capN0 [0,1] Wn0 from⟨(H.out.keep HB1.out).keep HA.out.below,HA.out,_,rfl,HN.out⟩)
 clear HN
 refine wp_loop_rounds 2 ?_
 rw[rounds_succ]
 go_upto_region 11 with fail
 refine Zu [(0,34,VC (.pointer (some ⟨X,0,none⟩))),(1,35,VC (.pointer (some ⟨X,0,none⟩))),(2,36,VC (.pointer (some ⟨X,1,none⟩))),(3,37,VC (.slice (some ⟨G,0,none⟩) 2 cap)),(4,38,VC (.int .i64 0)),(5,39,VC (.pointer (some ⟨G,0+0*1,none⟩))),(6,40,VC (.slice (some ⟨r0,0,none⟩) 2 2)),(7,41,VC (.int .i64 0)),(8,42,VC (.pointer (some ⟨r0,0+0*1,none⟩))),(9,43,VC (.int .i64 1)),(10,44,VC (.int .i64 1)),(11,45,VC (.int .i64 1)),(12,46,VC (.pointer (some ⟨X,0,none⟩))),(13,47,VC (.pointer (some ⟨X,0,none⟩))),(14,48,VC (.pointer (some ⟨X,0,none⟩))),(15,49,VC (.int .i64 999999937)),(16,50,VC (.int .i64 1)),(17,8,VC (.int .i64 1))] (fun _=>True) [34,35,36,37,38,39,40,41,42,43,44,45,46,47,48,49,50,8] (by kernel_rfl) (by kernel_rfl) (by kernel_rfl) ⟨kv,kv,kv,kv,kv,kv,kv,kv,kv,kv,kv,kv,kv,kv,kv,kv,kv,kv,trivial⟩ (fun _ _ _ _ _=>trivial) trivial (Zl ⟨?_,?_,?_,?_,?_,?_,?_,?_,?_,?_,?_,?_,?_,?_,?_,?_,?_,?_,trivial⟩) ?_
 ·exact mvX rfl rfl rfl
 ·exact .of rfl rfl fun _ _ _ _ hV _=>.nilCheck rfl (fgt hV 0 rfl) rfl
 ·exact .of rfl rfl fun _ _ _ _ hV _=>.fieldAddr rfl (fgt hV 1 rfl) (by kernel_rfl) rfl
 ·exact .of rfl rfl fun _ _ hB _ hV _=>.load1 rfl (fgt hV 2 rfl) (Za Tryz.underlying31 rfl ((HC0.out.keep hB).mat.x1)) rfl
 ·exact mvX rfl rfl rfl
 ·exact .of rfl rfl fun _ _ _ _ hV _=>.rowAt Tryz.underlying31 HI.out HZ1.out rfl (fgt hV 3 rfl) (fgt hV 4 rfl) (by decide)
 ·exact .of rfl rfl fun _ _ hB _ hV _=>.load1 rfl (fgt hV 5 rfl) (Za Tryz.underlying40 rfl ((HC0.out.keep hB).mat.g0)) rfl
 ·exact mvX rfl rfl rfl
 ·exact .of rfl rfl fun _ _ _ _ hV _=>.rowAt Tryz.underlying40 HI1.out HY1.out rfl (fgt hV 6 rfl) (fgt hV 7 rfl) (by decide)
 ·exact .of rfl rfl fun _ _ hB _ hV _=>.load1 rfl (fgt hV 8 rfl) (Za Tryz.underlying3 rfl ((HC0.out.keep hB).mat.a0)) rfl
 ·exact mvX rfl rfl rfl
 ·exact .of rfl rfl fun _ _ _ _ hV _=>.binOp rfl (fgt hV 9 rfl) (fgt hV 10 rfl) (by kernel_rfl) rfl
 ·exact mvX rfl rfl rfl
 ·exact .of rfl rfl fun _ _ _ _ hV _=>.nilCheck rfl (fgt hV 12 rfl) rfl
 ·exact .of rfl rfl fun _ _ _ _ hV _=>.fieldAddr rfl (fgt hV 13 rfl) (by kernel_rfl) rfl
 ·exact .of rfl rfl fun _ _ hB _ hV _=>.load1 rfl (fgt hV 14 rfl) (Za Tryz.underlying3 rfl ((HC0.out.keep hB).mat.x0)) rfl
 ·exact .of rfl rfl fun _ _ _ _ hV _=>.binOp rfl (fgt hV 11 rfl) (fgt hV 15 rfl) (by kernel_rfl) rfl
 ·exact .of rfl rfl fun _ _ _ _ hV _=>.assign rfl (fgt hV 16 rfl) rfl
 intro y Wc101 hB hE hV
 have eV:y 8=_:=hend hV 17 rfl
 have HC101:=lhd (HC0.out.keep hB)
 clear hB hE hV HC0
 generalize hact:fr _ _ y=act
 simp only[fr,Zf,fC0,fN0,sA0,sZ0,sS0,eV]at hact
 subst hact
 clear eV
 have q0:=(ZC HC101.out.all (i:=0) rfl).1
 go_wp2_with fail
 clear q0
 refine wp_loop_rounds 2 ?_
 rw[rounds_succ]
 have q1:=Y9 (ZC HC101.out.all (i:=0) rfl).2 (i:=0) rfl
 go_upto_region 15 with fail
 clear q1
 refine wrt 21 [(0,61,VC (.slice (some ⟨N0,0,none⟩) 2 capN0)),(1,62,VC (.int .i64 0)),(2,63,VC (.slice (some ⟨N0,0,none⟩) 2 capN0)),(3,64,VC (.int .i64 0)),(4,65,VC (.pointer (some ⟨N0,0+0*1,none⟩))),(5,66,VC (.int .i64 0)),(6,67,VC (.pointer (some ⟨X,0,none⟩))),(7,68,VC (.pointer (some ⟨X,0,none⟩))),(8,69,VC (.pointer (some ⟨X,0,none⟩))),(9,70,VC (.int .i64 999999937)),(10,71,VC (.int .i64 1)),(11,72,VC (.int .i64 999999936)),(12,73,VC (.int .i64 1)),(13,74,VC (.int .i64 999999936)),(14,75,VC (.int .i64 999999936)),(15,76,VC (.pointer (some ⟨X,0,none⟩))),(16,77,VC (.pointer (some ⟨X,0,none⟩))),(17,78,VC (.pointer (some ⟨X,0,none⟩))),(18,79,VC (.int .i64 999999937)),(19,80,VC (.int .i64 999999936)),(20,81,VC (.pointer (some ⟨N0,0+0*1,none⟩)))] (fun _=>True) [61,62,63,64,65,66,67,68,69,70,71,72,73,74,75,76,77,78,79,80,81] ⟨kv,kv,kv,kv,kv,kv,kv,kv,kv,kv,kv,kv,kv,kv,kv,kv,kv,kv,kv,kv,kv,trivial⟩ (fun _ _ _ _ _=>trivial) trivial (by decide) (Zn _ ⟨?_,?_,?_,?_,?_,?_,?_,?_,?_,?_,?_,?_,?_,?_,?_,?_,?_,?_,?_,?_,?_,trivial⟩) ?_
 ·exact mvX rfl rfl rfl
 ·exact mvX rfl rfl rfl
 ·exact mvX rfl rfl rfl
 ·exact mvX rfl rfl rfl
 ·exact .of rfl rfl fun _ _ _ _ hV _=>.rowAt Tryz.underlying40 HI1.out HY1.out rfl (fgt hV 2 rfl) (fgt hV 3 rfl) (by decide)
 ·exact .of rfl rfl fun _ _ hB _ hV _=>.load1 rfl (fgt hV 4 rfl) (Za Tryz.underlying3 rfl ((HC101.out.keep hB).cell (i:=0) rfl |>.1)) rfl
 ·exact mvX rfl rfl rfl
 ·exact .of rfl rfl fun _ _ _ _ hV _=>.nilCheck rfl (fgt hV 6 rfl) rfl
 ·exact .of rfl rfl fun _ _ _ _ hV _=>.fieldAddr rfl (fgt hV 7 rfl) (by kernel_rfl) rfl
 ·exact .of rfl rfl fun _ _ hB _ hV _=>.load1 rfl (fgt hV 8 rfl) (Za Tryz.underlying3 rfl ((HC101.out.keep hB).mat.x0)) rfl
 ·exact mvX rfl rfl rfl
 ·exact .of rfl rfl fun _ _ _ _ hV _=>.binOp rfl (fgt hV 9 rfl) (fgt hV 10 rfl) (by kernel_rfl) rfl
 ·exact mvX rfl rfl rfl
 ·exact .of rfl rfl fun _ _ _ _ hV _=>.binOp rfl (fgt hV 11 rfl) (fgt hV 12 rfl) (by kernel_rfl) rfl
 ·exact .of rfl rfl fun _ _ _ _ hV _=>.binOp rfl (fgt hV 5 rfl) (fgt hV 13 rfl) (by kernel_rfl) rfl
 ·exact mvX rfl rfl rfl
 ·exact .of rfl rfl fun _ _ _ _ hV _=>.nilCheck rfl (fgt hV 15 rfl) rfl
 ·exact .of rfl rfl fun _ _ _ _ hV _=>.fieldAddr rfl (fgt hV 16 rfl) (by kernel_rfl) rfl
 ·exact .of rfl rfl fun _ _ hB _ hV _=>.load1 rfl (fgt hV 17 rfl) (Za Tryz.underlying3 rfl ((HC101.out.keep hB).mat.x0)) rfl
 ·exact .of rfl rfl fun _ _ _ _ hV _=>.binOp rfl (fgt hV 14 rfl) (fgt hV 18 rfl) (by kernel_rfl) rfl
 ·exact .of rfl rfl fun _ _ _ _ hV _=>.rowAt Tryz.underlying40 HI1.out HY1.out rfl (fgt hV 0 rfl) (fgt hV 1 rfl) (by decide)
 intro y Wd102 hB hE hV
 have eP:y 81=_:=hend hV 20 rfl
 have eV:y 80=_:=hend hV 19 rfl
 have HCk:=lhd (HC101.out.keep hB)
 clear hB hE hV
 generalize hact:fr _ _ y=act
 simp only[fr,Zf,fC0,fN0,sA0,sZ0,sS0,eP,eV]at hact
 subst hact
 clear eP eV
 show wpList _ _ _ [_] _ _
 obtain⟨q2,f2⟩:=HCk.out.cell (i:=0) rfl
 go_wp2_with fail
 clear q2 f2
 have HC102:=lhd (HCk.out.set (i:=0) (by decide) 999999936)
 obtain⟨Wc102,hWn⟩:∃ Wn,Wn=Wd102.setCell ⟨N0,0,none⟩ (.int .i64 999999936):=⟨_,rfl⟩
 rw[← hWn]at HC102
 rw[← hWn]
 clear hWn HCk HC101
 go_wp2_with fail
 rw[rounds_succ]
 go_wp2_with fail
 have HE:=lhd (show eRow.E [999999936,1] [.slice (some ⟨N0,0,none⟩) 2 capN0] Wc102 from by obtain⟨rr,e,hn⟩:=HC102.out.n5;have:=hn.sl;rw[e]at this;exact⟨_,rfl,this⟩)
 have HAl:=lhd HC102.out.all
 rw[rounds_succ]
 go_wp2_with (at_builtin;refine ZB rfl (.tmp 103) (.tmp 105) 31 rfl i0 Tryz.underlying31 HI.out HZ0.out HZ1.out HZ2.out (HAl.out.keep (HBA.out _ _)) (y:=[999999936,1]) (cs:=[.slice (some ⟨N0,0,none⟩) 2 capN0]) (eRow.keep HE.out (HBA.out _ _)) ⟨Wc102.heap.size,0,none⟩ 1 rfl rfl (fun d u hd=>by rcases d with _ | d;(injection hd with hd;subst hd;simp[go_sem]);simp at hd) (by simp) ?_;intro v' w2 hg2;obtain⟨B1,capB,rfl,hcap,hcm,hGl,hGh⟩:=hg2.form (by simp);have HA3:=lhd hg2;clear hg2 hcap hcm hGl hGh)
 obtain⟨W7,hW7⟩:∃ W:World,W=w2:=⟨_,rfl⟩
 subst hW7
 clear HE HAl
 rw[rounds_succ]
 have g0:∀ o,(W7.alloc o).cell? ⟨B1,1,none⟩=some (.slice (some ⟨N0,0,none⟩) 2 capN0):=fun o=>((HBA.out W7 o).cell (p:=⟨B1,1,none⟩) (HA3.out.1.lt B1 rfl).2).trans (ZC HA3.out (i:=1) rfl).1
 obtain⟨z0,o0,e0,hz0,-⟩:=Zv (ZC HA3.out (i:=1) rfl).2 (i:=0) rfl
 injection e0 with e0;injection e0 with ea eb;subst ea eb
 have Z0:=lhd hz0
 clear hz0
 have NF0:=lhd (Y9 (ZC HA3.out (i:=1) rfl).2 (i:=0) rfl)
 have NF1:=lhd (Y9 (ZC HA3.out (i:=1) rfl).2 (i:=1) rfl)
 go_wp2_with (at_builtin;refine Yq rfl (.tmp 23) (.tmp 27) 40 rfl i1 Tryz.underlying40 HI1.out HY0.out HY1.out HY2.out (Own.one (e:=eNum) (x:=0) (cs:=[.int .i64 0]) (Below.refl W7.heap.size W7) rfl) (ys:=[(999999936,[.int .i64 999999936]),(1,[.int .i64 1])]) (fun y hy=>by simp only[List.mem_cons,List.not_mem_nil,or_false]at hy;rcases hy with rfl | rfl <;> rfl) (by decide) ⟨N0,0,none⟩ 2 capN0 rfl rfl rfl (Zde _ [999999936,1] 0 N0 (fun i z hz=>by rcases i with _ | i;(injection hz with hz;subst hz;exact((HBA.out W7 _).cell (p:=⟨N0,0,none⟩) Z0.out).trans NF0.out);rcases i with _ | i;(injection hz with hz;subst hz;exact((HBA.out W7 _).cell (p:=⟨N0,1,none⟩) Z0.out).trans NF1.out);simp at hz)) (by simp) ?_;intro v' w2 hg2;obtain⟨N1,capN1,rfl,hcap,hcm,hGl,hGh⟩:=hg2.form (by simp);have HN:=lhd hg2;clear hg2 hcap hcm hGl hGh)
 clear g0
 obtain⟨Wn1,hWn⟩:∃ W:World,W=w2:=⟨_,rfl⟩
 subst hWn
 have HC1:=lhd (show CS B X G cap r0 r1 w1 W7 B1 2 capB [([1],[.slice (some ⟨A0,0,none⟩) 1 1]),([999999936,1],[.slice (some ⟨N0,0,none⟩) 2 capN0])] N1 3 capN1 [0,999999936,1] Wn1 from⟨(H.out.keep HB1.out).keep HA3.out.below,HA3.out,_,rfl,HN.out⟩)
 clear HN
 refine wp_loop_rounds 3 ?_
 rw[rounds_succ]
 go_upto_region 11 with fail
 refine Zu [(0,34,VC (.pointer (some ⟨X,0,none⟩))),(1,35,VC (.pointer (some ⟨X,0,none⟩))),(2,36,VC (.pointer (some ⟨X,1,none⟩))),(3,37,VC (.slice (some ⟨G,0,none⟩) 2 cap)),(4,38,VC (.int .i64 1)),(5,39,VC (.pointer (some ⟨G,0+1*1,none⟩))),(6,40,VC (.slice (some ⟨r1,0,none⟩) 2 2)),(7,41,VC (.int .i64 1)),(8,42,VC (.pointer (some ⟨r1,0+1*1,none⟩))),(9,43,VC (.int .i64 0)),(10,44,VC (.int .i64 1)),(11,45,VC (.int .i64 0)),(12,46,VC (.pointer (some ⟨X,0,none⟩))),(13,47,VC (.pointer (some ⟨X,0,none⟩))),(14,48,VC (.pointer (some ⟨X,0,none⟩))),(15,49,VC (.int .i64 999999937)),(16,50,VC (.int .i64 0)),(17,8,VC (.int .i64 0))] (fun _=>True) [34,35,36,37,38,39,40,41,42,43,44,45,46,47,48,49,50,8] (by kernel_rfl) (by kernel_rfl) (by kernel_rfl) ⟨kv,kv,kv,kv,kv,kv,kv,kv,kv,kv,kv,kv,kv,kv,kv,kv,kv,kv,trivial⟩ (fun _ _ _ _ _=>trivial) trivial (Zl ⟨?_,?_,?_,?_,?_,?_,?_,?_,?_,?_,?_,?_,?_,?_,?_,?_,?_,?_,trivial⟩) ?_
 ·exact mvX rfl rfl rfl
 ·exact .of rfl rfl fun _ _ _ _ hV _=>.nilCheck rfl (fgt hV 0 rfl) rfl
 ·exact .of rfl rfl fun _ _ _ _ hV _=>.fieldAddr rfl (fgt hV 1 rfl) (by kernel_rfl) rfl
 ·exact .of rfl rfl fun _ _ hB _ hV _=>.load1 rfl (fgt hV 2 rfl) (Za Tryz.underlying31 rfl ((HC1.out.keep hB).mat.x1)) rfl
 ·exact mvX rfl rfl rfl
 ·exact .of rfl rfl fun _ _ _ _ hV _=>.rowAt Tryz.underlying31 HI.out HZ1.out rfl (fgt hV 3 rfl) (fgt hV 4 rfl) (by decide)
 ·exact .of rfl rfl fun _ _ hB _ hV _=>.load1 rfl (fgt hV 5 rfl) (Za Tryz.underlying40 rfl ((HC1.out.keep hB).mat.g1)) rfl
 ·exact mvX rfl rfl rfl
 ·exact .of rfl rfl fun _ _ _ _ hV _=>.rowAt Tryz.underlying40 HI1.out HY1.out rfl (fgt hV 6 rfl) (fgt hV 7 rfl) (by decide)
 ·exact .of rfl rfl fun _ _ hB _ hV _=>.load1 rfl (fgt hV 8 rfl) (Za Tryz.underlying3 rfl ((HC1.out.keep hB).mat.c1)) rfl
 ·exact mvX rfl rfl rfl
 ·exact .of rfl rfl fun _ _ _ _ hV _=>.binOp rfl (fgt hV 9 rfl) (fgt hV 10 rfl) (by kernel_rfl) rfl
 ·exact mvX rfl rfl rfl
 ·exact .of rfl rfl fun _ _ _ _ hV _=>.nilCheck rfl (fgt hV 12 rfl) rfl
 ·exact .of rfl rfl fun _ _ _ _ hV _=>.fieldAddr rfl (fgt hV 13 rfl) (by kernel_rfl) rfl
 ·exact .of rfl rfl fun _ _ hB _ hV _=>.load1 rfl (fgt hV 14 rfl) (Za Tryz.underlying3 rfl ((HC1.out.keep hB).mat.x0)) rfl
 ·exact .of rfl rfl fun _ _ _ _ hV _=>.binOp rfl (fgt hV 11 rfl) (fgt hV 15 rfl) (by kernel_rfl) rfl
 ·exact .of rfl rfl fun _ _ _ _ hV _=>.assign rfl (fgt hV 16 rfl) rfl
 intro y Wc103 hB hE hV
 have eV:y 8=_:=hend hV 17 rfl
 have HC103:=lhd (HC1.out.keep hB)
 clear hB hE hV HC1
 generalize hact:fr _ _ y=act
 simp only[fr,Zf,fC0,fN0,sA0,sZ0,sS0,eV]at hact
 subst hact
 clear eV
 have q0:=(ZC HC103.out.all (i:=1) rfl).1
 go_wp2_with fail
 clear q0
 refine wp_loop_rounds 3 ?_
 rw[rounds_succ]
 have q1:=Y9 (ZC HC103.out.all (i:=1) rfl).2 (i:=0) rfl
 go_upto_region 15 with fail
 clear q1
 refine wrt 21 [(0,61,VC (.slice (some ⟨N1,0,none⟩) 3 capN1)),(1,62,VC (.int .i64 0)),(2,63,VC (.slice (some ⟨N1,0,none⟩) 3 capN1)),(3,64,VC (.int .i64 0)),(4,65,VC (.pointer (some ⟨N1,0+0*1,none⟩))),(5,66,VC (.int .i64 0)),(6,67,VC (.pointer (some ⟨X,0,none⟩))),(7,68,VC (.pointer (some ⟨X,0,none⟩))),(8,69,VC (.pointer (some ⟨X,0,none⟩))),(9,70,VC (.int .i64 999999937)),(10,71,VC (.int .i64 0)),(11,72,VC (.int .i64 999999937)),(12,73,VC (.int .i64 999999936)),(13,74,VC (.int .i64 999999873000004032)),(14,75,VC (.int .i64 999999873000004032)),(15,76,VC (.pointer (some ⟨X,0,none⟩))),(16,77,VC (.pointer (some ⟨X,0,none⟩))),(17,78,VC (.pointer (some ⟨X,0,none⟩))),(18,79,VC (.int .i64 999999937)),(19,80,VC (.int .i64 0)),(20,81,VC (.pointer (some ⟨N1,0+0*1,none⟩)))] (fun _=>True) [61,62,63,64,65,66,67,68,69,70,71,72,73,74,75,76,77,78,79,80,81] ⟨kv,kv,kv,kv,kv,kv,kv,kv,kv,kv,kv,kv,kv,kv,kv,kv,kv,kv,kv,kv,kv,trivial⟩ (fun _ _ _ _ _=>trivial) trivial (by decide) (Zn _ ⟨?_,?_,?_,?_,?_,?_,?_,?_,?_,?_,?_,?_,?_,?_,?_,?_,?_,?_,?_,?_,?_,trivial⟩) ?_
 ·exact mvX rfl rfl rfl
 ·exact mvX rfl rfl rfl
 ·exact mvX rfl rfl rfl
 ·exact mvX rfl rfl rfl
 ·exact .of rfl rfl fun _ _ _ _ hV _=>.rowAt Tryz.underlying40 HI1.out HY1.out rfl (fgt hV 2 rfl) (fgt hV 3 rfl) (by decide)
 ·exact .of rfl rfl fun _ _ hB _ hV _=>.load1 rfl (fgt hV 4 rfl) (Za Tryz.underlying3 rfl ((HC103.out.keep hB).cell (i:=0) rfl |>.1)) rfl
 ·exact mvX rfl rfl rfl
 ·exact .of rfl rfl fun _ _ _ _ hV _=>.nilCheck rfl (fgt hV 6 rfl) rfl
 ·exact .of rfl rfl fun _ _ _ _ hV _=>.fieldAddr rfl (fgt hV 7 rfl) (by kernel_rfl) rfl
 ·exact .of rfl rfl fun _ _ hB _ hV _=>.load1 rfl (fgt hV 8 rfl) (Za Tryz.underlying3 rfl ((HC103.out.keep hB).mat.x0)) rfl
 ·exact mvX rfl rfl rfl
 ·exact .of rfl rfl fun _ _ _ _ hV _=>.binOp rfl (fgt hV 9 rfl) (fgt hV 10 rfl) (by kernel_rfl) rfl
 ·exact mvX rfl rfl rfl
 ·exact .of rfl rfl fun _ _ _ _ hV _=>.binOp rfl (fgt hV 11 rfl) (fgt hV 12 rfl) (by kernel_rfl) rfl
 ·exact .of rfl rfl fun _ _ _ _ hV _=>.binOp rfl (fgt hV 5 rfl) (fgt hV 13 rfl) (by kernel_rfl) rfl
 ·exact mvX rfl rfl rfl
 ·exact .of rfl rfl fun _ _ _ _ hV _=>.nilCheck rfl (fgt hV 15 rfl) rfl
 ·exact .of rfl rfl fun _ _ _ _ hV _=>.fieldAddr rfl (fgt hV 16 rfl) (by kernel_rfl) rfl
 ·exact .of rfl rfl fun _ _ hB _ hV _=>.load1 rfl (fgt hV 17 rfl) (Za Tryz.underlying3 rfl ((HC103.out.keep hB).mat.x0)) rfl
 ·exact .of rfl rfl fun _ _ _ _ hV _=>.binOp rfl (fgt hV 14 rfl) (fgt hV 18 rfl) (by kernel_rfl) rfl
 ·exact .of rfl rfl fun _ _ _ _ hV _=>.rowAt Tryz.underlying40 HI1.out HY1.out rfl (fgt hV 0 rfl) (fgt hV 1 rfl) (by decide)
 intro y Wd104 hB hE hV
 have eP:y 81=_:=hend hV 20 rfl
 have eV:y 80=_:=hend hV 19 rfl
 have HCk:=lhd (HC103.out.keep hB)
 clear hB hE hV
 generalize hact:fr _ _ y=act
 simp only[fr,Zf,fC0,fN0,sA0,sZ0,sS0,eP,eV]at hact
 subst hact
 clear eP eV
 show wpList _ _ _ [_] _ _
 obtain⟨q2,f2⟩:=HCk.out.cell (i:=0) rfl
 go_wp2_with fail
 clear q2 f2
 have HC104:=lhd (HCk.out.set (i:=0) (by decide) 0)
 obtain⟨Wc104,hWn⟩:∃ Wn,Wn=Wd104.setCell ⟨N1,0,none⟩ (.int .i64 0):=⟨_,rfl⟩
 rw[← hWn]at HC104
 rw[← hWn]
 clear hWn HCk HC103
 go_wp2_with fail
 rw[rounds_succ]
 have q1:=Y9 (ZC HC104.out.all (i:=1) rfl).2 (i:=1) rfl
 go_upto_region 15 with fail
 clear q1
 refine wrt 21 [(0,61,VC (.slice (some ⟨N1,0,none⟩) 3 capN1)),(1,62,VC (.int .i64 1)),(2,63,VC (.slice (some ⟨N1,0,none⟩) 3 capN1)),(3,64,VC (.int .i64 1)),(4,65,VC (.pointer (some ⟨N1,0+1*1,none⟩))),(5,66,VC (.int .i64 999999936)),(6,67,VC (.pointer (some ⟨X,0,none⟩))),(7,68,VC (.pointer (some ⟨X,0,none⟩))),(8,69,VC (.pointer (some ⟨X,0,none⟩))),(9,70,VC (.int .i64 999999937)),(10,71,VC (.int .i64 0)),(11,72,VC (.int .i64 999999937)),(12,73,VC (.int .i64 1)),(13,74,VC (.int .i64 999999937)),(14,75,VC (.int .i64 1999999873)),(15,76,VC (.pointer (some ⟨X,0,none⟩))),(16,77,VC (.pointer (some ⟨X,0,none⟩))),(17,78,VC (.pointer (some ⟨X,0,none⟩))),(18,79,VC (.int .i64 999999937)),(19,80,VC (.int .i64 999999936)),(20,81,VC (.pointer (some ⟨N1,0+1*1,none⟩)))] (fun _=>True) [61,62,63,64,65,66,67,68,69,70,71,72,73,74,75,76,77,78,79,80,81] ⟨kv,kv,kv,kv,kv,kv,kv,kv,kv,kv,kv,kv,kv,kv,kv,kv,kv,kv,kv,kv,kv,trivial⟩ (fun _ _ _ _ _=>trivial) trivial (by decide) (Zn _ ⟨?_,?_,?_,?_,?_,?_,?_,?_,?_,?_,?_,?_,?_,?_,?_,?_,?_,?_,?_,?_,?_,trivial⟩) ?_
 ·exact mvX rfl rfl rfl
 ·exact mvX rfl rfl rfl
 ·exact mvX rfl rfl rfl
 ·exact mvX rfl rfl rfl
 ·exact .of rfl rfl fun _ _ _ _ hV _=>.rowAt Tryz.underlying40 HI1.out HY1.out rfl (fgt hV 2 rfl) (fgt hV 3 rfl) (by decide)
 ·exact .of rfl rfl fun _ _ hB _ hV _=>.load1 rfl (fgt hV 4 rfl) (Za Tryz.underlying3 rfl ((HC104.out.keep hB).cell (i:=1) rfl |>.1)) rfl
 ·exact mvX rfl rfl rfl
 ·exact .of rfl rfl fun _ _ _ _ hV _=>.nilCheck rfl (fgt hV 6 rfl) rfl
 ·exact .of rfl rfl fun _ _ _ _ hV _=>.fieldAddr rfl (fgt hV 7 rfl) (by kernel_rfl) rfl
 ·exact .of rfl rfl fun _ _ hB _ hV _=>.load1 rfl (fgt hV 8 rfl) (Za Tryz.underlying3 rfl ((HC104.out.keep hB).mat.x0)) rfl
 ·exact mvX rfl rfl rfl
 ·exact .of rfl rfl fun _ _ _ _ hV _=>.binOp rfl (fgt hV 9 rfl) (fgt hV 10 rfl) (by kernel_rfl) rfl
 ·exact mvX rfl rfl rfl
 ·exact .of rfl rfl fun _ _ _ _ hV _=>.binOp rfl (fgt hV 11 rfl) (fgt hV 12 rfl) (by kernel_rfl) rfl
 ·exact .of rfl rfl fun _ _ _ _ hV _=>.binOp rfl (fgt hV 5 rfl) (fgt hV 13 rfl) (by kernel_rfl) rfl
 ·exact mvX rfl rfl rfl
 ·exact .of rfl rfl fun _ _ _ _ hV _=>.nilCheck rfl (fgt hV 15 rfl) rfl
 ·exact .of rfl rfl fun _ _ _ _ hV _=>.fieldAddr rfl (fgt hV 16 rfl) (by kernel_rfl) rfl
 ·exact .of rfl rfl fun _ _ hB _ hV _=>.load1 rfl (fgt hV 17 rfl) (Za Tryz.underlying3 rfl ((HC104.out.keep hB).mat.x0)) rfl
 ·exact .of rfl rfl fun _ _ _ _ hV _=>.binOp rfl (fgt hV 14 rfl) (fgt hV 18 rfl) (by kernel_rfl) rfl
 ·exact .of rfl rfl fun _ _ _ _ hV _=>.rowAt Tryz.underlying40 HI1.out HY1.out rfl (fgt hV 0 rfl) (fgt hV 1 rfl) (by decide)
 intro y Wd105 hB hE hV
 have eP:y 81=_:=hend hV 20 rfl
 have eV:y 80=_:=hend hV 19 rfl
 have HCk:=lhd (HC104.out.keep hB)
 clear hB hE hV
 generalize hact:fr _ _ y=act
 simp only[fr,Zf,fC0,fN0,sA0,sZ0,sS0,eP,eV]at hact
 subst hact
 clear eP eV
 show wpList _ _ _ [_] _ _
 obtain⟨q2,f2⟩:=HCk.out.cell (i:=1) rfl
 go_wp2_with fail
 clear q2 f2
 have HC105:=lhd (HCk.out.set (i:=1) (by decide) 999999936)
 obtain⟨Wc105,hWn⟩:∃ Wn,Wn=Wd105.setCell ⟨N1,1,none⟩ (.int .i64 999999936):=⟨_,rfl⟩
 rw[← hWn]at HC105
 rw[← hWn]
 clear hWn HCk HC104
 go_wp2_with fail
 rw[rounds_succ]
 go_upto_region 18 with fail
 refine Zu [(0,85,VC (.int .i64 1)),(1,86,VC (.pointer (some ⟨X,0,none⟩))),(2,87,VC (.pointer (some ⟨X,0,none⟩))),(3,88,VC (.pointer (some ⟨X,1,none⟩))),(4,89,VC (.slice (some ⟨G,0,none⟩) 2 cap)),(5,90,VC (.int .i64 1)),(6,91,VC (.pointer (some ⟨G,0+1*1,none⟩))),(7,92,VC (.slice (some ⟨r1,0,none⟩) 2 2)),(8,93,VC (.int .i64 1)),(9,94,VC (.int .i64 0)),(10,95,VC (.pointer (some ⟨r1,0+0*1,none⟩))),(11,96,VC (.int .i64 3)),(12,97,VC (.int .i64 3)),(13,98,VC (.pointer (some ⟨X,0,none⟩))),(14,99,VC (.pointer (some ⟨X,0,none⟩))),(15,100,VC (.pointer (some ⟨X,0,none⟩))),(16,101,VC (.int .i64 999999937)),(17,102,VC (.int .i64 3)),(18,6,VC (.int .i64 3))] (fun _=>True) [85,86,87,88,89,90,91,92,93,94,95,96,97,98,99,100,101,102,6] (by kernel_rfl) (by kernel_rfl) (by kernel_rfl) ⟨kv,kv,kv,kv,kv,kv,kv,kv,kv,kv,kv,kv,kv,kv,kv,kv,kv,kv,kv,trivial⟩ (fun _ _ _ _ _=>trivial) trivial (Zl ⟨?_,?_,?_,?_,?_,?_,?_,?_,?_,?_,?_,?_,?_,?_,?_,?_,?_,?_,?_,trivial⟩) ?_
 ·exact .of rfl rfl fun _ _ _ _ _ hU=>.move rfl (KA (by kernel_rfl) (hU 6 (by kernel_rfl)) (by kernel_rfl)) rfl
 ·exact mvX rfl rfl rfl
 ·exact .of rfl rfl fun _ _ _ _ hV _=>.nilCheck rfl (fgt hV 1 rfl) rfl
 ·exact .of rfl rfl fun _ _ _ _ hV _=>.fieldAddr rfl (fgt hV 2 rfl) (by kernel_rfl) rfl
 ·exact .of rfl rfl fun _ _ hB _ hV _=>.load1 rfl (fgt hV 3 rfl) (Za Tryz.underlying31 rfl ((HC105.out.keep hB).mat.x1)) rfl
 ·exact mvX rfl rfl rfl
 ·exact .of rfl rfl fun _ _ _ _ hV _=>.rowAt Tryz.underlying31 HI.out HZ1.out rfl (fgt hV 4 rfl) (fgt hV 5 rfl) (by decide)
 ·exact .of rfl rfl fun _ _ hB _ hV _=>.load1 rfl (fgt hV 6 rfl) (Za Tryz.underlying40 rfl ((HC105.out.keep hB).mat.g1)) rfl
 ·exact mvX rfl rfl rfl
 ·exact .of rfl rfl fun _ _ _ _ hV _=>.binOp rfl (fgt hV 8 rfl) rfl (by kernel_rfl) rfl
 ·exact .of rfl rfl fun _ _ _ _ hV _=>.rowAt Tryz.underlying40 HI1.out HY1.out rfl (fgt hV 7 rfl) (fgt hV 9 rfl) (by decide)
 ·exact .of rfl rfl fun _ _ hB _ hV _=>.load1 rfl (fgt hV 10 rfl) (Za Tryz.underlying3 rfl ((HC105.out.keep hB).mat.c0)) rfl
 ·exact .of rfl rfl fun _ _ _ _ hV _=>.binOp rfl (fgt hV 0 rfl) (fgt hV 11 rfl) (by kernel_rfl) rfl
 ·exact mvX rfl rfl rfl
 ·exact .of rfl rfl fun _ _ _ _ hV _=>.nilCheck rfl (fgt hV 13 rfl) rfl
 ·exact .of rfl rfl fun _ _ _ _ hV _=>.fieldAddr rfl (fgt hV 14 rfl) (by kernel_rfl) rfl
 ·exact .of rfl rfl fun _ _ hB _ hV _=>.load1 rfl (fgt hV 15 rfl) (Za Tryz.underlying3 rfl ((HC105.out.keep hB).mat.x0)) rfl
 ·exact .of rfl rfl fun _ _ _ _ hV _=>.binOp rfl (fgt hV 12 rfl) (fgt hV 16 rfl) (by kernel_rfl) rfl
 ·exact .of rfl rfl fun _ _ _ _ hV _=>.assign rfl (fgt hV 17 rfl) rfl
 intro y Wc106 hB hE hV
 have eV:y 6=_:=hend hV 18 rfl
 have HC106:=lhd (HC105.out.keep hB)
 clear hB hE hV HC105
 generalize hact:fr _ _ y=act
 simp only[fr,Zf,fC0,fN0,sA0,sZ0,sS0,eV]at hact
 subst hact
 clear eV
 go_wp2_with fail
 rw[rounds_succ]
 go_upto_region 11 with fail
 refine Zu [(0,34,VC (.pointer (some ⟨X,0,none⟩))),(1,35,VC (.pointer (some ⟨X,0,none⟩))),(2,36,VC (.pointer (some ⟨X,1,none⟩))),(3,37,VC (.slice (some ⟨G,0,none⟩) 2 cap)),(4,38,VC (.int .i64 0)),(5,39,VC (.pointer (some ⟨G,0+0*1,none⟩))),(6,40,VC (.slice (some ⟨r0,0,none⟩) 2 2)),(7,41,VC (.int .i64 1)),(8,42,VC (.pointer (some ⟨r0,0+1*1,none⟩))),(9,43,VC (.int .i64 2)),(10,44,VC (.int .i64 3)),(11,45,VC (.int .i64 6)),(12,46,VC (.pointer (some ⟨X,0,none⟩))),(13,47,VC (.pointer (some ⟨X,0,none⟩))),(14,48,VC (.pointer (some ⟨X,0,none⟩))),(15,49,VC (.int .i64 999999937)),(16,50,VC (.int .i64 6)),(17,8,VC (.int .i64 6))] (fun _=>True) [34,35,36,37,38,39,40,41,42,43,44,45,46,47,48,49,50,8] (by kernel_rfl) (by kernel_rfl) (by kernel_rfl) ⟨kv,kv,kv,kv,kv,kv,kv,kv,kv,kv,kv,kv,kv,kv,kv,kv,kv,kv,trivial⟩ (fun _ _ _ _ _=>trivial) trivial (Zl ⟨?_,?_,?_,?_,?_,?_,?_,?_,?_,?_,?_,?_,?_,?_,?_,?_,?_,?_,trivial⟩) ?_
 ·exact mvX rfl rfl rfl
 ·exact .of rfl rfl fun _ _ _ _ hV _=>.nilCheck rfl (fgt hV 0 rfl) rfl
 ·exact .of rfl rfl fun _ _ _ _ hV _=>.fieldAddr rfl (fgt hV 1 rfl) (by kernel_rfl) rfl
 ·exact .of rfl rfl fun _ _ hB _ hV _=>.load1 rfl (fgt hV 2 rfl) (Za Tryz.underlying31 rfl ((HC106.out.keep hB).mat.x1)) rfl
 ·exact mvX rfl rfl rfl
 ·exact .of rfl rfl fun _ _ _ _ hV _=>.rowAt Tryz.underlying31 HI.out HZ1.out rfl (fgt hV 3 rfl) (fgt hV 4 rfl) (by decide)
 ·exact .of rfl rfl fun _ _ hB _ hV _=>.load1 rfl (fgt hV 5 rfl) (Za Tryz.underlying40 rfl ((HC106.out.keep hB).mat.g0)) rfl
 ·exact mvX rfl rfl rfl
 ·exact .of rfl rfl fun _ _ _ _ hV _=>.rowAt Tryz.underlying40 HI1.out HY1.out rfl (fgt hV 6 rfl) (fgt hV 7 rfl) (by decide)
 ·exact .of rfl rfl fun _ _ hB _ hV _=>.load1 rfl (fgt hV 8 rfl) (Za Tryz.underlying3 rfl ((HC106.out.keep hB).mat.a1)) rfl
 ·exact mvX rfl rfl rfl
 ·exact .of rfl rfl fun _ _ _ _ hV _=>.binOp rfl (fgt hV 9 rfl) (fgt hV 10 rfl) (by kernel_rfl) rfl
 ·exact mvX rfl rfl rfl
 ·exact .of rfl rfl fun _ _ _ _ hV _=>.nilCheck rfl (fgt hV 12 rfl) rfl
 ·exact .of rfl rfl fun _ _ _ _ hV _=>.fieldAddr rfl (fgt hV 13 rfl) (by kernel_rfl) rfl
 ·exact .of rfl rfl fun _ _ hB _ hV _=>.load1 rfl (fgt hV 14 rfl) (Za Tryz.underlying3 rfl ((HC106.out.keep hB).mat.x0)) rfl
 ·exact .of rfl rfl fun _ _ _ _ hV _=>.binOp rfl (fgt hV 11 rfl) (fgt hV 15 rfl) (by kernel_rfl) rfl
 ·exact .of rfl rfl fun _ _ _ _ hV _=>.assign rfl (fgt hV 16 rfl) rfl
 intro y Wc107 hB hE hV
 have eV:y 8=_:=hend hV 17 rfl
 have HC107:=lhd (HC106.out.keep hB)
 clear hB hE hV HC106
 generalize hact:fr _ _ y=act
 simp only[fr,Zf,fC0,fN0,sA0,sZ0,sS0,eV]at hact
 subst hact
 clear eV
 have q0:=(ZC HC107.out.all (i:=0) rfl).1
 go_wp2_with fail
 clear q0
 refine wp_loop_rounds 2 ?_
 rw[rounds_succ]
 have q1:=Y9 (ZC HC107.out.all (i:=0) rfl).2 (i:=0) rfl
 go_upto_region 15 with fail
 clear q1
 refine wrt 21 [(0,61,VC (.slice (some ⟨N1,0,none⟩) 3 capN1)),(1,62,VC (.int .i64 0)),(2,63,VC (.slice (some ⟨N1,0,none⟩) 3 capN1)),(3,64,VC (.int .i64 0)),(4,65,VC (.pointer (some ⟨N1,0+0*1,none⟩))),(5,66,VC (.int .i64 0)),(6,67,VC (.pointer (some ⟨X,0,none⟩))),(7,68,VC (.pointer (some ⟨X,0,none⟩))),(8,69,VC (.pointer (some ⟨X,0,none⟩))),(9,70,VC (.int .i64 999999937)),(10,71,VC (.int .i64 6)),(11,72,VC (.int .i64 999999931)),(12,73,VC (.int .i64 1)),(13,74,VC (.int .i64 999999931)),(14,75,VC (.int .i64 999999931)),(15,76,VC (.pointer (some ⟨X,0,none⟩))),(16,77,VC (.pointer (some ⟨X,0,none⟩))),(17,78,VC (.pointer (some ⟨X,0,none⟩))),(18,79,VC (.int .i64 999999937)),(19,80,VC (.int .i64 999999931)),(20,81,VC (.pointer (some ⟨N1,0+0*1,none⟩)))] (fun _=>True) [61,62,63,64,65,66,67,68,69,70,71,72,73,74,75,76,77,78,79,80,81] ⟨kv,kv,kv,kv,kv,kv,kv,kv,kv,kv,kv,kv,kv,kv,kv,kv,kv,kv,kv,kv,kv,trivial⟩ (fun _ _ _ _ _=>trivial) trivial (by decide) (Zn _ ⟨?_,?_,?_,?_,?_,?_,?_,?_,?_,?_,?_,?_,?_,?_,?_,?_,?_,?_,?_,?_,?_,trivial⟩) ?_
 ·exact mvX rfl rfl rfl
 ·exact mvX rfl rfl rfl
 ·exact mvX rfl rfl rfl
 ·exact mvX rfl rfl rfl
 ·exact .of rfl rfl fun _ _ _ _ hV _=>.rowAt Tryz.underlying40 HI1.out HY1.out rfl (fgt hV 2 rfl) (fgt hV 3 rfl) (by decide)
 ·exact .of rfl rfl fun _ _ hB _ hV _=>.load1 rfl (fgt hV 4 rfl) (Za Tryz.underlying3 rfl ((HC107.out.keep hB).cell (i:=0) rfl |>.1)) rfl
 ·exact mvX rfl rfl rfl
 ·exact .of rfl rfl fun _ _ _ _ hV _=>.nilCheck rfl (fgt hV 6 rfl) rfl
 ·exact .of rfl rfl fun _ _ _ _ hV _=>.fieldAddr rfl (fgt hV 7 rfl) (by kernel_rfl) rfl
 ·exact .of rfl rfl fun _ _ hB _ hV _=>.load1 rfl (fgt hV 8 rfl) (Za Tryz.underlying3 rfl ((HC107.out.keep hB).mat.x0)) rfl
 ·exact mvX rfl rfl rfl
 ·exact .of rfl rfl fun _ _ _ _ hV _=>.binOp rfl (fgt hV 9 rfl) (fgt hV 10 rfl) (by kernel_rfl) rfl
 ·exact mvX rfl rfl rfl
 ·exact .of rfl rfl fun _ _ _ _ hV _=>.binOp rfl (fgt hV 11 rfl) (fgt hV 12 rfl) (by kernel_rfl) rfl
 ·exact .of rfl rfl fun _ _ _ _ hV _=>.binOp rfl (fgt hV 5 rfl) (fgt hV 13 rfl) (by kernel_rfl) rfl
 ·exact mvX rfl rfl rfl
 ·exact .of rfl rfl fun _ _ _ _ hV _=>.nilCheck rfl (fgt hV 15 rfl) rfl
 ·exact .of rfl rfl fun _ _ _ _ hV _=>.fieldAddr rfl (fgt hV 16 rfl) (by kernel_rfl) rfl
 ·exact .of rfl rfl fun _ _ hB _ hV _=>.load1 rfl (fgt hV 17 rfl) (Za Tryz.underlying3 rfl ((HC107.out.keep hB).mat.x0)) rfl
 ·exact .of rfl rfl fun _ _ _ _ hV _=>.binOp rfl (fgt hV 14 rfl) (fgt hV 18 rfl) (by kernel_rfl) rfl
 ·exact .of rfl rfl fun _ _ _ _ hV _=>.rowAt Tryz.underlying40 HI1.out HY1.out rfl (fgt hV 0 rfl) (fgt hV 1 rfl) (by decide)
 intro y Wd108 hB hE hV
 have eP:y 81=_:=hend hV 20 rfl
 have eV:y 80=_:=hend hV 19 rfl
 have HCk:=lhd (HC107.out.keep hB)
 clear hB hE hV
 generalize hact:fr _ _ y=act
 simp only[fr,Zf,fC0,fN0,sA0,sZ0,sS0,eP,eV]at hact
 subst hact
 clear eP eV
 show wpList _ _ _ [_] _ _
 obtain⟨q2,f2⟩:=HCk.out.cell (i:=0) rfl
 go_wp2_with fail
 clear q2 f2
 have HC108:=lhd (HCk.out.set (i:=0) (by decide) 999999931)
 obtain⟨Wc108,hWn⟩:∃ Wn,Wn=Wd108.setCell ⟨N1,0,none⟩ (.int .i64 999999931):=⟨_,rfl⟩
 rw[← hWn]at HC108
 rw[← hWn]
 clear hWn HCk HC107
 go_wp2_with fail
 rw[rounds_succ]
 go_wp2_with fail
 have HE:=lhd (show eRow.E [999999931,999999936,1] [.slice (some ⟨N1,0,none⟩) 3 capN1] Wc108 from by obtain⟨rr,e,hn⟩:=HC108.out.n5;have:=hn.sl;rw[e]at this;exact⟨_,rfl,this⟩)
 have HAl:=lhd HC108.out.all
 rw[rounds_succ]
 go_wp2_with (at_builtin;refine ZB rfl (.tmp 103) (.tmp 105) 31 rfl i0 Tryz.underlying31 HI.out HZ0.out HZ1.out HZ2.out (HAl.out.keep (HBA.out _ _)) (y:=[999999931,999999936,1]) (cs:=[.slice (some ⟨N1,0,none⟩) 3 capN1]) (eRow.keep HE.out (HBA.out _ _)) ⟨Wc108.heap.size,0,none⟩ 1 rfl rfl (fun d u hd=>by rcases d with _ | d;(injection hd with hd;subst hd;simp[go_sem]);simp at hd) (by simp) ?_;intro v' w2 hg2;obtain⟨D1,capD,rfl,hcap,hcm,hGl,hGh⟩:=hg2.form (by simp);have HA4:=lhd hg2;clear hg2 hcap hcm hGl hGh)
 obtain⟨W9,hW9⟩:∃ W:World,W=w2:=⟨_,rfl⟩
 subst hW9
 clear HE HAl
 rw[rounds_succ]
 have x1:=((H.out.keep HB1.out).keep HA4.out.below).x1
 have q0:=ZC HA4.out (i:=2) rfl
 have HQ:=lhd q0.2
 have q1:=q0.1
 clear q0
 go_wp2_with fail
 go_ret
 exact⟨_,rfl,HQ.out,HB1.out.trans (HA4.out.below.mono HB1.out.size)⟩
end Go.Proofs.YthkklilhjnpedaaGreatDoor
