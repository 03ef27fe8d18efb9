/- Contracts of the integer package's functions on machine integers, part E: the Hilbert symbol. Contracts, part E2: the Hilbert symbol at 2. Contracts, part F: the Hilbert symbol at an odd prime; Hilbert. -/
import Derived.Test.YthkklilhjnpedaaGreatDoorUBase
import Derived.Test.YthkklilhjnpedaaGreatDoorUNt
import Derived.Test.YthkklilhjnpedaaGreatDoorUSp
import Derived.Deep.RegionWith
set_option maxHeartbeats 16000000
set_option maxRecDepth 8000
namespace Go.Proofs.YthkklilhjnpedaaGreatDoor
section
open Go.RowKit FF
theorem Kt(a m:Int)(w:World)(ha:I64 a)(h3:0<m)(hm:I64 m) :
  Calls Tryz.prog 99 #[.int .i64 a,.int .i64 m] w (Ret w (.int .i64 (a % m))):=by
 obtain⟨h1,h2⟩:=ha
 obtain⟨_,h4⟩:=hm
 have t1:=Int.tmod_lt_of_pos a h3
 have t2:=Int.lt_tmod_of_pos a h3
 have ee:=lhd (ZcY (a:=a) h3)
 go_enter Tryz.func99,Tryz.ntmps99
 go_wp2
 ·have hlt:a.tmod m<0:=by assumption
  go_ret
  exact Ret.eq0 (Zp (by rw[ee.out,if_pos hlt]))
 ·have hlt:0≤a.tmod m:=by assumption
  go_ret
  exact Ret.eq0 (Zp (by rw[ee.out,if_neg (by omega)]))
def modB(m:Int):Bool:=decide (1≤m∧m≤1000000000)
theorem Zig{m:Int}:modB m=true↔1≤m∧m≤1000000000:=by unfold modB;rw[decide_eq_true_iff]
theorem Zfp(m:Int)(w:World) :
  Calls Tryz.prog 97 #[.int .i64 m] w (Ret w (.bool (modB m))):=by
 go_enter Tryz.func97,Tryz.ntmps97
 go_wp2
 all_goals
  go_ret
  exact Ret.eq0 (ZF (by rw[Bool.eq_iff_iff];simp[modB];omega))
theorem gcd_any(a b:Int)(w:World)(ha:a.natAbs≤4611686018427387904)(hb:b.natAbs≤4611686018427387904) :
  Calls Tryz.prog 98 #[.int .i64 a,.int .i64 b] w (Ret w (.int .i64 (Int.gcd a b))):=by
 go_enter Tryz.func98,Tryz.ntmps98
 go_wp2
 go_loopw [0,1] (fun s t wr=>∃ x y:Int,s=.int .i64 x∧t=.int .i64 y∧x.natAbs≤4611686018427387904∧y.natAbs≤4611686018427387904∧Int.gcd x y=Int.gcd a b∧∃ n,wr=w.drewN n) (fun _ t _=>(intOf t).natAbs)
 case atStart=>exact⟨a,b,rfl,rfl,ha,hb,rfl,0,rfl⟩
 case round =>
  obtain⟨x,y,rfl,rfl,hx,hy,hg,n,rfl⟩:=hrel
  have hG:=lhd hg;clear hg
  have hxl:-4611686018427387904≤x:=by omega
  have hxu:x≤4611686018427387904:=by omega
  by_cases hy0:y=0
  ·subst hy0
   have hx1:=lhd (show((Int.gcd x 0:Nat):Int)=if 0≤x then x else -x by rw[Int.gcd_zero_right];split <;> omega)
   by_cases hx0:0≤x
   ·go_wp2
    go_ret
    exact Ret.eq n (Zp (by rw[← hG.out,hx1.out,if_pos hx0]))
   ·go_wp2
    go_ret
    exact Ret.eq n (Zp (by rw[← hG.out,hx1.out,if_neg (by omega)]))
  ·have h1:=Int.natAbs_tmod x y
   have h2:x.natAbs % y.natAbs<y.natAbs:=Nat.mod_lt _ (by omega)
   have h3:x.natAbs % y.natAbs≤x.natAbs:=Nat.mod_le _ _
   rw[← h1]at h2 h3
   clear h1
   have hyl:-4611686018427387904≤y:=by omega
   have hyu:y≤4611686018427387904:=by omega
   have hz1:-4611686018427387904≤x.tmod y:=by omega
   have hz2:x.tmod y≤4611686018427387904:=by omega
   have hb:(!(y == 0))=true:=by simp[hy0]
   go_wp2
   go_quiet (fail)
   go_wp2
   exact⟨⟨y,x.tmod y,rfl,rfl,hy,by omega,by rw[Zd1];exact hG.out,n+nq,by rw[World.drewN_drewN]⟩,h2⟩
theorem ZaB{a b m:Int}(ha:0≤a)(ha':a<m)(hb:0≤b)(hb':b<m)(hm:m≤1000000000):0≤a*b∧a*b≤1000000000000000000:=by
 refine⟨Int.mul_nonneg ha hb,?_⟩
 have h1:a*b≤1000000000*b:=Int.mul_le_mul_of_nonneg_right (by omega) hb
 have h2:1000000000*b≤1000000000*1000000000:=Int.mul_le_mul_of_nonneg_left (by omega) (by omega)
 omega
theorem pow_step{m o x:Int}(y:Nat):o*x ^ y % m=(if y % 2=1 then o*x % m else o)*(x*x % m) ^ (y / 2) % m:=by
 have e1:Cg m ((x*x % m) ^ (y / 2)) ((x*x) ^ (y / 2)):=(Cg.emod m (x*x)).pow _
 have e2:(x*x) ^ (y / 2)=x ^ (2*(y / 2)):=by rw[Int.pow_mul];congr 1;rw[Int.pow_succ,Int.pow_succ];simp
 rw[e2]at e1
 split
 ·have e3:x ^ y=x*x ^ (2*(y / 2)):=by
   rw[Int.mul_comm,← Int.pow_succ];congr 1;omega
  rw[e3,← Int.mul_assoc]
  exact(((Cg.emod m (o*x)).mul e1).emod_eq).symm
 ·have e3:x ^ y=x ^ (2*(y / 2)):=by congr 1;omega
  rw[e3]
  exact(e1.mul_left o).emod_eq.symm
theorem Zih(a n m:Int)(w:World)(ha:I64 a)(hn:0≤n)(hn':I64 n)(h1:1≤m)(h2:m≤1000000000) :
    Calls Tryz.prog 150 #[.int .i64 a,.int .i64 n,.int .i64 m] w (Ret w (.int .i64 (a ^ n.toNat % m))):=by
  have hmm:I64 m:=⟨by omega,by omega⟩
  have o0:=Int.emod_nonneg 1 (b:=m) (by omega)
  have o1:=Int.emod_lt_of_pos 1 (b:=m) (by omega)
  have x0:=Int.emod_nonneg a (b:=m) (by omega)
  have x1:=Int.emod_lt_of_pos a (b:=m) (by omega)
  have hst:=lhd (show 1 % m*(a % m) ^ n.toNat % m=a ^ n.toNat % m from by
    have:=((Cg.emod m 1).mul ((Cg.emod m a).pow n.toNat)).emod_eq;rwa [Int.one_mul]at this)
  obtain⟨_,hn''⟩:=hn'
  go_enter Tryz.func150,Tryz.ntmps150
  go_wp2_with fail
  refine(Kt a m _ ha (by omega) hmm).mono ?_
  rintro e w' ⟨rfl,n1,rfl⟩
  clear ha hmm
  go_wp2_with fail
  go_loopw [0,1,7] (fun s t u wr=>∃ x y o:Int,s=.int .i64 x∧t=.int .i64 y∧u=.int .i64 o∧0≤x∧x<m∧0≤y∧y≤9223372036854775807∧0≤o∧o<m∧o*x ^ y.toNat % m=a ^ n.toNat % m∧∃ n,wr=w.drewN n) (fun _ t _ _=>(intOf t).toNat)
  case atStart=>exact⟨a % m,n,1 % m,rfl,rfl,rfl,x0,x1,hn,hn'',o0,o1,hst.out,n1,rfl⟩
  case round =>
    clear hst
    obtain⟨x,y,o,rfl,rfl,rfl,hx0,hx1,hy0,hy1,ho0,ho1,he,n2,rfl⟩:=hrel
    have hE:=lhd he;clear he
    obtain⟨b1,b2⟩:=ZaB ho0 ho1 hx0 hx1 h2
    obtain⟨b3,b4⟩:=ZaB hx0 hx1 hx0 hx1 h2
    have hS:=lhd (pow_step (m:=m) (o:=o) (x:=x) y.toNat)
    have m1:=Int.emod_nonneg (x*x) (b:=m) (by omega)
    have m2:=Int.emod_lt_of_pos (x*x) (b:=m) (by omega)
    have m3:=Int.emod_nonneg (o*x) (b:=m) (by omega)
    have m4:=Int.emod_lt_of_pos (o*x) (b:=m) (by omega)
    go_wp2
    · have hy:0<y:=by assumption
      have hodd : y.toNat % 2 = 1 := by have h : (y % 2 == 1) = true := by assumption
                                        rw[beq_iff_eq]at h;omega
      refine⟨⟨x*x % m,y / 2,o*x % m,rfl,rfl,rfl,m1,m2,by omega,by omega,m3,m4,?_,n2,rfl⟩,?_⟩
      · rw[← hE.out,hS.out,if_pos hodd];congr 3;omega
      · show(y / 2).toNat<y.toNat;omega
    · have hy:0<y:=by assumption
      have hodd : ¬ y.toNat % 2 = 1 := by have h : (y % 2 == 1) = false := by assumption
                                          rw[beq_eq_false_iff_ne]at h;omega
      refine⟨⟨x*x % m,y / 2,o,rfl,rfl,rfl,m1,m2,by omega,by omega,ho0,ho1,?_,n2,rfl⟩,?_⟩
      · rw[← hE.out,hS.out,if_neg hodd];congr 3;omega
      · show(y / 2).toNat<y.toNat;omega
    · have hy : y = 0 := by have : y ≤ 0 := by assumption
                            omega
      subst hy
      go_ret
      refine Ret.eq n2 (Zp ?_)
      rw[← hE.out]
      simp only[Int.toNat_zero,Int.pow_zero,Int.mul_one]
      exact(Int.emod_eq_of_lt ho0 ho1).symm
open Go.RowKit FF
theorem Zfq(a m:Int)(w:World)(ha:I64 a)(h1:1≤m)(h2:m≤1000000000)(hg:Int.gcd a m=1) :
  Calls Tryz.prog 100 #[.int .i64 a,.int .i64 m] w (Ret w (.int .i64 (invM a m))):=by
 have hmm:I64 m:=⟨by omega,by omega⟩
 have hG:=lhd hg;clear hg
 go_enter Tryz.func100,Tryz.ntmps100
 go_wp2_with fail
 refine(Kt a m _ ha (by omega) hmm).mono ?_
 rintro e w' ⟨rfl,nq,rfl⟩
 go_wp2_with fail
 go_loopw [5,6,7,8,9] (fun sx sy sr ss _ wr=>∃ x y r s:Int,sx=.int .i64 x∧sy=.int .i64 y∧sr=.int .i64 r∧ss=.int .i64 s∧Eu a m r s x y∧∃ n,wr=w.drewN n) (fun _ _ _ s _ _=>(intOf s).toNat)
 case atStart=>exact⟨1,0,a % m,m,rfl,rfl,rfl,rfl,Eu.start h1,nq,rfl⟩
 case round =>
  obtain⟨x,y,r,s,rfl,rfl,rfl,rfl,hE,n2,rfl⟩:=hrel
  obtain⟨b1,b2,b3,b4,b5,b6,b7,b8⟩:=hE.bounds
  by_cases hs:s=0
  ·subst hs
   have hx:I64 x:=⟨by omega,by omega⟩
   have hD:=lhd (hE.done h1 hG.out)
   clear hE
   go_wp2_with fail
   refine(Kt x m _ hx (by omega) hmm).mono ?_
   rintro e w' ⟨rfl,n3,rfl⟩
   go_wp2_with fail
   go_ret
   exact Ret.eq _ (Zp hD.out)
  ·obtain⟨hE',c1,c2,c3,c4,c5,c6⟩:=hE.step hs
   have hH:=lhd hE'
   obtain⟨d1,d2,d3,d4,d5,d6,d7,d8⟩:=hE'.bounds
   clear hE hE'
   have c3a:-m≤r / s*y:=by omega
   have c3b:r / s*y≤m:=by omega
   have hb:(!(s == 0))=true:=by simp[hs]
   go_wp2
   exact⟨⟨y,x-r / s*y,s,r-r / s*s,rfl,rfl,rfl,rfl,hH.out,_,rfl⟩,by show(r-r / s*s).toNat<s.toNat;omega⟩
theorem Zaj(n p:Int)(w:World)(hn:I64 n)(hn0:n≠0)(h1:2≤p)(h2:p≤9223372036854775807) :
  Calls Tryz.prog 149 #[.int .i64 n,.int .i64 p] w (Ret w (.tuple #[.int .i64 (vp p n),.int .i64 (rest p n)])):=by
 have hN:=lhd hn0;clear hn0
 obtain⟨l1,l2⟩:=hn
 go_enter Tryz.func149,Tryz.ntmps149
 go_wp2
 go_loop [0,6] (fun t u=>∃ (x:Int) (k:Nat),t=.int .i64 x∧u=.int .i64 k∧x≠0∧-9223372036854775808≤x∧x≤9223372036854775807∧k+vp p x=vp p n∧rest p x=rest p n) (fun t _=>(intOf t).natAbs)
 case atStart=>exact⟨n,0,rfl,rfl,hN.out,l1,l2,by omega,rfl⟩
 case round =>
  obtain⟨x,k,rfl,rfl,hx0,hxl,hxu,hk,hr⟩:=hrel
  have hkb:k<64:=by
   have h3:=vp_lt h1 hN.out
   have h4:n.natAbs<2 ^ 64:=by omega
   have:=(Nat.pow_lt_pow_iff_right (by omega)).1 (Nat.lt_of_le_of_lt h3 h4)
   omega
  by_cases hd:p ∣ x
  ·have ht:(x.tmod p == 0)=true:=by rw[beq_iff_eq];exact Int.tmod_eq_zero_of_dvd hd
   have hq:=lhd (Int.tdiv_eq_ediv_of_dvd hd)
   have hlt:=Yx h1 hx0 hd
   rw[← hq.out]at hlt
   have hv:=lhd (Zew h1 hx0 hd)
   have hr2:=lhd (Zey h1 hx0 hd)
   have hk2:=lhd hk;have hr3:=lhd hr
   clear hk hr hd
   go_wp2
   exact⟨⟨x.tdiv p,k+1,rfl,by go_num,hlt.2,by omega,by omega,by rw[← hk2.out,hv.out,hq.out];omega,by rw[← hr3.out,hr2.out,hq.out]⟩,hlt.1⟩
  ·have ht:(x.tmod p == 0)=false:=by rw[beq_eq_false_iff_ne];exact fun e=>hd (Int.dvd_of_tmod_eq_zero e)
   have hv:=lhd (Zex hd)
   have hr2:=lhd (Zez hd)
   have hk2:=lhd hk;have hr3:=lhd hr
   clear hk hr hd
   go_wp2
   go_ret2
   exact Ret.eq0 (Y5 (by rw[← hk2.out,hv.out];omega) (by rw[← hr3.out,hr2.out]))
open Go.RowKit FF
theorem Uk(a n:Int)(w:World)(ha:0≤a)(ha':a≤7)(h1:3≤n)(h2:n≤1000000000) :
  Calls Tryz.prog 95 #[.int .i64 a,.int .i64 n] w (Ret w (.bool (witB a n))):=by
 have hn1:n-1≠0:=by omega
 have hr1:=Kv (p:=2) (by omega) hn1
 have hr0:0≤rest 2 (n-1):=Zby (by omega) (by omega)
 have hv:vp 2 (n-1)<64:=by
  have h3:=vp_lt (p:=2) (by omega) hn1
  have h4:(n-1).natAbs<2 ^ 64:=by omega
  exact(Nat.pow_lt_pow_iff_right (by omega)).1 (Nat.lt_of_le_of_lt h3 h4)
 have hW:=lhd (show witB a n=witW a n (rest 2 (n-1)) (vp 2 (n-1)) from rfl)
 have hrr:rest 2 (n-1)≤1000000000:=by omega
 have hC:=fun w=>Zaj (n-1) 2 w ⟨by omega,by omega⟩ hn1 (by omega) (by omega)
 have hP:=fun w=>Zih a (rest 2 (n-1)) n w ⟨by omega,by omega⟩ hr0 ⟨by omega,by omega⟩ (by omega) h2
 clear hn1 hr1
 generalize rest 2 (n-1)=o at *
 generalize vp 2 (n-1)=k at *
 have hx0:=Int.emod_nonneg (a ^ o.toNat) (b:=n) (by omega)
 have hx1:=Int.emod_lt_of_pos (a ^ o.toNat) (b:=n) (by omega)
 have hW2:=lhd (hW.out.trans (show witW a n o k=if a ^ o.toNat % n=1∨a ^ o.toNat % n=n-1 then false else Y0 n (k-1) (a ^ o.toNat % n) from rfl))
 clear hW
 generalize a ^ o.toNat % n=x at *
 have HC:=lhd hC;have HP:=lhd hP;clear hC hP
 go_enter Tryz.func95,Tryz.ntmps95
 go_wp2_with fail
 refine(HC.out _).mono ?_
 rintro e w' ⟨rfl,n1,rfl⟩
 go_wp2_with fail
 refine(HP.out _).mono ?_
 rintro e w' ⟨rfl,n2,rfl⟩
 clear HC HP
 by_cases c1:x=1
 ·have hF:=lhd (hW2.out.trans (if_pos (Or.inl c1)))
  clear hW2
  subst c1
  go_wp2
  go_ret
  exact Ret.eq _ (ZF hF.out.symm)
 ·by_cases c2:x=n-1
  ·have hF:=lhd (hW2.out.trans (if_pos (Or.inr c2)))
   clear hW2
   subst c2
   have d1:(n-1 == 1)=false:=by rw[beq_eq_false_iff_ne];exact c1
   go_wp2
   go_ret
   exact Ret.eq _ (ZF hF.out.symm)
  ·have hW3:=lhd (hW2.out.trans (if_neg (by rintro(h | h);exact c1 h;exact c2 h)))
   clear hW2
   have d1:(x == 1)=false:=by rw[beq_eq_false_iff_ne];exact c1
   have d2:(x == n-1)=false:=by rw[beq_eq_false_iff_ne];exact c2
   go_wp2
   go_loop [7,28] (fun t u=>∃ (y:Int) (i:Nat),t=.int .i64 y∧u=.int .i64 i∧0≤y∧y<n∧i≤k-1∧witB a n=Y0 n (k-1-i) y) (fun _ u=>(k-1)-(intOf u).toNat)
   case atStart=>exact⟨x,0,rfl,rfl,hx0,hx1,by omega,hW3.out⟩
   case round =>
    clear hW3 d1 d2
    obtain⟨y,i,rfl,rfl,hy0,hy1,hi,he⟩:=hrel
    have hE:=lhd he;clear he
    obtain⟨b1,b2⟩:=ZaB hy0 hy1 hy0 hy1 h2
    have m1:=Int.emod_nonneg (y*y) (b:=n) (by omega)
    have m2:=Int.emod_lt_of_pos (y*y) (b:=n) (by omega)
    by_cases hlt:i<k-1
    ·have hS:=lhd (show Y0 n (k-1-i) y=if y*y % n=n-1 then false else Y0 n (k-1-(i+1)) (y*y % n) by
      rw[show k-1-i=(k-1-(i+1))+1 by omega];rfl)
     by_cases c3:y*y % n=n-1
     ·have d3:(y*y % n == n-1)=true:=by rw[beq_iff_eq];exact c3
      have C3:=lhd c3;clear c3
      go_wp2
      go_ret
      exact Ret.eq _ (ZF (by rw[hE.out,hS.out,if_pos C3.out]))
     ·have d3:(y*y % n == n-1)=false:=by rw[beq_eq_false_iff_ne];exact c3
      go_wp2
      exact⟨⟨y*y % n,i+1,rfl,by go_num,m1,m2,by omega,by rw[hE.out,hS.out,if_neg c3]⟩,by simp[intOf];omega⟩
    ·go_wp2
     go_ret
     exact Ret.eq _ (ZF (by rw[hE.out,show k-1-i=0 by omega];rfl))
theorem idx_0(w:World):(Instr.index 66 (.agg #[.int .i64 2,.int .i64 3,.int .i64 5,.int .i64 7]) (.int .i64 0)).run Tryz.prog w=.ok (.int .i64 2) w:=by kernel_rfl
theorem idx_1(w:World):(Instr.index 66 (.agg #[.int .i64 2,.int .i64 3,.int .i64 5,.int .i64 7]) (.int .i64 1)).run Tryz.prog w=.ok (.int .i64 3) w:=by kernel_rfl
theorem idx_2(w:World):(Instr.index 66 (.agg #[.int .i64 2,.int .i64 3,.int .i64 5,.int .i64 7]) (.int .i64 2)).run Tryz.prog w=.ok (.int .i64 5) w:=by kernel_rfl
theorem idx_3(w:World):(Instr.index 66 (.agg #[.int .i64 2,.int .i64 3,.int .i64 5,.int .i64 7]) (.int .i64 3)).run Tryz.prog w=.ok (.int .i64 7) w:=by kernel_rfl
theorem Zfr(n:Int)(w:World) :
  Calls Tryz.prog 58 #[.int .i64 n] w (Ret w (.bool (isPM n))):=by
 by_cases hn:n<2∨1000000000<n
 ·have hF:=lhd (show isPM n=false from if_pos hn)
  go_enter Tryz.func58,Tryz.ntmps58
  rcases hn with h | h
  ·go_wp2
   go_ret
   exact Ret.eq0 (ZF hF.out.symm)
  ·by_cases h2:n<2
   ·omega
   ·go_wp2
    go_ret
    exact Ret.eq0 (ZF hF.out.symm)
 ·have hF:=lhd (show isPM n=Z9 n [2,3,5,7] from if_neg hn)
  have hn1:2≤n:=by omega
  have hn2:n≤1000000000:=by omega
  clear hn
  go_enter Tryz.func58,Tryz.ntmps58
  go_wp2
  go_loopw [4,12] (fun _ u wr=>∃ k:Nat,u=.int .i64 k∧k≤4∧(1≤k→3≤n)∧isPM n=Z9 n (List.drop k [2,3,5,7])∧∃ m,wr=w.drewN m) (fun _ u _=>4-(intOf u).toNat)
  case atStart=>exact⟨0,rfl,by omega,by omega,hF.out,0,rfl⟩
  case round =>
   clear hF
   obtain⟨k,rfl,hk,hk3,he,m,rfl⟩:=hrel
   have hE:=lhd he;clear he
   have hk':k=0∨k=1∨k=2∨k=3∨k=4:=by omega
   rcases hk' with rfl | rfl | rfl | rfl | rfl
   ·have hS:=lhd (hE.out.trans (show Z9 n [2,3,5,7]=if n=2 then true else if n % 2=0∨witB 2 n=true then false else Z9 n [3,5,7] from rfl))
    clear hE
    have hI:=fun w=>idx_0 w
    by_cases c1:n=2
    ·have hF:=lhd (hS.out.trans (if_pos c1))
     clear hS
     subst c1
     go_wp2
     go_ret
     exact Ret.eq _ (ZF hF.out.symm)
    ·have hS2:=lhd (hS.out.trans (if_neg c1))
     clear hS
     have d1:(n == 2)=false:=by rw[beq_eq_false_iff_ne];exact c1
     by_cases c2:n % 2=0
     ·have hF:=lhd (hS2.out.trans (if_pos (Or.inl c2)))
      clear hS2
      have d2:(n % 2 == 0)=true:=by rw[beq_iff_eq];exact c2
      clear c2
      go_wp2
      go_ret
      exact Ret.eq _ (ZF hF.out.symm)
     ·have d2:(n % 2 == 0)=false:=by rw[beq_eq_false_iff_ne];exact c2
      have hw:=fun w=>Uk 2 n w (by omega) (by omega) (by omega) hn2
      cases c3:witB 2 n
      ·have hF:=lhd (hS2.out.trans (if_neg (by rw[c3];simp[c2])))
       rw[c3]at hw
       have hW:=lhd hw
       clear hw hS2 c3 c2
       go_wp2_with fail
       refine(hW.out _).mono ?_
       rintro e w' ⟨rfl,n3,rfl⟩
       go_wp2
       exact⟨⟨1,rfl,by omega,by omega,hF.out,_,rfl⟩,by simp[intOf]⟩
      ·have hF:=lhd (hS2.out.trans (if_pos (Or.inr c3)))
       rw[c3]at hw
       have hW:=lhd hw
       clear hw hS2 c3 c2
       go_wp2_with fail
       refine(hW.out _).mono ?_
       rintro e w' ⟨rfl,n3,rfl⟩
       go_wp2
       go_ret
       exact Ret.eq _ (ZF hF.out.symm)
   ·have hS:=lhd (hE.out.trans (show Z9 n [3,5,7]=if n=3 then true else if n % 3=0∨witB 3 n=true then false else Z9 n [5,7] from rfl))
    clear hE
    have hI:=fun w=>idx_1 w
    by_cases c1:n=3
    ·have hF:=lhd (hS.out.trans (if_pos c1))
     clear hS
     subst c1
     go_wp2
     go_ret
     exact Ret.eq _ (ZF hF.out.symm)
    ·have hS2:=lhd (hS.out.trans (if_neg c1))
     clear hS
     have d1:(n == 3)=false:=by rw[beq_eq_false_iff_ne];exact c1
     by_cases c2:n % 3=0
     ·have hF:=lhd (hS2.out.trans (if_pos (Or.inl c2)))
      clear hS2
      have d2:(n % 3 == 0)=true:=by rw[beq_iff_eq];exact c2
      clear c2
      go_wp2
      go_ret
      exact Ret.eq _ (ZF hF.out.symm)
     ·have d2:(n % 3 == 0)=false:=by rw[beq_eq_false_iff_ne];exact c2
      have hw:=fun w=>Uk 3 n w (by omega) (by omega) (hk3 (by omega)) hn2
      cases c3:witB 3 n
      ·have hF:=lhd (hS2.out.trans (if_neg (by rw[c3];simp[c2])))
       rw[c3]at hw
       have hW:=lhd hw
       clear hw hS2 c3 c2
       go_wp2_with fail
       refine(hW.out _).mono ?_
       rintro e w' ⟨rfl,n3,rfl⟩
       go_wp2
       exact⟨⟨2,rfl,by omega,by omega,hF.out,_,rfl⟩,by simp[intOf]⟩
      ·have hF:=lhd (hS2.out.trans (if_pos (Or.inr c3)))
       rw[c3]at hw
       have hW:=lhd hw
       clear hw hS2 c3 c2
       go_wp2_with fail
       refine(hW.out _).mono ?_
       rintro e w' ⟨rfl,n3,rfl⟩
       go_wp2
       go_ret
       exact Ret.eq _ (ZF hF.out.symm)
   ·have hS:=lhd (hE.out.trans (show Z9 n [5,7]=if n=5 then true else if n % 5=0∨witB 5 n=true then false else Z9 n [7] from rfl))
    clear hE
    have hI:=fun w=>idx_2 w
    by_cases c1:n=5
    ·have hF:=lhd (hS.out.trans (if_pos c1))
     clear hS
     subst c1
     go_wp2
     go_ret
     exact Ret.eq _ (ZF hF.out.symm)
    ·have hS2:=lhd (hS.out.trans (if_neg c1))
     clear hS
     have d1:(n == 5)=false:=by rw[beq_eq_false_iff_ne];exact c1
     by_cases c2:n % 5=0
     ·have hF:=lhd (hS2.out.trans (if_pos (Or.inl c2)))
      clear hS2
      have d2:(n % 5 == 0)=true:=by rw[beq_iff_eq];exact c2
      clear c2
      go_wp2
      go_ret
      exact Ret.eq _ (ZF hF.out.symm)
     ·have d2:(n % 5 == 0)=false:=by rw[beq_eq_false_iff_ne];exact c2
      have hw:=fun w=>Uk 5 n w (by omega) (by omega) (hk3 (by omega)) hn2
      cases c3:witB 5 n
      ·have hF:=lhd (hS2.out.trans (if_neg (by rw[c3];simp[c2])))
       rw[c3]at hw
       have hW:=lhd hw
       clear hw hS2 c3 c2
       go_wp2_with fail
       refine(hW.out _).mono ?_
       rintro e w' ⟨rfl,n3,rfl⟩
       go_wp2
       exact⟨⟨3,rfl,by omega,by omega,hF.out,_,rfl⟩,by simp[intOf]⟩
      ·have hF:=lhd (hS2.out.trans (if_pos (Or.inr c3)))
       rw[c3]at hw
       have hW:=lhd hw
       clear hw hS2 c3 c2
       go_wp2_with fail
       refine(hW.out _).mono ?_
       rintro e w' ⟨rfl,n3,rfl⟩
       go_wp2
       go_ret
       exact Ret.eq _ (ZF hF.out.symm)
   ·have hS:=lhd (hE.out.trans (show Z9 n [7]=if n=7 then true else if n % 7=0∨witB 7 n=true then false else Z9 n [] from rfl))
    clear hE
    have hI:=fun w=>idx_3 w
    by_cases c1:n=7
    ·have hF:=lhd (hS.out.trans (if_pos c1))
     clear hS
     subst c1
     go_wp2
     go_ret
     exact Ret.eq _ (ZF hF.out.symm)
    ·have hS2:=lhd (hS.out.trans (if_neg c1))
     clear hS
     have d1:(n == 7)=false:=by rw[beq_eq_false_iff_ne];exact c1
     by_cases c2:n % 7=0
     ·have hF:=lhd (hS2.out.trans (if_pos (Or.inl c2)))
      clear hS2
      have d2:(n % 7 == 0)=true:=by rw[beq_iff_eq];exact c2
      clear c2
      go_wp2
      go_ret
      exact Ret.eq _ (ZF hF.out.symm)
     ·have d2:(n % 7 == 0)=false:=by rw[beq_eq_false_iff_ne];exact c2
      have hw:=fun w=>Uk 7 n w (by omega) (by omega) (hk3 (by omega)) hn2
      cases c3:witB 7 n
      ·have hF:=lhd (hS2.out.trans (if_neg (by rw[c3];simp[c2])))
       rw[c3]at hw
       have hW:=lhd hw
       clear hw hS2 c3 c2
       go_wp2_with fail
       refine(hW.out _).mono ?_
       rintro e w' ⟨rfl,n3,rfl⟩
       go_wp2
       exact⟨⟨4,rfl,by omega,by omega,hF.out,_,rfl⟩,by simp[intOf]⟩
      ·have hF:=lhd (hS2.out.trans (if_pos (Or.inr c3)))
       rw[c3]at hw
       have hW:=lhd hw
       clear hw hS2 c3 c2
       go_wp2_with fail
       refine(hW.out _).mono ?_
       rintro e w' ⟨rfl,n3,rfl⟩
       go_wp2
       go_ret
       exact Ret.eq _ (ZF hF.out.symm)
   ·have hS:=lhd (hE.out.trans (show Z9 n []=true from rfl))
    clear hE
    go_wp2
    go_ret
    exact Ret.eq _ (ZF hS.out.symm)
open Go.RowKit FF
theorem sgn1(o J:Int):o*J=o*(1*1*J):=by grind
theorem sgn2(o J:Int):-o*J=o*(-1*1*J):=by grind
theorem ZgQ(a n:Int)(w:World)(ha:I64 a)(h1:1≤n)(h2:n≤1000000000)(ho:n % 2=1) :
    Calls Tryz.prog 96 #[.int .i64 a,.int .i64 n] w (Ret w (.int .i64 (Jac a n.toNat))):=by
  have hM:=lhd (fun w=>Kt a n w ha (by omega) ⟨by omega,by omega⟩)
  have x0:=Int.emod_nonneg a (b:=n) (by omega)
  have x1:=Int.emod_lt_of_pos a (b:=n) (by omega)
  have hst:=lhd (show 1*Jac (a % n) n.toNat=Jac a n.toNat by
    rw[Int.one_mul];exact Zdi (by omega) (by rw[show((n.toNat:Nat):Int)=n by omega];exact Cg.emod n a))
  have hO:=lhd ho;clear ho ha
  generalize hJ:Jac a n.toNat=J0 at *
  go_enter Tryz.func96,Tryz.ntmps96
  go_wp2_with fail
  refine(hM.out _).mono ?_
  rintro e w' ⟨rfl,n1,rfl⟩
  clear hM hJ
  go_wp2_with fail
  generalize a % n=b0 at *
  go_loopw [0,1,5,6,7] (fun s t u _ _ wr=>∃ x n o:Int,s=.int .i64 x∧t=.int .i64 n∧u=.int .i64 o∧0≤x∧x<n∧1≤n∧n≤1000000000∧n % 2=1∧(o=1∨o = -1)∧o*Jac x n.toNat=J0∧∃ m,wr=w.drewN m) (fun s _ _ _ _ _=>(intOf s).toNat)
  case atStart=>exact⟨b0,n,1,rfl,rfl,rfl,x0,x1,h1,h2,hO.out,Or.inl rfl,hst.out,n1,rfl⟩
  case round =>
    clear hst x0 x1 h1 h2 hO
    obtain⟨x,n,o,rfl,rfl,rfl,x0,x1,h1,h2,ho,hoo,he,m,rfl⟩:=hrel
    have hE:=lhd he;clear he
    have hO:=lhd ho;clear ho
    have ol:-1≤o:=by omega
    have ou:o≤1:=by omega
    have hOO:=lhd hoo;clear hoo
    by_cases hx:x=0
    · subst hx
      have hz:=lhd (ZdK (n:=n.toNat) (by have:=hO.out;omega))
      by_cases hn1:n=1
      · subst hn1
        go_wp2
        go_ret
        refine Ret.eq _ (Zp ?_)
        rw[← hE.out,hz.out,if_pos (by rfl),Int.mul_one]
      · have d0:(!(n == 1))=true:=by simp[hn1]
        go_wp2
        go_ret
        refine Ret.eq _ (Zp ?_)
        rw[← hE.out,hz.out,if_neg (by omega),Int.mul_zero]
    · have hxp:0<x:=by omega
      have hS:=lhd (jac_step hxp (by omega) hO.out)
      have hr:=XK (p:=2) (n:=x) (by omega) (by omega)
      have hr0:=ZbN (p:=2) (n:=x) (by omega) (by omega)
      have hr1:=Kv (p:=2) (n:=x) (by omega) (by omega)
      have hk:vp 2 x<64:=by
        have h3:=vp_lt (p:=2) (n:=x) (by omega) (by omega)
        have h4:x.natAbs<2 ^ 64:=by omega
        exact(Nat.pow_lt_pow_iff_right (by omega)).1 (Nat.lt_of_le_of_lt h3 h4)
      have hC:∀ w,Calls Tryz.prog 149 #[.int .i64 x,.int .i64 2] w (Ret w (.tuple #[.int .i64 (vp 2 x),.int .i64 (rest 2 x)])):=fun w=>Zaj x 2 w ⟨by omega,by omega⟩ (by omega) (by omega) (by omega)
      generalize vp 2 x=k at *
      generalize rest 2 x=r at *
      have hro:r % 2=1:=by omega
      have hrx:r≤x:=by omega
      clear hr hr1
      have HC:=lhd hC;clear hC
      have m1:=Int.emod_nonneg n (b:=r) (by omega)
      have m2:=Int.emod_lt_of_pos n hr0
      have hb:(!(x == 0))=true:=by simp[hx]
      clear hx
      rcases Bool.eq_false_or_eq_true ((k:Int) % 2 == 1) with d1 | d1
      · rcases Bool.eq_false_or_eq_true (n % 8 == 3) with d2 | d2
        · skip
          rcases Bool.eq_false_or_eq_true (r % 4 == 3) with d4 | d4
          · rcases Bool.eq_false_or_eq_true (n % 4 == 3) with d5 | d5
            · skip
              first
                | (exfalso;replace d1:=Zq d1;replace d2:=Zq d2;replace d4:=Zq d4;replace d5:=Zq d5;omega)
                | (go_wp2_with fail
                   refine(HC.out _).mono ?_
                   rintro e w' ⟨rfl,n3,rfl⟩
                   go_wp2
                   replace d1:=Zq d1;replace d2:=Zq d2;replace d4:=Zq d4;replace d5:=Zq d5
                   refine⟨⟨_,_,_,rfl,rfl,rfl,m1,by omega,by omega,by omega,hro,?_,?_,_,rfl⟩,?_⟩
                   · have hoo:=hOO.out;omega
                   · rw[← hE.out,hS.out]
                     split <;> split <;> first | (exfalso;omega) | exact sgn1 .. | exact sgn2 .. | exact sgn3 .. | exact sgn4 .. | exact sgn5 ..
                   · show(n % r).toNat<x.toNat;omega)
            · skip
              first
                | (exfalso;replace d1:=Zq d1;replace d2:=Zq d2;replace d4:=Zq d4;replace d5:=ZA d5;omega)
                | (go_wp2_with fail
                   refine(HC.out _).mono ?_
                   rintro e w' ⟨rfl,n3,rfl⟩
                   go_wp2
                   replace d1:=Zq d1;replace d2:=Zq d2;replace d4:=Zq d4;replace d5:=ZA d5
                   refine⟨⟨_,_,_,rfl,rfl,rfl,m1,by omega,by omega,by omega,hro,?_,?_,_,rfl⟩,?_⟩
                   · have hoo:=hOO.out;omega
                   · rw[← hE.out,hS.out]
                     split <;> split <;> first | (exfalso;omega) | exact sgn1 .. | exact sgn2 .. | exact sgn3 .. | exact sgn4 .. | exact sgn5 ..
                   · show(n % r).toNat<x.toNat;omega)
          · skip
            first
              | (exfalso;replace d1:=Zq d1;replace d2:=Zq d2;replace d4:=ZA d4;omega)
              | (go_wp2_with fail
                 refine(HC.out _).mono ?_
                 rintro e w' ⟨rfl,n3,rfl⟩
                 go_wp2
                 replace d1:=Zq d1;replace d2:=Zq d2;replace d4:=ZA d4
                 refine⟨⟨_,_,_,rfl,rfl,rfl,m1,by omega,by omega,by omega,hro,?_,?_,_,rfl⟩,?_⟩
                 · have hoo:=hOO.out;omega
                 · rw[← hE.out,hS.out]
                   split <;> split <;> first | (exfalso;omega) | exact sgn1 .. | exact sgn2 .. | exact sgn3 .. | exact sgn4 .. | exact sgn5 ..
                 · show(n % r).toNat<x.toNat;omega)
        · rcases Bool.eq_false_or_eq_true (n % 8 == 5) with d3 | d3
          · skip
            rcases Bool.eq_false_or_eq_true (r % 4 == 3) with d4 | d4
            · rcases Bool.eq_false_or_eq_true (n % 4 == 3) with d5 | d5
              · skip
                first
                  | (exfalso;replace d1:=Zq d1;replace d2:=ZA d2;replace d3:=Zq d3;replace d4:=Zq d4;replace d5:=Zq d5;omega)
                  | (go_wp2_with fail
                     refine(HC.out _).mono ?_
                     rintro e w' ⟨rfl,n3,rfl⟩
                     go_wp2
                     replace d1:=Zq d1;replace d2:=ZA d2;replace d3:=Zq d3;replace d4:=Zq d4;replace d5:=Zq d5
                     refine⟨⟨_,_,_,rfl,rfl,rfl,m1,by omega,by omega,by omega,hro,?_,?_,_,rfl⟩,?_⟩
                     · have hoo:=hOO.out;omega
                     · rw[← hE.out,hS.out]
                       split <;> split <;> first | (exfalso;omega) | exact sgn1 .. | exact sgn2 .. | exact sgn3 .. | exact sgn4 .. | exact sgn5 ..
                     · show(n % r).toNat<x.toNat;omega)
              · skip
                first
                  | (exfalso;replace d1:=Zq d1;replace d2:=ZA d2;replace d3:=Zq d3;replace d4:=Zq d4;replace d5:=ZA d5;omega)
                  | (go_wp2_with fail
                     refine(HC.out _).mono ?_
                     rintro e w' ⟨rfl,n3,rfl⟩
                     go_wp2
                     replace d1:=Zq d1;replace d2:=ZA d2;replace d3:=Zq d3;replace d4:=Zq d4;replace d5:=ZA d5
                     refine⟨⟨_,_,_,rfl,rfl,rfl,m1,by omega,by omega,by omega,hro,?_,?_,_,rfl⟩,?_⟩
                     · have hoo:=hOO.out;omega
                     · rw[← hE.out,hS.out]
                       split <;> split <;> first | (exfalso;omega) | exact sgn1 .. | exact sgn2 .. | exact sgn3 .. | exact sgn4 .. | exact sgn5 ..
                     · show(n % r).toNat<x.toNat;omega)
            · skip
              first
                | (exfalso;replace d1:=Zq d1;replace d2:=ZA d2;replace d3:=Zq d3;replace d4:=ZA d4;omega)
                | (go_wp2_with fail
                   refine(HC.out _).mono ?_
                   rintro e w' ⟨rfl,n3,rfl⟩
                   go_wp2
                   replace d1:=Zq d1;replace d2:=ZA d2;replace d3:=Zq d3;replace d4:=ZA d4
                   refine⟨⟨_,_,_,rfl,rfl,rfl,m1,by omega,by omega,by omega,hro,?_,?_,_,rfl⟩,?_⟩
                   · have hoo:=hOO.out;omega
                   · rw[← hE.out,hS.out]
                     split <;> split <;> first | (exfalso;omega) | exact sgn1 .. | exact sgn2 .. | exact sgn3 .. | exact sgn4 .. | exact sgn5 ..
                   · show(n % r).toNat<x.toNat;omega)
          · skip
            rcases Bool.eq_false_or_eq_true (r % 4 == 3) with d4 | d4
            · rcases Bool.eq_false_or_eq_true (n % 4 == 3) with d5 | d5
              · skip
                first
                  | (exfalso;replace d1:=Zq d1;replace d2:=ZA d2;replace d3:=ZA d3;replace d4:=Zq d4;replace d5:=Zq d5;omega)
                  | (go_wp2_with fail
                     refine(HC.out _).mono ?_
                     rintro e w' ⟨rfl,n3,rfl⟩
                     go_wp2
                     replace d1:=Zq d1;replace d2:=ZA d2;replace d3:=ZA d3;replace d4:=Zq d4;replace d5:=Zq d5
                     refine⟨⟨_,_,_,rfl,rfl,rfl,m1,by omega,by omega,by omega,hro,?_,?_,_,rfl⟩,?_⟩
                     · have hoo:=hOO.out;omega
                     · rw[← hE.out,hS.out]
                       split <;> split <;> first | (exfalso;omega) | exact sgn1 .. | exact sgn2 .. | exact sgn3 .. | exact sgn4 .. | exact sgn5 ..
                     · show(n % r).toNat<x.toNat;omega)
              · skip
                first
                  | (exfalso;replace d1:=Zq d1;replace d2:=ZA d2;replace d3:=ZA d3;replace d4:=Zq d4;replace d5:=ZA d5;omega)
                  | (go_wp2_with fail
                     refine(HC.out _).mono ?_
                     rintro e w' ⟨rfl,n3,rfl⟩
                     go_wp2
                     replace d1:=Zq d1;replace d2:=ZA d2;replace d3:=ZA d3;replace d4:=Zq d4;replace d5:=ZA d5
                     refine⟨⟨_,_,_,rfl,rfl,rfl,m1,by omega,by omega,by omega,hro,?_,?_,_,rfl⟩,?_⟩
                     · have hoo:=hOO.out;omega
                     · rw[← hE.out,hS.out]
                       split <;> split <;> first | (exfalso;omega) | exact sgn1 .. | exact sgn2 .. | exact sgn3 .. | exact sgn4 .. | exact sgn5 ..
                     · show(n % r).toNat<x.toNat;omega)
            · skip
              first
                | (exfalso;replace d1:=Zq d1;replace d2:=ZA d2;replace d3:=ZA d3;replace d4:=ZA d4;omega)
                | (go_wp2_with fail
                   refine(HC.out _).mono ?_
                   rintro e w' ⟨rfl,n3,rfl⟩
                   go_wp2
                   replace d1:=Zq d1;replace d2:=ZA d2;replace d3:=ZA d3;replace d4:=ZA d4
                   refine⟨⟨_,_,_,rfl,rfl,rfl,m1,by omega,by omega,by omega,hro,?_,?_,_,rfl⟩,?_⟩
                   · have hoo:=hOO.out;omega
                   · rw[← hE.out,hS.out]
                     split <;> split <;> first | (exfalso;omega) | exact sgn1 .. | exact sgn2 .. | exact sgn3 .. | exact sgn4 .. | exact sgn5 ..
                   · show(n % r).toNat<x.toNat;omega)
      · skip
        rcases Bool.eq_false_or_eq_true (r % 4 == 3) with d4 | d4
        · rcases Bool.eq_false_or_eq_true (n % 4 == 3) with d5 | d5
          · skip
            first
              | (exfalso;replace d1:=ZA d1;replace d4:=Zq d4;replace d5:=Zq d5;omega)
              | (go_wp2_with fail
                 refine(HC.out _).mono ?_
                 rintro e w' ⟨rfl,n3,rfl⟩
                 go_wp2
                 replace d1:=ZA d1;replace d4:=Zq d4;replace d5:=Zq d5
                 refine⟨⟨_,_,_,rfl,rfl,rfl,m1,by omega,by omega,by omega,hro,?_,?_,_,rfl⟩,?_⟩
                 · have hoo:=hOO.out;omega
                 · rw[← hE.out,hS.out]
                   split <;> split <;> first | (exfalso;omega) | exact sgn1 .. | exact sgn2 .. | exact sgn3 .. | exact sgn4 .. | exact sgn5 ..
                 · show(n % r).toNat<x.toNat;omega)
          · skip
            first
              | (exfalso;replace d1:=ZA d1;replace d4:=Zq d4;replace d5:=ZA d5;omega)
              | (go_wp2_with fail
                 refine(HC.out _).mono ?_
                 rintro e w' ⟨rfl,n3,rfl⟩
                 go_wp2
                 replace d1:=ZA d1;replace d4:=Zq d4;replace d5:=ZA d5
                 refine⟨⟨_,_,_,rfl,rfl,rfl,m1,by omega,by omega,by omega,hro,?_,?_,_,rfl⟩,?_⟩
                 · have hoo:=hOO.out;omega
                 · rw[← hE.out,hS.out]
                   split <;> split <;> first | (exfalso;omega) | exact sgn1 .. | exact sgn2 .. | exact sgn3 .. | exact sgn4 .. | exact sgn5 ..
                 · show(n % r).toNat<x.toNat;omega)
        · skip
          first
            | (exfalso;replace d1:=ZA d1;replace d4:=ZA d4;omega)
            | (go_wp2_with fail
               refine(HC.out _).mono ?_
               rintro e w' ⟨rfl,n3,rfl⟩
               go_wp2
               replace d1:=ZA d1;replace d4:=ZA d4
               refine⟨⟨_,_,_,rfl,rfl,rfl,m1,by omega,by omega,by omega,hro,?_,?_,_,rfl⟩,?_⟩
               · have hoo:=hOO.out;omega
               · rw[← hE.out,hS.out]
                 split <;> split <;> first | (exfalso;omega) | exact sgn1 .. | exact sgn2 .. | exact sgn3 .. | exact sgn4 .. | exact sgn5 ..
               · show(n % r).toNat<x.toNat;omega)
theorem Kl(n:Int)(w:World) :
  Calls Tryz.prog 58 #[.int .i64 n] w (Ret w (.bool (isPB n))):=Zfr n w
end
end Go.Proofs.YthkklilhjnpedaaGreatDoor
