/- Contracts of the reference's functions on machine integers, part A. Contracts of the reference's functions on machine integers, part B: the Hilbert symbol. Contracts of the reference's functions on machine integers, part C: the reference's Hilbert symbol. Small functions of the verifier's base: Mod, Within, Abs. Bezout of the program. Inverse of the program and of the reference; Bezout of the reference; small functions of the verifier. Jacobi, Legendre, Valuation of the program; Gcd of the verifier's base. -/
import Derived.Test.YthkklilhjnpedaaGreatDoorUIntA
set_option maxHeartbeats 16000000
set_option maxRecDepth 8000
namespace Go.Proofs.YthkklilhjnpedaaGreatDoor
open Go.RowKit FF
theorem bMod_any(a m:Int)(w:World)(ha:I64 a)(h3:0<m)(hm:I64 m) :
  Calls Tryz.prog 32 #[.int .i64 a,.int .i64 m] w (Ret w (.int .i64 (a % m))):=by
 obtain⟨h1,h2⟩:=ha
 obtain⟨_,h4⟩:=hm
 have t1:=Int.tmod_lt_of_pos a h3
 have t2:=Int.lt_tmod_of_pos a h3
 have ee:=lhd (ZcY (a:=a) h3)
 go_enter Tryz.func32,Tryz.ntmps32
 go_wp2
 ·have hlt:a.tmod m<0:=by assumption
  go_ret
  exact Ret.eq0 (Zp (by rw[ee.out,if_pos hlt]))
 ·have hlt:0≤a.tmod m:=by assumption
  go_ret
  exact Ret.eq0 (Zp (by rw[ee.out,if_neg (by omega)]))
theorem U8(n:Int)(w:World)(h1:-9223372036854775807≤n)(h2:n≤9223372036854775807) :
  Calls Tryz.prog 67 #[.int .i64 n] w (Ret w (.int .i64 n.natAbs)):=by
 by_cases h:n<0
 ·have hN:=lhd (show(n.natAbs:Int) = -n by omega)
  go_enter Tryz.func67,Tryz.ntmps67
  go_wp2
  go_ret
  exact Ret.eq0 (Zp hN.out.symm)
 ·have hN:=lhd (show(n.natAbs:Int)=n by omega)
  go_enter Tryz.func67,Tryz.ntmps67
  go_wp2
  go_ret
  exact Ret.eq0 (Zp hN.out.symm)
open Go.RowKit FF
def invE(a m:Int):Int:=if modB m=false then 2 else if Int.gcd a m=1 then 0 else 12
def invV(a m:Int):Int:=if invE a m=0 then invM a m else 0
theorem inv_bad{a m:Int}(h:modB m=false):invE a m=2∧invV a m=0:=by
 have e:invE a m=2:=if_pos h
 exact⟨e,by unfold invV;rw[e];rfl⟩
theorem inv_none{a m:Int}(h:modB m=true)(g:Int.gcd a m≠1):invE a m=12∧invV a m=0:=by
 have e:invE a m=12:=by unfold invE;rw[h,if_neg (by simp),if_neg g]
 exact⟨e,by unfold invV;rw[e];rfl⟩
theorem inv_good{a m:Int}(h:modB m=true)(g:Int.gcd a m=1):invE a m=0∧invV a m=invM a m:=by
 have e:invE a m=0:=by unfold invE;rw[h,if_neg (by simp),if_pos g]
 exact⟨e,by unfold invV;rw[e];rfl⟩
theorem Kq(a m:Int)(w:World)(ha:I64 a) :
  Calls Tryz.prog 60 #[.int .i64 a,.int .i64 m] w (Ret w (.tuple #[.int .i64 (invV a m),.int .i64 (invE a m)])):=by
 have hM:=lhd (fun w=>Zfp m w)
 cases h:modB m
 ·obtain⟨e1,e2⟩:=inv_bad (a:=a) h
  have E1:=lhd e1;have E2:=lhd e2;clear e1 e2
  rw[h]at hM
  clear h
  go_enter Tryz.func60,Tryz.ntmps60
  go_wp2_with fail
  refine(hM.out _).mono ?_
  rintro e w' ⟨rfl,n1,rfl⟩
  go_wp2_with fail
  go_ret2
  exact Ret.eq _ (Y5 E2.out.symm E1.out.symm)
 ·obtain⟨m1,m2⟩:=Zig.1 h
  have hD:=lhd (fun w=>Kt a m w ha (by omega) ⟨by omega,by omega⟩)
  have r0:=Int.emod_nonneg a (b:=m) (by omega)
  have r1:=Int.emod_lt_of_pos a (b:=m) (by omega)
  have hG:=lhd (fun w=>gcd_any (a % m) m w (by omega) (by omega))
  rw[Zam]at hG
  by_cases g:Int.gcd a m=1
  ·obtain⟨e1,e2⟩:=inv_good h g
   have E1:=lhd e1;have E2:=lhd e2;clear e1 e2
   have hI:=lhd (fun w=>Zfq a m w ha m1 m2 g)
   rw[g]at hG
   rw[h]at hM
   clear h g ha
   go_enter Tryz.func60,Tryz.ntmps60
   go_wp2_with fail
   refine(hM.out _).mono ?_
   rintro e w' ⟨rfl,n1,rfl⟩
   go_wp2_with fail
   refine(hD.out _).mono ?_
   rintro e w' ⟨rfl,n2,rfl⟩
   go_wp2_with fail
   refine(hG.out _).mono ?_
   rintro e w' ⟨rfl,n3,rfl⟩
   go_wp2_with fail
   refine(hI.out _).mono ?_
   rintro e w' ⟨rfl,n4,rfl⟩
   go_wp2_with fail
   go_ret2
   exact Ret.eq _ (Y5 E2.out.symm E1.out.symm)
  ·obtain⟨e1,e2⟩:=inv_none h g
   have E1:=lhd e1;have E2:=lhd e2;clear e1 e2
   have d:(((Int.gcd a m:Nat):Int) != 1)=true:=bne_iff_ne.2 (by omega)
   generalize ((Int.gcd a m:Nat):Int)=G at *
   rw[h]at hM
   clear h g ha
   go_enter Tryz.func60,Tryz.ntmps60
   go_wp2_with fail
   refine(hM.out _).mono ?_
   rintro e w' ⟨rfl,n1,rfl⟩
   go_wp2_with fail
   refine(hD.out _).mono ?_
   rintro e w' ⟨rfl,n2,rfl⟩
   go_wp2_with fail
   refine(hG.out _).mono ?_
   rintro e w' ⟨rfl,n3,rfl⟩
   go_wp2_with fail
   go_ret2
   exact Ret.eq _ (Y5 E2.out.symm E1.out.symm)
end Go.Proofs.YthkklilhjnpedaaGreatDoor
