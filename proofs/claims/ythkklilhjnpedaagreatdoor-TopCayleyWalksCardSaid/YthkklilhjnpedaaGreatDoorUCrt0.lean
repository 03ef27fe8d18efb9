/- Valuation, Legendre, Jacobi of both sides. -/
import Derived.Test.YthkklilhjnpedaaGreatDoorUNt
import Derived.Test.YthkklilhjnpedaaGreatDoorUStp
import Derived.Test.YthkklilhjnpedaaGreatDoorUIntA
import Derived.Test.YthkklilhjnpedaaGreatDoorUQn0
import Derived.Test.YthkklilhjnpedaaGreatDoorUSym0
set_option maxHeartbeats 16000000
set_option maxRecDepth 8000
namespace Go.Proofs.YthkklilhjnpedaaGreatDoor
section
open Go.RowKit FF
theorem bHas_any(A:Option Addr)(xs:List Int)(c:Nat)(x:Int)(w:World)(hx:ShowsI w A xs)(hn:xs.length≤maxLen) :
  Calls Tryz.prog 11 #[.slice A xs.length c,.int .i64 x] w (Ret w (.bool (decide (x∈xs)))):=by
 unfold maxLen at hn
 obtain⟨n,hn'⟩:∃ n,xs.length=n:=⟨_,rfl⟩
 have HN:=lhd hn'
 have HX:=lhd hx
 rw[hn']at hn ⊢
 clear hx hn'
 go_enter Tryz.func11,Tryz.ntmps11
 go_wp2_with fail
 go_loopw [5] (fun s wr=>∃ k:Nat,s=.int .i64 k∧k≤n∧(∀ j,j<k→xs.getD j 0≠x)∧∃ m,wr=w.drewN m) (fun s _=>n-(intOf s).toNat)
 case atStart=>exact⟨0,rfl,by omega,fun j hj=>absurd hj (by omega),0,rfl⟩
 case round =>
  obtain⟨k,rfl,hk,hd,m,rfl⟩:=hrel
  have HD:=lhd hd;clear hd
  by_cases h0:k<n
  ·obtain⟨b1,o1,rfl,hb1,hc1⟩:=HX.out (by rw[HN.out];omega)
   have x1:=hc1 k (by rw[HN.out];omega)
   have HM:=lhd (show xs.getD k 0∈xs by rw[gDg,gEe (by rw[HN.out];omega)];exact List.getElem_mem _)
   have HE:=lhd (fun h:xs.getD k 0≠x=>(show ∀ j,j<k+1→xs.getD j 0≠x from fun j hj=>by
    rcases Nat.lt_or_ge j k with g | g
    ·exact HD.out j g
    ·rw[show j=k by omega];exact h))
   clear hc1
   generalize xs.getD k 0=y at *
   by_cases hxy:y=x
   ·have HQ:=lhd (show true=decide (x∈xs) by rw[hxy]at HM;exact(deT HM.out).symm)
    subst hxy
    clear HM HE HD
    generalize decide (y∈xs)=R at *
    have d1:(y == y)=true:=by simp
    go_wp2_with fail
    go_ret
    exact Ret.eq _ (ZF HQ.out)
   ·have HQ:=lhd (HE.out hxy)
    have d1:(y == x)=false:=Xx hxy
    clear HM HE
    go_wp2_with fail
    exact⟨⟨k+1,by go_num,by omega,HQ.out,_,rfl⟩,by simp[intOf];omega⟩
  ·obtain rfl:k=n:=by omega
   have HQ:=lhd (show false=decide (x∈xs) from(deF (fun hm=>by
    obtain⟨j,hj,he⟩:=List.mem_iff_getElem.1 hm
    refine HD.out j (by rw[HN.out]at hj;exact hj) ?_
    rw[gDg,gEe hj,← he];rfl)).symm)
   generalize decide (x∈xs)=R at *
   clear HD
   go_wp2_with fail
   go_ret
   exact Ret.eq _ (ZF HQ.out)
theorem ZgH{p:Int}(h:isPB p=true):2≤p∧p≤1000000000∧IsP p.toNat:=by
 obtain⟨h1,h2⟩:=ZbR.1 h
 have:=h1.1
 exact⟨by omega,h2,h1⟩
def legE(p:Int):Int:=if p=2∨isPB p=false then 11 else 0
def legV(a p:Int):Int:=if legE p=0 then leg a p.toNat else 0
theorem Zat(a p:Int)(w:World)(ha:I64 a) :
  Calls Tryz.prog 59 #[.int .i64 a,.int .i64 p] w (Ret w (.tuple #[.int .i64 (legV a p),.int .i64 (legE p)])):=by
 have hP:=lhd (fun w=>Kl p w)
 by_cases h2:p=2
 ·have E:=lhd (show legE p=11 from if_pos (Or.inl h2))
  have V:=lhd (show legV a p=0 by unfold legV;rw[E.out];rfl)
  subst h2
  go_enter Tryz.func59,Tryz.ntmps59
  go_wp2_with fail
  go_ret2
  exact Ret.eq0 (Y5 V.out.symm E.out.symm)
 have d:=Xx h2
 cases h:isPB p
 ·have E:=lhd (show legE p=11 from if_pos (Or.inr h))
  have V:=lhd (show legV a p=0 by unfold legV;rw[E.out];rfl)
  rw[h]at hP
  clear h
  go_enter Tryz.func59,Tryz.ntmps59
  go_wp2_with fail
  refine(hP.out _).mono ?_
  rintro e w' ⟨rfl,n1,rfl⟩
  go_wp2_with fail
  go_ret2
  exact Ret.eq _ (Y5 V.out.symm E.out.symm)
 ·obtain⟨p1,p2,p3⟩:=ZgH h
  have E:=lhd (show legE p=0 from if_neg (by rintro(g | g);exact h2 g;rw[h]at g;exact absurd g (by simp)))
  have V:=lhd (show legV a p=Jac a p.toNat by unfold legV;rw[E.out,if_pos rfl];exact(ZiH p3 a).symm)
  have ho:p % 2=1:=by have:=p3.odd (by omega);omega
  have hJ:=lhd (fun w=>ZgQ a p w ha (by omega) p2 ho)
  rw[h]at hP
  clear h
  go_enter Tryz.func59,Tryz.ntmps59
  go_wp2_with fail
  refine(hP.out _).mono ?_
  rintro e w' ⟨rfl,n1,rfl⟩
  go_wp2_with fail
  refine(hJ.out _).mono ?_
  rintro e w' ⟨rfl,n2,rfl⟩
  go_wp2_with fail
  go_ret2
  exact Ret.eq _ (Y5 V.out.symm E.out.symm)
end
end Go.Proofs.YthkklilhjnpedaaGreatDoor
