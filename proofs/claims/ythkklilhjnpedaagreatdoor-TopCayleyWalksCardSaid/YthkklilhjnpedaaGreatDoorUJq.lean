/- Polynomial of the constant graph. -/
import Derived.Test.YthkklilhjnpedaaGreatDoorUPfn
import Derived.Test.YthkklilhjnpedaaGreatDoorUGch
set_option maxHeartbeats 16000000
set_option maxRecDepth 8000
namespace Go.Proofs.YthkklilhjnpedaaGreatDoor
section
open Go.RowKit FF
theorem Zfs(t:TypeId)(ht:Tryz.prog.underlying t=some (.slice 169))(N:Nat)(hN:N≤1000000)(W:World):(Instr.makeSlice t (.int .i64 (N:Int)) (.int .i64 (N:Int))).run Tryz.prog W =
  .ok (.slice (some ⟨W.heap.size,0,none⟩) N N) (W.alloc (.cells (madeCells zz2 (N*4)) 169)):=by
 obtain⟨i0,hi,hz0,hz1,hz2⟩:=info_parts Zfx
 have:=run_make (P:=Tryz.prog) W t _ i0 _ ht hi hz0 .i64 .i64 N N (by omega) (Int.le_refl _) (by rw[hz2];omega) (by omega)
 rw[this,hz1];rfl
theorem Own.made_joined{w W:World}{N:Nat}(hB:Below w.heap.size w W)(hN:N≤1000000):Own eJ w (.slice (some ⟨W.heap.size,0,none⟩) N N) (List.replicate N ((0,0),[.bool false,.slice none 0 0,.bool false,.slice none 0 0])) (W.alloc (.cells (madeCells zz2 (N*4)) 169)):=
 Own.made (e:=eJ) (N:=N) (x:=((0:Int),(0:Int))) (w:=w) (W:=W) (fun W=>⟨_,_,_,_,rfl,Xt W,Xt W⟩) hB (by unfold maxLen;omega)
def chkD(n:Nat):Nat→Nat→Bool
 | 0,lo=>!(Nat.beq (n % lo) 0)
 | k+1,lo=>chkD n k lo && chkD n k (lo+2 ^ k)
theorem ZaC{n:Nat}:∀ {k lo:Nat},chkD n k lo=true→∀ d,lo≤d→d<lo+2 ^ k→n % d≠0
 | 0,lo,h,d,h1,h2=>by
  obtain rfl:d=lo:=by simp at h2;omega
  intro e
  simp[chkD,e]at h
 | k+1,lo,h,d,h1,h2=>by
  simp only[chkD,Bool.and_eq_true]at h
  by_cases hd:d<lo+2 ^ k
  ·exact ZaC h.1 d h1 hd
  ·exact ZaC h.2 d (by omega) (by rw[Nat.pow_succ]at h2;omega)
def fdiv(n:Nat):Nat→Nat→Nat
 | 0,lo=>bif Nat.beq (n % lo) 0 then lo else 0
 | k+1,lo=>match fdiv n k lo with
  | 0=>fdiv n k (lo+2 ^ k)
  | d=>d
theorem ZgR:((List.range 63).all fun j=>let n:=1000000000-j;let d:=fdiv n 15 2;Nat.ble 2 d && Nat.blt d n && Nat.beq (n % d) 0)=true:=by decide +kernel
theorem Zii(j:Nat)(hj:j<63):isPB (1000000000-(j:Int))=false:=by
 have h:=List.all_eq_true.1 ZgR j (List.mem_range.2 hj)
 simp only[Bool.and_eq_true,Nat.ble_eq,Nat.beq_eq]at h
 obtain⟨⟨h1,h2⟩,h3⟩:=h
 have h2':fdiv (1000000000-j) 15 2<1000000000-j:=Nat.lt_of_succ_le (by simpa[Nat.blt] using h2)
 cases e:isPB (1000000000-(j:Int)) with
 | false=>rfl
 | true =>
  have hp:=(ZbR.1 e).1
  rw[show(1000000000-(j:Int)).toNat=1000000000-j by omega]at hp
  exact absurd (Nat.dvd_of_mod_eq_zero h3) (hp.not_dvd_of_lt h1 h2')
theorem ZgS:chkD 999999937 15 2=true:=by decide +kernel
theorem Zij:isPB 999999937=true:=by
 refine ZbR.2 ⟨Yf (by decide) (fun d h1 h2 h3=>?_),by decide⟩
 have h4:d<2+2 ^ 15:=by
  apply Nat.lt_of_not_le
  intro hd
  have:=Nat.mul_le_mul hd hd
  have h5:d*d≤999999937:=h2
  omega
 exact ZaC ZgS d h1 h4 (Nat.mod_eq_zero_of_dvd h3)
theorem np_off{l:List Int}{v:Value}{W:World}{g:Nat}(h:NP l v W)(hl:0<l.length)(hc:Clean eInt.Bad W g):Off g v:=by
 rintro b o n c rfl rfl
 obtain⟨b1,o1,e1,-,h1⟩:=Zv h (i:=0) (z:=l[0]) (gEe hl)
 injection e1 with e1
 injection e1 with e2 e3
 subst e2 e3
 exact hc _ _ h1 ⟨_,_,rfl⟩
theorem Xu{l:List Int}{v:Value}{W W':World}{g:Nat}(h:NP l v W)(hl:0<l.length)(hc:Clean eInt.Bad W g)(ha:Alt (some g) W W'):NP l v W':=Sl.other h ha (fun _ _ _ hf=>hf) (np_off h hl hc)
theorem ZbF{v:Value}{w:World}(hv:Sl eRow [[1,2],[3,0]] v w):Calls Tryz.prog 82 #[v] w (Zb (fun r W=>∃ l,r=.tuple #[l,.int .i64 0]∧VP [-6,-1,1] l W) w):=by
 have HCm:=lhd (ZdI hv)
 have HV:=lhd hv
 obtain⟨B,O,C,u0,u1,b0,o0,c0,b1,o1,c1,rfl,rfl,rfl,-⟩:=rows2 hv
 clear hv
 obtain⟨i0,hi,hz0,hz1,hz2⟩:=info_parts Xw
 have HI:=lhd hi;have HZ0:=lhd hz0;have HZ1:=lhd hz1;have HZ2:=lhd hz2
 have HBA:=lhd (show ∀ (W:World) o,Below W.heap.size W (W.alloc o) from fun W o=>(brf W.heap.size W).alloc (nlr _) o)
 clear hi hz0 hz1 hz2
 go_enter Tryz.func82,Tryz.ntmps82
 go_wp2_with fail
 refine HCm.out.mono ?_
 rintro e w1 ⟨_,rfl,rfl,hb1⟩
 have HB1:=lhd hb1
 obtain⟨B',O',C',u0,u1,b0',o0',c0',b1',o1',c1',e9,rfl,rfl,q0,q1,x0,x1,y0,y1⟩:=rows2 (HV.out.keep hb1)
 injection e9 with e9 e9a e9b
 injection e9 with e9
 injection e9 with e9c e9d
 subst e9c e9d e9b
 clear HCm hb1
 go_wp2_with fail
 refine wp_loop_rounds 3 ?_
 rw[rounds_succ]
 go_wp2_with fail
 refine wp_loop_rounds 3 ?_
 rw[rounds_succ]
 go_wp2_with fail
 rw[rounds_succ]
 go_wp2_with fail
 rw[rounds_succ]
 go_wp2_with fail
 rw[rounds_succ]
 go_wp2_with fail
 refine wp_loop_rounds 3 ?_
 rw[rounds_succ]
 go_wp2_with fail
 rw[rounds_succ]
 go_wp2_with fail
 rw[rounds_succ]
 go_wp2_with fail
 rw[rounds_succ]
 clear q0 q1 x0 x1 y0 y1
 have hmk:=(show ∀ W:World,(Instr.makeSlice 167 (.int .i64 3) (.int .i64 3)).run Tryz.prog W=.ok (.slice (some ⟨W.heap.size,0,none⟩) 3 3) (W.alloc (.cells (madeCells zz2 (3*4)) 169)) from Zfs _ Tryz.underlying167 3 (by omega))
 go_wp2_with fail
 have HM:=lhd (Own.made_joined (w:=w1) (N:=3) (brf _ _) (by omega))
 obtain⟨Rw,hRw⟩:=nmx (w1.heap.size)
 rw[← hRw]at HM
 rw[← hRw]
 clear hRw hmk
 have HJ0:=lhd (show Own eJ w1 (.slice (some ⟨Rw,0,none⟩) 3 3) [((0,0),[.bool false,.slice none 0 0,.bool false,.slice none 0 0]),((0,0),[.bool false,.slice none 0 0,.bool false,.slice none 0 0]),((0,0),[.bool false,.slice none 0 0,.bool false,.slice none 0 0])] _ from HM.out)
 obtain⟨V0,hV0⟩:∃ V,V=w1.alloc (.cells (madeCells zz2 (3*4)) 169):=⟨_,rfl⟩
 rw[← hV0]at HJ0
 have hV0':V0=w1.alloc (.cells (madeCells zz2 12) 169):=hV0
 rw[← hV0']
 clear hV0 hV0' HM
 refine wp_loop_rounds 4 ?_
 rw[rounds_succ]
 go_wp2_with fail
 refine(cOf 1 V0 (by unfold I64;omega)).mono ?_
 rintro e w3 ⟨_,rfl,⟨u,v,rfl,h3⟩,hb3⟩
 have HJb:=lhd (HJ0.out.keep hb3)
 obtain⟨hc,-⟩:=HJb.out.cell (i:=0) rfl
 have k2:w3.cell? ⟨Rw,2,none⟩=some (.bool false):=hc 2 _ rfl
 have k3:w3.cell? ⟨Rw,3,none⟩=some (.slice none 0 0):=hc 3 _ rfl
 have k0:w3.cell? ⟨Rw,0*4,none⟩=some (.bool false):=hc 0 _ rfl
 have k1:w3.cell? ⟨Rw,0*4+1,none⟩=some (.slice none 0 0):=hc 1 _ rfl
 have f2:=HJb.out.fz 2;have f3:=HJb.out.fz 3
 obtain⟨A0,c0,rfl,rfl,h4⟩:=h3
 have HS:=lhd (HJb.out.setM (y:=(0,1)) (i:=0) (by simp) ⟨_,_,_,_,rfl,Xt w3,(⟨A0,c0,rfl,rfl,h4⟩:IC w3 _ _ 1)⟩ k0 k1)
 clear hc k0 k1 h4 hb3
 generalize sgB 1=s0 at *
 generalize lnW 1=n0 at *
 go_wp2_with fail
 clear k2 k3 f2 f3 HJb
 obtain⟨V1,hV⟩:∃ V,V=(w3.setCell ⟨Rw,2,none⟩ (.bool s0)).setCell ⟨Rw,3,none⟩ (.slice A0 n0 c0):=⟨_,rfl⟩
 have HJ1:=lhd (show Own eJ w1 (.slice (some ⟨Rw,0,none⟩) 3 3) [((0,1),[.bool false,.slice none 0 0,.bool s0,.slice A0 n0 c0]),((0,0),[.bool false,.slice none 0 0,.bool false,.slice none 0 0]),((0,0),[.bool false,.slice none 0 0,.bool false,.slice none 0 0])] V1 from by rw[hV];exact HS.out)
 rw[← hV]
 clear hV HS HJ0
 rw[rounds_succ]
 go_wp2_with fail
 refine(cOf 1 V1 (by unfold I64;omega)).mono ?_
 rintro e w3 ⟨_,rfl,⟨u,v,rfl,h3⟩,hb3⟩
 have HJb:=lhd (HJ1.out.keep hb3)
 obtain⟨hc,-⟩:=HJb.out.cell (i:=1) rfl
 have k2:w3.cell? ⟨Rw,6,none⟩=some (.bool false):=hc 2 _ rfl
 have k3:w3.cell? ⟨Rw,7,none⟩=some (.slice none 0 0):=hc 3 _ rfl
 have k0:w3.cell? ⟨Rw,1*4,none⟩=some (.bool false):=hc 0 _ rfl
 have k1:w3.cell? ⟨Rw,1*4+1,none⟩=some (.slice none 0 0):=hc 1 _ rfl
 have f2:=HJb.out.fz 6;have f3:=HJb.out.fz 7
 obtain⟨A1,c1,rfl,rfl,h4⟩:=h3
 have HS:=lhd (HJb.out.setM (y:=(0,1)) (i:=1) (by simp) ⟨_,_,_,_,rfl,Xt w3,(⟨A1,c1,rfl,rfl,h4⟩:IC w3 _ _ 1)⟩ k0 k1)
 clear hc k0 k1 h4 hb3
 generalize sgB 1=s1 at *
 generalize lnW 1=n1 at *
 go_wp2_with fail
 clear k2 k3 f2 f3 HJb
 obtain⟨V2,hV⟩:∃ V,V=(w3.setCell ⟨Rw,6,none⟩ (.bool s1)).setCell ⟨Rw,7,none⟩ (.slice A1 n1 c1):=⟨_,rfl⟩
 have HJ2:=lhd (show Own eJ w1 (.slice (some ⟨Rw,0,none⟩) 3 3) [((0,1),[.bool false,.slice none 0 0,.bool s0,.slice A0 n0 c0]),((0,1),[.bool false,.slice none 0 0,.bool s1,.slice A1 n1 c1]),((0,0),[.bool false,.slice none 0 0,.bool false,.slice none 0 0])] V2 from by rw[hV];exact HS.out)
 rw[← hV]
 clear hV HS HJ1
 rw[rounds_succ]
 go_wp2_with fail
 refine(cOf 1 V2 (by unfold I64;omega)).mono ?_
 rintro e w3 ⟨_,rfl,⟨u,v,rfl,h3⟩,hb3⟩
 have HJb:=lhd (HJ2.out.keep hb3)
 obtain⟨hc,-⟩:=HJb.out.cell (i:=2) rfl
 have k2:w3.cell? ⟨Rw,10,none⟩=some (.bool false):=hc 2 _ rfl
 have k3:w3.cell? ⟨Rw,11,none⟩=some (.slice none 0 0):=hc 3 _ rfl
 have k0:w3.cell? ⟨Rw,2*4,none⟩=some (.bool false):=hc 0 _ rfl
 have k1:w3.cell? ⟨Rw,2*4+1,none⟩=some (.slice none 0 0):=hc 1 _ rfl
 have f2:=HJb.out.fz 10;have f3:=HJb.out.fz 11
 obtain⟨A2,c2,rfl,rfl,h4⟩:=h3
 have HS:=lhd (HJb.out.setM (y:=(0,1)) (i:=2) (by simp) ⟨_,_,_,_,rfl,Xt w3,(⟨A2,c2,rfl,rfl,h4⟩:IC w3 _ _ 1)⟩ k0 k1)
 clear hc k0 k1 h4 hb3
 generalize sgB 1=s2 at *
 generalize lnW 1=n2 at *
 go_wp2_with fail
 clear k2 k3 f2 f3 HJb
 obtain⟨V3,hV⟩:∃ V,V=(w3.setCell ⟨Rw,10,none⟩ (.bool s2)).setCell ⟨Rw,11,none⟩ (.slice A2 n2 c2):=⟨_,rfl⟩
 have HJ3:=lhd (show Own eJ w1 (.slice (some ⟨Rw,0,none⟩) 3 3) [((0,1),[.bool false,.slice none 0 0,.bool s0,.slice A0 n0 c0]),((0,1),[.bool false,.slice none 0 0,.bool s1,.slice A1 n1 c1]),((0,1),[.bool false,.slice none 0 0,.bool s2,.slice A2 n2 c2])] V3 from by rw[hV];exact HS.out)
 rw[← hV]
 clear hV HS HJ2
 rw[rounds_succ]
 go_wp2_with fail
 refine(length2 V3).mono ?_
 rintro e V4 ⟨_,rfl,rfl,hb4⟩
 go_wp2_with fail
 refine(length3 V4).mono ?_
 rintro e V5 ⟨_,rfl,rfl,hb5⟩
 have HJ5:=lhd ((HJ3.out.keep hb4).keep hb5)
 clear hb4 hb5 HJ3
 go_wp2_with fail
 obtain⟨e0,e1,e2,hJ5⟩:∃ e0 e1 e2:List Value,Own eJ w1 (.slice (some ⟨Rw,0,none⟩) 3 3) [((0,1),e0),((0,1),e1),((0,1),e2)] V5:=⟨_,_,_,HJ5.out⟩
 have HJ5:=lhd hJ5
 clear hJ5
 go_loopw [13,14] (fun s13 s14 wr=>(s13=.int .i64 12∧∃ p:Int,s14=.int .i64 p∧999999937≤p∧p≤1000000000∧Own eJ w1 (.slice (some ⟨Rw,0,none⟩) 3 3) [((0,1),e0),((0,1),e1),((0,1),e2)] wr)∨(s13=.int .i64 (-17)∧∃ d0 d1 d2:List Value,Own eJ w1 (.slice (some ⟨Rw,0,none⟩) 3 3) [((999999931,999999937),d0),((999999936,999999937),d1),((1,999999937),d2)] wr)) (fun s13 s14 _=>(intOf s13+17).toNat*10000000+(intOf s14-999999900).toNat)
 case atStart=>exact .inl ⟨rfl,1000000000,rfl,by decide,by decide,HJ5.out⟩
 case round =>
  rcases hrel with⟨rfl,p,rfl,hp0,hp1,hO⟩ | ⟨rfl,d0,d1,d2,hO⟩
  ·have HP:=lhd (show 999999937≤p∧p≤1000000000 from⟨hp0,hp1⟩)
   have HO:=lhd hO
   clear hp0 hp1 hO
   go_wp2_with fail
   refine(Kl p wr).mono ?_
   rintro e w3 ⟨rfl,nn,rfl⟩
   have hb3:Below wr.heap.size wr (wr.drewN nn):=Zi (brf _ _) nn
   have HO3:=lhd (HO.out.keep hb3)
   generalize wr.drewN nn=W3 at *
   clear hb3
   by_cases hq:p=999999937
   ·subst hq
    rw[Zij]
    go_wp2_with fail
    refine(Zfw (a:=1) (b:=2) (c:=3) (d:=0) (p:=999999937) (HV.out.keep (HB1.out.trans (HO3.out.below.mono HB1.out.size))) (by decide) (by decide) (by decide) (by decide) (by decide)).mono ?_
    rintro e W4 ⟨_,rfl,⟨X,G,cap,r0,r1,rfl,hM,hm⟩,hb4⟩
    have HO4:=lhd (HO3.out.keep hb4)
    have HCh:=lhd (ZbH hM hm)
    clear hM hm hb4
    go_wp2_with fail
    refine HCh.out.mono ?_
    rintro e W5 ⟨_,rfl,hN,hb5⟩
    have HJ0:=lhd (HO4.out.keep hb5)
    obtain⟨A,cA,rfl,l1,l2⟩:=Sl.len hN
    obtain⟨bb,oo,rfl,-,z0⟩:=Zv hN (i:=0) rfl
    have HN0:=lhd hN
    clear hN hb5 z0 l1 l2
    simp only[List.length_cons,List.length_nil]at *
    go_wp2_with fail
    refine wp_loop_rounds 4 ?_
    rw[rounds_succ]
    obtain⟨bb9,oo9,e9,-,zz⟩:=Zv HN0.out (i:=0) rfl
    injection e9 with e9;injection e9 with e9a e9b;subst e9a e9b
    rw[Nat.add_zero]at zz
    go_wp2_with fail
    refine(Zer (i:=0) (r:=999999931) HJ0.out rfl (by decide) (by decide) rfl).mono ?_
    rintro e W6 ⟨rfl,d0,hO,hA⟩
    have HN1:=lhd (Xu HN0.out (by decide) (HJ0.out.2.2.2 Rw rfl) hA)
    have HJ1:=lhd hO
    clear hO hA zz
    go_wp2_with fail
    rw[rounds_succ]
    obtain⟨bb9,oo9,e9,-,zz⟩:=Zv HN1.out (i:=1) rfl
    injection e9 with e9;injection e9 with e9a e9b;subst e9a e9b
    go_wp2_with fail
    refine(Zer (i:=1) (r:=999999936) HJ1.out rfl (by decide) (by decide) rfl).mono ?_
    rintro e W7 ⟨rfl,d1,hO,hA⟩
    have HN2:=lhd (Xu HN1.out (by decide) (HJ1.out.2.2.2 Rw rfl) hA)
    have HJ2:=lhd hO
    clear hO hA zz
    go_wp2_with fail
    rw[rounds_succ]
    obtain⟨bb9,oo9,e9,-,zz⟩:=Zv HN2.out (i:=2) rfl
    injection e9 with e9;injection e9 with e9a e9b;subst e9a e9b
    go_wp2_with fail
    refine(Zer (i:=2) (r:=1) HJ2.out rfl (by decide) (by decide) rfl).mono ?_
    rintro e W8 ⟨rfl,d2,hO,hA⟩
    have HN3:=lhd (Xu HN2.out (by decide) (HJ2.out.2.2.2 Rw rfl) hA)
    have HJ3:=lhd hO
    clear hO hA zz
    go_wp2_with fail
    rw[rounds_succ]
    go_wp2_with fail
    exact⟨.inr ⟨rfl,d0,d1,d2,HJ3.out⟩,by simp only[intOf];omega⟩
   ·rw[show isPB p=false from by
     have hh:=HP.out
     have:=Zii (1000000000-p).toNat (by omega)
     rwa [show(1000000000-((1000000000-p).toNat:Int))=p by omega]at this]
    have hw:wrap64 (p-1)=p-1:=by have:=HP.out;unfold wrap64;omega
    go_wp2_with fail
    refine⟨.inl ⟨rfl,p-1,by rw[hw],by have:=HP.out;omega,by have:=HP.out;omega,HO3.out⟩,?_⟩
    have:=HP.out
    rw[hw];simp only[intOf];omega
  ·have HO:=lhd hO
   have HL0:=lhd (Own.start eInt (brf wr.heap.size wr))
   clear hO
   go_wp2_with fail
   refine wp_loop_rounds 4 ?_
   rw[rounds_succ]
   go_wp2_with fail
   obtain⟨hc,a,b,c,d,ed,hx,hm⟩:=(HO.out.keep HL0.out.below).cell (i:=0) rfl
   dsimp only at hx hm ed
   subst ed
   refine(ZaL (Rw:=Rw) (k:=0) (x:=999999931) (m:=999999937) ((HO.out.keep HL0.out.below).1.lt Rw rfl).2 (hc 0 a rfl) (hc 1 b rfl) (hc 2 c rfl) (hc 3 d rfl) hx hm (by unfold Wn;decide) (by unfold Wn;decide)).mono ?_
   rintro e wl ⟨_,rfl,⟨u0,v0,rfl,h3⟩,hb⟩
   rw[show(if 0<sgn ((999999931:Int)+999999931-999999937) then (999999931:Int)-999999937 else 999999931) = -6 from by decide]at h3
   have HLb:=lhd (HL0.out.keep hb)
   have H3:=lhd (show eInt.E (-6) [u0,v0] wl from⟨_,_,rfl,h3⟩)
   clear hc hx hm h3 hb
   go_wp2_with (at_builtin;refine ZB rfl (.tmp 99) (.tmp 104) 51 rfl i0 Tryz.underlying51 HI.out HZ0.out HZ1.out HZ2.out (HLb.out.keep (HBA.out _ _)) (y:=-6) (cs:=[u0,v0]) (eInt.keep H3.out (HBA.out _ _)) ⟨wl.heap.size,0,none⟩ 1 rfl rfl (fun d u hd=>by rcases d with _ | _ | d;(injection hd with hd;subst hd;simp[go_sem]);(injection hd with hd;subst hd;simp[go_sem]);simp at hd) (by simp) ?_;intro v' w2 hg2;obtain⟨G0,cap0,rfl,hcap,hcm,hGl,hGh⟩:=hg2.form (by simp);have HL1:=lhd hg2;clear hg2 hcap hcm hGl hGh)
   obtain⟨W9,hW9⟩:∃ W:World,W=w2:=⟨_,rfl⟩
   subst hW9
   clear HLb H3
   rw[rounds_succ]
   go_wp2_with fail
   obtain⟨hc,a,b,c,d,ed,hx,hm⟩:=(HO.out.keep HL1.out.below).cell (i:=1) rfl
   dsimp only at hx hm ed
   subst ed
   refine(ZaL (Rw:=Rw) (k:=4) (x:=999999936) (m:=999999937) ((HO.out.keep HL1.out.below).1.lt Rw rfl).2 (hc 0 a rfl) (hc 1 b rfl) (hc 2 c rfl) (hc 3 d rfl) hx hm (by unfold Wn;decide) (by unfold Wn;decide)).mono ?_
   rintro e wl ⟨_,rfl,⟨u1,v1,rfl,h3⟩,hb⟩
   rw[show(if 0<sgn ((999999936:Int)+999999936-999999937) then (999999936:Int)-999999937 else 999999936) = -1 from by decide]at h3
   have HLb:=lhd (HL1.out.keep hb)
   have H3:=lhd (show eInt.E (-1) [u1,v1] wl from⟨_,_,rfl,h3⟩)
   clear hc hx hm h3 hb
   go_wp2_with (at_builtin;refine ZB rfl (.tmp 99) (.tmp 104) 51 rfl i0 Tryz.underlying51 HI.out HZ0.out HZ1.out HZ2.out (HLb.out.keep (HBA.out _ _)) (y:=-1) (cs:=[u1,v1]) (eInt.keep H3.out (HBA.out _ _)) ⟨wl.heap.size,0,none⟩ 1 rfl rfl (fun d u hd=>by rcases d with _ | _ | d;(injection hd with hd;subst hd;simp[go_sem]);(injection hd with hd;subst hd;simp[go_sem]);simp at hd) (by simp) ?_;intro v' w2 hg2;obtain⟨G1,cap1,rfl,hcap,hcm,hGl,hGh⟩:=hg2.form (by simp);have HL2:=lhd hg2;clear hg2 hcap hcm hGl hGh)
   obtain⟨W9,hW9⟩:∃ W:World,W=w2:=⟨_,rfl⟩
   subst hW9
   clear HLb H3
   rw[rounds_succ]
   go_wp2_with fail
   obtain⟨hc,a,b,c,d,ed,hx,hm⟩:=(HO.out.keep HL2.out.below).cell (i:=2) rfl
   dsimp only at hx hm ed
   subst ed
   refine(ZaL (Rw:=Rw) (k:=8) (x:=1) (m:=999999937) ((HO.out.keep HL2.out.below).1.lt Rw rfl).2 (hc 0 a rfl) (hc 1 b rfl) (hc 2 c rfl) (hc 3 d rfl) hx hm (by unfold Wn;decide) (by unfold Wn;decide)).mono ?_
   rintro e wl ⟨_,rfl,⟨u2,v2,rfl,h3⟩,hb⟩
   rw[show(if 0<sgn ((1:Int)+1-999999937) then (1:Int)-999999937 else 1)=1 from by decide]at h3
   have HLb:=lhd (HL2.out.keep hb)
   have H3:=lhd (show eInt.E (1) [u2,v2] wl from⟨_,_,rfl,h3⟩)
   clear hc hx hm h3 hb
   go_wp2_with (at_builtin;refine ZB rfl (.tmp 99) (.tmp 104) 51 rfl i0 Tryz.underlying51 HI.out HZ0.out HZ1.out HZ2.out (HLb.out.keep (HBA.out _ _)) (y:=1) (cs:=[u2,v2]) (eInt.keep H3.out (HBA.out _ _)) ⟨wl.heap.size,0,none⟩ 1 rfl rfl (fun d u hd=>by rcases d with _ | _ | d;(injection hd with hd;subst hd;simp[go_sem]);(injection hd with hd;subst hd;simp[go_sem]);simp at hd) (by simp) ?_;intro v' w2 hg2;obtain⟨G2,cap2,rfl,hcap,hcm,hGl,hGh⟩:=hg2.form (by simp);have HL3:=lhd hg2;clear hg2 hcap hcm hGl hGh)
   obtain⟨W9,hW9⟩:∃ W:World,W=w2:=⟨_,rfl⟩
   subst hW9
   clear HLb H3
   rw[rounds_succ]
   go_wp2_with fail
   go_ret2
   exact⟨_,rfl,⟨_,rfl,Sl.vp HL3.out.sl⟩,HB1.out.trans ((HO.out.below.trans (HL3.out.below.mono HO.out.below.size)).mono HB1.out.size)⟩
def XI:List (List UInt8):=[[48],[49]]
def Zz:List (List Int):=[[0,1,1],[0,0,0]]
theorem g_ok:okG XI Zz=true:=by decide +kernel
theorem g_adj:adjL Zz=[[1,2],[3,0]]:=by decide +kernel
theorem Zel{a b:Value}{w:World}(hg:GV XI Zz a b w):Calls Tryz.prog 48 #[.agg #[a,b]] w (Zb (fun r W=>∃ l,r=.tuple #[l,.int .i64 0]∧VP [-6,-1,1] l W) w):=by
 obtain⟨A',c',rfl,-,-⟩:=hg.2.len
 have hB:=(brf w.heap.size w).alloc (nlr _) (.cells #[a,.slice A' Zz.length c'] 33)
 have hG:=GBox.new (a:=a) (b:=.slice A' Zz.length c') (W:=w)
 obtain⟨W1,hW1⟩:=nmx (w.alloc (.cells #[a,.slice A' Zz.length c'] 33))
 rw[← hW1]at hB hG
 have HB1:=lhd hB;have HG:=lhd hG;have HW1:=lhd hW1
 have HV:=lhd hg
 have HSm:=lhd (fun (W:World) (hb:Below W1.heap.size W1 W)=>Zid ((hg.keep hB).keep hb) g_ok (by decide))
 have HAd:=lhd (fun (W:World) (hb:Below W1.heap.size W1 W)=>ZdG ((hg.keep hB).keep hb) (by decide) (by decide))
 clear hg hB hG hW1
 rw[show Zz.length=2 from rfl]at *
 go_enter Tryz.func48,Tryz.ntmps48
 go_upto_region 1 with fail
 rw[← HW1.out]
 obtain⟨-,g0,g1⟩:=HG.out
 go_wp2_with fail
 refine(HSm.out W1 (brf _ _)).mono ?_
 rintro e W2 ⟨_,rfl,rfl,hb2⟩
 have HB2:=lhd hb2
 clear g0 g1 hb2
 obtain⟨-,g0,g1⟩:=HG.out.keep HB2.out
 go_wp2_with fail
 refine(HAd.out W2 HB2.out).mono ?_
 rintro e W3 ⟨v,rfl,hv,hb3⟩
 rw[g_adj]at hv
 have HB3:=lhd (HB2.out.trans (hb3.mono HB2.out.size))
 have HC:=lhd (ZbF hv)
 clear hb3 hv g0 g1
 go_wp2_with fail
 refine HC.out.mono ?_
 rintro e W4 ⟨_,rfl,⟨l,rfl,hl⟩,hb4⟩
 have HL:=lhd hl
 have HB4:=lhd (HB3.out.trans (hb4.mono HB3.out.size))
 clear hl hb4
 go_wp2_with fail
 go_ret2
 exact⟨_,rfl,⟨_,rfl,HL.out⟩,HB1.out.trans (HB4.out.mono HB1.out.size)⟩
end
end Go.Proofs.YthkklilhjnpedaaGreatDoor
