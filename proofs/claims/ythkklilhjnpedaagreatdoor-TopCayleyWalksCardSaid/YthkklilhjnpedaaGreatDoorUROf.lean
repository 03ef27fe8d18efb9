/- The reference's integers: trim, made, Of. made Of of the reference -/
import Derived.Test.YthkklilhjnpedaaGreatDoorUStp
set_option maxHeartbeats 16000000
set_option maxRecDepth 8000
namespace Go.Proofs.YthkklilhjnpedaaGreatDoor
open Go.RowKit FF
set_option maxRecDepth 100000 in
theorem Zi0(A:Option Addr)(xs:List Nat)(c:Nat)(w:World)(h:Shows .i64 w A xs)(hd:Dig HB xs)(hc:xs.length≤c)(_hc2:c≤maxLen)(hxl:xs.length≤3000000) :
  Calls Tryz.prog 94 #[.slice A xs.length c] w fun e w'=>∃ A' c',e=.returned (.slice A' (hl (val HB xs)) c')∧Shows .i64 w' A' (digs HB (val HB xs))∧hl (val HB xs)≤c'∧c'≤maxLen∧Fresh w.heap.size A'∧Below w.heap.size w w':=by
 obtain⟨i0,hi,hz0,hz1,hz2⟩:=info_parts ZM
 have HI:=lhd hi;have HZ0:=lhd hz0;have HZ1:=lhd hz1;have HZ2:=lhd hz2
 clear hi hz0 hz1 hz2
 have hlen:=lhd (fun (j:Nat) (hj:j≤xs.length)=>(by rw[List.length_take];omega:(xs.take j).length=j))
 have HS:=lhd h
 have HA:=lhd h
 have hrel0:=lhd (show val HB (xs.take xs.length)=val HB xs by rw[tOl (nlr _)])
 have hfin:=lhd (fun (j:Nat) (hj:j≤xs.length) (hv:val HB (xs.take j)=val HB xs) (hl:0<j→xs.getD (j-1) 0≠0) =>
  (Ut HB2 hd hj hv hl:xs.take j=digs HB (val HB xs)))
 have hstep:=lhd (fun (j:Nat) (hj:j<xs.length) (h0:xs.getD j 0=0) (hv:val HB (xs.take (j+1))=val HB xs)=>Yw (B:=HB) hj h0 hv)
 clear h hd
 go_enter Tryz.func94,Tryz.ntmps94
 go_wp2
 unfold Shows at HA
 generalize xs.length=n at *
 go_loop [3] (fun t=>∃ k:Nat,t=.int .i64 k∧k≤n∧val HB (xs.take k)=val HB xs) (fun t=>(intOf t).toNat)
 case atStart=>exact⟨n,rfl,nlr _,hrel0.out⟩
 case round =>
  obtain⟨k,rfl,hk,hv⟩:=hrel
  have HV:=lhd hv;clear hv
  by_cases h0:0<k
  ·obtain⟨j,rfl⟩:∃ j,k=j+1:=⟨k-1,by omega⟩
   obtain⟨b,o,rfl,hb,hcell⟩:=HA.out (by omega)
   have hx:=hcell j (by omega)
   have hS:=lhd (fun h0=>hstep.out j (by omega) h0 HV.out)
   have hF:=lhd (fun h0=>hfin.out (j+1) hk HV.out (fun _=>h0))
   clear hcell hrel0 hfin hstep
   rw[Nat.add_sub_cancel]at hF
   generalize xs.getD j 0=x at *
   have e1:((j+1:Nat):Int)=(j:Int)+1:=by omega
   rw[e1]
   by_cases c0:x=0
   ·have hS2:=lhd (hS.out c0)
    clear hF hS HA
    subst c0
    go_wp2
    exact⟨⟨j,rfl,by omega,hS2.out⟩,by simp[intOf]⟩
   ·have d0:((x:Int) == 0)=false:=Xx (by omega)
    have hF2:=lhd (hF.out c0)
    have hLn:=hlen.out (j+1) hk
    have hTk:Shows .i64 (w.alloc (.cells #[] 3)) (some ⟨b,o,none⟩) (xs.take (j+1)):=(HS.out.take (j+1)).alloc _
    have hown:=World.ownsRow_made (base:=w.heap.size) (size:=1) (e:=3) w #[] 0 (Nat.le_refl _) (by simp[maxLen]) rfl
    rw[hF2.out]at hTk hLn
    have HTk:=lhd hTk;have Hown:=lhd hown;have HLn:=lhd hLn
    clear hF hS c0 hb HA HV hTk hown hLn hlen HS
    go_wp2_with (at_builtin;refine wpList_append_own _ rfl (.tmp 18) (.tmp 21) 40 rfl w.heap.size 3 i0 (.int .i64 0) 1 8 Tryz.underlying40 HI.out HZ0.out HZ1.out HZ2.out rfl (by decide) _ 0 [] rfl Hown.out ⟨b,o,none⟩ (j+1) c (cells .i64 (digs HB (val HB xs))) rfl (by rw[XN,HLn.out,Nat.mul_one]) (Ui HTk.out) (Za7 _ _) (by unfold maxLen;omega) (by omega) (by simp) ?_;intro v' w1 hown1 hgrow1 _)
    rw[Nat.zero_add,List.nil_append,← HLn.out]at hown1
    obtain⟨A',c',rfl,s1,s2,s3,s4⟩:=UA hown1
    have hbl:=((Below.refl w.heap.size w).alloc (Nat.le_refl _) _).grown hgrow1 (by simp) (fun k hk=>K6 Hown.out k hk)
    clear hown1 hgrow1
    go_wp2
    go_ret
    exact⟨A',c',rfl,s1,s2,s3,s4,hbl⟩
  ·obtain rfl:k=0:=by omega
   have hF:=lhd (hfin.out 0 (by omega) HV.out (fun h=>absurd h (by omega)))
   clear hfin hstep HA
   rw[List.take_zero]at hF
   have hz:hl (val HB xs)=0:=by unfold hl;rw[← hF.out];rfl
   have HZ:=lhd hz
   clear hz
   go_wp2_with (at_builtin;refine KD _ rfl (.tmp 18) (.tmp 21) 40 rfl 3 i0 Tryz.underlying40 HI.out (some ⟨w.heap.size,0,none⟩) A 0 0 c rfl rfl (nlr _) ?_)
   go_ret
   exact⟨some ⟨w.heap.size,0,none⟩,0,by rw[HZ.out];rfl,by rw[← hF.out];exact Shows.nil,by rw[HZ.out];exact Nat.le_refl _,by simp[maxLen],Fresh.mk (Nat.le_refl _),(Below.refl w.heap.size w).alloc (Nat.le_refl _) _⟩
open Go.RowKit FF
theorem wl_half(v:Nat):wl v=(hl v+1) / 2:=half_len v
theorem two_get{v i:Nat}:(digs WB v).getD i 0=(digs HB v).getD (2*i) 0+HB*(digs HB v).getD (2*i+1) 0:=half_get v i
theorem Zi1{xs:List Nat}{i:Nat}(h:xs.length≤i):xs.getD i 0=0:=by rw[gDg,List.getElem?_eq_none h];rfl
theorem UM{w w':World}{row:Option Nat}(hg:w.grownBy w' row){a:Addr}(hlt:a.block<w.heap.size)(hne:∀ k,row=some k→a.block<k):w'.cell? a=w.cell? a∧w'.frozen? a=w.frozen? a:=by
 have h:=hg.block a.block hlt (fun e=>by have:=hne a.block e.symm;omega)
 exact⟨World.cell?_of_block h,World.frozen?_of_block h⟩
theorem Kf{w:World}{B T:Nat}{v:Value}{n:Nat}{xs:List Value}(h:w.ownsRow B T 1 v n xs):∃ A c,v=.slice A n c:=by
 rcases h.2 with⟨rfl,rfl⟩ | ⟨g,cap,cur,rfl,_⟩
 ·exact⟨none,0,rfl⟩
 ·exact⟨_,_,rfl⟩
def madeRel(w1:World)(nb:Bool)(m:Nat)(dW:List Nat)(k:Nat)(v:Value)(wr:World):Prop:=
 k≤m∧wr.cell? ⟨w1.heap.size,0,none⟩=some (.bool nb)∧wr.cell? ⟨w1.heap.size,1,none⟩=some v∧wr.frozen? ⟨w1.heap.size,1,none⟩=false ∧
  wr.ownsRow (w1.heap.size+1) 135 1 v k (cells .u32 (dW.take k))∧Below w1.heap.size w1 wr∧w1.heap.size<wr.heap.size
theorem madeRel.start(w1:World)(nb:Bool)(m:Nat)(dW:List Nat){T:TypeId}:madeRel w1 nb m dW 0 (.slice none 0 0) (w1.alloc (.cells #[.bool nb,.slice none 0 0] T)):=by
 refine⟨Nat.zero_le _,?_,?_,?_,World.ownsRow_nil _ _ _ _,(Below.refl _ _).alloc (Nat.le_refl _) _,by simp⟩
 ·rw[World.cell?_alloc_at _ _ _ _ rfl];rfl
 ·rw[World.cell?_alloc_at _ _ _ _ rfl];rfl
 ·exact World.frozen?_alloc_at _ _ _ _ rfl
theorem madeRel.step{w1:World}{nb:Bool}{m:Nat}{dW:List Nat}{k:Nat}{v v':Value}{wr w2:World}{o:Obj}(h:madeRel w1 nb m dW k v wr)(hk:k<m){x:Nat}
  (hx:dW.take (k+1)=dW.take k++[x]) (hown:w2.ownsRow (w1.heap.size+1) 135 1 v' (k+1) (cells .u32 (dW.take k)++[.int .u32 x])) (hg:(wr.alloc o).grownBy w2 v.ownBlock) :
  madeRel w1 nb m dW (k+1) v' (w2.setCell ⟨w1.heap.size,1,none⟩ v')∧w2.cell? ⟨w1.heap.size,0,none⟩=some (.bool nb)∧w2.cell? ⟨w1.heap.size,1,none⟩=some v∧w2.frozen? ⟨w1.heap.size,1,none⟩=false:=by
 obtain⟨h1,h2,h3,h4,h5,h6,h7⟩:=h
 have hrow:=K6 h5
 obtain⟨a1,b1⟩:=UM hg (a:=⟨w1.heap.size,0,none⟩) (by simp;omega) (fun k hk=>by have:=hrow k hk;simp;omega)
 obtain⟨a2,b2⟩:=UM hg (a:=⟨w1.heap.size,1,none⟩) (by simp;omega) (fun k hk=>by have:=hrow k hk;simp;omega)
 rw[World.cell?_alloc_lt _ _ _ (by simpa using h7)]at a1 a2
 rw[World.frozen?_alloc_past _ _ _ h7]at b2
 rw[h2]at a1;rw[h3]at a2;rw[h4]at b2
 refine⟨⟨by omega,?_,?_,?_,?_,?_,?_⟩,a1,a2,b2⟩
 ·rw[World.cell?_setCell_other _ _ _ _ (by simp)];exact a1
 ·simp[go_sem,a2]
 ·simp[go_sem,b2]
 ·rw[hx,← K5];exact ownsRow_setCell_below hown (by simp) _
 ·exact(((h6.alloc (by omega) o).grown hg (by simp;omega) (fun k hk=>by have:=hrow k hk;omega))).setCell (Nat.le_refl _) _
 ·have:=hg.size;simp at this ⊢;omega
set_option maxRecDepth 100000 in
theorem Zdp(ng:Bool)(A:Option Addr)(xs:List Nat)(c:Nat)(w:World)(h:Shows .i64 w A xs)(hd:Dig HB xs)(hc:xs.length≤c)(hc2:c≤maxLen)(hxl:xs.length≤3000000) :
  Calls Tryz.prog 57 #[.bool ng,.slice A xs.length c] w fun e w'=>∃ A' c',e=.returned (.agg #[.bool (ng && decide (val HB xs≠0)),.slice A' (wl (val HB xs)) c'])∧Shows .u32 w' A' (digs WB (val HB xs))∧wl (val HB xs)≤c'∧c'≤maxLen∧Fresh w.heap.size A'∧Below w.heap.size w w':=by
 obtain⟨i0,hi,hz0,hz1,hz2⟩:=info_parts Uh
 have HI:=lhd hi;have HZ0:=lhd hz0;have HZ1:=lhd hz1;have HZ2:=lhd hz2
 clear hi hz0 hz1 hz2
 have hL:hl (val HB xs)≤3000000:=Nat.le_trans (Zm HB2 (ZT hd)) hxl
 have HT:=lhd (fun w (h:Shows .i64 w A xs)=>Zi0 A xs c w h hd hc hc2 hxl)
 have hdg:=lhd (fun i=>(Zh HB2 (val HB xs)).getD (show 0<HB by decide) i)
 have HS:=lhd h
 have hpos:decide (val HB xs≠0)=decide (0<hl (val HB xs)):=by
  rw[decide_eq_decide]
  have:=Zd3 HB2 (n:=val HB xs)
  unfold hl
  omega
 rw[hpos]
 clear hpos h hd
 have hW:=lhd (wl_half (val HB xs))
 have hlenW:=lhd (show(digs WB (val HB xs)).length=wl (val HB xs) from rfl)
 have hlenH:=lhd (show(digs HB (val HB xs)).length=hl (val HB xs) from rfl)
 have hstep:=lhd (fun k (h:k<wl (val HB xs))=>ZhT (xs:=digs WB (val HB xs)) 0 h)
 have htwo:=lhd (fun i=>two_get (v:=val HB xs) (i:=i))
 have hfin:=lhd (show(digs WB (val HB xs)).take (wl (val HB xs))=digs WB (val HB xs) from tOl (nlr _))
 have htl:=lhd (fun k (h:k≤wl (val HB xs))=>(by rw[List.length_take];exact Nat.min_eq_left h:((digs WB (val HB xs)).take k).length=k))
 have hpast:=lhd (fun i (h:hl (val HB xs)≤i)=>Zi1 (xs:=digs HB (val HB xs)) (i:=i) h)
 generalize hdsW:digs WB (val HB xs)=dW at *
 generalize hdsH:digs HB (val HB xs)=dH at *
 generalize wl (val HB xs)=m at *
 generalize hl (val HB xs)=L at *
 clear hdsW hdsH
 cases ng
 ·go_enter Tryz.func57,Tryz.ntmps57
  go_wp2_with fail
  refine(HT.out _ (HS.out.alloc _)).mono ?_
  rintro e w1 ⟨A1,c1,rfl,s1,s2,s3,s4,hb1⟩
  rw[World.size_alloc]at hb1
  obtain⟨k1,k2,k3⟩:=XR hb1
  have HB1:=lhd (Xp hb1)
  have S1:=lhd s1
  unfold maxLen at s3
  clear s1 s4 hb1 HT HS
  go_wp2_with fail
  obtain⟨nb,hnb⟩:=nmx (false)
  go_loopw [6,7] (fun s6 _ wr=>∃ k v,s6=.int .i64 (2*k:Nat)∧madeRel w1 nb m dW k v wr) (fun s _ _=>m+1-((intOf s).toNat / 2))
  case atStart=>exact⟨0,_,rfl,by rw[hnb];exact madeRel.start _ _ _ _⟩
  case round =>
   obtain⟨k,v,rfl,hR⟩:=hrel
   have HR:=lhd hR
   obtain⟨r1,r2,r3,r4,r5,r6,r7⟩:=hR
   have HO:=lhd r5
   have hres1:wr.cell? ⟨w.heap.size,0,none⟩=some (.bool false):=(r6.cell (by simpa using k3)).trans (k1 0)
   have hres2:wr.cell? ⟨w.heap.size,1,none⟩=some (.slice none 0 0):=(r6.cell (by simpa using k3)).trans (k1 1)
   have hres3:wr.frozen? ⟨w.heap.size,0,none⟩=false:=(r6.frozen (by simpa using k3)).trans (k2 0)
   have hres4:wr.frozen? ⟨w.heap.size,1,none⟩=false:=(r6.frozen (by simpa using k3)).trans (k2 1)
   have HBr:=lhd r6
   by_cases hk:k<m
   ·have hkL:2*k<L:=by have:=hW.out;omega
    obtain⟨b,o,rfl,hb,hcell⟩:=S1.out.below HBr.out (by have:=hlenH.out;omega)
    have hx:=hcell (2*k) (by have:=hlenH.out;omega)
    have hxl:=hdg.out (2*k)
    have hTW:=hstep.out k hk
    rw[htwo.out]at hTW
    have hlk:=htl.out k r1
    by_cases hk2:2*k+1<L
    ·have hy:=hcell (2*k+1) (by have:=hlenH.out;omega)
     have hyl:=hdg.out (2*k+1)
     generalize dH.getD (2*k) 0=x at *
     generalize dH.getD (2*k+1) 0=y at *
     have HTW:=lhd (show dW.take (k+1)=dW.take k++[x+y*65536] by rw[hTW,Nat.mul_comm HB];rfl)
     clear hTW hlk hstep htl hpast htwo hfin hdg hcell r6 r5
     unfold HB at hxl hyl
     go_wp2_with (at_builtin;refine wpList_append_own _ rfl (.tmp 43) (.tmp 45) 55 rfl (w1.heap.size+1) 135 i0 (.int .u32 0) 1 4 Tryz.underlying55 HI.out HZ0.out HZ1.out HZ2.out rfl (by decide) v k (cells .u32 (dW.take k)) rfl (HO.out.alloc _) ⟨wr.heap.size,0,none⟩ 1 1 [.int .u32 ((x+y*65536:Nat):Int)] rfl rfl (fun j u hj=>by match j,hj with | 0,hj=>simp at hj;subst hj;simp[Addr.add,go_sem]) (fun u hu=>by simp at hu;subst hu;rfl) (by unfold maxLen;omega) (by omega) (by simp;omega) ?_;intro v' w2 hown2 hgrow2 _;obtain⟨R1,R2,R3,R4⟩:=madeRel.step HR.out hk HTW.out hown2 hgrow2;have HR1:=lhd R1;obtain⟨A2,c2,rfl⟩:=Kf hown2;clear hown2 hgrow2 R1)
     exact⟨⟨k+1,_,by go_num,HR1.out⟩,by simp[intOf];omega⟩
    ·have HTW:=lhd (show dW.take (k+1)=dW.take k++[dH.getD (2*k) 0] by rw[hTW,hpast.out (2*k+1) (by omega)];rfl)
     generalize dH.getD (2*k) 0=x at *
     clear hTW hlk hstep htl hpast htwo hfin hdg hcell r6 r5
     unfold HB at hxl
     go_wp2_with (at_builtin;refine wpList_append_own _ rfl (.tmp 43) (.tmp 45) 55 rfl (w1.heap.size+1) 135 i0 (.int .u32 0) 1 4 Tryz.underlying55 HI.out HZ0.out HZ1.out HZ2.out rfl (by decide) v k (cells .u32 (dW.take k)) rfl (HO.out.alloc _) ⟨wr.heap.size,0,none⟩ 1 1 [.int .u32 ((x:Nat):Int)] rfl rfl (fun j u hj=>by match j,hj with | 0,hj=>simp at hj;subst hj;simp[Addr.add,go_sem]) (fun u hu=>by simp at hu;subst hu;rfl) (by unfold maxLen;omega) (by omega) (by simp;omega) ?_;intro v' w2 hown2 hgrow2 _;obtain⟨R1,R2,R3,R4⟩:=madeRel.step HR.out hk HTW.out hown2 hgrow2;have HR1:=lhd R1;obtain⟨A2,c2,rfl⟩:=Kf hown2;clear hown2 hgrow2 R1)
     exact⟨⟨k+1,_,by go_num,HR1.out⟩,by simp[intOf];omega⟩
   ·obtain rfl:k=m:=by omega
    have hge:¬ 2*k<L:=by have:=hW.out;omega
    have HFin:=lhd hfin.out
    rw[hfin.out]at r5
    have h5:wr.ownsRow (w1.heap.size+1) 135 1 v dW.length (cells .u32 dW):=by rw[hlenW.out];exact r5
    obtain⟨A2,c2,rfl,q1,q2,q3,q4⟩:=UA h5
    rw[hlenW.out]at q2
    have HQ:=lhd q1
    have HF:=lhd q4
    rw[hlenW.out]at r3
    have HLW:=lhd hlenW.out
    clear hstep htl hpast htwo hfin hdg r6 r5 h5 hlenW q1 q4
    go_wp2_with fail
    refine bodyPost_ret (v:=.agg #[.bool nb,.slice A2 k c2]) (by simp[results,Tryz.results57,go_sem,hres1,hres2,hnb]) rfl ?_
    refine⟨A2,c2,by rw[hnb];rfl,?_,q2,q3,HF.out.mono (by omega),?_⟩
    ·exact(HQ.out.setCell HF.out (by simp;omega) _).setCell HF.out (by simp;omega) _
    ·exact((HB1.out.trans (HBr.out.mono (by omega))).setCell (nlr _) _).setCell (nlr _) _
 ·go_enter Tryz.func57,Tryz.ntmps57
  go_wp2_with fail
  refine(HT.out _ (HS.out.alloc _)).mono ?_
  rintro e w1 ⟨A1,c1,rfl,s1,s2,s3,s4,hb1⟩
  rw[World.size_alloc]at hb1
  obtain⟨k1,k2,k3⟩:=XR hb1
  have HB1:=lhd (Xp hb1)
  have S1:=lhd s1
  unfold maxLen at s3
  clear s1 s4 hb1 HT HS
  go_wp2_with fail
  obtain⟨nb,hnb⟩:=nmx (decide (0<L))
  go_loopw [6,7] (fun s6 _ wr=>∃ k v,s6=.int .i64 (2*k:Nat)∧madeRel w1 nb m dW k v wr) (fun s _ _=>m+1-((intOf s).toNat / 2))
  case atStart=>exact⟨0,_,rfl,by rw[hnb];exact madeRel.start _ _ _ _⟩
  case round =>
   obtain⟨k,v,rfl,hR⟩:=hrel
   have HR:=lhd hR
   obtain⟨r1,r2,r3,r4,r5,r6,r7⟩:=hR
   have HO:=lhd r5
   have hres1:wr.cell? ⟨w.heap.size,0,none⟩=some (.bool false):=(r6.cell (by simpa using k3)).trans (k1 0)
   have hres2:wr.cell? ⟨w.heap.size,1,none⟩=some (.slice none 0 0):=(r6.cell (by simpa using k3)).trans (k1 1)
   have hres3:wr.frozen? ⟨w.heap.size,0,none⟩=false:=(r6.frozen (by simpa using k3)).trans (k2 0)
   have hres4:wr.frozen? ⟨w.heap.size,1,none⟩=false:=(r6.frozen (by simpa using k3)).trans (k2 1)
   have HBr:=lhd r6
   by_cases hk:k<m
   ·have hkL:2*k<L:=by have:=hW.out;omega
    obtain⟨b,o,rfl,hb,hcell⟩:=S1.out.below HBr.out (by have:=hlenH.out;omega)
    have hx:=hcell (2*k) (by have:=hlenH.out;omega)
    have hxl:=hdg.out (2*k)
    have hTW:=hstep.out k hk
    rw[htwo.out]at hTW
    have hlk:=htl.out k r1
    by_cases hk2:2*k+1<L
    ·have hy:=hcell (2*k+1) (by have:=hlenH.out;omega)
     have hyl:=hdg.out (2*k+1)
     generalize dH.getD (2*k) 0=x at *
     generalize dH.getD (2*k+1) 0=y at *
     have HTW:=lhd (show dW.take (k+1)=dW.take k++[x+y*65536] by rw[hTW,Nat.mul_comm HB];rfl)
     clear hTW hlk hstep htl hpast htwo hfin hdg hcell r6 r5
     unfold HB at hxl hyl
     go_wp2_with (at_builtin;refine wpList_append_own _ rfl (.tmp 43) (.tmp 45) 55 rfl (w1.heap.size+1) 135 i0 (.int .u32 0) 1 4 Tryz.underlying55 HI.out HZ0.out HZ1.out HZ2.out rfl (by decide) v k (cells .u32 (dW.take k)) rfl (HO.out.alloc _) ⟨wr.heap.size,0,none⟩ 1 1 [.int .u32 ((x+y*65536:Nat):Int)] rfl rfl (fun j u hj=>by match j,hj with | 0,hj=>simp at hj;subst hj;simp[Addr.add,go_sem]) (fun u hu=>by simp at hu;subst hu;rfl) (by unfold maxLen;omega) (by omega) (by simp;omega) ?_;intro v' w2 hown2 hgrow2 _;obtain⟨R1,R2,R3,R4⟩:=madeRel.step HR.out hk HTW.out hown2 hgrow2;have HR1:=lhd R1;obtain⟨A2,c2,rfl⟩:=Kf hown2;clear hown2 hgrow2 R1)
     exact⟨⟨k+1,_,by go_num,HR1.out⟩,by simp[intOf];omega⟩
    ·have HTW:=lhd (show dW.take (k+1)=dW.take k++[dH.getD (2*k) 0] by rw[hTW,hpast.out (2*k+1) (by omega)];rfl)
     generalize dH.getD (2*k) 0=x at *
     clear hTW hlk hstep htl hpast htwo hfin hdg hcell r6 r5
     unfold HB at hxl
     go_wp2_with (at_builtin;refine wpList_append_own _ rfl (.tmp 43) (.tmp 45) 55 rfl (w1.heap.size+1) 135 i0 (.int .u32 0) 1 4 Tryz.underlying55 HI.out HZ0.out HZ1.out HZ2.out rfl (by decide) v k (cells .u32 (dW.take k)) rfl (HO.out.alloc _) ⟨wr.heap.size,0,none⟩ 1 1 [.int .u32 ((x:Nat):Int)] rfl rfl (fun j u hj=>by match j,hj with | 0,hj=>simp at hj;subst hj;simp[Addr.add,go_sem]) (fun u hu=>by simp at hu;subst hu;rfl) (by unfold maxLen;omega) (by omega) (by simp;omega) ?_;intro v' w2 hown2 hgrow2 _;obtain⟨R1,R2,R3,R4⟩:=madeRel.step HR.out hk HTW.out hown2 hgrow2;have HR1:=lhd R1;obtain⟨A2,c2,rfl⟩:=Kf hown2;clear hown2 hgrow2 R1)
     exact⟨⟨k+1,_,by go_num,HR1.out⟩,by simp[intOf];omega⟩
   ·obtain rfl:k=m:=by omega
    have hge:¬ 2*k<L:=by have:=hW.out;omega
    have HFin:=lhd hfin.out
    rw[hfin.out]at r5
    have h5:wr.ownsRow (w1.heap.size+1) 135 1 v dW.length (cells .u32 dW):=by rw[hlenW.out];exact r5
    obtain⟨A2,c2,rfl,q1,q2,q3,q4⟩:=UA h5
    rw[hlenW.out]at q2
    have HQ:=lhd q1
    have HF:=lhd q4
    rw[hlenW.out]at r3
    have HLW:=lhd hlenW.out
    clear hstep htl hpast htwo hfin hdg r6 r5 h5 hlenW q1 q4
    go_wp2_with fail
    refine bodyPost_ret (v:=.agg #[.bool nb,.slice A2 k c2]) (by simp[results,Tryz.results57,go_sem,hres1,hres2,hnb]) rfl ?_
    refine⟨A2,c2,by rw[hnb];rfl,?_,q2,q3,HF.out.mono (by omega),?_⟩
    ·exact(HQ.out.setCell HF.out (by simp;omega) _).setCell HF.out (by simp;omega) _
    ·exact((HB1.out.trans (HBr.out.mono (by omega))).setCell (nlr _) _).setCell (nlr _) _
open Go.RowKit FF
theorem Zdq{k q n:Nat}(h:HB ^ k*q≤n)(hq:0<q)(hn:n≤9223372036854775808):k≤3:=by
 apply bCo;intro hc
 have h1:HB ^ 4≤HB ^ k:=Nat.pow_le_pow_right (by decide) (by omega)
 have h2:HB ^ k*1≤HB ^ k*q:=Nat.mul_le_mul_left _ hq
 have h3:HB ^ 4=18446744073709551616:=by decide
 omega
def ofRel(w:World)(N:Nat)(m:Nat)(ds:List Nat)(v:Value)(wr:World):Prop:=
 ds.length≤4∧N=val HB ds+HB ^ ds.length*m∧Dig HB ds∧wr.cell? ⟨w.heap.size,0,none⟩=some (.bool false)∧wr.cell? ⟨w.heap.size,1,none⟩=some (.slice none 0 0)∧wr.frozen? ⟨w.heap.size,0,none⟩=false∧wr.frozen? ⟨w.heap.size,1,none⟩=false ∧
  wr.ownsRow (w.heap.size+1) 3 1 v ds.length (cells .i64 ds)∧Below w.heap.size w wr∧w.heap.size<wr.heap.size
theorem ofRel.start(w:World)(N:Nat){T:TypeId}:ofRel w N N [] (.slice none 0 0) (w.alloc (.cells #[.bool false,.slice none 0 0] T)):=by
 refine⟨by simp,by simp[val],fun x hx=>absurd hx (by simp),?_,?_,?_,?_,World.ownsRow_nil _ _ _ _,(Below.refl _ _).alloc (Nat.le_refl _) _,by simp⟩
 ·rw[World.cell?_alloc_at _ _ _ _ rfl];rfl
 ·rw[World.cell?_alloc_at _ _ _ _ rfl];rfl
 ·exact World.frozen?_alloc_at _ _ _ _ rfl
 ·exact World.frozen?_alloc_at _ _ _ _ rfl
theorem ofRel.step{w:World}{N m:Nat}{ds:List Nat}{v v':Value}{wr w2:World}{o:Obj}(h:ofRel w N m ds v wr)(hl3:ds.length≤3)
  (hown:w2.ownsRow (w.heap.size+1) 3 1 v' (ds.length+1) (cells .i64 ds++[.int .i64 (m % 65536:Nat)])) (hg:(wr.alloc o).grownBy w2 v.ownBlock) :
  ofRel w N (m / 65536) (ds++[m % 65536]) v' w2:=by
 obtain⟨_,h1,h1b,h2,h3,h4,h4b,h5,h6,h7⟩:=h
 have hrow:=K6 h5
 obtain⟨a1,b1⟩:=UM hg (a:=⟨w.heap.size,0,none⟩) (by simp;omega) (fun k hk=>by have:=hrow k hk;simp;omega)
 obtain⟨a2,b2⟩:=UM hg (a:=⟨w.heap.size,1,none⟩) (by simp;omega) (fun k hk=>by have:=hrow k hk;simp;omega)
 rw[World.cell?_alloc_lt _ _ _ (by simpa using h7)]at a1 a2
 rw[World.frozen?_alloc_past _ _ _ h7]at b1 b2
 refine⟨by simp;omega,?_,XS h1b (Nat.mod_lt _ (by decide)),a1.trans h2,a2.trans h3,b1.trans h4,b2.trans h4b,?_,((h6.alloc (by omega) o).grown hg (by simp;omega) (fun k hk=>by have:=hrow k hk;omega)),?_⟩
 ·rw[h1,ZQ,List.length_append,List.length_singleton,Nat.pow_succ,Nat.add_assoc]
  have:m=m % 65536+65536*(m / 65536):=(Nat.mod_add_div m 65536).symm
  simp only[val,Nat.mul_zero,Nat.add_zero]
  conv=>lhs;rw[this,Nat.mul_add]
  rw[Nat.mul_assoc];rfl
 ·rw[List.length_append,List.length_singleton,← K5];exact hown
 ·have:=hg.size;simp at this ⊢;omega
set_option maxRecDepth 100000 in
theorem rOf_any(n:Int)(w:World)(hn:I64 n) :
  Calls Tryz.prog 17 #[.int .i64 n] w fun e w'=>∃ A' c',e=.returned (.agg #[.bool (decide (n<0)),.slice A' (wl n.natAbs) c'])∧Shows .u32 w' A' (digs WB n.natAbs)∧wl n.natAbs≤c'∧c'≤maxLen∧Fresh w.heap.size A'∧Below w.heap.size w w':=by
 obtain⟨i0,hi,hz0,hz1,hz2⟩:=info_parts ZM
 have HI:=lhd hi;have HZ0:=lhd hz0;have HZ1:=lhd hz1;have HZ2:=lhd hz2
 clear hi hz0 hz1 hz2
 obtain⟨n1,n2⟩:=hn
 by_cases hneg:n<0
 ·obtain⟨N,rfl⟩:∃ N:Nat,n = -(N:Int):=⟨n.natAbs,by omega⟩
  have hnb:Hid ((decide (0<N) && decide (N≠0))=true):=lhd (by simp;omega)
  rw[show(-(N:Int)).natAbs=N by omega]
  have hd:=deT hneg
  rw[hd]
  clear hd
  go_enter Tryz.func17,Tryz.ntmps17
  go_wp2_with fail
  go_loopw [0,3,5] (fun s0 s3 _ wr=>∃ (m:Nat) (ds:List Nat),s0=.int .i64 (-(m:Int))∧ofRel w N m ds s3 wr) (fun s _ _ _=>(intOf s).natAbs)
  case atStart=>exact⟨N,[],rfl,ofRel.start _ _⟩
  case round =>
   obtain⟨m,ds,rfl,hR⟩:=hrel
   have HR:=lhd hR
   obtain⟨r0,r1,r1b,r2,r3,r4,r4b,r5,r6,r7⟩:=hR
   have HO:=lhd r5
   by_cases hm:m=0
   ·subst hm
    obtain⟨A2,c2,rfl,q1,q2,q3,q4⟩:=UA r5
    rw[Nat.mul_zero,Nat.add_zero]at r1
    have hmd:=Zdp (decide (0<N)) A2 ds c2 wr q1 r1b q2 q3 (by omega)
    rw[← r1,hnb.out]at hmd
    have HM:=lhd hmd;have HB:=lhd r6
    clear r5 r1 r1b q1 q4 hmd HO r6 HR
    go_wp2_with fail
    refine HM.out.mono ?_
    rintro e w3 ⟨A3,c3,rfl,t1,t2,t3,t4,t5⟩
    have k1:w3.cell? ⟨w.heap.size,0,none⟩=some (.bool false):=(t5.cell (by simpa using r7)).trans r2
    have k2:w3.cell? ⟨w.heap.size,1,none⟩=some (.slice none 0 0):=(t5.cell (by simpa using r7)).trans r3
    have k3:w3.frozen? ⟨w.heap.size,0,none⟩=false:=(t5.frozen (by simpa using r7)).trans r4
    have k4:w3.frozen? ⟨w.heap.size,1,none⟩=false:=(t5.frozen (by simpa using r7)).trans r4b
    have HT1:=lhd t1;have HT4:=lhd (t4.mono (show w.heap.size+1≤wr.heap.size by omega));have HT5:=lhd (HB.out.trans (t5.mono (by omega)))
    clear t1 t4 t5
    go_wp2_with fail
    refine bodyPost_ret (v:=.agg #[.bool true,.slice A3 (wl N) c3]) (by simp[results,Tryz.results17,go_sem,k1,k2]) rfl ?_
    refine⟨A3,c3,rfl,?_,t2,t3,HT4.out.mono (by omega),?_⟩
    ·exact(HT1.out.setCell HT4.out (by simp) _).setCell HT4.out (by simp) _
    ·exact(HT5.out.setCell (nlr _) _).setCell (nlr _) _
   ·have d0:(-(m:Int) != 0)=true:=by rw[bne_iff_ne];omega
    have hk:=Zdq (k:=ds.length) (q:=m) (n:=N) (by omega) (by omega) (by omega)
    have hmN:m≤N:=by
     have:1*m≤HB ^ ds.length*m:=Nat.mul_le_mul_right _ (Nat.pow_pos (by decide))
     omega
    have ht:(-(m:Int)).tmod 65536 = -((m % 65536:Nat):Int):=by rw[Int.neg_tmod];rfl
    have hq:(-(m:Int)).tdiv 65536 = -((m / 65536:Nat):Int):=by rw[Int.neg_tdiv];rfl
    by_cases hr0:m % 65536=0
    ·have HR1:=lhd (fun v' w2 h1 h2=>ofRel.step (v':=v') (w2:=w2) (o:=.cells #[.int .i64 ((m % 65536:Nat):Int)] 3) HR.out hk h1 h2)
     have hml:m % 65536<65536:=Nat.mod_lt _ (by decide)
     have hmd:m / 65536<m:=Nat.div_lt_self (by omega) (by decide)
     clear r1 r1b r5 r6 HR
     generalize hm1:m % 65536=r at *
     generalize hm2:m / 65536=q at *
     clear hm1 hm2
     subst hr0
     rw[show((0:Nat):Int)=0 from rfl]at HR1
     go_wp2_with (at_builtin;refine wpList_append_own _ rfl (.tmp 16) (.tmp 18) 40 rfl (w.heap.size+1) 3 i0 (.int .i64 0) 1 8 Tryz.underlying40 HI.out HZ0.out HZ1.out HZ2.out rfl (by decide) _ ds.length (cells .i64 ds) rfl (HO.out.alloc _) ⟨wr.heap.size,0,none⟩ 1 1 [.int .i64 0] rfl rfl (fun j u hj=>by match j,hj with | 0,hj=>simp at hj;subst hj;simp[Addr.add,go_sem]) (fun u hu=>by simp at hu;subst hu;rfl) (by unfold maxLen;omega) (by omega) (by simp;omega) ?_;intro v' w2 hown2 hgrow2 _;have HR2:=lhd (HR1.out v' w2 hown2 hgrow2);clear hown2 hgrow2)
     exact⟨⟨q,_,rfl,HR2.out⟩,by simp[intOf];omega⟩
    ·have HR1:=lhd (fun v' w2 h1 h2=>ofRel.step (v':=v') (w2:=w2) (o:=.cells #[.int .i64 ((m % 65536:Nat):Int)] 3) HR.out hk h1 h2)
     have hml:m % 65536<65536:=Nat.mod_lt _ (by decide)
     have hmd:m / 65536<m:=Nat.div_lt_self (by omega) (by decide)
     clear r1 r1b r5 r6 HR
     generalize hm1:m % 65536=r at *
     generalize hm2:m / 65536=q at *
     clear hm1 hm2
     go_wp2_with (at_builtin;refine wpList_append_own _ rfl (.tmp 16) (.tmp 18) 40 rfl (w.heap.size+1) 3 i0 (.int .i64 0) 1 8 Tryz.underlying40 HI.out HZ0.out HZ1.out HZ2.out rfl (by decide) _ ds.length (cells .i64 ds) rfl (HO.out.alloc _) ⟨wr.heap.size,0,none⟩ 1 1 [.int .i64 (r:Int)] rfl rfl (fun j u hj=>by match j,hj with | 0,hj=>simp at hj;subst hj;simp[Addr.add,go_sem]) (fun u hu=>by simp at hu;subst hu;rfl) (by unfold maxLen;omega) (by omega) (by simp;omega) ?_;intro v' w2 hown2 hgrow2 _;have HR2:=lhd (HR1.out v' w2 hown2 hgrow2);clear hown2 hgrow2)
     exact⟨⟨q,_,rfl,HR2.out⟩,by simp[intOf];omega⟩
 ·obtain⟨N,rfl⟩:∃ N:Nat,n=(N:Int):=⟨n.natAbs,by omega⟩
  have hnb:Hid ((false && decide (N≠0))=false):=lhd (by simp)
  rw[show(N:Int).natAbs=N by omega]
  have hd:=deF hneg
  rw[hd]
  clear hd
  go_enter Tryz.func17,Tryz.ntmps17
  go_wp2_with fail
  go_loopw [0,3,5] (fun s0 s3 _ wr=>∃ (m:Nat) (ds:List Nat),s0=.int .i64 ((m:Int))∧ofRel w N m ds s3 wr) (fun s _ _ _=>(intOf s).natAbs)
  case atStart=>exact⟨N,[],rfl,ofRel.start _ _⟩
  case round =>
   obtain⟨m,ds,rfl,hR⟩:=hrel
   have HR:=lhd hR
   obtain⟨r0,r1,r1b,r2,r3,r4,r4b,r5,r6,r7⟩:=hR
   have HO:=lhd r5
   by_cases hm:m=0
   ·subst hm
    obtain⟨A2,c2,rfl,q1,q2,q3,q4⟩:=UA r5
    rw[Nat.mul_zero,Nat.add_zero]at r1
    have hmd:=Zdp false A2 ds c2 wr q1 r1b q2 q3 (by omega)
    rw[← r1,hnb.out]at hmd
    have HM:=lhd hmd;have HB:=lhd r6
    clear r5 r1 r1b q1 q4 hmd HO r6 HR
    go_wp2_with fail
    refine HM.out.mono ?_
    rintro e w3 ⟨A3,c3,rfl,t1,t2,t3,t4,t5⟩
    have k1:w3.cell? ⟨w.heap.size,0,none⟩=some (.bool false):=(t5.cell (by simpa using r7)).trans r2
    have k2:w3.cell? ⟨w.heap.size,1,none⟩=some (.slice none 0 0):=(t5.cell (by simpa using r7)).trans r3
    have k3:w3.frozen? ⟨w.heap.size,0,none⟩=false:=(t5.frozen (by simpa using r7)).trans r4
    have k4:w3.frozen? ⟨w.heap.size,1,none⟩=false:=(t5.frozen (by simpa using r7)).trans r4b
    have HT1:=lhd t1;have HT4:=lhd (t4.mono (show w.heap.size+1≤wr.heap.size by omega));have HT5:=lhd (HB.out.trans (t5.mono (by omega)))
    clear t1 t4 t5
    go_wp2_with fail
    refine bodyPost_ret (v:=.agg #[.bool false,.slice A3 (wl N) c3]) (by simp[results,Tryz.results17,go_sem,k1,k2]) rfl ?_
    refine⟨A3,c3,rfl,?_,t2,t3,HT4.out.mono (by omega),?_⟩
    ·exact(HT1.out.setCell HT4.out (by simp) _).setCell HT4.out (by simp) _
    ·exact(HT5.out.setCell (nlr _) _).setCell (nlr _) _
   ·have d0:((m:Int) != 0)=true:=by rw[bne_iff_ne];omega
    have hk:=Zdq (k:=ds.length) (q:=m) (n:=N) (by omega) (by omega) (by omega)
    have hmN:m≤N:=by
     have:1*m≤HB ^ ds.length*m:=Nat.mul_le_mul_right _ (Nat.pow_pos (by decide))
     omega
    have ht:(m:Int).tmod 65536=((m % 65536:Nat):Int):=rfl
    have hq:(m:Int).tdiv 65536=((m / 65536:Nat):Int):=rfl
    have HR1:=lhd (fun v' w2 h1 h2=>ofRel.step (v':=v') (w2:=w2) (o:=.cells #[.int .i64 ((m % 65536:Nat):Int)] 3) HR.out hk h1 h2)
    have hml:m % 65536<65536:=Nat.mod_lt _ (by decide)
    have hmd:m / 65536<m:=Nat.div_lt_self (by omega) (by decide)
    clear r1 r1b r5 r6 HR
    generalize hm1:m % 65536=r at *
    generalize hm2:m / 65536=q at *
    clear hm1 hm2
    go_wp2_with (at_builtin;refine wpList_append_own _ rfl (.tmp 16) (.tmp 18) 40 rfl (w.heap.size+1) 3 i0 (.int .i64 0) 1 8 Tryz.underlying40 HI.out HZ0.out HZ1.out HZ2.out rfl (by decide) _ ds.length (cells .i64 ds) rfl (HO.out.alloc _) ⟨wr.heap.size,0,none⟩ 1 1 [.int .i64 (r:Int)] rfl rfl (fun j u hj=>by match j,hj with | 0,hj=>simp at hj;subst hj;simp[Addr.add,go_sem]) (fun u hu=>by simp at hu;subst hu;rfl) (by unfold maxLen;omega) (by omega) (by simp;omega) ?_;intro v' w2 hown2 hgrow2 _;have HR2:=lhd (HR1.out v' w2 hown2 hgrow2);clear hown2 hgrow2)
    exact⟨⟨q,_,rfl,HR2.out⟩,by simp[intOf];omega⟩
end Go.Proofs.YthkklilhjnpedaaGreatDoor
