/- Words about integers, fractions and matrices that lie in memory; the calls that the fractions of both sides are made of. -/
import Derived.Test.YthkklilhjnpedaaGreatDoorURng
import Derived.Deep.LoopGhost
import Derived.Test.YthkklilhjnpedaaGreatDoorUROf
import Derived.Deep.AppendLies
import Derived.Test.YthkklilhjnpedaaGreatDoorURpf
set_option maxHeartbeats 16000000
set_option maxRecDepth 8000
namespace Go.Proofs.YthkklilhjnpedaaGreatDoor
section
open Go.RowKit FF
theorem neg_sval(s:Bool)(n:Nat):sval (!s) n = -sval s n:=by cases s <;> simp[sval]
theorem AI.neg{w:World}{s:Bool}{A:Option Addr}{n c:Nat}{z:Int}(h:AI w s A n c z):AI w (!s) A n c (-z):=by
 obtain⟨xs,h1,h2,h3,h4,h5,h6,h7⟩:=h
 exact⟨xs,h1,h2,h3,h4,h5,by rw[neg_sval,h6],by rw[h7,Int.natAbs_neg]⟩
theorem in_ai{W w':World}{Q:Prop}{s:Bool}{A:Option Addr}{n c:Nat}{z:Int}(h:Below W.heap.size W w'∧Q)(a:AI W s A n c z):AI w' s A n c z:=a.keep h.1
theorem fin_int{w w0 w1:World}{R:Nat}{u0 u1:Value}{z:Int}{A:Option Addr}{c:Nat}{e:Ending}(B0:Below w.heap.size w w0)(hlt:R<w0.heap.size)(B:Below w.heap.size w w1)(hR:w.heap.size≤R)
  (he:e=.returned (.agg #[.bool (decide (z<0)),.slice A (wl z.natAbs) c])) (h1:Shows .u32 w1 A (digs WB z.natAbs)) (h2:wl z.natAbs≤c) (h3:c≤maxLen) (h4:Fresh w0.heap.size A):IntPost w z e ((w1.setCell ⟨R,0,none⟩ u0).setCell ⟨R,1,none⟩ u1):=
 ⟨A,c,he,(h1.setCell h4 (p:=⟨R,0,none⟩) hlt _).setCell h4 (p:=⟨R,1,none⟩) hlt _,h2,h3,h4.mono B0.size,(B.setCell hR _).setCell hR _⟩
theorem ZeO(s:Bool)(A:Option Addr)(n c:Nat)(w:World) :
  Calls Tryz.prog 139 #[.agg #[.bool s,.slice A n c]] w fun e w'=>e=.returned (.agg #[.bool (!s),.slice A n c])∧Below w.heap.size w w':=by
 go_enter Tryz.func139,Tryz.ntmps139
 go_wp2
 refine bodyPost_ret (v:=.agg #[.bool (!s),.slice A n c]) (by simp[results,Tryz.results139,go_sem]) rfl ⟨rfl,?_⟩
 go_grown
set_option maxRecDepth 100000 in
theorem Zgx(s t:Bool)(A A':Option Addr)(n m c c':Nat)(x y:Int)(w:World)(hx:AI w s A n c x)(hy:AI w t A' m c' y)(hl:n+m≤900000) :
  Calls Tryz.prog 87 #[.agg #[.bool s,.slice A n c],.agg #[.bool t,.slice A' m c']] w (IntPost w (x-y)):=by
 have HN:=lhd (ZeO t A' m c')
 have hA:=fun (w':World) h h'=>Zgw s (!t) A A' n m c c' x (-y) w' h h' hl
 rw[← Int.sub_eq_add_neg]at hA
 have HA:=lhd hA
 have HX:=lhd hx;have HY:=lhd hy.neg
 clear hA hx hy hl
 generalize x-y=z at *
 go_enter Tryz.func87,Tryz.ntmps87
 go_wp2_with fail
 have hR:w.heap.size+1<w.heap.size+1+1:=by omega
 go_region_held3 (fun w'=>Below w.heap.size w w'∧w'.cell? ⟨w.heap.size,0,none⟩=some (.bool s)∧w'.cell? ⟨w.heap.size,1,none⟩=some (.slice A n c)∧w'.cell? ⟨w.heap.size+1,0,none⟩=some (.bool t)∧w'.cell? ⟨w.heap.size+1,1,none⟩=some (.slice A' m c') ∧
  w'.cell? ⟨w.heap.size+1+1,0,none⟩=some (cellAt w' ⟨w.heap.size+1+1,0,none⟩)∧w'.cell? ⟨w.heap.size+1+1,1,none⟩=some (cellAt w' ⟨w.heap.size+1+1,1,none⟩)∧w'.frozen? ⟨w.heap.size+1+1,0,none⟩=false∧w'.frozen? ⟨w.heap.size+1+1,1,none⟩=false∧w.heap.size+1+1<w'.heap.size)
  (first
   | (refine⟨(((Below.refl _ _).alloc (Nat.le_refl _) _).alloc (by simp) _).alloc (by simp;omega) _ |>.drew,?_⟩;simp[go_sem,cellAt])
   | (refine Sres.keep hR (by assumption) ?_;first | assumption | exact(Below.refl _ _).alloc (nlr _) _ | exact Zi (Below.refl _ _) _)
   | exact Sres.store hR (by assumption) _ _)
  (first
   | (go_at_call 139;(with_reducible refine(HN.out _).mono ?_);rintro e w' ⟨rfl,hbx⟩)
   | (go_at_call 88;(refine(HA.out _ (in_ai (by assumption) HX.out) (in_ai (by assumption) HY.out)).mono ?_);rintro e w' ⟨A3,c3,rfl,hs3,k1,k2,hf3,hb3⟩))
 obtain⟨-,-,-,-,hz0,B0⟩:=ZL (Yo hbx)
 obtain⟨-,-,q,-,-,B⟩:=ZL (Yo (hbx.trans (hb3.mono hbx.size)))
 go_wp2_with fail
 refine bodyPost_ret (v:=.agg #[.bool (decide (z<0)),.slice A3 (wl z.natAbs) c3]) (by simp[results,Tryz.results87,go_sem,q]) rfl ?_
 exact fin_int B0 hz0 B (by omega) rfl hs3 k1 k2 hf3
theorem YH{w W:World}{c0 c1:Array Value}{T0 T1:TypeId}(hb:Below (w.heap.size+1+1) ((w.alloc (.cells c0 T0)).alloc (.cells c1 T1)) W) :
  (∀ i,W.cell? ⟨w.heap.size,i,none⟩=c0[i]?)∧(∀ i,W.cell? ⟨w.heap.size+1,i,none⟩=c1[i]?)∧(∀ i,W.frozen? ⟨w.heap.size+1,i,none⟩=false)∧w.heap.size+1<W.heap.size∧Below w.heap.size w W:=by
 refine⟨fun i=>?_,fun i=>?_,fun i=>?_,?_,?_⟩
 ·rw[hb.cell (p:=⟨w.heap.size,i,none⟩) (by simp;omega)];simp[go_sem]
 ·rw[hb.cell (p:=⟨w.heap.size+1,i,none⟩) (by simp)];simp[go_sem]
 ·rw[hb.frozen (p:=⟨w.heap.size+1,i,none⟩) (by simp)];simp[go_sem]
 ·have:=hb.size;simp at this;omega
 ·exact((((Below.refl _ _).alloc (Nat.le_refl _) _).alloc (by simp) _)).trans (hb.mono (by omega))
theorem ZeP{w W:World}{c0 c1:Array Value}{T0 T1:TypeId}(hb:Below ((w.alloc (.cells c0 T0)).alloc (.cells c1 T1)).drew.heap.size ((w.alloc (.cells c0 T0)).alloc (.cells c1 T1)).drew W) :
  Below (w.heap.size+1+1) ((w.alloc (.cells c0 T0)).alloc (.cells c1 T1)) W:=by
 have e:((w.alloc (.cells c0 T0)).alloc (.cells c1 T1)).drew.heap.size=w.heap.size+1+1:=by simp
 rw[e]at hb
 exact⟨hb.os,hb.tape,hb.output,hb.size,hb.block⟩
abbrev S1res(w:World)(R:Nat)(x0 x1:Value)(w':World):Prop:=
 Below w.heap.size w w'∧w'.cell? ⟨w.heap.size,0,none⟩=some x0∧w'.cell? ⟨w.heap.size,1,none⟩=some x1 ∧
  w'.cell? ⟨R,0,none⟩=some (cellAt w' ⟨R,0,none⟩)∧w'.cell? ⟨R,1,none⟩=some (cellAt w' ⟨R,1,none⟩)∧w'.frozen? ⟨R,0,none⟩=false∧w'.frozen? ⟨R,1,none⟩=false∧R<w'.heap.size
theorem S1res.keep{w:World}{R:Nat}{x0 x1:Value}{w0 w1:World}(hR:w.heap.size<R)(h:S1res w R x0 x1 w0)(hb:Below w0.heap.size w0 w1):S1res w R x0 x1 w1:=by
 obtain⟨b,h1,h2,h5,h6,h7,h8,h9⟩:=h
 have k:∀ p:Addr,p.block≤R→w1.cell? p=w0.cell? p:=fun p hp=>hb.cell (by omega)
 have f:∀ p:Addr,p.block≤R→w1.frozen? p=w0.frozen? p:=fun p hp=>hb.frozen (by omega)
 refine⟨b.trans (hb.mono b.size),by rw[k _ (by simp;omega)];exact h1,by rw[k _ (by simp;omega)];exact h2,?_,?_,by rw[f _ (by simp)];exact h7,by rw[f _ (by simp)];exact h8,Nat.lt_of_lt_of_le h9 hb.size⟩
 ·exact Xr (by rw[k _ (by simp)];exact h5)
 ·exact Xr (by rw[k _ (by simp)];exact h6)
theorem S1res.store{w:World}{R:Nat}{x0 x1:Value}{w0:World}(hR:w.heap.size<R)(h:S1res w R x0 x1 w0)(u0 u1:Value):S1res w R x0 x1 ((w0.setCell ⟨R,0,none⟩ u0).setCell ⟨R,1,none⟩ u1):=by
 obtain⟨b,h1,h2,h5,h6,h7,h8,h9⟩:=h
 have k:∀ p:Addr,p.block≠R→((w0.setCell ⟨R,0,none⟩ u0).setCell ⟨R,1,none⟩ u1).cell? p=w0.cell? p:=fun p hp=>by
  rw[World.cell?_setCell_other _ _ _ _ (fun e=>hp (by rw[← e])),World.cell?_setCell_other _ _ _ _ (fun e=>hp (by rw[← e]))]
 refine⟨(b.setCell (by simp;omega) _).setCell (by simp;omega) _,by rw[k _ (by simp;omega)];exact h1,by rw[k _ (by simp;omega)];exact h2,?_,?_,by simp[go_sem,h7],by simp[go_sem,h8],by simpa[World.setCell] using h9⟩
 ·exact Xr (v:=u0) (by simp[go_sem,h5])
 ·exact Xr (v:=u1) (by simp[go_sem,h6])
set_option maxRecDepth 100000 in
theorem Zho(s:Bool)(A:Option Addr)(n c:Nat)(x:Int)(w:World)(hx:AI w s A n c x)(hl:n≤900000) :
  Calls Tryz.prog 170 #[.agg #[.bool s,.slice A n c]] w (IntPost w x):=by
 obtain⟨xs,rfl,X,dx,hcx,hcx2,rfl,-⟩:=hx
 have HSx:=lhd (fun w' (h:Shows .u32 w' A xs)=>Xg s A xs c w' h dx hcx hcx2)
 have HX:=lhd X
 have TX:=lhd (X.trim dx)
 have hla:wl (val WB xs)≤xs.length:=Zm WB2 (ZT dx)
 generalize xs.length=n at *
 clear X dx hcx hcx2
 generalize val WB xs=v at *
 have hM:=fun (w':World) (h:Shows .u32 w' A (digs WB v))=>by
  have:=XX s A (digs WB v) (wl v) w' h (Zh WB2 _) (nlr _) (by unfold maxLen;omega) (by rw[Ze WB2];omega)
  rw[Ze WB2]at this;exact this
 change ∀ w',_→Calls _ _ #[.bool s,.slice A (wl v) (wl v)] w' _ at hM
 have HM:=lhd hM
 clear hM hla hl
 go_enter Tryz.func170,Tryz.ntmps170
 go_wp2_with fail
 have hR:w.heap.size<w.heap.size+1:=by omega
 go_region_held3 (fun w'=>Below w.heap.size w w'∧w'.cell? ⟨w.heap.size,0,none⟩=some (.bool s)∧w'.cell? ⟨w.heap.size,1,none⟩=some (.slice A n c) ∧
  w'.cell? ⟨w.heap.size+1,0,none⟩=some (cellAt w' ⟨w.heap.size+1,0,none⟩)∧w'.cell? ⟨w.heap.size+1,1,none⟩=some (cellAt w' ⟨w.heap.size+1,1,none⟩)∧w'.frozen? ⟨w.heap.size+1,0,none⟩=false∧w'.frozen? ⟨w.heap.size+1,1,none⟩=false∧w.heap.size+1<w'.heap.size)
  (first
   | (refine⟨(((Below.refl _ _).alloc (Nat.le_refl _) _).alloc (by simp) _) |>.drew,?_⟩;simp[go_sem,cellAt])
   | (refine S1res.keep hR (by assumption) ?_;first | assumption | exact(Below.refl _ _).alloc (nlr _) _ | exact Zi (Below.refl _ _) _)
   | exact S1res.store hR (by assumption) _ _)
  (first
   | (go_at_call 138;(with_reducible refine(HSx.out _ (ZJ (by assumption) HX.out)).mono ?_);rintro e w' ⟨rfl,hbx⟩)
   | (go_at_call 136;(with_reducible refine(HM.out _ (ZJ (by assumption) TX.out)).mono ?_);rintro e w' ⟨A3,c3,rfl,hs3,k1,k2,hf3,hb3⟩))
 obtain⟨-,-,-,hz0,B0⟩:=YH (ZeP hbx)
 obtain⟨-,q,-,-,B⟩:=YH (ZeP (hbx.trans (hb3.mono hbx.size)))
 go_wp2_with fail
 refine bodyPost_ret (v:=.agg #[.bool (s && !decide (v=0)),.slice A3 (wl v) c3]) (by simp[results,Tryz.results170,go_sem,q]) rfl ?_
 exact Ud B0 hz0 B (by omega) rfl rfl hs3 k1 k2 hf3
def GcdRel(G L:Nat)(W0:World)(B0:Nat)(gk:Nat)(s5 s6:Value)(wr:World):Prop:=
 ∃ (A1:Option Addr) (c1:Nat) (A2:Option Addr) (c2 a b:Nat),s5=.slice A1 (wl a) c1∧s6=.slice A2 (wl b) c2∧gk=b∧Nat.gcd a b=G∧wl a≤c1∧c1≤maxLen∧wl b≤c2∧c2≤maxLen∧wl a≤L∧wl b≤L ∧
  Shows .u32 wr A1 (digs WB a)∧Shows .u32 wr A2 (digs WB b)∧Below B0 W0 wr
set_option maxRecDepth 100000 in
theorem Gcd_any(s t:Bool)(A A':Option Addr)(n m c c':Nat)(x y:Int)(w:World)(hx:AI w s A n c x)(hy:AI w t A' m c' y)(hl:n+m≤900000) :
  Calls Tryz.prog 178 #[.agg #[.bool s,.slice A n c],.agg #[.bool t,.slice A' m c']] w (IntPost w (Int.gcd x y)):=by
 obtain⟨xs,rfl,X,dx,hcx,hcx2,rfl,-⟩:=hx
 obtain⟨ys,rfl,Y,dy,hcy,hcy2,rfl,-⟩:=hy
 have HSx:=lhd (fun w' (h:Shows .u32 w' A xs)=>Xg s A xs c w' h dx hcx hcx2)
 have HSy:=lhd (fun w' (h:Shows .u32 w' A' ys)=>Xg t A' ys c' w' h dy hcy hcy2)
 have HX:=lhd X;have HY:=lhd Y
 have TX:=lhd (X.trim dx);have TY:=lhd (Y.trim dy)
 have hla:wl (val WB xs)≤xs.length:=Zm WB2 (ZT dx)
 have hlb:wl (val WB ys)≤ys.length:=Zm WB2 (ZT dy)
 have hG:Int.gcd (sval s (val WB xs)) (sval t (val WB ys))=Nat.gcd (val WB xs) (val WB ys):=by
  unfold Int.gcd;rw[Z5,Z5]
 rw[hG]
 clear hG
 generalize xs.length=n at *
 generalize ys.length=m at *
 clear X Y dx dy hcx hcx2 hcy hcy2
 generalize val WB xs=a at *
 generalize val WB ys=b at *
 obtain⟨G,hG⟩:∃ G,Nat.gcd a b=G:=⟨_,rfl⟩
 rw[hG]
 have HG:=lhd hG
 clear hG
 have hR:w.heap.size+1<w.heap.size+1+1:=by omega
 have HDv:=lhd (fun (b:Nat) (h:0<b)=>Ze2 h)
 go_enter Tryz.func178,Tryz.ntmps178
 go_wp2_with fail
 go_region_held3 (fun w'=>Below w.heap.size w w'∧w'.cell? ⟨w.heap.size,0,none⟩=some (.bool s)∧w'.cell? ⟨w.heap.size,1,none⟩=some (.slice A n c)∧w'.cell? ⟨w.heap.size+1,0,none⟩=some (.bool t)∧w'.cell? ⟨w.heap.size+1,1,none⟩=some (.slice A' m c') ∧
  w'.cell? ⟨w.heap.size+1+1,0,none⟩=some (cellAt w' ⟨w.heap.size+1+1,0,none⟩)∧w'.cell? ⟨w.heap.size+1+1,1,none⟩=some (cellAt w' ⟨w.heap.size+1+1,1,none⟩)∧w'.frozen? ⟨w.heap.size+1+1,0,none⟩=false∧w'.frozen? ⟨w.heap.size+1+1,1,none⟩=false∧w.heap.size+1+1<w'.heap.size)
  (first
   | (refine⟨(((Below.refl _ _).alloc (Nat.le_refl _) _).alloc (by simp) _).alloc (by simp;omega) _ |>.drew,?_⟩;simp[go_sem,cellAt])
   | (refine Sres.keep hR (by assumption) ?_;first | assumption | exact(Below.refl _ _).alloc (nlr _) _ | exact Zi (Below.refl _ _) _))
  (first
   | (go_at_call 138;(with_reducible refine(HSx.out _ (ZJ (by assumption) HX.out)).mono ?_);rintro e w' ⟨rfl,hbx⟩)
   | (go_at_call 138;(with_reducible refine(HSy.out _ (ZJ (by assumption) HY.out)).mono ?_);rintro e w' ⟨rfl,hby⟩))
 have B2:=Yo (hbx.trans (hby.mono hbx.size))
 obtain⟨-,-,-,-,-,B⟩:=ZL B2
 have HR0:=lhd (show GcdRel G 900000 (((w.alloc (.cells #[.bool s,.slice A n c] 57)).alloc (.cells #[.bool t,.slice A' m c'] 57)).alloc (.cells #[.bool false,.slice none 0 0] 57)) (w.heap.size+1+1+1) b (.slice A (wl a) (wl a)) (.slice A' (wl b) (wl b)) w' from
  ⟨A,wl a,A',wl b,a,b,rfl,rfl,rfl,HG.out,nlr _,by unfold maxLen;omega,nlr _,by unfold maxLen;omega,by omega,by omega,TX.out.below B,TY.out.below B,B2⟩)
 clear B2 B hbx hby HX HY TX TY HSx HSy HG hla hlb hl
 go_wp2_with fail
 go_loopg [5,6] b (fun gk s5 s6 wr=>GcdRel G 900000 (((w.alloc (.cells #[.bool s,.slice A n c] 57)).alloc (.cells #[.bool t,.slice A' m c'] 57)).alloc (.cells #[.bool false,.slice none 0 0] 57)) (w.heap.size+1+1+1) gk s5 s6 wr)
 case atStart=>exact HR0.out
 case round =>
  clear HR0
  obtain⟨A1,c1,A2,c2,a1,b1,rfl,rfl,rfl,hg,k1,k2,k3,k4,k5,k6,s1,s2,hB⟩:=hrel
  have H1:=lhd s1;have H2:=lhd s2;have HB:=lhd hB;have HG:=lhd hg
  clear s1 s2 hB hg
  by_cases h0:gk=0
  ·have e0:wl gk=0:=by rw[h0];rfl
   have HE:=lhd (show a1=G by have:=HG.out;rw[h0,Nat.gcd_zero_right]at this;exact this)
   have hlt:¬ (0:Int)<(wl gk:Nat):=by omega
   clear h0 e0
   have hM:=XX false A1 (digs WB a1) c1 wr H1.out (Zh WB2 _) k1 k2 (by rw[Ze WB2];omega)
   rw[Ze WB2]at hM
   change Calls _ _ #[.bool false,.slice A1 (wl a1) c1] wr _ at hM
   have HM:=lhd hM
   clear hM
   go_wp2_with fail
   refine HM.out.mono ?_
   rintro e w4 ⟨A3,c3,rfl,hs3,q1,q2,hf3,hb3⟩
   have hz:=HB.out.size
   simp at hz
   have B3:=HB.out
   obtain⟨-,-,-,-,hz0,B0⟩:=ZL B3
   obtain⟨-,-,q,f,-,B⟩:=ZL (B3.trans (hb3.mono hz))
   have q0:=q 0;have qq1:=q 1;have f0:=f 0;have f1:=f 1
   have HS3:=lhd hs3;have HF3:=lhd hf3;have HBB:=lhd B;have HB0:=lhd B0;have HZ:=lhd hz0
   clear hs3 hf3 B B0 hb3 hz hz0 B3 q f HB H1 H2
   go_wp2_with fail
   refine bodyPost_ret (v:=.agg #[.bool false,.slice A3 (wl a1) c3]) (by simp[results,Tryz.results178,go_sem,q0,qq1]) rfl ?_
   exact Ud (s:=false) HB0.out HZ.out HBB.out (by omega) (by rw[HE.out];rfl) rfl HS3.out q1 q2 HF3.out
  ·have hpos:0<gk:=by omega
   have hlt:(0:Int)<(wl gk:Nat):=by have:wl gk≠0:=fun e=>h0 (XE.1 e);omega
   have hD:=HDv.out gk hpos A1 A2 a1 c1 c2 wr H1.out H2.out (by omega) k1 k2
   have HD:=lhd hD
   have HN:=lhd (show Nat.gcd gk (a1 % gk)=G by rw[← HG.out,Nat.gcd_comm a1 gk,Nat.gcd_rec gk a1,Nat.gcd_comm])
   have HM:=lhd (Nat.mod_lt a1 hpos)
   have hml:wl (a1 % gk)≤wl gk:=ZV WB2 (Nat.le_of_lt HM.out)
   clear hD h0 hpos HG
   go_wp2_with fail
   refine HD.out.mono ?_
   rintro e w3 ⟨A3,c3,A4,c4,rfl,p1,p2,p3,p4,p5,p6,p7⟩
   have P5:=lhd p5;have P6:=lhd p6;have P7:=lhd p7
   clear p5 p6 p7 HD
   generalize hr:a1 % gk=r at *
   clear hr
   go_wp2_with fail
   go_roundg r
   case measure=>exact HM.out
   case rel =>
    have hz:=HB.out.size
    simp at hz
    exact⟨A2,c2,A4,c4,gk,r,rfl,rfl,rfl,HN.out,k3,k4,p3,p4,k6,by omega,H2.out.below P7.out,P6.out,HB.out.trans (P7.out.mono hz)⟩
def sgn(z:Int):Int:=if z=0 then 0 else if z<0 then -1 else 1
theorem ZeQ{w w1:World}{o1 o2:Obj}(h:Below ((w.alloc o1).alloc o2).heap.size ((w.alloc o1).alloc o2) w1):Below w.heap.size w w1:=
 (((Below.refl _ _).alloc (Nat.le_refl _) _).alloc (by simp) _).trans (h.mono (by simp;omega))
theorem wl_pos{n:Nat}(h:n≠0):0<wl n:=Nat.pos_of_ne_zero fun e=>h (XE.1 e)
set_option maxRecDepth 100000 in
theorem Cmp_any(s t:Bool)(A A':Option Addr)(n m c c':Nat)(x y:Int)(w:World)(hx:AI w s A n c x)(hy:AI w t A' m c' y)(hl:n+m≤900000) :
  Calls Tryz.prog 128 #[.agg #[.bool s,.slice A n c],.agg #[.bool t,.slice A' m c']] w fun e w'=>e=.returned (.int .i64 (sgn (x-y)))∧Below w.heap.size w w':=by
 have HS:=lhd (fun w' h h'=>Zgx s t A A' n m c c' x y w' h h' hl)
 have HX:=lhd hx;have HY:=lhd hy
 clear hx hy hl
 generalize x-y=z at *
 have key:(z=0∧sgn z=0)∨(z<0∧sgn z = -1)∨(0<z∧sgn z=1):=by
  unfold sgn
  by_cases h0:z=0
  ·exact .inl ⟨h0,if_pos h0⟩
  ·by_cases h1:z<0
   ·exact .inr (.inl ⟨h1,by rw[if_neg h0,if_pos h1]⟩)
   ·exact .inr (.inr ⟨by omega,by rw[if_neg h0,if_neg h1]⟩)
 unfold IntPost at HS
 have key2:(decide (z<0)=false∧(((wl z.natAbs:Nat):Int) == 0)=true∧sgn z=0)∨(decide (z<0)=true∧(((wl z.natAbs:Nat):Int) == 0)=false∧sgn z = -1)∨(decide (z<0)=false∧(((wl z.natAbs:Nat):Int) == 0)=false∧sgn z=1):=by
  rcases key with⟨h0,h2⟩ | ⟨h0,h2⟩ | ⟨h0,h2⟩
  ·exact .inl ⟨deF (by omega),t_beq (by rw[h0];rfl),h2⟩
  ·exact .inr (.inl ⟨deT h0,Xx (by have:=wl_pos (n:=z.natAbs) (by omega);omega),h2⟩)
  ·exact .inr (.inr ⟨deF (by omega),Xx (by have:=wl_pos (n:=z.natAbs) (by omega);omega),h2⟩)
 clear key
 generalize sgn z=g at *
 generalize decide (z<0)=d at *
 rcases key2 with⟨h0,h1,h2⟩ | ⟨h0,h1,h2⟩ | ⟨h0,h1,h2⟩
 all_goals
  subst h2
  subst h0
  go_enter Tryz.func128,Tryz.ntmps128
  go_wp2_with fail
  refine(HS.out _ (HX.out.alloc _ |>.alloc _) (HY.out.alloc _ |>.alloc _)).mono ?_
  rintro e w1 ⟨A1,c1,rfl,-,-,-,-,hb⟩
  have hB:=lhd (ZeQ hb)
  clear hb HS HX HY
  generalize wl z.natAbs=l at *
  go_wp2_with fail
  go_ret
  exact⟨rfl,hB.out.alloc hB.out.size _⟩
def YX(z:Int):Int:=if -9223372036854775808≤z∧z≤9223372036854775807 then z else 0
def U4(z:Int):Bool:=decide (-9223372036854775808≤z∧z≤9223372036854775807)
theorem Zjc{a:Nat}(h:wl a≤2):a=(digs WB a).getD 1 0*4294967296+(digs WB a).getD 0 0:=by
 have h1:=Zy (B:=WB) (digs WB a) 1
 have h2:=Zy (B:=WB) (digs WB a) 0
 rw[tOl (show(digs WB a).length≤1+1 from h),Ze WB2]at h1
 rw[h2]at h1
 simp only[List.take_zero,val,Nat.pow_zero,Nat.one_mul,Nat.pow_one,Nat.zero_add]at h1
 unfold WB at *
 omega
theorem wl_big{a:Nat}(h:2<wl a):18446744073709551616≤a:=by
 apply bCo
 intro hc
 have:=Zfh (n:=a) (by omega)
 omega
set_option maxRecDepth 100000 in
theorem Zjd(s:Bool)(A:Option Addr)(n c:Nat)(x:Int)(w:World)(hx:AI w s A n c x) :
  Calls Tryz.prog 169 #[.agg #[.bool s,.slice A n c]] w fun e w'=>e=.returned (.tuple #[.int .i64 (YX x),.bool (U4 x)])∧Below w.heap.size w w':=by
 obtain⟨xs,rfl,X,dx,hcx,hcx2,rfl,-⟩:=hx
 have HSx:=lhd (fun w' (h:Shows .u32 w' A xs)=>Xg s A xs c w' h dx hcx hcx2)
 have HX:=lhd X
 have TX:=lhd (X.trim dx)
 generalize xs.length=n at *
 clear X dx hcx hcx2
 generalize val WB xs=a at *
 by_cases hw:2<wl a
 ·have hbig:=wl_big hw
  have e1:YX (sval s a)=0:=by unfold YX;rw[if_neg];cases s <;> simp[sval] <;> omega
  have e2:U4 (sval s a)=false:=by unfold U4;rw[decide_eq_false_iff_not];cases s <;> simp[sval] <;> omega
  rw[e1,e2]
  clear e1 e2 hbig
  go_enter Tryz.func169,Tryz.ntmps169
  go_wp2_with fail
  refine(HSx.out _ (HX.out.alloc _)).mono ?_
  rintro e w1 ⟨rfl,hb⟩
  rw[World.size_alloc]at hb
  have HB:=lhd (Xp hb)
  have hw':(2:Int)<(wl a:Nat):=by omega
  clear hb HSx HX TX hw
  generalize wl a=l at *
  go_wp2_with fail
  go_ret2
  exact⟨rfl,HB.out⟩
 ·have e0:=Zjc (a:=a) (by omega)
  have b0:(digs WB a).getD 0 0<4294967296:=(Zh WB2 a).getD (by decide) _
  have b1:(digs WB a).getD 1 0<4294967296:=(Zh WB2 a).getD (by decide) _
  have HA0:=lhd (fun (W:World) (h:Shows .u32 W A (digs WB a))=>Kb A (digs WB a) (wl a) 0 W h (by omega) (Zh WB2 a))
  have HA1:=lhd (fun (W:World) (h:Shows .u32 W A (digs WB a))=>Kb A (digs WB a) (wl a) 1 W h (by omega) (Zh WB2 a))
  change Hid (∀ W,_→Calls _ _ #[.slice A (wl a) (wl a),.int .i64 ((0:Nat):Int)] W _) at HA0
  change Hid (∀ W,_→Calls _ _ #[.slice A (wl a) (wl a),.int .i64 ((1:Nat):Int)] W _) at HA1
  generalize (digs WB a).getD 0 0=x0 at *
  generalize (digs WB a).getD 1 0=x1 at *
  have hor:=Zac b1 b0
  rw[← e0]at hor
  obtain⟨Z,hZ⟩:∃ Z:Int,(a:Int)=Z:=⟨_,rfl⟩
  rw[hZ]at hor
  have HZ:=lhd hZ
  clear hZ
  have HAB:=lhd (show a<18446744073709551616 by omega)
  have E0:=lhd e0
  clear e0
  have hw':¬ (2:Int)<(wl a:Nat):=by omega
  cases s
  ·by_cases hlt:Z<9223372036854775808
   ·have d1:=deT hlt
    have HE:=lhd (show YX (sval false a)=Z∧U4 (sval false a)=true by
     have:=HZ.out
     rw[show sval false a=(a:Int) from rfl,this]
     exact⟨if_pos (by omega),deT (by omega)⟩)
    have e9:IntKind.i64.wrap Z=Z:=IntWalk.i64_in _ (by have:=HZ.out;omega)
    rw[HE.out.1,HE.out.2]
    clear hlt HE
    go_enter Tryz.func169,Tryz.ntmps169
    go_wp2_with fail
    refine(HSx.out _ (HX.out.alloc _)).mono ?_
    rintro e w1 ⟨rfl,hb⟩
    rw[World.size_alloc]at hb
    obtain⟨k,f,hz⟩:=XR hb
    have k0:=k 0
    have TX1:=lhd (TX.out.alloc (.cells #[.bool false,.slice A n c] 57) |>.below (by rw[World.size_alloc];exact hb))
    have HB:=lhd (Xp hb)
    clear hb HSx HX TX hw k f
    go_wp2_with fail
    refine(HA1.out _ TX1.out).mono ?_
    rintro e w2 ⟨rfl,n2,rfl⟩
    go_wp2_with fail
    refine(HA0.out _ (TX1.out.drewN _)).mono ?_
    rintro e w2 ⟨rfl,n3,rfl⟩
    go_wp2_with fail
    go_ret2
    exact⟨by rfl,Zi HB.out _⟩
   ·have d1:=deF hlt
    have HE:=lhd (show YX (sval false a)=0∧U4 (sval false a)=false by
     have:=HZ.out
     rw[show sval false a=(a:Int) from rfl,this]
     exact⟨if_neg (by omega),deF (by omega)⟩)
    rw[HE.out.1,HE.out.2]
    clear hlt HE
    go_enter Tryz.func169,Tryz.ntmps169
    go_wp2_with fail
    refine(HSx.out _ (HX.out.alloc _)).mono ?_
    rintro e w1 ⟨rfl,hb⟩
    rw[World.size_alloc]at hb
    obtain⟨k,f,hz⟩:=XR hb
    have k0:=k 0
    have TX1:=lhd (TX.out.alloc (.cells #[.bool false,.slice A n c] 57) |>.below (by rw[World.size_alloc];exact hb))
    have HB:=lhd (Xp hb)
    clear hb HSx HX TX hw k f
    go_wp2_with fail
    refine(HA1.out _ TX1.out).mono ?_
    rintro e w2 ⟨rfl,n2,rfl⟩
    go_wp2_with fail
    refine(HA0.out _ (TX1.out.drewN _)).mono ?_
    rintro e w2 ⟨rfl,n3,rfl⟩
    go_wp2_with fail
    go_ret2
    exact⟨by rfl,Zi HB.out _⟩
  ·by_cases hlt:Z≤9223372036854775808
   ·have d1:=deT hlt
    have HE:=lhd (show YX (sval true a) = -Z∧U4 (sval true a)=true by
     have:=HZ.out
     rw[show sval true a = -(a:Int) from rfl,this]
     exact⟨if_pos (by omega),deT (by omega)⟩)
    have e9:IntKind.i64.wrap (IntKind.u64.wrap (-Z)) = -Z:=by
     have:=HZ.out
     simp only[IntKind.wrap,IntKind.bits,IntKind.signed];simp;omega
    rw[HE.out.1,HE.out.2]
    clear hlt HE
    go_enter Tryz.func169,Tryz.ntmps169
    go_wp2_with fail
    refine(HSx.out _ (HX.out.alloc _)).mono ?_
    rintro e w1 ⟨rfl,hb⟩
    rw[World.size_alloc]at hb
    obtain⟨k,f,hz⟩:=XR hb
    have k0:=k 0
    have TX1:=lhd (TX.out.alloc (.cells #[.bool true,.slice A n c] 57) |>.below (by rw[World.size_alloc];exact hb))
    have HB:=lhd (Xp hb)
    clear hb HSx HX TX hw k f
    go_wp2_with fail
    refine(HA1.out _ TX1.out).mono ?_
    rintro e w2 ⟨rfl,n2,rfl⟩
    go_wp2_with fail
    refine(HA0.out _ (TX1.out.drewN _)).mono ?_
    rintro e w2 ⟨rfl,n3,rfl⟩
    go_wp2_with fail
    go_ret2
    exact⟨by rfl,Zi HB.out _⟩
   ·have d1:=deF hlt
    have HE:=lhd (show YX (sval true a)=0∧U4 (sval true a)=false by
     have:=HZ.out
     rw[show sval true a = -(a:Int) from rfl,this]
     exact⟨if_neg (by omega),deF (by omega)⟩)
    rw[HE.out.1,HE.out.2]
    clear hlt HE
    go_enter Tryz.func169,Tryz.ntmps169
    go_wp2_with fail
    refine(HSx.out _ (HX.out.alloc _)).mono ?_
    rintro e w1 ⟨rfl,hb⟩
    rw[World.size_alloc]at hb
    obtain⟨k,f,hz⟩:=XR hb
    have k0:=k 0
    have TX1:=lhd (TX.out.alloc (.cells #[.bool true,.slice A n c] 57) |>.below (by rw[World.size_alloc];exact hb))
    have HB:=lhd (Xp hb)
    clear hb HSx HX TX hw k f
    go_wp2_with fail
    refine(HA1.out _ TX1.out).mono ?_
    rintro e w2 ⟨rfl,n2,rfl⟩
    go_wp2_with fail
    refine(HA0.out _ (TX1.out.drewN _)).mono ?_
    rintro e w2 ⟨rfl,n3,rfl⟩
    go_wp2_with fail
    go_ret2
    exact⟨by rfl,Zi HB.out _⟩
theorem AI.wl_le{w:World}{s:Bool}{A:Option Addr}{n c:Nat}{z:Int}(h:AI w s A n c z):wl z.natAbs≤n:=by
 obtain⟨xs,rfl,-,hd,-,-,-,h7⟩:=h
 rw[← h7]
 exact Zm WB2 (ZT hd)
def sgB(z:Int):Bool:=decide (z<0)
def lnW(z:Int):Nat:=wl z.natAbs
def IC(W:World)(u v:Value)(z:Int):Prop:=∃ A c,u=.bool (sgB z)∧v=.slice A (lnW z) c∧AI W (decide (z<0)) A (wl z.natAbs) c z
theorem IC.keep{W W':World}{u v:Value}{z:Int}(h:IC W u v z)(hb:Below W.heap.size W W'):IC W' u v z:=by
 obtain⟨A,c,h1,h2,h3⟩:=h
 exact⟨A,c,h1,h2,h3.keep hb⟩
theorem IC.only{W W':World}{u v:Value}{z:Int}{g:Nat}(h:IC W u v z)(ho:Only g W W')(hg:NoIntAt W g):IC W' u v z:=by
 obtain⟨A,c,h1,h2,xs,k1,k2,k3⟩:=h
 refine⟨A,c,h1,h2,xs,k1,fun hp=>?_,k3⟩
 obtain⟨b,o,e,hb,hc⟩:=k2 hp
 refine⟨b,o,e,by rw[ho.size];exact hb,fun i hi=>?_⟩
 rw[← hc i hi]
 have hbg:b≠g:=fun e=>by
  subst e
  have:=hc 0 hp
  exact hg _ _ _ this
 simp only[World.cell?,ho.block b hbg]
def ICs(W:World):List (Value × Value × Int)→Prop
 | []=>True
 | x::l=>IC W x.1 x.2.1 x.2.2∧ICs W l
theorem UN{z:Array Value}(h:(z.toList.all fun v=>match v with | .int _ _=>false | _=>true)=true):∀ (i:Nat) (k:IntKind) (n:Int),z[i]?≠some (.int k n):=by
 intro i k n e
 have hm:Value.int k n∈z.toList:=by rw[Array.mem_toList_iff];exact Array.mem_of_getElem? e
 have:=List.all_eq_true.1 h _ hm
 cases this
theorem NoIntAt.new(W:World){z:Array Value}(T:TypeId)(h:∀ (i:Nat) (k:IntKind) (n:Int),z[i]?≠some (.int k n)){g:Nat}(hg:W.heap.size=g):NoIntAt (W.alloc (.cells z T)) g:=fun i k n e=>by
 subst hg
 rw[Xs]at e
 exact h i k n e
theorem NoIntAt.keep{W W':World}{g:Nat}(h:NoIntAt W g)(hg:g<W.heap.size)(hb:Below W.heap.size W W'):NoIntAt W' g:=fun i k m e=>h i k m (by rw[← e];exact(hb.cell (p:=⟨g,i,none⟩) hg).symm)
def VI(z:Int):Value→World→Prop:=fun v W=>∃ a b,v=.agg #[a,b]∧IC W a b z
theorem Firm.vi(z:Int):Firm (VI z):=
 ⟨fun _ _ _ ⟨A,c,e,h⟩ hb=>⟨A,c,e,h.keep hb⟩,fun _ _ _ _ ⟨A,c,e,h⟩ ho hg=>⟨A,c,e,h.only ho hg⟩⟩
def Wn(k:Nat)(z:Int):Prop:=z.natAbs<WB ^ k
theorem Wn.wl{k:Nat}{z:Int}(h:Wn k z):wl z.natAbs≤k:=Zm WB2 h
theorem Wn.mono{j k:Nat}{z:Int}(h:Wn j z)(hjk:j≤k):Wn k z:=nLl h (Nat.pow_le_pow_right (by decide) hjk)
theorem Wn.add{k:Nat}{x y:Int}(hx:Wn k x)(hy:Wn k y):Wn (k+1) (x+y):=by
 have h1:2*WB ^ k≤WB ^ (k+1):=by rw[Nat.pow_succ,Nat.mul_comm];exact Nat.mul_le_mul_left _ (by decide)
 unfold Wn at *;omega
theorem Wn.mul{j k:Nat}{x y:Int}(hx:Wn j x)(hy:Wn k y):Wn (j+k) (x*y):=by
 unfold Wn at *
 rw[Int.natAbs_mul,Nat.pow_add]
 exact Nat.mul_lt_mul_of_le_of_lt (Nat.le_of_lt hx) hy (Nat.pow_pos (by decide))
theorem Wn.of{z:Int}(h:-4294967295≤z∧z≤4294967295):Wn 1 z:=by
 show z.natAbs<4294967296 ^ 1
 rw[Nat.pow_one];omega
theorem UU{w w':World}{z:Int}{e:Ending}(h:IntPost w z e w'):Zb (VI z) w e w':=by
 obtain⟨A,c,rfl,h1,h2,h3,-,h5⟩:=h
 exact⟨_,rfl,⟨_,_,rfl,A,c,rfl,rfl,AI.of_post h1 h2 h3⟩,h5⟩
theorem cOf(n:Int)(w:World)(hn:I64 n):Calls Tryz.prog 92 #[.int .i64 n] w (Zb (VI n) w):=(Of_any n w hn).mono fun _ _ h=>UU h
section
variable {u v u' v':Value}{x y:Int}{w:World}{j k:Nat}
theorem cMul(hx:IC w u v x)(hy:IC w u' v' y)(h1:Wn j x)(h2:Wn k y)(h:j+k≤400):Calls Tryz.prog 86 #[.agg #[u,v],.agg #[u',v']] w (Zb (VI (x*y)) w):=by
 obtain⟨A,c,rfl,rfl,g⟩:=hx
 obtain⟨A',c',rfl,rfl,g'⟩:=hy
 have:=h1.wl;have:=h2.wl
 exact(Mul_any _ _ _ _ _ _ _ _ x y w g g' (by omega)).mono fun _ _ h=>UU h
theorem cAdd(hx:IC w u v x)(hy:IC w u' v' y)(h1:Wn j x)(h2:Wn k y)(h:j+k≤400):Calls Tryz.prog 88 #[.agg #[u,v],.agg #[u',v']] w (Zb (VI (x+y)) w):=by
 obtain⟨A,c,rfl,rfl,g⟩:=hx
 obtain⟨A',c',rfl,rfl,g'⟩:=hy
 have:=h1.wl;have:=h2.wl
 exact(Zgw _ _ _ _ _ _ _ _ x y w g g' (by omega)).mono fun _ _ h=>UU h
theorem cCmp(hx:IC w u v x)(hy:IC w u' v' y)(h1:Wn j x)(h2:Wn k y)(h:j+k≤400):Calls Tryz.prog 128 #[.agg #[u,v],.agg #[u',v']] w (Zb (VC (.int .i64 (sgn (x-y)))) w):=by
 obtain⟨A,c,rfl,rfl,g⟩:=hx
 obtain⟨A',c',rfl,rfl,g'⟩:=hy
 have:=h1.wl;have:=h2.wl
 exact(Cmp_any _ _ _ _ _ _ _ _ x y w g g' (by omega)).mono fun _ _ ⟨h,hb⟩=>⟨_,h,rfl,hb⟩
end
end
end Go.Proofs.YthkklilhjnpedaaGreatDoor
