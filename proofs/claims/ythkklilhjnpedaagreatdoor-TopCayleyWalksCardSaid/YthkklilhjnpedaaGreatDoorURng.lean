/- Integers of several words: sum, difference, product, greatest common divisor, normal form, comparison. -/
import Derived.Test.YthkklilhjnpedaaGreatDoorUStp
import Derived.Deep.RegionHeld3
set_option maxHeartbeats 16000000
set_option maxRecDepth 8000
namespace Go.Proofs.YthkklilhjnpedaaGreatDoor
open Go.RowKit FF
def AI(w:World)(s:Bool)(A:Option Addr)(n c:Nat)(z:Int):Prop:=
 ∃ xs:List Nat,xs.length=n∧Shows .u32 w A xs∧Dig WB xs∧n≤c∧c≤maxLen∧sval s (val WB xs)=z∧wl (val WB xs)=wl z.natAbs
theorem AI.keep{w w':World}{s:Bool}{A:Option Addr}{n c:Nat}{z:Int}(h:AI w s A n c z)(hb:Below w.heap.size w w'):AI w' s A n c z:=by
 obtain⟨xs,h1,h2,h3⟩:=h
 exact⟨xs,h1,h2.below hb,h3⟩
theorem AI.alloc{w:World}{s:Bool}{A:Option Addr}{n c:Nat}{z:Int}(h:AI w s A n c z)(o:Obj):AI (w.alloc o) s A n c z:=h.keep ((Below.refl _ _).alloc (nlr _) _)
def IntPost(w:World)(z:Int)(e:Ending)(w':World):Prop:=
 ∃ A c,e=.returned (.agg #[.bool (decide (z<0)),.slice A (wl z.natAbs) c])∧Shows .u32 w' A (digs WB z.natAbs)∧wl z.natAbs≤c∧c≤maxLen∧Fresh w.heap.size A∧Below w.heap.size w w'
theorem sval_abs(z:Int):sval (decide (z<0)) z.natAbs=z:=by
 unfold sval
 by_cases h:z<0
 ·rw[decide_eq_true h];simp;omega
 ·rw[decide_eq_false h];simp;omega
theorem AI.of_post{w':World}{z:Int}{A:Option Addr}{c:Nat}(h1:Shows .u32 w' A (digs WB z.natAbs))(h2:wl z.natAbs≤c)(h3:c≤maxLen):AI w' (decide (z<0)) A (wl z.natAbs) c z:=
 ⟨digs WB z.natAbs,rfl,h1,Zh WB2 _,h2,h3,by rw[Ze WB2];exact sval_abs z,by rw[Ze WB2]⟩
def cellAt(w:World)(a:Addr):Value:=(w.cell? a).getD undef
theorem Xr{w:World}{a:Addr}{v:Value}(h:w.cell? a=some v):w.cell? a=some (cellAt w a):=by unfold cellAt;rw[h];rfl
theorem ZL{w W:World}{c0 c1 c2:Array Value}{T0 T1 T2:TypeId}(hb:Below (w.heap.size+1+1+1) (((w.alloc (.cells c0 T0)).alloc (.cells c1 T1)).alloc (.cells c2 T2)) W) :
  (∀ i,W.cell? ⟨w.heap.size,i,none⟩=c0[i]?)∧(∀ i,W.cell? ⟨w.heap.size+1,i,none⟩=c1[i]?)∧(∀ i,W.cell? ⟨w.heap.size+1+1,i,none⟩=c2[i]?) ∧
  (∀ i,W.frozen? ⟨w.heap.size+1+1,i,none⟩=false)∧w.heap.size+1+1<W.heap.size∧Below w.heap.size w W:=by
 refine⟨fun i=>?_,fun i=>?_,fun i=>?_,fun i=>?_,?_,?_⟩
 ·rw[hb.cell (p:=⟨w.heap.size,i,none⟩) (by simp;omega)];simp[go_sem]
 ·rw[hb.cell (p:=⟨w.heap.size+1,i,none⟩) (by simp)];simp[go_sem]
 ·rw[hb.cell (p:=⟨w.heap.size+1+1,i,none⟩) (by simp)];simp[go_sem]
 ·rw[hb.frozen (p:=⟨w.heap.size+1+1,i,none⟩) (by simp)];simp[go_sem]
 ·have:=hb.size;simp at this;omega
 ·exact(((((Below.refl _ _).alloc (Nat.le_refl _) _).alloc (by simp) _).alloc (by simp;omega) _)).trans (hb.mono (by omega))
abbrev Sres(w:World)(R:Nat)(x0 x1 y0 y1:Value)(w':World):Prop:=
 Below w.heap.size w w'∧w'.cell? ⟨w.heap.size,0,none⟩=some x0∧w'.cell? ⟨w.heap.size,1,none⟩=some x1∧w'.cell? ⟨w.heap.size+1,0,none⟩=some y0∧w'.cell? ⟨w.heap.size+1,1,none⟩=some y1 ∧
  w'.cell? ⟨R,0,none⟩=some (cellAt w' ⟨R,0,none⟩)∧w'.cell? ⟨R,1,none⟩=some (cellAt w' ⟨R,1,none⟩)∧w'.frozen? ⟨R,0,none⟩=false∧w'.frozen? ⟨R,1,none⟩=false∧R<w'.heap.size
theorem Sres.keep{w:World}{R:Nat}{x0 x1 y0 y1:Value}{w0 w1:World}(hR:w.heap.size+1<R)(h:Sres w R x0 x1 y0 y1 w0)(hb:Below w0.heap.size w0 w1):Sres w R x0 x1 y0 y1 w1:=by
 obtain⟨b,h1,h2,h3,h4,h5,h6,h7,h8,h9⟩:=h
 have k:∀ p:Addr,p.block≤R→w1.cell? p=w0.cell? p:=fun p hp=>hb.cell (by omega)
 have f:∀ p:Addr,p.block≤R→w1.frozen? p=w0.frozen? p:=fun p hp=>hb.frozen (by omega)
 refine⟨b.trans (hb.mono b.size),by rw[k _ (by simp;omega)];exact h1,by rw[k _ (by simp;omega)];exact h2,by rw[k _ (by simp;omega)];exact h3,by rw[k _ (by simp;omega)];exact h4,?_,?_,by rw[f _ (by simp)];exact h7,by rw[f _ (by simp)];exact h8,Nat.lt_of_lt_of_le h9 hb.size⟩
 ·exact Xr (by rw[k _ (by simp)];exact h5)
 ·exact Xr (by rw[k _ (by simp)];exact h6)
theorem Sres.store{w:World}{R:Nat}{x0 x1 y0 y1:Value}{w0:World}(hR:w.heap.size+1<R)(h:Sres w R x0 x1 y0 y1 w0)(u0 u1:Value):Sres w R x0 x1 y0 y1 ((w0.setCell ⟨R,0,none⟩ u0).setCell ⟨R,1,none⟩ u1):=by
 obtain⟨b,h1,h2,h3,h4,h5,h6,h7,h8,h9⟩:=h
 have k:∀ p:Addr,p.block≠R→((w0.setCell ⟨R,0,none⟩ u0).setCell ⟨R,1,none⟩ u1).cell? p=w0.cell? p:=fun p hp=>by
  rw[World.cell?_setCell_other _ _ _ _ (fun e=>hp (by rw[← e])),World.cell?_setCell_other _ _ _ _ (fun e=>hp (by rw[← e]))]
 refine⟨(b.setCell (by simp;omega) _).setCell (by simp;omega) _,by rw[k _ (by simp;omega)];exact h1,by rw[k _ (by simp;omega)];exact h2,by rw[k _ (by simp;omega)];exact h3,by rw[k _ (by simp;omega)];exact h4,?_,?_,by simp[go_sem,h7],by simp[go_sem,h8],by simpa[World.setCell] using h9⟩
 ·exact Xr (v:=u0) (by simp[go_sem,h5])
 ·exact Xr (v:=u1) (by simp[go_sem,h6])
theorem mul_sval(s t:Bool)(a b:Nat):sval s a*sval t b=sval (s != t) (a*b):=by
 cases s <;> cases t <;> simp[sval,Int.neg_mul,Int.mul_neg]
theorem IntPost.of_made{w w0 w1:World}{s:Bool}{v:Nat}{z:Int}{A:Option Addr}{c:Nat}{e:Ending}(hz:sval s v=z)(he:e=.returned (.agg #[.bool (s && decide (v≠0)),.slice A (wl v) c]))(h1:Shows .u32 w1 A (digs WB v))(h2:wl v≤c)(h3:c≤maxLen)
  (h4:Fresh w0.heap.size A) (h0:Below w.heap.size w w0) (h5:Below w.heap.size w w1):IntPost w z e w1:=by
 subst hz
 refine⟨A,c,?_,?_,?_,h3,h4.mono h0.size,h5⟩
 ·rw[he,Z5,ZbW]
 ·rw[Z5];exact h1
 ·rw[Z5];exact h2
theorem ZJ{W w':World}{Q:Prop}{k:IntKind}{A:Option Addr}{xs:List Nat}(h:Below W.heap.size W w'∧Q)(s:Shows k W A xs):Shows k w' A xs:=s.below h.1
theorem Yo{w W:World}{c0 c1 c2:Array Value}{T0 T1 T2:TypeId}(hb:Below (((w.alloc (.cells c0 T0)).alloc (.cells c1 T1)).alloc (.cells c2 T2)).drew.heap.size (((w.alloc (.cells c0 T0)).alloc (.cells c1 T1)).alloc (.cells c2 T2)).drew W) :
  Below (w.heap.size+1+1+1) (((w.alloc (.cells c0 T0)).alloc (.cells c1 T1)).alloc (.cells c2 T2)) W:=by
 have e:(((w.alloc (.cells c0 T0)).alloc (.cells c1 T1)).alloc (.cells c2 T2)).drew.heap.size=w.heap.size+1+1+1:=by simp
 rw[e]at hb
 exact⟨hb.os,hb.tape,hb.output,hb.size,hb.block⟩
theorem Ud{w w0 w1:World}{R:Nat}{u0 u1:Value}{s:Bool}{v:Nat}{z:Int}{A:Option Addr}{c:Nat}{e:Ending}(B0:Below w.heap.size w w0)(hlt:R<w0.heap.size)(B:Below w.heap.size w w1)(hR:w.heap.size≤R)(hz:sval s v=z)
  (he:e=.returned (.agg #[.bool (s && !decide (v=0)),.slice A (wl v) c])) (h1:Shows .u32 w1 A (digs WB v)) (h2:wl v≤c) (h3:c≤maxLen) (h4:Fresh w0.heap.size A):IntPost w z e ((w1.setCell ⟨R,0,none⟩ u0).setCell ⟨R,1,none⟩ u1):=by
 refine IntPost.of_made hz (by rw[he,← decide_not]) ?_ h2 h3 h4 B0 ((B.setCell hR _).setCell hR _)
 exact(h1.setCell h4 (p:=⟨R,0,none⟩) hlt _).setCell h4 (p:=⟨R,1,none⟩) hlt _
set_option maxRecDepth 100000 in
theorem Mul_any(s t:Bool)(A A':Option Addr)(n m c c':Nat)(x y:Int)(w:World)(hx:AI w s A n c x)(hy:AI w t A' m c' y)(hl:n+m≤900000) :
  Calls Tryz.prog 86 #[.agg #[.bool s,.slice A n c],.agg #[.bool t,.slice A' m c']] w (IntPost w (x*y)):=by
 obtain⟨xs,rfl,X,dx,hcx,hcx2,rfl,-⟩:=hx
 obtain⟨ys,rfl,Y,dy,hcy,hcy2,rfl,-⟩:=hy
 rw[mul_sval]
 have HSx:=lhd (fun w' (h:Shows .u32 w' A xs)=>Xg s A xs c w' h dx hcx hcx2)
 have HSy:=lhd (fun w' (h:Shows .u32 w' A' ys)=>Xg t A' ys c' w' h dy hcy hcy2)
 have HX:=lhd X;have HY:=lhd Y
 have TX:=lhd (X.trim dx);have TY:=lhd (Y.trim dy)
 have hla:wl (val WB xs)≤xs.length:=Zm WB2 (ZT dx)
 have hlb:wl (val WB ys)≤ys.length:=Zm WB2 (ZT dy)
 have hab:wl (val WB xs*val WB ys)≤900000:=by
  refine Nat.le_trans (Zm WB2 (k:=xs.length+ys.length) ?_) hl
  rw[Nat.pow_add]
  exact Nat.mul_lt_mul_of_lt_of_le (ZT dx) (Nat.le_of_lt (ZT dy)) (Nat.pow_pos (by decide))
 generalize xs.length=n at *
 generalize ys.length=m at *
 clear X Y dx dy hcx hcx2 hcy hcy2
 generalize val WB xs=a at *
 generalize val WB ys=b at *
 have HT:=lhd (fun w' (h:Shows .u32 w' A (digs WB a)) (h':Shows .u32 w' A' (digs WB b))=>by
  have:=Zdb A A' (digs WB a) (digs WB b) (wl a) (wl b) w' h h' (Zh WB2 a) (Zh WB2 b) (show wl a≤1000000 by omega) (show wl b≤1000000 by omega)
  rw[Ze WB2,Ze WB2]at this;exact this)
 have hM:=fun (A:Option Addr) (w':World) (h:Shows .u32 w' A (digs WB (a*b)))=>by
  have:=XX (s != t) A (digs WB (a*b)) (wl (a*b)) w' h (Zh WB2 _) (nlr _) (by unfold maxLen;omega) (by rw[Ze WB2];omega)
  rw[Ze WB2]at this;exact this
 change ∀ A w',_→Calls _ _ #[.bool (!(s == t)),.slice A (wl (a*b)) (wl (a*b))] w' _ at hM
 change Hid (∀ w',_→_→Calls _ _ #[.slice A (wl a) (wl a),.slice A' (wl b) (wl b)] w' _) at HT
 have HM:=lhd hM
 clear hM hla hlb hl
 generalize a*b=v at *
 go_enter Tryz.func86,Tryz.ntmps86
 go_wp2_with fail
 have hR:w.heap.size+1<w.heap.size+1+1:=by omega
 go_region_held3 (fun w'=>Below w.heap.size w w'∧w'.cell? ⟨w.heap.size,0,none⟩=some (.bool s)∧w'.cell? ⟨w.heap.size,1,none⟩=some (.slice A n c)∧w'.cell? ⟨w.heap.size+1,0,none⟩=some (.bool t)∧w'.cell? ⟨w.heap.size+1,1,none⟩=some (.slice A' m c') ∧
  w'.cell? ⟨w.heap.size+1+1,0,none⟩=some (cellAt w' ⟨w.heap.size+1+1,0,none⟩)∧w'.cell? ⟨w.heap.size+1+1,1,none⟩=some (cellAt w' ⟨w.heap.size+1+1,1,none⟩)∧w'.frozen? ⟨w.heap.size+1+1,0,none⟩=false∧w'.frozen? ⟨w.heap.size+1+1,1,none⟩=false∧w.heap.size+1+1<w'.heap.size)
  (first
   | (refine⟨(((Below.refl _ _).alloc (Nat.le_refl _) _).alloc (by simp) _).alloc (by simp;omega) _ |>.drew,?_⟩;simp[go_sem,cellAt])
   | (refine Sres.keep hR (by assumption) ?_;first | assumption | exact(Below.refl _ _).alloc (nlr _) _ | exact Zi (Below.refl _ _) _)
   | exact Sres.store hR (by assumption) _ _)
  (first
   | (go_at_call 138;(with_reducible refine(HSx.out _ (ZJ (by assumption) HX.out)).mono ?_);rintro e w' ⟨rfl,hbx⟩)
   | (go_at_call 138;(with_reducible refine(HSy.out _ (ZJ (by assumption) HY.out)).mono ?_);rintro e w' ⟨rfl,hby⟩)
   | (go_at_call 137;(with_reducible refine(HT.out _ (ZJ (by assumption) TX.out) (ZJ (by assumption) TY.out)).mono ?_);rintro e w' ⟨A2,rfl,hs,hf,hbt⟩)
   | (go_at_call 136;(with_reducible refine(HM.out _ _ (by assumption)).mono ?_);rintro e w' ⟨A3,c3,rfl,hs3,k1,k2,hf3,hb3⟩))
 have B2:=hbx.trans (hby.mono hbx.size)
 have B3:=B2.trans (hbt.mono B2.size)
 obtain⟨-,-,-,-,hz0,B0⟩:=ZL (Yo B3)
 obtain⟨-,-,q,-,-,B⟩:=ZL (Yo (B3.trans (hb3.mono B3.size)))
 go_wp2_with fail
 refine bodyPost_ret (v:=.agg #[.bool (s != t && !decide (v=0)),.slice A3 (wl v) c3]) (by simp[results,Tryz.results86,go_sem,q]) rfl ?_
 exact Ud B0 hz0 B (by omega) rfl rfl hs3 k1 k2 hf3
set_option maxRecDepth 100000 in
theorem Zgw(s t:Bool)(A A':Option Addr)(n m c c':Nat)(x y:Int)(w:World)(hx:AI w s A n c x)(hy:AI w t A' m c' y)(hl:n+m≤900000) :
  Calls Tryz.prog 88 #[.agg #[.bool s,.slice A n c],.agg #[.bool t,.slice A' m c']] w (IntPost w (x+y)):=by
 obtain⟨xs,rfl,X,dx,hcx,hcx2,rfl,-⟩:=hx
 obtain⟨ys,rfl,Y,dy,hcy,hcy2,rfl,-⟩:=hy
 have HSx:=lhd (fun w' (h:Shows .u32 w' A xs)=>Xg s A xs c w' h dx hcx hcx2)
 have HSy:=lhd (fun w' (h:Shows .u32 w' A' ys)=>Xg t A' ys c' w' h dy hcy hcy2)
 have HX:=lhd X;have HY:=lhd Y
 have TX:=lhd (X.trim dx);have TY:=lhd (Y.trim dy)
 have hla:wl (val WB xs)≤xs.length:=Zm WB2 (ZT dx)
 have hlb:wl (val WB ys)≤ys.length:=Zm WB2 (ZT dy)
 generalize xs.length=n at *
 generalize ys.length=m at *
 clear X Y dx dy hcx hcx2 hcy hcy2
 generalize val WB xs=a at *
 generalize val WB ys=b at *
 have hR:w.heap.size+1<w.heap.size+1+1:=by omega
 have key:∃ (u:Bool) (v:Nat),sval s a+sval t b=sval u v∧wl v≤900001∧((s == t)=true∧u=s∧v=a+b∨(s == t)=false∧0≤cmpN a b∧b≤a∧u=s∧v=a-b∨(s == t)=false∧cmpN a b<0∧a≤b∧u=t∧v=b-a):=by
  have hsum:wl (a+b)≤900001:=by
   have h1:=Z3 WB2 a
   have h2:=Z3 WB2 b
   change a<WB ^ wl a at h1
   change b<WB ^ wl b at h2
   refine Nat.le_trans (Zm WB2 (k:=max (wl a) (wl b)+1) ?_) (by omega)
   have h3:WB ^ wl a≤WB ^ max (wl a) (wl b):=Nat.pow_le_pow_right (by decide) (by omega)
   have h4:WB ^ wl b≤WB ^ max (wl a) (wl b):=Nat.pow_le_pow_right (by decide) (by omega)
   rw[Nat.pow_succ]
   have h5:WB ^ max (wl a) (wl b)*2≤WB ^ max (wl a) (wl b)*WB:=Nat.mul_le_mul_left _ WB2
   omega
  by_cases h:s=t
  ·subst h
   refine⟨s,a+b,?_,hsum,.inl ⟨beq_self_eq_true s,rfl,rfl⟩⟩
   cases s <;> simp[sval] <;> omega
  ·have hf:(s == t)=false:=by simpa using h
   by_cases hle:b≤a
   ·refine⟨s,a-b,?_,Nat.le_trans (ZV WB2 (by omega:a-b≤a+b)) hsum,.inr (.inl ⟨hf,?_,hle,rfl,rfl⟩)⟩
    ·cases s <;> cases t <;> simp at h <;> simp[sval] <;> omega
    ·unfold cmpN;rw[if_neg (by omega)];split <;> omega
   ·refine⟨t,b-a,?_,Nat.le_trans (ZV WB2 (by omega:b-a≤a+b)) hsum,.inr (.inr ⟨hf,?_,by omega,rfl,rfl⟩)⟩
    ·cases s <;> cases t <;> simp at h <;> simp[sval] <;> omega
    ·unfold cmpN;rw[if_pos (by omega)];omega
 obtain⟨u,v,hsv,hvl,hcase⟩:=key
 rw[hsv]
 clear hsv
 have HC:=lhd (fun w' (h:Shows .u32 w' A (digs WB a)) (h':Shows .u32 w' A' (digs WB b))=>Us A A' a b (wl a) (wl b) w' h h' (by omega))
 have HP:=lhd (fun w' (h:Shows .u32 w' A (digs WB a)) (h':Shows .u32 w' A' (digs WB b))=>by
  have:=Zfi A A' (digs WB a) (digs WB b) (wl a) (wl b) w' h h' (Zh WB2 a) (Zh WB2 b) (show wl a≤1000000 by omega) (show wl b≤1000000 by omega)
  rw[Ze WB2,Ze WB2]at this;exact this)
 have HN1:=lhd (fun w' (hle:b≤a) (h:Shows .u32 w' A (digs WB a)) (h':Shows .u32 w' A' (digs WB b))=>by
  have:=Za8 A A' (digs WB a) (digs WB b) (wl a) (wl b) w' h h' (Zh WB2 a) (Zh WB2 b) (show wl a≤1000000 by omega) (ZV WB2 hle) (by rw[Ze WB2,Ze WB2];exact hle)
  rw[Ze WB2,Ze WB2]at this;exact this)
 have HN2:=lhd (fun w' (hle:a≤b) (h:Shows .u32 w' A (digs WB a)) (h':Shows .u32 w' A' (digs WB b))=>by
  have:=Za8 A' A (digs WB b) (digs WB a) (wl b) (wl a) w' h' h (Zh WB2 b) (Zh WB2 a) (show wl b≤1000000 by omega) (ZV WB2 hle) (by rw[Ze WB2,Ze WB2];exact hle)
  rw[Ze WB2,Ze WB2]at this;exact this)
 change Hid (∀ w',_→_→Calls _ _ #[.slice A (wl a) (wl a),.slice A' (wl b) (wl b)] w' _) at HP
 change Hid (∀ w',_→_→_→Calls _ _ #[.slice A (wl a) (wl a),.slice A' (wl b) (wl b)] w' _) at HN1
 change Hid (∀ w',_→_→_→Calls _ _ #[.slice A' (wl b) (wl b),.slice A (wl a) (wl a)] w' _) at HN2
 have hM:=fun (A:Option Addr) (w':World) (h:Shows .u32 w' A (digs WB v))=>by
  have:=XX u A (digs WB v) (wl v) w' h (Zh WB2 _) (nlr _) (by unfold maxLen;omega) (by rw[Ze WB2];omega)
  rw[Ze WB2]at this;exact this
 change ∀ A w',_→Calls _ _ #[.bool u,.slice A (wl v) (wl v)] w' _ at hM
 have HM:=lhd hM
 clear hM hla hlb hl
 generalize hcm:cmpN a b=cm at *
 clear hcm
 have HK:Hid (((s == t)=true)∧u=s∧v=a+b∨(s == t)=false∧0≤cm∧b≤a∧u=s∧v=a-b∨(s == t)=false∧cm<0∧a≤b∧u=t∧v=b-a):=lhd hcase
 clear hcase
 go_enter Tryz.func88,Tryz.ntmps88
 go_wp2_with fail
 go_region_held3 (fun w'=>Below w.heap.size w w'∧w'.cell? ⟨w.heap.size,0,none⟩=some (.bool s)∧w'.cell? ⟨w.heap.size,1,none⟩=some (.slice A n c)∧w'.cell? ⟨w.heap.size+1,0,none⟩=some (.bool t)∧w'.cell? ⟨w.heap.size+1,1,none⟩=some (.slice A' m c') ∧
  w'.cell? ⟨w.heap.size+1+1,0,none⟩=some (cellAt w' ⟨w.heap.size+1+1,0,none⟩)∧w'.cell? ⟨w.heap.size+1+1,1,none⟩=some (cellAt w' ⟨w.heap.size+1+1,1,none⟩)∧w'.frozen? ⟨w.heap.size+1+1,0,none⟩=false∧w'.frozen? ⟨w.heap.size+1+1,1,none⟩=false∧w.heap.size+1+1<w'.heap.size)
  (first
   | (refine⟨(((Below.refl _ _).alloc (Nat.le_refl _) _).alloc (by simp) _).alloc (by simp;omega) _ |>.drew,?_⟩;simp[go_sem,cellAt])
   | (refine Sres.keep hR (by assumption) ?_;first | assumption | exact(Below.refl _ _).alloc (nlr _) _ | exact Zi (Below.refl _ _) _))
  (first
   | (go_at_call 138;(with_reducible refine(HSx.out _ (ZJ (by assumption) HX.out)).mono ?_);rintro e w' ⟨rfl,hbx⟩)
   | (go_at_call 138;(with_reducible refine(HSy.out _ (ZJ (by assumption) HY.out)).mono ?_);rintro e w' ⟨rfl,hby⟩))
 have B2:=Yo (hbx.trans (hby.mono hbx.size))
 obtain⟨k0,k1,k2,f2,hz,B⟩:=ZL B2
 have X2:=lhd (show Sres w (w.heap.size+1+1) (.bool s) (.slice A n c) (.bool t) (.slice A' m c') w' from⟨B,k0 0,k0 1,k1 0,k1 1,Xr (k2 0),Xr (k2 1),f2 0,f2 1,hz⟩)
 have HB2:=lhd B2
 have q00:=k0 0;have q10:=k1 0
 clear B2 k0 k1 k2 f2 B hbx hby
 obtain⟨w2,h2⟩:=nmx (w')
 subst h2
 rcases HK.out with⟨h1,e2,h3⟩ | ⟨h1,h2,h3,e2,h5⟩ | ⟨h1,h2,h3,e2,h5⟩
 ·have e2':=e2.symm
  subst e2'
  rw[← h3]at HP
  clear h3 e2 HK HN1 HN2 HC HSx HSy
  go_wp2_with fail
  go_region_held3 (fun w'=>Below w.heap.size w w'∧w'.cell? ⟨w.heap.size,0,none⟩=some (.bool s)∧w'.cell? ⟨w.heap.size,1,none⟩=some (.slice A n c)∧w'.cell? ⟨w.heap.size+1,0,none⟩=some (.bool t)∧w'.cell? ⟨w.heap.size+1,1,none⟩=some (.slice A' m c') ∧
  w'.cell? ⟨w.heap.size+1+1,0,none⟩=some (cellAt w' ⟨w.heap.size+1+1,0,none⟩)∧w'.cell? ⟨w.heap.size+1+1,1,none⟩=some (cellAt w' ⟨w.heap.size+1+1,1,none⟩)∧w'.frozen? ⟨w.heap.size+1+1,0,none⟩=false∧w'.frozen? ⟨w.heap.size+1+1,1,none⟩=false∧w.heap.size+1+1<w'.heap.size)
   (first
    | exact⟨X2.out.1.drew,X2.out.2⟩
    | (refine Sres.keep hR (by assumption) ?_;first | assumption | exact(Below.refl _ _).alloc (nlr _) _ | exact Zi (Below.refl _ _) _)
    | exact Sres.store hR (by assumption) _ _)
   (first
    | (go_at_call 140;(with_reducible refine(HP.out _ (ZJ (by assumption) TX.out) (ZJ (by assumption) TY.out)).mono ?_);rintro e w' ⟨A2,rfl,hs,hf,hbt⟩)
    | (go_at_call 136;(with_reducible refine(HM.out _ _ (by assumption)).mono ?_);rintro e w' ⟨A3,c3,rfl,hs3,k1,k2,hf3,hb3⟩))
  have B3:=HB2.out.trans (Below.mono ⟨hbt.os,hbt.tape,hbt.output,hbt.size,hbt.block⟩ hz)
  obtain⟨-,-,-,-,hz0,B0⟩:=ZL B3
  obtain⟨-,-,q,-,-,B⟩:=ZL (B3.trans (hb3.mono (by have:=B3.size;simpa using this)))
  go_wp2_with fail
  refine bodyPost_ret (v:=.agg #[.bool (s && !decide (v=0)),.slice A3 (wl v) c3]) (by simp[results,Tryz.results88,go_sem,q]) rfl ?_
  exact Ud B0 hz0 B (by omega) rfl rfl hs3 k1 k2 hf3
 ·have e2':=e2.symm
  subst e2'
  have h2':¬ cm<0:=by omega
  rw[← h5]at HN1
  clear h5 e2 HK HP HN2 HSx HSy
  go_wp2_with fail
  refine(HC.out _ (ZJ X2.out TX.out) (ZJ X2.out TY.out)).mono ?_
  rintro e w' ⟨rfl,n1,rfl⟩
  go_wp2_with fail
  go_region_held3 (fun w'=>Below w.heap.size w w'∧w'.cell? ⟨w.heap.size,0,none⟩=some (.bool s)∧w'.cell? ⟨w.heap.size,1,none⟩=some (.slice A n c)∧w'.cell? ⟨w.heap.size+1,0,none⟩=some (.bool t)∧w'.cell? ⟨w.heap.size+1,1,none⟩=some (.slice A' m c') ∧
  w'.cell? ⟨w.heap.size+1+1,0,none⟩=some (cellAt w' ⟨w.heap.size+1+1,0,none⟩)∧w'.cell? ⟨w.heap.size+1+1,1,none⟩=some (cellAt w' ⟨w.heap.size+1+1,1,none⟩)∧w'.frozen? ⟨w.heap.size+1+1,0,none⟩=false∧w'.frozen? ⟨w.heap.size+1+1,1,none⟩=false∧w.heap.size+1+1<w'.heap.size)
   (first
    | exact⟨(Zi X2.out.1 _).drew,X2.out.2⟩
    | (refine Sres.keep hR (by assumption) ?_;first | assumption | exact(Below.refl _ _).alloc (nlr _) _ | exact Zi (Below.refl _ _) _)
    | exact Sres.store hR (by assumption) _ _)
   (first
    | (go_at_call 142;(refine(HN1.out _ h3 (ZJ (by assumption) TX.out) (ZJ (by assumption) TY.out)).mono ?_);rintro e w' ⟨A2,rfl,hs,hf,hbt⟩)
    | (go_at_call 136;(with_reducible refine(HM.out _ _ (by assumption)).mono ?_);rintro e w' ⟨A3,c3,rfl,hs3,k1,k2,hf3,hb3⟩))
  have B3:=HB2.out.trans (Below.mono ⟨hbt.os,hbt.tape,hbt.output,hbt.size,hbt.block⟩ hz)
  obtain⟨-,-,-,-,hz0,B0⟩:=ZL B3
  obtain⟨-,-,q,-,-,B⟩:=ZL (B3.trans (hb3.mono (by have:=B3.size;simpa using this)))
  go_wp2_with fail
  refine bodyPost_ret (v:=.agg #[.bool (s && !decide (v=0)),.slice A3 (wl v) c3]) (by simp[results,Tryz.results88,go_sem,q]) rfl ?_
  exact Ud B0 hz0 B (by omega) rfl rfl hs3 k1 k2 hf3
 ·have e2':=e2.symm
  subst e2'
  rw[← h5]at HN2
  clear h5 e2 HK HP HN1 HSx HSy
  go_wp2_with fail
  refine(HC.out _ (ZJ X2.out TX.out) (ZJ X2.out TY.out)).mono ?_
  rintro e w' ⟨rfl,n1,rfl⟩
  go_wp2_with fail
  go_region_held3 (fun w'=>Below w.heap.size w w'∧w'.cell? ⟨w.heap.size,0,none⟩=some (.bool s)∧w'.cell? ⟨w.heap.size,1,none⟩=some (.slice A n c)∧w'.cell? ⟨w.heap.size+1,0,none⟩=some (.bool t)∧w'.cell? ⟨w.heap.size+1,1,none⟩=some (.slice A' m c') ∧
  w'.cell? ⟨w.heap.size+1+1,0,none⟩=some (cellAt w' ⟨w.heap.size+1+1,0,none⟩)∧w'.cell? ⟨w.heap.size+1+1,1,none⟩=some (cellAt w' ⟨w.heap.size+1+1,1,none⟩)∧w'.frozen? ⟨w.heap.size+1+1,0,none⟩=false∧w'.frozen? ⟨w.heap.size+1+1,1,none⟩=false∧w.heap.size+1+1<w'.heap.size)
   (first
    | exact⟨(Zi X2.out.1 _).drew,X2.out.2⟩
    | (refine Sres.keep hR (by assumption) ?_;first | assumption | exact(Below.refl _ _).alloc (nlr _) _ | exact Zi (Below.refl _ _) _)
    | exact Sres.store hR (by assumption) _ _)
   (first
    | (go_at_call 142;(refine(HN2.out _ h3 (ZJ (by assumption) TX.out) (ZJ (by assumption) TY.out)).mono ?_);rintro e w' ⟨A2,rfl,hs,hf,hbt⟩)
    | (go_at_call 136;(with_reducible refine(HM.out _ _ (by assumption)).mono ?_);rintro e w' ⟨A3,c3,rfl,hs3,k1,k2,hf3,hb3⟩))
  have B3:=HB2.out.trans (Below.mono ⟨hbt.os,hbt.tape,hbt.output,hbt.size,hbt.block⟩ hz)
  obtain⟨-,-,-,-,hz0,B0⟩:=ZL B3
  obtain⟨-,-,q,-,-,B⟩:=ZL (B3.trans (hb3.mono (by have:=B3.size;simpa using this)))
  go_wp2_with fail
  refine bodyPost_ret (v:=.agg #[.bool (t && !decide (v=0)),.slice A3 (wl v) c3]) (by simp[results,Tryz.results88,go_sem,q]) rfl ?_
  exact Ud B0 hz0 B (by omega) rfl rfl hs3 k1 k2 hf3
end Go.Proofs.YthkklilhjnpedaaGreatDoor
