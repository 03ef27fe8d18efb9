/- An integer known modulo a product of primes: the least. -/
import Derived.Test.YthkklilhjnpedaaGreatDoorUSrs
import Derived.Shelf.SlSortCmp.Whole1
import Derived.Ground.SlsfProg
import Derived.Test.YthkklilhjnpedaaGreatDoorProg
import Derived.Test.YthkklilhjnpedaaGreatDoorURep
import Derived.Test.YthkklilhjnpedaaGreatDoorUGch
import Derived.Test.YthkklilhjnpedaaGreatDoorUMdk
set_option maxHeartbeats 16000000
set_option maxRecDepth 8000
namespace Go.Proofs.YthkklilhjnpedaaGreatDoor
section
open Go.RowKit FF
attribute [local go_sem] Oper.semAt_some
theorem Yl.eqI{a:Act}{W:World}{o:Oper}{x z:Operand}{p q:Int}(ho:o.op=.binOp .eql 3 x z 3)(hx:a.eval x=.int .i64 p)(hz:a.eval z=.int .i64 q):Yl Tryz.prog o a W (VC (.bool (p == q))):=
 .binOp ho hx hz (by simp[go_sem,eqGuard]) rfl
structure PthV(R14 R16 gL n:Nat)(D:List Int)(v:Nat)(W:World):Prop where
 row:RowN gL D W
 b:BoxSl R14 (.slice (some ⟨gL,0,none⟩) n n) W
 v:NBox R16 (v:Int) W
 len:D.length=n
 bnd:∀ x∈D,-1≤x∧x≤1000000
theorem PthV.keep{R14 R16 gL n:Nat}{D:List Int}{v:Nat}{W W':World}(h:PthV R14 R16 gL n D v W)(hb:Below W.heap.size W W'):PthV R14 R16 gL n D v W':=⟨h.row.keep hb,h.b.keep hb,h.v.keep hb,h.len,h.bnd⟩
theorem ZiM{w:World}{R14 R16 gL n v x:Nat}{D:List Int}{dx dv:Int}(h:PthV R14 R16 gL n D v w)(hx:D[x]?=some dx)(hv:D[v]?=some dv) :
  Calls Tryz.prog 46 #[.int .i64 (x:Int),.pointer (some ⟨R14,0,none⟩),.pointer (some ⟨R16,0,none⟩)] w (Zb (VC (.bool (dx == dv-1))) w):=by
 go_enter Tryz.func46,Tryz.ntmps46
 have q14:=h.b.c0;have q16:=h.v.2
 have HL14:=lhd h.b.lt;have HL16:=lhd h.v.1;have HRow:=lhd h.row
 have HXl:=lhd (show x<n by rw[← h.len];exact(List.getElem?_eq_some_iff.1 hx).1)
 have HVl:=lhd (show v<n by rw[← h.len];exact(List.getElem?_eq_some_iff.1 hv).1)
 have HDx:=lhd hx;have HDv:=lhd hv
 have HDb:=lhd (show -4000000000000000000≤dv-1∧dv-1≤4000000000000000000 by have:=h.bnd dv (mGe hv);omega)
 obtain⟨i0,hi0,-,hz1,-⟩:=info_parts ZM
 clear h hx hv
 go_wp2_with fail
 refine Zu [(0,5,VC (.slice (some ⟨gL,0,none⟩) n n)),(1,6,VC (.int .i64 (x:Int))),(2,7,VC (.pointer (some ⟨gL,x,none⟩))),(3,8,VC (.int .i64 dx)),(4,9,VC (.slice (some ⟨gL,0,none⟩) n n)),(5,10,VC (.int .i64 (v:Int))),(6,11,VC (.pointer (some ⟨gL,v,none⟩))),(7,12,VC (.int .i64 dv)),(8,13,VC (.int .i64 (dv-1))),(9,14,VC (.bool (dx == dv-1))),(10,4,VC (.bool (dx == dv-1)))] (fun _=>True) [5,6,7,8,9,10,11,12,13,14,4] (by kernel_rfl) (by kernel_rfl) (by kernel_rfl) ⟨kv,kv,kv,kv,kv,kv,kv,kv,kv,kv,kv,trivial⟩ (fun _ _ _ _ _=>trivial) trivial (Zl ⟨?_,?_,?_,?_,?_,?_,?_,?_,?_,?_,?_,trivial⟩) ?_
 ·exact .of rfl rfl fun _ _ hB _ _ _=>.load1 rfl (fou (v:=.pointer (some ⟨R14,0,none⟩))) (Za Tryz.underlying40 rfl ((hB.cell (p:=⟨R14,0,none⟩) HL14.out).trans q14)) rfl
 ·exact mvX rfl rfl rfl
 ·exact .of rfl rfl fun _ _ _ _ hV _=>K3 (Yl.rowAt Tryz.underlying40 hi0 hz1 rfl (fgt hV 0 rfl) (fgt hV 1 rfl) HXl.out)
 ·exact .of rfl rfl fun _ _ hB _ hV _=>.load1 rfl (fgt hV 2 rfl) (Za Tryz.underlying3 rfl ((HRow.out.keep hB).cell HDx.out)) rfl
 ·exact .of rfl rfl fun _ _ hB _ _ _=>.load1 rfl (fou (v:=.pointer (some ⟨R14,0,none⟩))) (Za Tryz.underlying40 rfl ((hB.cell (p:=⟨R14,0,none⟩) HL14.out).trans q14)) rfl
 ·exact .of rfl rfl fun _ _ hB _ _ _=>.load1 rfl (fou (v:=.pointer (some ⟨R16,0,none⟩))) (Za Tryz.underlying3 rfl ((hB.cell (p:=⟨R16,0,none⟩) HL16.out).trans q16)) rfl
 ·exact .of rfl rfl fun _ _ _ _ hV _=>K3 (Yl.rowAt Tryz.underlying40 hi0 hz1 rfl (fgt hV 4 rfl) (fgt hV 5 rfl) HVl.out)
 ·exact .of rfl rfl fun _ _ hB _ hV _=>.load1 rfl (fgt hV 6 rfl) (Za Tryz.underlying3 rfl ((HRow.out.keep hB).cell HDv.out)) rfl
 ·exact .of rfl rfl fun _ _ _ _ hV _=>Yl.subI rfl (fgt hV 7 rfl) rfl HDb.out
 ·exact .of rfl rfl fun _ _ _ _ hV _=>Yl.eqI rfl (fgt hV 3 rfl) (fgt hV 8 rfl)
 ·exact .of rfl rfl fun _ _ _ _ hV _=>.assign rfl (fgt hV 9 rfl) rfl
 intro y W hB hE hV
 have e4:y 4=_:=hend hV 10 rfl
 generalize hact:fr _ _ y=act
 simp only[fr,Zf,fC0,fN0,sA0,sZ0,sS0,e4]at hact
 subst hact
 have HB:=lhd hB
 clear e4 hB hE hV q14 q16 hi0 hz1
 go_wp2_with fail
 go_ret
 exact⟨_,rfl,rfl,HB.out⟩
theorem Zg8{w:World}{R14 R16 gL n v j xj:Nat}{D:List Int}{row:List Int}{u:Value}(h:PthV R14 R16 gL n D v w)(hu:NP row u w)(hl:row.length≤1000000)(hin:∀ x∈row,∃ k:Nat,x=(k:Int)∧k<n)(hv:v<n)
  (hj:row[j]?=some (xj:Int)) (hp:D.getD xj (-1)=D.getD v (-1)-1) (hmin:∀ i (k:Nat),i<j→row[i]?=some (k:Int)→D.getD k (-1)≠D.getD v (-1)-1) :
  Calls Tryz.prog 45 #[u,.func (.func 46) #[] #[.pointer (some ⟨R14,0,none⟩),.pointer (some ⟨R16,0,none⟩)]] w (Zb (VC (.int .i64 (j:Int))) w):=by
 obtain⟨A,c,rfl,h1,h2⟩:=hu.len
 obtain⟨m,hm⟩:=nmx (row.length)
 have HV:=lhd hu;have HL:=lhd (show m≤1000000 by omega);have HP:=lhd h;have HIn:=lhd hin;have HJ:=lhd hj;have HPj:=lhd hp;have HMin:=lhd hmin
 have HJl:=lhd (show j<m by rw[hm];exact(List.getElem?_eq_some_iff.1 hj).1)
 have HVd:=lhd (show D[v]?=some (D.getD v (-1)) by rw[gDg,gEe (by rw[h.len];exact hv)];rfl)
 have HM:=lhd hm
 rw[← hm]at h1 ⊢
 clear hu hl h hin hj hp hmin hm hv
 go_enter Tryz.func45,Tryz.ntmps45
 go_wp2_with fail
 go_loopw [4,5,8] (fun s4 _ s8 wr=>∃ i:Nat,s4=.int .i64 0∧s8=.int .i64 i∧i≤j∧Below w.heap.size w wr) (fun _ _ s8 _=>(m-(intOf s8).toNat))
 case atStart=>exact⟨0,rfl,rfl,Nat.zero_le _,brf _ _⟩
 case round =>
  obtain⟨i,rfl,rfl,hil,hB⟩:=hrel
  have HB:=lhd hB
  clear hB
  have hlt:i<m:=by have:=HJl.out;omega
  have HIm:=lhd hlt
  have hti:=deT (p:=((i:Nat):Int)<((m:Nat):Int)) (by omega)
  obtain⟨z,hz⟩:∃ z,row[i]?=some z:=⟨_,gEe (by rw[← HM.out];exact hlt)⟩
  obtain⟨k,rfl,hk⟩:=HIn.out z (mGe hz)
  obtain⟨b,o,rfl,hb,q0⟩:=Zv (Sl.keep HV.out HB.out) hz
  have hkd:D[k]?=some (D.getD k (-1)):=by rw[gDg,gEe (by rw[HP.out.len];exact hk)];rfl
  have HCl:=lhd (ZiM (HP.out.keep HB.out) hkd HVd.out)
  by_cases hij:i=j
  ·subst hij
   obtain rfl:k=xj:=by have:=HJ.out;rw[hz]at this;injection this with this;omega
   have ht:(D.getD k (-1) == D.getD v (-1)-1)=true:=by rw[HPj.out];simp
   rw[ht]at HCl
   clear hz hb hk hkd ht
   go_wp2_with fail
   refine HCl.out.mono ?_
   rintro e w1 ⟨_,rfl,rfl,hb1⟩
   have HB1:=lhd (HB.out.trans (hb1.mono HB.out.size))
   clear hb1 q0
   go_wp2_with fail
   go_ret
   exact⟨_,rfl,rfl,HB1.out⟩
  ·have ht:(D.getD k (-1) == D.getD v (-1)-1)=false:=beq_eq_false_iff_ne.2 (HMin.out i k (by omega) hz)
   rw[ht]at HCl
   have HIj:=lhd (show i<j by omega)
   clear hz hb hk hkd ht hil hij
   go_wp2_with fail
   refine HCl.out.mono ?_
   rintro e w1 ⟨_,rfl,rfl,hb1⟩
   have HB1:=lhd (HB.out.trans (hb1.mono HB.out.size))
   clear hb1 q0
   go_wp2_with fail
   refine⟨⟨i+1,rfl,by rw[Zc HIm.out HL.out],HIj.out,HB1.out⟩,?_⟩
   rw[Zc HIm.out HL.out];simp only[intOf];have:=HIm.out;omega
theorem ZiN{A:Option Addr}{n c R:Nat}{b:Value}{x:Int}{w:World}(h:GBox R (.slice A n c) b w)(h0:0≤x)(h1:x<n):Calls Tryz.prog 74 #[.int .i64 x,.pointer (some ⟨R,0,none⟩)] w (Zb (VC (.bool false)) w):=by
 have q0:=h.2.1;have q1:=h.2.2
 have HH:=lhd (Ks (A:=A) (c:=c) (b:=b) h0 h1 w)
 clear h
 go_enter Tryz.func74,Tryz.ntmps74
 go_wp2_with fail
 refine HH.out.mono ?_
 rintro e w1 ⟨_,rfl,rfl,hb1⟩
 have HB1:=lhd hb1
 clear hb1 q0 q1
 go_wp2_with fail
 go_ret
 exact⟨_,rfl,rfl,HB1.out⟩
theorem Zg9{A:Option Addr}{n c R:Nat}{b u:Value}{l:List Int}{w:World}(h:GBox R (.slice A n c) b w)(hu:NP l u w)(hl:l.length≤1000000)(hin:∀ x∈l,0≤x∧x<(n:Int)) :
  Calls Tryz.prog 45 #[u,.func (.func 74) #[] #[.pointer (some ⟨R,0,none⟩)]] w (Zb (VC (.int .i64 (-1))) w):=by
 obtain⟨A2,c2,rfl,h1,h2⟩:=hu.len
 obtain⟨m,hm⟩:=nmx (l.length)
 have HV:=lhd hu;have HL:=lhd (show m≤1000000 by omega);have HP:=lhd h;have HIn:=lhd hin;have HM:=lhd hm
 rw[← hm]at h1 ⊢
 clear hu hl h hin hm
 go_enter Tryz.func45,Tryz.ntmps45
 go_wp2_with fail
 go_loopw [4,5,8] (fun s4 _ s8 wr=>∃ i:Nat,s4=.int .i64 0∧s8=.int .i64 i∧i≤m∧Below w.heap.size w wr) (fun _ _ s8 _=>(m-(intOf s8).toNat))
 case atStart=>exact⟨0,rfl,rfl,Nat.zero_le _,brf _ _⟩
 case round =>
  obtain⟨i,rfl,rfl,hil,hB⟩:=hrel
  have HB:=lhd hB
  clear hB
  by_cases hlt:i<m
  ·have hti:=deT (p:=((i:Nat):Int)<((m:Nat):Int)) (by omega)
   have HIm:=lhd hlt
   obtain⟨z,hz⟩:∃ z,l[i]?=some z:=⟨_,gEe (by rw[← HM.out];exact hlt)⟩
   obtain⟨hz0,hz1⟩:=HIn.out z (mGe hz)
   obtain⟨b2,o,rfl,hb,q0⟩:=Zv (Sl.keep HV.out HB.out) hz
   have HCl:=lhd (ZiN (HP.out.keep HB.out) hz0 hz1)
   clear hz hz0 hz1 hb
   go_wp2_with fail
   refine HCl.out.mono ?_
   rintro e w1 ⟨_,rfl,rfl,hb1⟩
   have HB1:=lhd (HB.out.trans (hb1.mono HB.out.size))
   clear hb1 q0
   go_wp2_with fail
   refine⟨⟨i+1,rfl,by rw[Zc HIm.out HL.out],HIm.out,HB1.out⟩,?_⟩
   rw[Zc HIm.out HL.out];simp only[intOf];have:=HIm.out;omega
  ·have hti:=deF (p:=((i:Nat):Int)<((m:Nat):Int)) (by omega)
   go_wp2_with fail
   go_ret
   exact⟨_,rfl,rfl,HB.out⟩
theorem ZdM{A:Option Addr}{n c R:Nat}{b u:Value}{l:List Int}{w:World}(h:GBox R (.slice A n c) b w)(hu:NP l u w)(hl:l.length≤1000000)(hin:∀ x∈l,0≤x∧x<(n:Int)) :
  Calls Tryz.prog 73 #[u,.func (.func 74) #[] #[.pointer (some ⟨R,0,none⟩)]] w (Zb (VC (.bool false)) w):=by
 have HI:=lhd (Zg9 h hu hl hin)
 obtain⟨A2,c2,rfl,-,-⟩:=hu.len
 clear hu hl hin h
 go_enter Tryz.func73,Tryz.ntmps73
 go_wp2_with fail
 refine HI.out.mono ?_
 rintro e w1 ⟨_,rfl,rfl,hb1⟩
 have HB1:=lhd hb1
 clear hb1
 go_wp2_with fail
 go_ret
 exact⟨_,rfl,rfl,HB1.out⟩
theorem ZdN{A:Option Addr}{n c:Nat}{b u:Value}{l:List Int}{w:World}(hu:NP l u w)(h0:0<l.length)(hl:l.length≤1000000)(hin:∀ x∈l,0≤x∧x<(n:Int)) :
  Calls Tryz.prog 41 #[.agg #[.slice A n c,b],u] w (Zb (VC (.int .i64 0)) w):=by
 obtain⟨A2,c2,rfl,-,-⟩:=hu.len
 have d0:((l.length:Int) == 0)=false:=beq_eq_false_iff_ne.2 (by omega)
 have HU:=lhd hu;have HL:=lhd hl;have HIn:=lhd hin
 go_enter Tryz.func41,Tryz.ntmps41
 clear hu hl hin h0
 go_upto_region 1 with fail
 have hG:=GBox.new (a:=.slice A n c) (b:=b) (W:=w)
 have hA:=(brf w.heap.size w).alloc (nlr _) (.cells #[.slice A n c,b] 33)
 obtain⟨W0,hW0⟩:=nmx (w.alloc (.cells #[.slice A n c,b] 33))
 obtain⟨R,hR⟩:=nmx (w.heap.size)
 rw[← hW0]at hA hG ⊢
 rw[← hR]at hG ⊢
 have HG:=lhd hG;have HA:=lhd hA;have HUA:=lhd (Sl.keep HU.out hA)
 clear hA hG hW0 hR
 go_wp2_with fail
 refine(ZdM HG.out HUA.out HL.out HIn.out).mono ?_
 rintro e w1 ⟨_,rfl,rfl,hb1⟩
 have HB1:=lhd (HA.out.trans (hb1.mono HA.out.size))
 clear hb1
 go_wp2_with fail
 go_ret
 exact⟨_,rfl,rfl,HB1.out⟩
end
end Go.Proofs.YthkklilhjnpedaaGreatDoor
section
namespace Go.Proofs
open Go.Shelf
def Tryz.sortI_ren:Go.Shelf.Ren:=⟨fun | 6=>29 | 15=>63 | 14=>62 | 28=>109 | 29=>110 | 20=>101 | 21=>102 | 22=>103 | 23=>104 | 24=>105 | 25=>106 | 26=>107 | 27=>108 | 46=>151 | 47=>152 | 48=>153 | 49=>154 | 50=>155 | 57=>186 | n=>n,fun | 22=>40 | 24=>3 | 25=>61 | 3=>3 | 39=>109 | 0=>0 | 53=>135 | 55=>147 | 4=>4 | 46=>139 | 45=>138 | 50=>143 | 5=>5 | 9=>9 | 66=>200 | 70=>204 | 76=>232 | 77=>197 | n=>n,fun | n=>n⟩
theorem Tryz.sortI:Go.Proofs.SlLaysF.n6 Tryz.prog Tryz.sortI_ren:={
 mixed:=by kernel_rfl
 f6:=⟨Tryz.f29.name,by decide,Tryz.func29.trans (congrArg some (by kernel_rfl))⟩
 f14:=⟨Tryz.f62.name,by decide,Tryz.func62.trans (congrArg some (by kernel_rfl))⟩
 f15:=Tryz.func63.trans (congrArg some (by kernel_rfl))
 f20:=⟨Tryz.f101.name,by decide,Tryz.func101.trans (congrArg some (by kernel_rfl))⟩
 f21:=⟨Tryz.f102.name,by decide,Tryz.func102.trans (congrArg some (by kernel_rfl))⟩
 f22:=⟨Tryz.f103.name,by decide,Tryz.func103.trans (congrArg some (by kernel_rfl))⟩
 f23:=⟨Tryz.f104.name,by decide,Tryz.func104.trans (congrArg some (by kernel_rfl))⟩
 f24:=⟨Tryz.f105.name,by decide,Tryz.func105.trans (congrArg some (by kernel_rfl))⟩
 f25:=⟨Tryz.f106.name,by decide,Tryz.func106.trans (congrArg some (by kernel_rfl))⟩
 f26:=⟨Tryz.f107.name,by decide,Tryz.func107.trans (congrArg some (by kernel_rfl))⟩
 f27:=⟨Tryz.f108.name,by decide,Tryz.func108.trans (congrArg some (by kernel_rfl))⟩
 f28:=Tryz.func109.trans (congrArg some (by kernel_rfl))
 f29:=Tryz.func110.trans (congrArg some (by kernel_rfl))
 f46:=⟨Tryz.f151.name,by decide,Tryz.func151.trans (congrArg some (by kernel_rfl))⟩
 f47:=Tryz.func152.trans (congrArg some (by kernel_rfl))
 f48:=Tryz.func153.trans (congrArg some (by kernel_rfl))
 f49:=⟨Tryz.f154.name,by decide,Tryz.func154.trans (congrArg some (by kernel_rfl))⟩
 f50:=⟨Tryz.f155.name,by decide,Tryz.func155.trans (congrArg some (by kernel_rfl))⟩
 f57:=⟨Tryz.f186.name,by decide,Tryz.func186.trans (congrArg some (by kernel_rfl))⟩
 t0:=Tryz.underlying0
 a0:=Tryz.isAgg0
 z0:=Tryz.sizeOf0
 v0:=Tryz.zeroValue0
 t3:=Tryz.underlying3
 a3:=Tryz.isAgg3
 z3:=Tryz.sizeOf3
 v3:=Tryz.zeroValue3
 t4:=Tryz.underlying4
 a4:=Tryz.isAgg4
 z4:=Tryz.sizeOf4
 v4:=Tryz.zeroValue4
 t5:=Tryz.underlying5
 a5:=Tryz.isAgg5
 z5:=Tryz.sizeOf5
 v5:=Tryz.zeroValue5
 t9:=Tryz.underlying9
 a9:=Tryz.isAgg9
 z9:=Tryz.sizeOf9
 v9:=Tryz.zeroValue9
 t22:=Tryz.underlying40
 a22:=Tryz.isAgg40
 z22:=Tryz.sizeOf40
 v22:=Tryz.zeroValue40
 a24:=Tryz.isAgg3
 z24:=Tryz.sizeOf3
 t25:=Tryz.underlying61
 a25:=Tryz.isAgg61
 z25:=Tryz.sizeOf61
 v25:=Tryz.zeroValue61
 t39:=Tryz.underlying109
 a39:=Tryz.isAgg109
 z39:=Tryz.sizeOf109
 v39:=Tryz.zeroValue109
 t45:=Tryz.underlying138
 a45:=Tryz.isAgg138
 z45:=Tryz.sizeOf138
 v45:=Tryz.zeroValue138
 t46:=Tryz.underlying139
 a46:=Tryz.isAgg139
 z46:=Tryz.sizeOf139
 v46:=Tryz.zeroValue139
 t50:=Tryz.underlying143
 a50:=Tryz.isAgg143
 z50:=Tryz.sizeOf143
 v50:=Tryz.zeroValue143
 t53:=Tryz.underlying135
 a53:=Tryz.isAgg135
 z53:=Tryz.sizeOf135
 v53:=Tryz.zeroValue135
 t55:=Tryz.underlying147
 a55:=Tryz.isAgg147
 z55:=Tryz.sizeOf147
 v55:=Tryz.zeroValue147
 t66:=Tryz.underlying200
 a66:=Tryz.isAgg200
 z66:=Tryz.sizeOf200
 v66:=Tryz.zeroValue200
 t70:=Tryz.underlying204
 a70:=Tryz.isAgg204
 z70:=Tryz.sizeOf204
 v70:=Tryz.zeroValue204
 t76:=Tryz.underlying232
 a76:=Tryz.isAgg232
 z76:=Tryz.sizeOf232
 v76:=Tryz.zeroValue232
 t77:=Tryz.underlying197
 a77:=Tryz.isAgg197
 z77:=Tryz.sizeOf197
 v77:=Tryz.zeroValue197 }
end Go.Proofs
end
section
namespace FF
def cmat(g:Hw):Hw:=⟨(g.a+2*g.b) % 5,(g.c+2*g.d) % 5,(-g.c+2*g.d) % 5,(g.a-2*g.b) % 5⟩
def cmul(m n:Hw):Hw:=⟨(m.a*n.a+m.b*n.c) % 5,(m.a*n.b+m.b*n.d) % 5,(m.c*n.a+m.d*n.c) % 5,(m.c*n.b+m.d*n.d) % 5⟩
def inv5(n:Int):Int:=[0,1,3,2,4].getD n.toNat 0
def cby(m:Hw):Int:=if m.a≠0 then inv5 m.a else if m.b≠0 then inv5 m.b else if m.c≠0 then inv5 m.c else inv5 m.d
def ZS(m:Hw):Hw:=⟨m.a*cby m % 5,m.b*cby m % 5,m.c*cby m % 5,m.d*cby m % 5⟩
def cdet(m:Hw):Int:=(m.a*m.d-m.b*m.c) % 5
def up5:List Int:=[0,1,2,3,4]
def cls0:List Hw:=up5.flatMap fun i=>up5.flatMap fun k=>if i≠0 then [⟨0,1,i,k⟩] else []
def cls1:List Hw:=up5.flatMap fun i=>up5.flatMap fun k=>up5.flatMap fun j=>if cdet ⟨1,i,k,j⟩≠0 then [⟨1,i,k,j⟩] else []
def clsL:List Hw:=cls0++cls1
def cidx(m:Hw):Nat:=clsL.idxOf m
def insI(x:Int):List Int→List Int
 | []=>[x]
 | y::l=>if x≤y then x::y::l else y::insI x l
def srtI:List Int→List Int
 | []=>[]
 | x::l=>insI x (srtI l)
def Um(p:Int):List Hw:=(genL p).map cmat
def nbrs(p:Int)(m:Hw):List Int:=srtI ((Um p).map fun g=>(cidx (ZS (cmul m g)):Int))
def ZU(p:Int):List (List Int):=clsL.map (nbrs p)
def ZX(m:Hw):List UInt8:=[(48+m.a).toNat.toUInt8,44,(48+m.b).toNat.toUInt8,44,(48+m.c).toNat.toUInt8,44,(48+m.d).toNat.toUInt8]
def Xl:List (List UInt8):=clsL.map ZX
theorem XU:clsL.length=120:=by decide +kernel
theorem ZiO:clsL.Nodup:=by decide +kernel
end FF
end
section
namespace FF
theorem mm5(A B C D:Int):(A % 5*(B % 5)+C % 5*(D % 5)) % 5=(A*B+C*D) % 5:=by
 simp[Int.add_emod,Int.mul_emod]
theorem eq5{a b k:Int}(h:a=b+5*k):a % 5=b % 5:=by
 rw[h,Int.add_mul_emod_self_left]
theorem cmat_mul(x g:Hw):cmat (qtm x g)=cmul (cmat x) (cmat g):=by
 obtain⟨a,b,c,d⟩:=x
 obtain⟨e,f,g,h⟩:=g
 simp only[cmat,cmul,qtm,mm5,Hw.mk.injEq]
 refine⟨?_,?_,?_,?_⟩
 ·exact eq5 (k:=-(b*f+d*h)) (by grind)
 ·exact eq5 (k:=d*f-b*h) (by grind)
 ·exact eq5 (k:=b*h-d*f) (by grind)
 ·exact eq5 (k:=-(b*f+d*h)) (by grind)
def csm(k:Int)(m:Hw):Hw:=⟨m.a*k % 5,m.b*k % 5,m.c*k % 5,m.d*k % 5⟩
theorem ZeD(m:Hw):ZS m=csm (cby m) m:=rfl
theorem mk5(A B C D k:Int):(A*k % 5*B+C*k % 5*D) % 5=(A*B+C*D) % 5*k % 5:=by
 have h1:(A*k % 5*B+C*k % 5*D) % 5=(A*k*B+C*k*D) % 5:=by simp[Int.add_emod,Int.mul_emod]
 have h2:(A*B+C*D) % 5*k % 5=((A*B+C*D)*k) % 5:=by simp[Int.mul_emod]
 rw[h1,h2]
 congr 1
 grind
theorem cmul_csm(k:Int)(m n:Hw):cmul (csm k m) n=csm k (cmul m n):=by
 simp only[cmul,csm,mk5]
def In5(m:Hw):Prop:=m.a∈up5∧m.b∈up5∧m.c∈up5∧m.d∈up5
theorem ZcK{n:Int}(h0:0≤n)(h1:n<5):n∈up5:=by
 have:n=0∨n=1∨n=2∨n=3∨n=4:=by omega
 rcases this with rfl | rfl | rfl | rfl | rfl <;> decide
theorem YU(n:Int):n % 5∈up5:=ZcK (by omega) (by omega)
theorem KQ(g:Hw):In5 (cmat g):=⟨YU _,YU _,YU _,YU _⟩
theorem ZeE(m n:Hw):In5 (cmul m n):=⟨YU _,YU _,YU _,YU _⟩
theorem all_csm:∀ k∈[1,2,3,4],∀ a∈up5,∀ b∈up5,∀ c∈up5,∀ d∈up5,ZS (csm k ⟨a,b,c,d⟩)=ZS ⟨a,b,c,d⟩:=by decide +kernel
theorem all_by:∀ a∈up5,∀ b∈up5,∀ c∈up5,∀ d∈up5,cdet ⟨a,b,c,d⟩≠0→cby ⟨a,b,c,d⟩∈[1,2,3,4]∧ZS ⟨a,b,c,d⟩∈clsL:=by decide +kernel
theorem Zdk{k:Int}(hk:k∈[1,2,3,4]){m:Hw}(hm:In5 m):ZS (csm k m)=ZS m:=all_csm k hk _ hm.1 _ hm.2.1 _ hm.2.2.1 _ hm.2.2.2
theorem Zdl{m:Hw}(hm:In5 m)(hd:cdet m≠0):cby m∈[1,2,3,4]∧ZS m∈clsL:=all_by _ hm.1 _ hm.2.1 _ hm.2.2.1 _ hm.2.2.2 hd
theorem Zha{m:Hw}(hm:In5 m)(hd:cdet m≠0)(n:Hw):ZS (cmul (ZS m) n)=ZS (cmul m n):=by
 rw[ZeD m,cmul_csm,Zdk (Zdl hm hd).1 (ZeE m n)]
theorem Zdm(x:Hw):cdet (cmat x)=hsum x % 5:=by
 obtain⟨a,b,c,d⟩:=x
 have h:∀ A B C D:Int,(A % 5*(B % 5)-C % 5*(D % 5)) % 5=(A*B-C*D) % 5:=fun A B C D=>by simp[Int.sub_emod,Int.mul_emod]
 simp only[cdet,cmat,h,hsum]
 exact eq5 (k:=-(b*b+d*d)) (by grind)
def vtx(x:Hw):Hw:=ZS (cmat x)
theorem vtx_mem{x:Hw}(h:hsum x % 5≠0):vtx x∈clsL:=(Zdl (KQ x) (by rw[Zdm];exact h)).2
theorem vtx_mul{x:Hw}(h:hsum x % 5≠0)(g:Hw):vtx (qtm x g)=ZS (cmul (vtx x) (cmat g)):=by
 unfold vtx
 rw[cmat_mul,Zha (KQ x) (by rw[Zdm];exact h)]
def qscl(k:Int)(x:Hw):Hw:=⟨k*x.a,k*x.b,k*x.c,k*x.d⟩
theorem ZiP(k:Int)(x:Hw):cmat (qscl k x)=csm k (cmat x):=by
 obtain⟨a,b,c,d⟩:=x
 have h:∀ A:Int,A % 5*k % 5=(A*k) % 5:=fun A=>by simp[Int.mul_emod]
 simp only[cmat,csm,qscl,h,Hw.mk.injEq]
 refine⟨?_,?_,?_,?_⟩ <;> (congr 1;grind)
theorem csm_mod(k:Int)(m:Hw):csm k m=csm (k % 5) m:=by
 have h:∀ A:Int,A*k % 5=A*(k % 5) % 5:=fun A=>by simp[Int.mul_emod]
 simp only[csm,← h]
theorem vtx_qscl{k:Int}(hk:k % 5≠0)(x:Hw):vtx (qscl k x)=vtx x:=by
 unfold vtx
 rw[ZiP,csm_mod]
 have:k % 5=1∨k % 5=2∨k % 5=3∨k % 5=4:=by omega
 exact Zdk (by rcases this with h | h | h | h <;> rw[h] <;> decide) (KQ x)
theorem ZaK(x:Int):∀ l,(insI x l).Perm (x::l)
 | []=>List.Perm.refl _
 | y::l=>by
  unfold insI
  split
  ·exact List.Perm.refl _
  ·exact((ZaK x l).cons y).trans (List.Perm.swap x y l)
theorem Uv:∀ l,(srtI l).Perm l
 | []=>List.Perm.refl _
 | x::l=>(ZaK x (srtI l)).trans ((Uv l).cons x)
theorem ZeF(x:Int):∀ {l:List Int},l.Pairwise (·≤·)→(insI x l).Pairwise (·≤·)
 | [],_=>by simp[insI]
 | y::l,h=>by
  have h2:=List.pairwise_cons.1 h
  unfold insI
  split
  ·rename_i hxy
   refine List.pairwise_cons.2 ⟨fun z hz=>?_,h⟩
   rcases List.mem_cons.1 hz with rfl | hz
   ·exact hxy
   ·exact Int.le_trans hxy (h2.1 z hz)
  ·rename_i hxy
   refine List.pairwise_cons.2 ⟨fun z hz=>?_,ZeF x h2.2⟩
   rcases List.mem_cons.1 ((ZaK x l).mem_iff.1 hz) with rfl | hz
   ·omega
   ·exact h2.1 z hz
theorem ZeG:∀ l,(srtI l).Pairwise (·≤·)
 | []=>List.Pairwise.nil
 | x::l=>ZeF x (ZeG l)
theorem vtx_edge{p:Int}{x g:Hw}(h:hsum x % 5≠0)(hg:g∈genL p):(cidx (vtx (qtm x g)):Int)∈nbrs p (vtx x):=by
 rw[vtx_mul h]
 exact(Uv _).mem_iff.2 (List.mem_map.2 ⟨cmat g,List.mem_map_of_mem hg,rfl⟩)
def qcj(x:Hw):Hw:=⟨x.a,-x.b,-x.c,-x.d⟩
theorem conj13:∀ g∈genL 13,qcj g∈genL 13∧hsum g=13:=by decide +kernel
theorem conj17:∀ g∈genL 17,qcj g∈genL 17∧hsum g=17:=by decide +kernel
theorem hsum_qtm(x y:Hw):hsum (qtm x y)=hsum x*hsum y:=by
 obtain⟨a,b,c,d⟩:=x
 obtain⟨e,f,g,h⟩:=y
 simp only[qtm,hsum]
 grind
theorem qtm_conj(x g:Hw):qtm (qtm x g) (qcj g)=qscl (hsum g) x:=by
 obtain⟨a,b,c,d⟩:=x
 obtain⟨e,f,g,h⟩:=g
 simp only[qtm,qcj,qscl,hsum,Hw.mk.injEq]
 refine⟨?_,?_,?_,?_⟩ <;> grind
theorem qtm_qscl(k:Int)(x g:Hw):qtm (qscl k x) g=qscl k (qtm x g):=by
 obtain⟨a,b,c,d⟩:=x
 obtain⟨e,f,g,h⟩:=g
 simp only[qtm,qscl,Hw.mk.injEq]
 refine⟨?_,?_,?_,?_⟩ <;> grind
end FF
end
namespace Go.Proofs.YthkklilhjnpedaaGreatDoor
section
open Go.RowKit FF
open Go.Sort (SWO Holds PermIn SortedIn grow putRow)
theorem ltI(x y:Int):ltOf Lib.compareInt x y=decide (x<y):=by
 unfold ltOf Lib.compareInt
 by_cases h1:x<y
 ·simp[h1]
 ·by_cases h2:y<x <;> simp[h1,h2]
theorem swoI:SWO (ltOf Lib.compareInt) where
 irrefl x:=by rw[ltI];simp
 trans x y z h1 h2:=by rw[ltI]at *;simp at *;omega
 ntrans x y z h1 h2:=by rw[ltI]at *;simp at *;omega
theorem ZcL{α:Type}[Inhabited α](enc:α→Value)(W:World)(blk off n:Nat)(d:Array α)(os:Array Obj){j:Nat}(hj:j<W.heap.size)(hn:j≠blk):(sortWorld enc W blk off n d os).heap[j]?=W.heap[j]?:=by
 simp only[sortWorld,Sort.grow,Sort.putRow,Sort.mapBlock,Sort.ahead]
 rw[Array.getElem?_append_left (by simpa using hj),Array.getElem?_modify,if_neg (Ne.symm hn)]
theorem Kw{α:Type}[Inhabited α](enc:α→Value)(W:World)(blk off n:Nat)(d:Array α)(os:Array Obj):W.heap.size≤(sortWorld enc W blk off n d os).heap.size:=by
 simp[sortWorld,Sort.grow,Sort.putRow,Sort.mapBlock,Sort.ahead]
theorem Zck{α:Type}[Inhabited α](enc:α→Value)(w W:World)(blk off n:Nat)(d:Array α)(os:Array Obj)(hb:Below w.heap.size w W)(hblk:w.heap.size≤blk):Below w.heap.size w (sortWorld enc W blk off n d os):=by
 refine⟨hb.os,hb.tape,hb.output,Nat.le_trans hb.size (Kw enc W blk off n d os),fun j hj=>?_⟩
 rw[ZcL enc W blk off n d os (nLl hj hb.size) (by omega)]
 exact hb.block j hj
theorem Zdn:∀ {l l':List Int},l.Perm l'→l.Pairwise (·≤·)→l'.Pairwise (·≤·)→l=l'
 | [],l',hp,_,_=>(List.nil_perm.1 hp).symm
 | x::l,[],hp,_,_=>absurd hp.length_eq (by simp)
 | x::l,y::l',hp,h1,h2=>by
  rw[List.pairwise_cons]at h1 h2
  have hxy:x=y:=by
   rcases List.mem_cons.1 (hp.mem_iff.1 lm0:x∈y::l') with e | e
   ·exact e
   ·rcases List.mem_cons.1 (hp.mem_iff.2 lm0:y∈x::l) with e' | e'
    ·exact e'.symm
    ·exact Int.le_antisymm (h1.1 y e') (h2.1 x e)
  subst hxy
  rw[Zdn hp.cons_inv h1.2 h2.2]
theorem Zhb{w W:World}{g cap:Nat}{rs:List (Int × List Value)}(h:Own eNum w (.slice (some ⟨g,0,none⟩) rs.length cap) rs W):Holds (Value.int .i64) W g 0 (rs.map (·.1)).toArray:=by
 intro j hj
 have hj':j<rs.length:=by simpa using hj
 have hz:(rs.map (·.1))[j]?=some (rs.map (·.1)).toArray[j]!:=by
  rw[getElem!_pos (rs.map (·.1)).toArray j hj,List.getElem_toArray];exact gEe _
 refine⟨?_,h.fz _⟩
 obtain⟨hc,he⟩:=h.cell (gEe hj')
 have he':rs[j].2=[.int .i64 rs[j].1]:=he
 have:=hc 0 (.int .i64 rs[j].1) (by rw[he'];rfl)
 rw[show j*eNum.n+0=0+j by show j*1+0=0+j;omega]at this
 rw[this,getElem!_pos (rs.map (·.1)).toArray j hj]
 simp
theorem sort_num{w W:World}{v:Value}{rs:List (Int × List Value)}(h:Own eNum w v rs W)(hne:0<rs.length)(hl:rs.length≤1000000) :
  Calls Tryz.prog 29 #[v,.func (.func 30) #[] #[]] W fun e w'=>e=.returned (.tuple #[])∧NP (srtI (rs.map (·.1))) v w'∧Below w.heap.size w w':=by
 obtain⟨b,cap,rfl,h1,h2,h3,h4⟩:=h.form hne
 have hH:=Zhb h
 have hs:(rs.map (·.1)).toArray.size=rs.length:=by simp
 have hcl:CmpLays1 Tryz.prog 30 #[] (Value.int .i64) Lib.compareInt b 0 (rs.map (·.1)).toArray.size W:=fun m os dk _ x y=>(Tryz.cmp_Compare_int x y _).mono fun e w' hg=>by
  obtain⟨rfl,rfl⟩:=hg
  exact⟨rfl,0,#[],by rw[Sort.grow_empty];rfl⟩
 have hc:=Any.slices_SortFunc Tryz.sortI (Value.int .i64) (fun _=>rfl) Lib.compareInt swoI 30 #[] b 0 cap (rs.map (·.1)).toArray W (enters_of Tryz.func30 (by kernel_rfl) rfl) hcl hH h4 (by rw[hs];omega)
 rw[hs]at hc
 refine hc.mono ?_
 rintro e w' ⟨rfl,d',n,os,⟨hp1,hp2,hp3⟩,hso,rfl⟩
 rw[hs]at hp1
 have hd:d'.toList.Perm (rs.map (·.1)):=by
  have e1:(d'.extract 0 rs.length).toList=d'.toList:=by simp[← hp1]
  have e2:((rs.map (·.1)).toArray.extract 0 rs.length).toList=rs.map (·.1):=by simp;exact List.take_of_length_le (by simp)
  rw[e1,e2]at hp3
  exact hp3
 have hlen:d'.toList.length=rs.length:=by simp[hp1]
 have hasc:d'.toList.Pairwise (·≤·):=by
  refine List.pairwise_iff_getElem.2 fun i j hi hj hij=>?_
  have:=hso i j (Nat.zero_le _) hij (by rw[hlen]at hj;exact hj)
  have hi':i<d'.size:=by simpa using hi
  have hj':j<d'.size:=by simpa using hj
  rw[getElem!_pos d' i hi',getElem!_pos d' j hj',ltI]at this
  have:=of_decide_eq_false this
  simp only[Array.getElem_toList]
  omega
 have he:d'.toList=srtI (rs.map (·.1)):=Zdn (hd.trans (Uv _).symm) hasc (ZeG _)
 refine⟨rfl,?_,Zck _ w W b 0 n d' os h.below h3⟩
 have hh:Holds (Value.int .i64) (sortWorld (Value.int .i64) W b 0 n d' os) b 0 d':=SW.holds ⟨n,os,rfl⟩ h4 hH (by rw[hp1,hs])
 rw[← he]
 refine⟨_,_,by rw[hlen],by rw[hlen];exact h1,h2,fun _=>⟨b,0,rfl,nLl h4 (Kw ..),fun i z hz=>⟨[.int .i64 z],rfl,fun d u hd=>?_⟩⟩⟩
 have hi:i<d'.size:=by have:=(List.getElem?_eq_some_iff.1 hz).1;simpa using this
 have hd0:d=0:=by have:=(List.getElem?_eq_some_iff.1 hd).1;simpa using this
 subst hd0
 have h5:=(hh i hi).1
 rw[getElem!_pos d' i hi]at h5
 have h6:d'[i]=z:=by have:=(List.getElem?_eq_some_iff.1 hz).2;simpa using this
 have h7:u=.int .i64 z:=by simpa using hd.symm
 rw[h6]at h5
 rw[h7,show 0+i*eNum.n+0=0+i by show 0+i*1+0=0+i;omega]
 exact h5
theorem ZaL{w:World}{Rw k:Nat}{a b c d:Value}{x m:Int}(hL:Rw<w.heap.size)(k0:w.cell? ⟨Rw,k,none⟩=some a)(k1:w.cell? ⟨Rw,k+1,none⟩=some b)(k2:w.cell? ⟨Rw,k+2,none⟩=some c)(k3:w.cell? ⟨Rw,k+2+1,none⟩=some d)
  (hx:IC w a b x) (hm:IC w c d m) (hx2:Wn 4 x) (hm2:Wn 4 m) :
  Calls Tryz.prog 124 #[.pointer (some ⟨Rw,k,none⟩)] w (Zb (VI (if 0<sgn (x+x-m) then x-m else x)) w):=by
 obtain⟨z,hz⟩:=nmx (if 0<sgn (x+x-m) then x-m else x)
 rw[← hz]
 have HZ:=lhd hz
 clear hz
 have HX:=lhd hx;have HM:=lhd hm;have HLt:=lhd hL
 have HK0:=lhd k0;have HK1:=lhd k1;have HK2:=lhd k2;have HK3:=lhd k3
 have HWx:=lhd hx2;have HWm:=lhd hm2
 have HWxx:=lhd (hx2.add hx2)
 have HBA:=lhd ((brf w.heap.size w).alloc (nlr _) (.cells #[.bool false,.slice none 0 0] 57))
 have HNB:=lhd (IBox.new (Xt w))
 clear hL k0 k1 k2 k3 hx hm hx2 hm2
 go_enter Tryz.func124,Tryz.ntmps124
 go_upto_region 1 with fail
 obtain⟨W1,hW1⟩:=nmx (w.alloc (.cells #[.bool false,.slice none 0 0] 57))
 rw[← hW1]at HBA HNB
 rw[← hW1]
 obtain⟨Q,hQ⟩:=nmx (w.heap.size)
 rw[← hQ]at HNB
 rw[← hQ]
 have HQ:=lhd hQ
 clear hW1 hQ
 have HX1:=lhd (HX.out.keep HBA.out);have HM1:=lhd (HM.out.keep HBA.out)
 have HL1:=lhd (nLl HLt.out HBA.out.size)
 have HC0:=lhd ((HBA.out.cell (p:=⟨Rw,k,none⟩) HLt.out).trans HK0.out)
 have HC1:=lhd ((HBA.out.cell (p:=⟨Rw,k+1,none⟩) HLt.out).trans HK1.out)
 have HC2:=lhd ((HBA.out.cell (p:=⟨Rw,k+2,none⟩) HLt.out).trans HK2.out)
 have HC3:=lhd ((HBA.out.cell (p:=⟨Rw,k+2+1,none⟩) HLt.out).trans HK3.out)
 clear HX HM HLt HK0 HK1 HK2 HK3
 refine Zu [(0,3,VC (.pointer (some ⟨Rw,k,none⟩))),(1,4,VC (.pointer (some ⟨Rw,k,none⟩))),(2,5,VC (.pointer (some ⟨Rw,k,none⟩))),(3,6,VI x),(4,7,VC (.pointer (some ⟨Rw,k,none⟩))),(5,8,VC (.pointer (some ⟨Rw,k,none⟩))),(6,9,VC (.pointer (some ⟨Rw,k,none⟩))),(7,10,VI x),(8,11,VI (x+x)),(9,12,VC (.pointer (some ⟨Rw,k,none⟩))),(10,13,VC (.pointer (some ⟨Rw,k,none⟩))),(11,14,VC (.pointer (some ⟨Rw,k+2,none⟩))),(12,15,VI m),(13,16,VC (.int .i64 (sgn (x+x-m)))),(14,17,VC (.bool (decide (0<sgn (x+x-m)))))] (fun _=>True) [3,4,5,6,7,8,9,10,11,12,13,14,15,16,17] (by kernel_rfl) (by kernel_rfl) (by kernel_rfl) ⟨kv,kv,kv,Keeps.vi _,kv,kv,kv,Keeps.vi _,Keeps.vi _,kv,kv,kv,Keeps.vi _,kv,kv,trivial⟩ (fun _ _ _ _ _=>trivial) trivial (Zl ⟨?_,?_,?_,?_,?_,?_,?_,?_,?_,?_,?_,?_,?_,?_,?_,trivial⟩) ?_
 ·exact mvX rfl rfl rfl
 ·exact .of rfl rfl fun _ _ _ _ hV _=>.nilCheck rfl (fgt hV 0 rfl) rfl
 ·exact .of rfl rfl fun _ _ _ _ hV _=>.fieldAddr rfl (fgt hV 1 rfl) (by kernel_rfl) rfl
 ·exact .of rfl rfl fun _ _ hB _ hV _=>.loadI' hB HL1.out HC0.out HC1.out HX1.out rfl (fgt hV 2 rfl)
 ·exact mvX rfl rfl rfl
 ·exact .of rfl rfl fun _ _ _ _ hV _=>.nilCheck rfl (fgt hV 4 rfl) rfl
 ·exact .of rfl rfl fun _ _ _ _ hV _=>.fieldAddr rfl (fgt hV 5 rfl) (by kernel_rfl) rfl
 ·exact .of rfl rfl fun _ _ hB _ hV _=>.loadI' hB HL1.out HC0.out HC1.out HX1.out rfl (fgt hV 6 rfl)
 ·exact .of rfl rfl fun _ _ _ _ hV _=>by obtain⟨u3,v3,e3,h3⟩:=hge hV 3 rfl;obtain⟨u7,v7,e7,h7⟩:=hge hV 7 rfl;exact .call Tryz.func88 (by kernel_rfl) rfl rfl rfl (Zg ((fri).trans e3) ((fri).trans e7)) (cAdd h3 h7 HWx.out HWx.out (by omega))
 ·exact mvX rfl rfl rfl
 ·exact .of rfl rfl fun _ _ _ _ hV _=>.nilCheck rfl (fgt hV 9 rfl) rfl
 ·exact .of rfl rfl fun _ _ _ _ hV _=>.fieldAddr rfl (fgt hV 10 rfl) (by kernel_rfl) rfl
 ·exact .of rfl rfl fun _ _ hB _ hV _=>.loadI' hB HL1.out HC2.out HC3.out HM1.out rfl (fgt hV 11 rfl)
 ·exact .of rfl rfl fun _ _ _ _ hV _=>by obtain⟨u8,v8,e8,h8⟩:=hge hV 8 rfl;obtain⟨u12,v12,e12,h12⟩:=hge hV 12 rfl;exact .call Tryz.func128 (by kernel_rfl) rfl rfl rfl (Zg ((fri).trans e8) ((fri).trans e12)) (cCmp h8 h12 HWxx.out HWm.out (by omega))
 ·exact .of rfl rfl fun _ _ _ _ hV _=>.binOp rfl (fgt hV 13 rfl) rfl (by simp[go_sem,eqGuard]) rfl
 intro y W2 hB hE hV
 have eV:y 17=_:=hend hV 14 rfl
 have HX2:=lhd (HX1.out.keep hB);have HM2:=lhd (HM1.out.keep hB)
 have HL2:=lhd (nLl HL1.out hB.size)
 have HD0:=lhd ((hB.cell (p:=⟨Rw,k,none⟩) HL1.out).trans HC0.out)
 have HD1:=lhd ((hB.cell (p:=⟨Rw,k+1,none⟩) HL1.out).trans HC1.out)
 have HD2:=lhd ((hB.cell (p:=⟨Rw,k+2,none⟩) HL1.out).trans HC2.out)
 have HD3:=lhd ((hB.cell (p:=⟨Rw,k+2+1,none⟩) HL1.out).trans HC3.out)
 have HNB2:=lhd (HNB.out.keep hB)
 have HB2:=lhd (HBA.out.trans (hB.mono HBA.out.size))
 clear hB hE hV HX1 HM1 HL1 HC0 HC1 HC2 HC3 HNB HBA
 generalize hact:fr _ _ y=act
 simp only[fr,Zf,fC0,fN0,sA0,sZ0,sS0,eV]at hact
 subst hact
 clear eV
 by_cases hs:0<sgn (x+x-m)
 ·rw[deT hs]
  have HZ2:=lhd (show z=x-m by rw[HZ.out,if_pos hs])
  clear hs HZ
  go_upto_region 2 with fail
  refine wrt 9 [(0,18,VC (.pointer (some ⟨Rw,k,none⟩))),(1,19,VC (.pointer (some ⟨Rw,k,none⟩))),(2,20,VC (.pointer (some ⟨Rw,k,none⟩))),(3,21,VI x),(4,22,VC (.pointer (some ⟨Rw,k,none⟩))),(5,23,VC (.pointer (some ⟨Rw,k,none⟩))),(6,24,VC (.pointer (some ⟨Rw,k+2,none⟩))),(7,25,VI m),(8,26,VI (x-m))] (fun _=>True) [18,19,20,21,22,23,24,25,26] ⟨kv,kv,kv,Keeps.vi _,kv,kv,kv,Keeps.vi _,Keeps.vi _,trivial⟩ (fun _ _ _ _ _=>trivial) trivial (by decide) (Zn _ ⟨?_,?_,?_,?_,?_,?_,?_,?_,?_,trivial⟩) ?_
  ·exact mvX rfl rfl rfl
  ·exact .of rfl rfl fun _ _ _ _ hV _=>.nilCheck rfl (fgt hV 0 rfl) rfl
  ·exact .of rfl rfl fun _ _ _ _ hV _=>.fieldAddr rfl (fgt hV 1 rfl) (by kernel_rfl) rfl
  ·exact .of rfl rfl fun _ _ hB _ hV _=>.loadI' hB HL2.out HD0.out HD1.out HX2.out rfl (fgt hV 2 rfl)
  ·exact mvX rfl rfl rfl
  ·exact .of rfl rfl fun _ _ _ _ hV _=>.nilCheck rfl (fgt hV 4 rfl) rfl
  ·exact .of rfl rfl fun _ _ _ _ hV _=>.fieldAddr rfl (fgt hV 5 rfl) (by kernel_rfl) rfl
  ·exact .of rfl rfl fun _ _ hB _ hV _=>.loadI' hB HL2.out HD2.out HD3.out HM2.out rfl (fgt hV 6 rfl)
  ·exact .of rfl rfl fun _ _ _ _ hV _=>by obtain⟨u3,v3,e3,h3⟩:=hge hV 3 rfl;obtain⟨u7,v7,e7,h7⟩:=hge hV 7 rfl;exact .call Tryz.func87 (by kernel_rfl) rfl rfl rfl (Zg ((fri).trans e3) ((fri).trans e7)) (cSub h3 h7 HWx.out HWm.out (by omega))
  intro y W3 hB hE hV
  obtain⟨u,v,e5,h5⟩:VI (x-m) (y 26) W3:=hend hV 8 rfl
  have HB3:=lhd (HB2.out.trans (hB.mono HB2.out.size))
  have HNB3:=lhd (HNB2.out.keep hB)
  clear hB hE hV HX2 HM2 HL2 HD0 HD1 HD2 HD3 HNB2 HB2
  generalize hact:fr _ _ y=act
  simp only[fr,Zf,fC0,fN0,sA0,sZ0,sS0,e5]at hact
  subst hact
  clear e5
  show wpList _ _ _ [_] _ _
  obtain⟨s9,A9,n9,c9,hlt9,q0,q1,f9,ni,-⟩:=HNB3.out
  have f0:=f9 0;have f1:=f9 1
  obtain⟨A5,c5,e1,e2,h6⟩:=h5
  subst e1 e2
  have HFin:=lhd (show Zb (VI (x-m)) w (.returned (.agg #[.bool (sgB (x-m)),.slice A5 (lnW (x-m)) c5])) ((W3.setCell ⟨Q,0,none⟩ (.bool (sgB (x-m)))).setCell ⟨Q,1,none⟩ (.slice A5 (lnW (x-m)) c5)) from
   ⟨_,rfl,⟨_,_,rfl,Za3 (show IC W3 _ _ (x-m) from⟨A5,c5,rfl,rfl,h6⟩) ni (fun k n e=>by cases e)⟩,YP HB3.out (Nat.le_of_eq HQ.out.symm) _ _⟩)
  clear f9 ni h6 hlt9
  generalize sgB (x-m)=s5 at *
  generalize lnW (x-m)=n5 at *
  go_wp2_with fail
  refine bodyPost_ret (v:=.agg #[.bool s5,.slice A5 n5 c5]) (by simp[results,Tryz.results124,go_sem,q0,q1]) rfl ?_
  rw[HZ2.out];exact HFin.out
 ·rw[deF hs]
  have HZ2:=lhd (show z=x by rw[HZ.out,if_neg hs])
  clear hs HZ
  have x0:=HD0.out;have x1:=HD1.out
  obtain⟨a1,a2,e1,e2,-⟩:=HX2.out
  subst e1 e2
  have HN:=lhd (ZcS HX2.out HWx.out (by omega))
  generalize sgB x=s4 at *
  generalize lnW x=n4 at *
  go_wp2_with fail
  refine HN.out.mono ?_
  rintro e W3 ⟨_,rfl,⟨u,v,rfl,h5⟩,hB⟩
  have HB3:=lhd (HB2.out.trans (hB.mono HB2.out.size))
  have HNB3:=lhd (HNB2.out.keep hB)
  clear hB HX2 HM2 HL2 HD0 HD1 HD2 HD3 HNB2 HB2 x0 x1
  obtain⟨s9,A9,n9,c9,hlt9,q0,q1,f9,ni,-⟩:=HNB3.out
  have f0:=f9 0;have f1:=f9 1
  obtain⟨A5,c5,e1,e2,h6⟩:=h5
  subst e1 e2
  have HFin:=lhd (show Zb (VI x) w (.returned (.agg #[.bool (sgB x),.slice A5 (lnW x) c5])) ((W3.setCell ⟨Q,0,none⟩ (.bool (sgB x))).setCell ⟨Q,1,none⟩ (.slice A5 (lnW x) c5)) from
   ⟨_,rfl,⟨_,_,rfl,Za3 (show IC W3 _ _ x from⟨A5,c5,rfl,rfl,h6⟩) ni (fun k n e=>by cases e)⟩,YP HB3.out (Nat.le_of_eq HQ.out.symm) _ _⟩)
  clear f9 ni h6 hlt9
  generalize sgB x=s5 at *
  generalize lnW x=n5 at *
  go_wp2_with fail
  refine bodyPost_ret (v:=.agg #[.bool s5,.slice A5 n5 c5]) (by simp[results,Tryz.results124,go_sem,q0,q1]) rfl ?_
  rw[HZ2.out];exact HFin.out
end
end Go.Proofs.YthkklilhjnpedaaGreatDoor
