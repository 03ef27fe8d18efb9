/- slices.Backward over a slice of integers: what the iterator hands out, whatever the loop's body does. -/
import Derived.Test.YthkklilhjnpedaaGreatDoorUVt0
import Derived.RangeFuncNested
import Derived.RangeFuncBound
import Derived.RangeFuncCalls
import Derived.RangeFuncLeaves
import Derived.RangeFuncBox
import Derived.Shelf.Abstract
import Derived.Shelf.RegionOpen
import Derived.OwnWalkIn
import Derived.TacticsInMore
import Derived.LoopNIn
import Derived.LoopIn
set_option maxHeartbeats 16000000
set_option maxRecDepth 8000
namespace Go.Proofs.YthkklilhjnpedaaGreatDoor
section
open Go.RowKit FF
theorem KF:∀ (l:List Int) (k:Int) (i:Nat) (z:Int),l[i]?=some z→XD (l.take (i+1)) k=XD (l.take i) k++[(k+i)*z]
 | [],_,_,_,h=>by simp at h
 | x::l,k,0,z,h=>by
  have e:x=z:=by simpa using h
  simp[XD,e]
 | x::l,k,i+1,z,h=>by
  have ih:=KF l (k+1) i z (by simpa using h)
  simp only[List.take_succ_cons,XD,List.cons_append]
  rw[ih]
  congr 4
  push_cast
  omega
theorem ZaZ:∀ (l:List Int) (k:Nat),k+l.length≤2000000→l.length≤1000000→(∀ x∈l,Wn 60 x)→∀ x∈XD l (k:Int),Wn 62 x
 | [],_,_,_,_,x,hx=>by cases hx
 | z::l,k,h,hl,hz,x,hx=>by
  simp only[List.length_cons]at h hl
  rcases List.mem_cons.1 hx with rfl | hx
  ·have h2:Wn 2 (k:Int):=by show((k:Int)).natAbs<WB ^ 2;rw[Int.natAbs_natCast];exact nLl (show k<2000001 by omega) (by decide)
   exact(h2.mul (hz z lm0)).mono (by decide)
  ·exact ZaZ l (k+1) (by omega) (by omega) (fun y hy=>hz y (List.mem_cons_of_mem _ hy)) x hx
theorem KG{v:Value}{l:List Int}{w:World}(hv:VP l v w)(h0:0<l.length)(hl:l.length≤1000000)(hk:∀ x∈l,Wn 60 x):Calls Tryz.prog 132 #[v] w (Zb (VP (derL l)) w):=by
 obtain⟨i0,hi,hz0,hz1,hz2⟩:=info_parts Xw
 have HI:=lhd hi;have HI2:=lhd hz1;have HZ0:=lhd hz0;have HZ2:=lhd hz2
 obtain⟨A,c,rfl,h1,h2⟩:=hv.len
 obtain⟨n,hn⟩:∃ n,n+1=l.length:=⟨l.length-1,by omega⟩
 have HK:=lhd hk;have HN:=lhd hn;have HL:=lhd hl
 rw[← hn]at h1 ⊢
 obtain⟨A1,hsl,hdr⟩:=Sl.drop (e:=eInt) (l:=l) (A:=A) (n:=n+1) (c:=c) (k:=1) Tryz.underlying126 HI.out HI2.out hn (by omega) h1 h2
 rw[Nat.add_sub_cancel]at hsl hdr
 have HD:=lhd (hdr w (by rw[← hn]at hv;exact hv.sl))
 have hmin:min (1:Int) ((n:Int)+1)=1:=by omega
 obtain⟨c1,hc1⟩:=nmx (c-1)
 have HSl:=lhd (show ∀ W,(Instr.sliceAt 126 (.slice A (n+1) c) (some (.int .i64 1)) none none).run Tryz.prog W=.ok (.slice A1 n c1) W from fun W=>by rw[hc1];exact hsl W)
 rw[← hc1]at HD
 have hlen1:n≤c1:=by omega
 clear hv hk hn hl h0 hi hz0 hz1 hz2 hsl hdr hc1
 go_enter Tryz.func132,Tryz.ntmps132
 have hsl:=HSl.out
 go_wp2_with fail
 clear hsl
 go_loopw [3,4,5,12] (fun s3 _ _ s12 wr=>∃ (i:Nat) (rs:List (Int × List Value)),s12=.int .i64 i∧i≤n∧rs.length=i∧rs.map (·.1)=XD ((l.drop 1).take i) 1∧Own eInt w s3 rs wr) (fun _ _ _ s12 _=>(n-(intOf s12).toNat))
 case atStart=>exact⟨0,[],rfl,Nat.zero_le _,rfl,rfl,Own.start eInt (brf _ _)⟩
 case round =>
  obtain⟨i,rs,rfl,hil,hrl,hrs,hG⟩:=hrel
  have HG:=lhd hG;have HRs:=lhd hrs;have HRl:=lhd hrl
  clear hG hrs hrl
  by_cases hlt:i<n
  ·have hti:=deT (p:=((i:Nat):Int)<((n:Nat):Int)) (by omega)
   obtain⟨z,hz⟩:∃ z,(l.drop 1)[i]?=some z:=⟨_,gEe (by rw[List.length_drop];have:=HN.out;omega)⟩
   have HZ:=lhd hz
   obtain⟨b,o,s,A',m,c',rfl,q0,q1,g,hb⟩:=(HD.out.keep HG.out.below).vp.at hz
   have GI:=lhd g
   have HLt:=lhd hlt
   have HS:=lhd (show i+1≤4000000000 by have:=HN.out;have:=HL.out;omega)
   have HI64:=lhd (show I64 ((i+1:Nat):Int) by have:=HS.out;constructor <;> omega)
   have HWz:=lhd (HK.out z (List.mem_of_mem_drop (mGe hz)))
   have HWi:=lhd (show Wn 2 ((i+1:Nat):Int) by have:=HS.out;show(((i+1:Nat):Int)).natAbs<WB ^ 2;rw[Int.natAbs_natCast];exact Nat.lt_of_le_of_lt HS.out (by decide))
   clear g hz
   go_upto_region 5 with fail
   obtain⟨W6,hW6⟩:=nmx (wr.alloc (.cells #[.bool s,.slice A' m c'] 57))
   have BA:=(brf wr.heap.size wr).alloc (nlr _) (.cells #[.bool s,.slice A' m c'] 57)
   have HNB:=lhd (IBox.new GI.out)
   rw[← hW6]at BA HNB
   rw[← hW6]
   have HG6:=lhd (HG.out.keep BA)
   clear BA q0 q1 hb hW6
   obtain⟨sZ,aZ,mZ,cZ,z0,z1,z2,z3,z4,z5⟩:=HNB.out
   have HZl:=lhd z0;have HZ0c:=lhd z1;have HZ1:=lhd z2;have HZI:=lhd z5
   clear z0 z1 z2 z3 z4 z5
   refine wrt 7 [(0,17,VC u3),(1,18,VC (.int .i64 (i:Int))),(2,19,VC (.int .i64 ((i+1:Nat):Int))),(3,20,VI ((i+1:Nat):Int)),(4,21,VI z),(5,22,VI (((i+1:Nat):Int)*z)),(6,23,OneI (((i+1:Nat):Int)*z))] (fun _=>True) [17,18,19,20,21,22,23] ⟨kv,kv,kv,Keeps.vi _,Keeps.vi _,Keeps.vi _,Keeps.oneI _,trivial⟩ (fun _ _ _ _ _=>trivial) trivial (by decide) (Zn _ ⟨?_,?_,?_,?_,?_,?_,?_,trivial⟩) ?_
   ·exact mvX rfl rfl rfl
   ·exact mvX rfl rfl rfl
   ·exact .of rfl rfl fun _ _ _ _ hV _=>.addN (q:=1) rfl (fgt hV 1 rfl) rfl HS.out
   ·exact .of rfl rfl fun _ W _ _ hV _=>.call Tryz.func92 (by kernel_rfl) rfl rfl rfl (Xf (fgt hV 2 rfl)) (cOf _ W HI64.out)
   ·exact .of rfl rfl fun _ _ hB _ _ _=>.loadI' hB HZl.out HZ0c.out HZ1.out HZI.out rfl (fou (v:=.pointer (some ⟨wr.heap.size,0,none⟩)))
   ·exact .of rfl rfl fun _ _ _ _ hV _=>by obtain⟨u3,v3,e3,h3⟩:=hge hV 3 rfl;obtain⟨u4,v4,e4,h4⟩:=hge hV 4 rfl;exact .call Tryz.func86 (by kernel_rfl) rfl rfl rfl (Zg ((fri).trans e3) ((fri).trans e4)) (cMul h3 h4 HWi.out HWz.out (by omega))
   ·exact .of rfl rfl fun _ _ _ _ hV _=>by obtain⟨u5,v5,e5,h5⟩:=hge hV 5 rfl;exact .buildI Tryz.underlying51 rfl ((fri).trans e5) h5
   intro y W hB hE hV
   obtain⟨gS,uS,vS,eS,s0,s1,s2,s3⟩:=hend hV 6 rfl
   have e17:y 17=u3:=hend hV 0 rfl
   have HG7:=lhd (HG6.out.keep hB)
   clear hB hE hV
   generalize hact:fr _ _ y=act
   simp only[fr,Zf,fC0,fN0,sA0,sZ0,sS0,eS,e17]at hact
   subst hact
   clear eS e17
   refine ZB rfl (.tmp 17) (.tmp 23) 51 rfl i0 Tryz.underlying51 HI.out HZ0.out HI2.out HZ2.out HG7.out (y:=((i+1:Nat):Int)*z) (cs:=[uS,vS]) ⟨uS,vS,rfl,s3⟩ ⟨gS,0,none⟩ 1 rfl rfl (fun d u hd=>by rw[Addr.add_lit];exact Uz s1 s2 d u hd) (by rw[HRl.out];have:=HLt.out;have:=HN.out;have:=HL.out;omega) ?_
   intro v4 w4 hg4
   have HG4:=lhd hg4
   clear hg4 s0 s1 s2 s3
   go_wp2_with fail
   refine⟨⟨i+1,_,by rw[Zc hlt (by have:=HN.out;have:=HL.out;omega)],hlt,by rw[List.length_append,HRl.out];rfl,?_,HG4.out⟩,?_⟩
   ·rw[List.map_append,HRs.out,KF _ _ _ _ HZ.out]
    simp[Int.add_comm]
   ·rw[Zc hlt (by have:=HN.out;have:=HL.out;omega)];simp only[intOf];omega
  ·have hti:=deF (p:=((i:Nat):Int)<((n:Nat):Int)) (by omega)
   have hin:(l.drop 1).take i=l.drop 1:=tOl (by rw[List.length_drop];have:=HN.out;omega)
   have hm:=HRs.out
   rw[hin]at hm
   have hno:=YO (v:=u3) (l:=XD (l.drop 1) 1) (k:=62) (w:=wr) (by rw[← hm];exact HG.out.sl.vp) (ZaZ _ 1 (by rw[List.length_drop];have:=HL.out;omega) (by rw[List.length_drop];have:=HL.out;omega) (fun x hx=>HK.out x (List.mem_of_mem_drop hx))) (by omega) (by rw[← hm,List.length_map,HRl.out];have:=HN.out;have:=HL.out;omega)
   have HNo:=lhd hno
   clear hno hm hin
   go_wp2_with fail
   refine HNo.out.mono ?_
   rintro e w2 ⟨r2,rfl,hP,hb1⟩
   have HPp:=lhd hP;have HBp:=lhd (HG.out.below.trans (hb1.mono HG.out.below.size))
   clear hP hb1
   go_wp2_with fail
   go_ret
   exact⟨_,rfl,HPp.out,HBp.out⟩
theorem ZfU{g:Nat}{o p q r:List Int}(h:Ki g o p q=some r):(p.length<q.length∧p=[]∧r=Zj o)∨(q.length≤p.length∧Zo q≠0∧Zo p % Zo q=0∧p.length-q.length<o.length∧∃ g' r1,g=g'+1∧Y1 p (Zo p / Zo q) q (p.length-q.length)=some r1∧Ki g' (o.set (p.length-q.length) (Zo p / Zo q)) r1 q=some r):=by
 cases g with
 | zero=>simp[Ki]at h
 | succ g =>
  unfold Ki at h
  split at h
  ·rename_i hl
   split at h
   ·rename_i hp;exact .inl ⟨hl,hp,(oSi h).symm⟩
   ·cases h
  ·rename_i hl
   split at h
   ·rename_i hs
    split at h
    ·rename_i r1 hr;exact .inr ⟨by omega,hs.1,hs.2.1,hs.2.2,g,r1,rfl,hr,h⟩
    ·cases h
   ·cases h
def OverRel(q r:List Int)(w:World)(R N:Nat)(gk:Nat)(s0:Value)(wr:World):Prop:=∃ (p2:List Int) (rs:List (Int × List Value)),VP p2 s0 wr∧Off R s0∧Ki gk (rs.map (·.1)) p2 q=some r∧rs.length=N∧Own eInt w (.slice (some ⟨R,0,none⟩) N N) rs wr∧p2.length≤1000000∧(∀ x∈p2,Wn 121 x)∧∀ x∈rs,Wn 121 x.1
theorem Zju{g:Nat}{p q r:List Int}(h:overL g p q=some r){N:Nat}(hN:N=p.length-q.length+1):Ki g ((List.replicate N ((0:Int),([.bool false,.slice none 0 0]:List Value))).map (·.1)) p q=some r:=by
 rw[List.map_replicate,hN];exact h
theorem over_any{v v':Value}{p q r:List Int}{g:Nat}{w:World}(hp:VP p v w)(hq:VP q v' w)(hr:overL g p q=some r)(h0:0<q.length)(hle:q.length≤p.length)(hpw:∀ x∈p,Wn 60 x)(hqw:∀ x∈q,Wn 60 x)(hl:p.length≤1000000) :
  Calls Tryz.prog 135 #[v,v'] w (Zb (fun u W=>∃ a,u=.tuple #[a,.int .i64 0]∧VP r a W) w):=by
 obtain⟨A,c,rfl,hc1,hc2⟩:=hp.len
 obtain⟨A',c',rfl,hc1',hc2'⟩:=hq.len
 obtain⟨n,hn⟩:=nmx (p.length)
 obtain⟨m,hm⟩:=nmx (q.length)
 obtain⟨N,hN⟩:=nmx (p.length-q.length+1)
 have HP:=lhd hp;have HQ:=lhd hq;have H0:=lhd h0;have HL:=lhd hl;have HM:=lhd hm;have HR:=lhd (Zju hr hN)
 have HLq:=lhd (Ug hqw)
 have HPw:=lhd (fun x (hx:x∈p)=>(hpw x hx).mono (show 60≤121 by decide))
 have HOff:=lhd (hp.sl.off (g:=w.heap.size) (nlr _) (by omega))
 have HN6:=lhd (show N≤1000000 by omega)
 have HQl:=lhd (show q.length≤1000000 by omega)
 have hN2:wrap64 (wrap64 ((n:Int)-(m:Int))+1)=(N:Int):=by unfold wrap64;omega
 have hmx:max (0:Int) (N:Int)=N:=by omega
 have HNN:=lhd hN2;have HMX:=lhd hmx
 have HMk:=lhd (XQ 51 Tryz.underlying51 N HN6.out)
 have HMd:=lhd (Own.made_int (w:=w) (N:=N) (brf w.heap.size w) HN6.out)
 rw[← hn]at HP HOff hc1 ⊢
 rw[← hm]at HQ hc1' ⊢
 clear hp hq hr h0 hle hpw hqw hl hm hN hn hN2 hmx
 go_enter Tryz.func135,Tryz.ntmps135
 have hN2:=HNN.out;have hmx:=HMX.out;have hmk:=HMk.out
 go_wp2_with fail
 clear hN2 hmx hmk
 obtain⟨R,hR⟩:=nmx (w.heap.size)
 rw[← hR]at HMd HOff
 rw[← hR]
 have HRe:=lhd hR
 clear hR
 have hB0:=HMd.out.below
 generalize w.alloc (.cells (madeCells #[.bool false,.slice none 0 0] (N*2)) 57)=W1 at *
 have HB0:=lhd hB0
 clear hB0
 go_loopg [0,4,5] g (fun gk s0 s4 s5 wr=>s4=.slice none 0 0∧s5=.int .i64 0∧OverRel q r w R N gk s0 wr)
 case atStart=>exact⟨rfl,rfl,p,_,HP.out.keep HB0.out,HOff.out,HR.out,List.length_replicate,HMd.out,HL.out,HPw.out,fun x hx=>by rw[(List.mem_replicate.1 hx).2];exact UV _⟩
 case round =>
  obtain⟨rfl,rfl,p2,rs,hV,hof,hF,hrl,hO,hL2,hw2,hw3⟩:=hrel
  have HOf:=lhd hof
  obtain⟨A0,c0,rfl,hc1,hc2⟩:=hV.len
  obtain⟨n2,hn⟩:∃ n,n=p2.length:=⟨_,rfl⟩
  have HVp:=lhd hV;have HL2:=lhd hL2;have HN:=lhd hn;have HO:=lhd hO;have HRl:=lhd hrl;have HW2:=lhd hw2;have HW3:=lhd hw3
  rw[← hn]at HVp HOf hc1 ⊢
  clear hV hL2 hn hO hrl hw2 hw3 hof
  rcases ZfU hF with⟨hlt,hp0,hre⟩ | ⟨hge,hq0,hmod,hfr,g',r1,hg,hle,hF'⟩
  ·have hlt':n2<m:=by rw[HN.out,HM.out];exact hlt
   have hn0:n2=0:=by rw[HN.out,hp0];rfl
   have d1:=deF (p:=m≤n2) (by omega)
   have d2:=deF (p:=(m:Int)≤(n2:Int)) (by omega)
   have d3:=deF (p:=0<n2) (by omega)
   have d4:=deF (p:=(0:Int)<(n2:Int)) (by omega)
   have hno:=YO (v:=.slice (some ⟨R,0,none⟩) N N) (l:=rs.map (·.1)) (k:=121) (w:=wr) HO.out.sl.vp (fun x hx=>by obtain⟨y,hy,rfl⟩:=List.mem_map.1 hx;exact HW3.out y hy) (by omega) (by rw[List.length_map,HRl.out];exact HN6.out)
   rw[← hre]at hno
   have HNo:=lhd hno
   clear hlt hp0 hre hF hlt' hno hn0
   go_wp2_with fail
   refine HNo.out.mono ?_
   rintro e w2 ⟨r2,rfl,hP,hb1⟩
   have HPp:=lhd hP;have HBp:=lhd (HO.out.below.trans (hb1.mono HO.out.below.size))
   clear hP hb1
   go_wp2_with fail
   go_ret2
   exact⟨_,rfl,⟨_,rfl,HPp.out⟩,HBp.out⟩
  ·have hge':m≤n2:=by rw[HN.out,HM.out];exact hge
   have d1:=deT hge'
   have d2:=deT (p:=(m:Int)≤(n2:Int)) (by omega)
   have hfr':n2-m<N:=by have:=HN.out;have:=HM.out;have:=HRl.out;rw[List.length_map]at hfr;omega
   have h0p:0<p2.length:=nLl H0.out hge
   have HLead:=lhd (Uf HVp.out h0p)
   have HLp:=lhd (Ug HW2.out)
   have HDv:=lhd (fun (W:World) (a b c d:Value) (h:IC W a b (Zo p2)) (h':IC W c d (Zo q))=>ZcT h h' HLp.out HLq.out (by omega))
   have hz:remZ (Zo p2) (Zo q)=0:=by unfold remZ;rw[if_neg hq0];exact hmod
   have HZr:=lhd hz;have HG:=lhd hg;have HF':=lhd hF';have HGe:=lhd hge';have HFr:=lhd hfr';have HLe:=lhd hle
   have HL3:=lhd (show n2≤1000000 by rw[HN.out];exact HL2.out)
   clear hge hq0 hmod hfr hg hle hF' hF hge' hfr' h0p hz
   go_wp2_with fail
   refine HLead.out.mono ?_
   rintro e w3 ⟨_,rfl,⟨u4,v4,rfl,h⟩,hb3⟩
   have HI4:=lhd h;have HB3:=lhd hb3
   clear h hb3
   go_wp2_with fail
   refine(Uf (HQ.out.keep (HO.out.below.trans (HB3.out.mono HO.out.below.size))) H0.out).mono ?_
   rintro e w4 ⟨_,rfl,⟨u5,v5,rfl,h⟩,hb4⟩
   have HI5:=lhd h;have HI4':=lhd (HI4.out.keep hb4);have HB4:=lhd (HB3.out.trans (hb4.mono HB3.out.size))
   clear h hb4
   go_wp2_with fail
   refine(HDv.out _ _ _ _ _ HI4'.out HI5.out).mono ?_
   rintro e w5 ⟨_,rfl,⟨a,b,c9,d9,rfl,ga,gb⟩,hb5⟩
   rw[HZr.out]at gb
   obtain⟨s6,A6,n6,c6,rfl,rfl⟩:=X8 ga
   obtain⟨s7,A7,n7,c7,rfl,rfl⟩:=X8 gb
   have BX:=((Below.refl w5.heap.size w5).alloc (Nat.le_refl _) (.cells #[.bool s6,.slice A6 n6 c6] 57)).alloc (by simp) (.cells #[.bool s7,.slice A7 n7 c7] 57)
   have HB7:=lhd (HB4.out.trans ((hb5.trans (BX.mono hb5.size)).mono HB4.out.size))
   have HX7:=lhd ((IBox.new ga).keep ((brf _ _).alloc (nlr _) (.cells #[.bool s7,.slice A7 n7 c7] 57)))
   have HI7:=lhd (gb.keep BX)
   have HX5:=lhd (show wr.heap.size≤w5.heap.size from(HB4.out.trans (hb5.mono HB4.out.size)).size)
   clear ga gb hb5 BX
   go_wp2_with fail
   obtain⟨W7,hW7⟩:=nmx ((w5.alloc (.cells #[.bool s6,.slice A6 n6 c6] 57)).alloc (.cells #[.bool s7,.slice A7 n7 c7] 57))
   obtain⟨X,hX⟩:=nmx (w5.heap.size)
   rw[← hW7]at HB7 HX7 HI7
   rw[← hX]at HX7 HX5
   rw[← hW7]
   rw[← hX]
   clear hW7 hX
   refine(Zdv HI7.out).mono ?_
   rintro e w8 ⟨rfl,hb8⟩
   have HB8:=lhd (HB7.out.trans (hb8.mono HB7.out.size));have HX8:=lhd (HX7.out.keep hb8)
   clear hb8
   have dz:decide ((0:Int)=0)=true:=rfl
   obtain⟨sx,ax,mx,cx,x0,x1,x2,-,-,x5⟩:=HX8.out
   have X5:=lhd x5;have X0:=lhd x0
   have hO8:=HO.out.keep HB8.out
   have HO8:=lhd hO8
   have hsub:=ZbU HGe.out HL3.out
   obtain⟨f,hf⟩:=nmx (n2-m)
   rw[← hf]at hsub
   have HFd:=lhd hf
   have hfN:f<N:=by rw[hf];exact HFr.out
   obtain⟨cu,cv,cz,e0,e1,e2,e3,-,-⟩:=Zd hO8 (i:=f) (by rw[HRl.out];exact hfN)
   have HS9:=lhd (Zt hO8 (i:=f) (by rw[HRl.out];exact hfN) x5)
   have hRX:R≠X:=by
    have h1:=HX5.out;have h2:=(HO.out.1.lt R rfl).2;omega
   have HX9:=lhd (HX8.out.row (j:=f*2) (s:=sx) (v:=.slice ax mx cx) hRX (hO8.2.2.2 R rfl))
   have HAl:=lhd ((Alt.only (Only.setCell w8 R (f*2) (.bool sx))).trans (Alt.only (Only.setCell (w8.setCell ⟨R,f*2,none⟩ (.bool sx)) R (f*2+1) (.slice ax mx cx))))
   have HV9:=lhd (((HVp.out.keep HB8.out).sl.other HAl.out (hO8.2.2.2 R rfl) HOf.out).vp)
   clear hf hO8 x0 x5 hRX
   go_upto_region 8 with fail
   rw[hsub]
   clear hsub
   obtain⟨W9,hW9⟩:=nmx ((w8.setCell ⟨R,f*2,none⟩ (.bool sx)).setCell ⟨R,f*2+1,none⟩ (.slice ax mx cx))
   rw[← hW9]at HS9 HX9 HV9
   rw[← hW9]
   clear hW9 x1 x2 e0 e1 e2 e3 HAl dz hfN
   obtain⟨sy,ay,my,cy,y0,y1,y2,-,-,y5⟩:=HX9.out
   have hle:=Zfd HV9.out (HQ.out.keep HS9.out.below) y5 (Za6 HLe.out H0.out) HLe.out HW2.out (by have:=HL2.out;omega) HL2.out HQl.out
   rw[← HM.out,← HN.out,← HFd.out]at hle
   have HLs:=lhd hle
   clear hle y0 y5
   go_wp2_with fail
   refine HLs.out.mono ?_
   rintro e w9 ⟨r9,rfl,hP,hb9⟩
   have HPo:=lhd (hP.off (show R<W9.heap.size from(HS9.out.1.lt R rfl).2))
   have HP9:=lhd hP.sl.vp;have HS10:=lhd (HS9.out.keep hb9)
   clear hP hb9
   go_wp2_with fail
   go_roundg g'
   case measure=>have:=HG.out;omega
   case rel=>exact⟨rfl,rfl,r1,_,HP9.out,HPo.out,by rw[List.map_set,HFd.out,HN.out,HM.out];exact HF'.out,by rw[List.length_set];exact HRl.out,HS10.out,Nat.le_trans (Yk HLe.out HW2.out).2 HL2.out,(Yk HLe.out HW2.out).1,fun x hx=>by
    rcases List.mem_or_eq_of_mem_set hx with h | h
    ·exact HW3.out x h
    ·rw[h];exact Zfc (Ug HW2.out)⟩
theorem primL_wn{l:List Int}{k:Nat}(h:∀ x∈l,Wn k x):∀ x∈ZG l,Wn k x:=fun x hx=>by
 unfold ZG at hx
 obtain⟨y,hy,rfl⟩:=List.mem_map.1 (K9 x hx)
 exact Zfc (h y hy)
theorem Za0{v:Value}{l:List Int}{w:World}(hv:VP l v w)(hs:smL l=true)(h0:0<(ZG l).length):Calls Tryz.prog 131 #[v] w (Zb (VP (posL l)) w):=by
 have hw:=XZ hs;have hl:=XB hs
 have hpw:=primL_wn hw
 have hpl:=Nat.le_trans (Ka l) hl
 have HP:=lhd (XA hv hw (by omega) (by omega))
 have HPw:=lhd hpw;have HPl:=lhd hpl;have H0:=lhd h0;have HLp:=lhd (Ug hpw)
 obtain⟨A,c,rfl,-,-⟩:=hv.len
 clear hv hs h0 hw hl hpw hpl
 go_enter Tryz.func131,Tryz.ntmps131
 go_wp2_with fail
 refine HP.out.mono ?_
 rintro e w1 ⟨r1,rfl,hP1,hb1⟩
 have HP1:=lhd hP1;have HB1:=lhd hb1
 clear hP1 hb1
 go_wp2_with fail
 refine(Uf HP1.out H0.out).mono ?_
 rintro e w2 ⟨_,rfl,⟨u,v2,rfl,h⟩,hb2⟩
 have HI2:=lhd h;have HB2:=lhd (HB1.out.trans (hb2.mono HB1.out.size));have HP2:=lhd (HP1.out.keep hb2)
 clear h hb2
 go_wp2_with fail
 refine(UC HI2.out HLp.out (by omega)).mono ?_
 rintro e w3 ⟨_,rfl,rfl,hb3⟩
 have HB3:=lhd (HB2.out.trans (hb3.mono HB2.out.size));have HP3:=lhd (HP2.out.keep hb3)
 clear hb3
 by_cases hneg:Zo (ZG l)<0
 ·have hsg:=deT (p:=sgn (Zo (ZG l))<0) (by unfold sgn;split <;> (try split) <;> omega)
  have hE:=Ze8 (f:=(- ·)) (k:=60) HP3.out (by have:=HPl.out;omega) (fun z hz=>neg_wn (HPw.out z hz)) (by omega) (fun W u u' z hb hz hi=>K7 hi (HPw.out z hz) (by omega))
  have hpo:Zj ((ZG l).map (- ·))=posL l:=by unfold posL;rw[if_pos hneg]
  rw[hpo]at hE
  have HE:=lhd hE
  clear hE hpo hneg
  generalize sgn (Zo (ZG l))=sg at *
  go_wp2_with fail
  refine HE.out.mono ?_
  rintro e w4 ⟨r4,rfl,hP4,hb4⟩
  have HP4:=lhd hP4;have HB4:=lhd (HB3.out.trans (hb4.mono HB3.out.size))
  clear hP4 hb4
  go_wp2_with fail
  go_ret
  exact⟨_,rfl,HP4.out,HB4.out⟩
 ·have hsg:=deF (p:=sgn (Zo (ZG l))<0) (by unfold sgn;split <;> (try split) <;> omega)
  have hpo:ZG l=posL l:=by unfold posL;rw[if_neg hneg]
  have HPo:=lhd hpo
  clear hpo hneg
  generalize sgn (Zo (ZG l))=sg at *
  go_wp2_with fail
  go_ret
  exact⟨_,rfl,by rw[← HPo.out];exact HP3.out,HB3.out⟩
theorem ZhB{g:Nat}{f p r:List Int}(h:sqfF g f p=some r):smL f=true∧smL p=true∧((p=[]∧r=f)∨(0<p.length∧∃ g' r1,g=g'+1∧Y2 20 f p=some r1∧smL r1=true∧sqfF g' p (ZG r1)=some r)):=by
 cases g with
 | zero=>simp[sqfF]at h
 | succ g =>
  unfold sqfF at h
  split at h
  ·rename_i hs
   rw[Bool.and_eq_true]at hs
   refine⟨hs.1,hs.2,?_⟩
   split at h
   ·rename_i hp;exact .inl ⟨hp,(oSi h).symm⟩
   ·rename_i hp
    split at h
    ·rename_i r1 hr
     split at h
     ·rename_i h1
      exact .inr ⟨List.length_pos_iff.2 hp,g,r1,rfl,hr,h1,h⟩
     ·cases h
    ·cases h
  ·cases h
def SqfRel(r:List Int)(w:World)(gk:Nat)(s3 s4:Value)(wr:World):Prop:=∃ f p,VP f s3 wr∧VP p s4 wr∧sqfF gk f p=some r∧Below w.heap.size w wr
theorem ZhC{l q:List Int}(h:sqfL l=some q):sqfA l=true∧∃ f,sqfF 20 (posL l) (derL (posL l))=some f∧sqfB l f=true∧overL 20 (posL l) (posL f)=some q:=by
 unfold sqfL at h
 split at h
 ·rename_i ha
  split at h
  ·rename_i f hf
   split at h
   ·rename_i hb;exact⟨ha,f,hf,hb,h⟩
   ·cases h
  ·cases h
 ·cases h
theorem KH{v:Value}{l q:List Int}{w:World}(hv:VP l v w)(hq:sqfL l=some q):Calls Tryz.prog 85 #[v] w (Zb (VP q) w):=by
 obtain⟨ha,f,hf,hb,ho⟩:=ZhC hq
 simp only[sqfA,sqfB,Bool.and_eq_true,decide_eq_true_eq]at ha hb
 obtain⟨⟨⟨⟨a1,a2⟩,a3⟩,a4⟩,a5⟩:=ha
 obtain⟨⟨⟨⟨⟨b1,b2⟩,b3⟩,b4⟩,b5⟩,b6⟩:=hb
 have HPos:=lhd (Za0 hv a1 a3)
 have HF:=lhd hf;have HO:=lhd ho
 have HDer:=lhd (fun (W:World) (u:Value) (h:VP (posL l) u W)=>KG h a5 (by have:=XB a4;omega) (XZ a4))
 have HPf:=lhd (fun (W:World) (u:Value) (h:VP f u W)=>Za0 h b1 b3)
 have HOv:=lhd (fun (W:World) (u u':Value) (h:VP (posL l) u W) (h':VP (posL f) u' W)=>over_any h h' ho b5 b6 (XZ a4) (XZ b4) (by have:=XB a4;omega))
 obtain⟨A,c,rfl,-,-⟩:=hv.len
 clear hv hq hf ho a1 a2 a3 a4 a5 b1 b2 b3 b4 b5 b6
 go_enter Tryz.func85,Tryz.ntmps85
 go_wp2_with fail
 refine HPos.out.mono ?_
 rintro e w1 ⟨r1,rfl,hP1,hb1⟩
 have HP1:=lhd hP1;have HB1:=lhd hb1
 clear hP1 hb1
 go_wp2_with fail
 refine(HDer.out _ _ HP1.out).mono ?_
 rintro e w2 ⟨r2,rfl,hP2,hb2⟩
 have HP2:=lhd hP2;have HB2:=lhd (HB1.out.trans (hb2.mono HB1.out.size));have HPl:=lhd (HP1.out.keep hb2)
 clear hP2 hb2
 go_wp2_with fail
 go_loopg [3,4] 20 (fun gk s3 s4 wr=>SqfRel f w gk s3 s4 wr∧VP (posL l) r1 wr)
 case atStart=>exact⟨⟨_,_,HPl.out,HP2.out,HF.out,HB2.out⟩,HPl.out⟩
 case round =>
  obtain⟨⟨f2,p2,hV,hVp,hF,hB⟩,hPl⟩:=hrel
  obtain⟨A0,c0,rfl,hc1,hc2⟩:=hVp.len
  obtain⟨n2,hn⟩:∃ n,n=p2.length:=⟨_,rfl⟩
  have HV:=lhd hV;have HVp:=lhd hVp;have HB:=lhd hB;have HPl3:=lhd hPl;have HN:=lhd hn
  rw[← hn]at HVp hc1 ⊢
  clear hV hVp hB hPl hn
  obtain⟨t1,t2,⟨hp0,hre⟩ | ⟨hp0,g',r3,hg,hr,hs3,hF'⟩⟩:=ZhB hF
  ·have hn0:n2=0:=by rw[HN.out,hp0];rfl
   have d3:=deF (p:=0<n2) (by omega)
   have d4:=deF (p:=(0:Int)<(n2:Int)) (by omega)
   have HRe:=lhd hre
   clear hp0 hre hF t1 t2 hn0
   go_wp2_with fail
   refine(HPf.out _ _ (by rw[HRe.out];exact HV.out)).mono ?_
   rintro e w4 ⟨r4,rfl,hP4,hb4⟩
   have HP4:=lhd hP4;have HPl4:=lhd (HPl3.out.keep hb4);have HB4:=lhd (HB.out.trans (hb4.mono HB.out.size))
   clear hP4 hb4
   go_wp2_with fail
   refine(HOv.out _ _ _ HPl4.out HP4.out).mono ?_
   rintro e w5 ⟨_,rfl,⟨r5,rfl,hP5⟩,hb5⟩
   have HP5:=lhd hP5;have HB5:=lhd (HB4.out.trans (hb5.mono HB4.out.size))
   clear hP5 hb5
   go_wp2_with fail
   go_ret
   exact⟨_,rfl,HP5.out,HB5.out⟩
  ·have hn0:0<n2:=by rw[HN.out];exact hp0
   have d3:=deT hn0
   have d4:=deT (p:=(0:Int)<(n2:Int)) (by omega)
   have HR:=lhd (Zfg HV.out (q:=p2) (v':=.slice A0 n2 c0) HVp.out hr hp0 t2 (by have:=XB t1;omega) (by have:=XB t2;omega))
   have HPr:=lhd (fun (W:World) (u:Value) (h:VP r3 u W)=>XA h (XZ hs3) (by omega) (by have:=XB hs3;omega))
   have HG:=lhd hg;have HF':=lhd hF'
   clear hp0 hg hr hs3 hF' hF t1 t2 hn0
   go_wp2_with fail
   refine HR.out.mono ?_
   rintro e w4 ⟨r4,rfl,hP4,hb4⟩
   have HP4:=lhd hP4;have HB4:=lhd hb4
   clear hP4 hb4
   go_wp2_with fail
   refine(HPr.out _ _ HP4.out).mono ?_
   rintro e w5 ⟨r5,rfl,hP5,hb5⟩
   have HP5:=lhd hP5;have HB5:=lhd (HB4.out.trans (hb5.mono HB4.out.size))
   clear hP5 hb5
   go_wp2_with fail
   go_roundg g'
   case measure=>have:=HG.out;omega
   case rel=>exact⟨⟨_,_,HVp.out.keep HB5.out,HP5.out,HF'.out,HB.out.trans (HB5.out.mono HB.out.size)⟩,HPl3.out.keep HB5.out⟩
theorem Ze3{g:Nat}{o:List (List Int)}{f p:List Int}{r:List (List Int)}(h:UB g o f p=some r):smL f=true∧smL p=true∧0<p.length∧o.length≤1000∧((p.length=1∧r=o++[p])∨(p.length≠1∧∃ g' r1,g=g'+1∧Y2 20 f p=some r1∧smL r1=true∧smL (Zj (r1.map (- ·)))=true∧UB g' (o++[p]) p (ZG (Zj (r1.map (- ·))))=some r)):=by
 cases g with
 | zero=>simp[UB]at h
 | succ g =>
  unfold UB at h
  split at h
  ·rename_i hs
   simp only[Bool.and_eq_true,decide_eq_true_eq]at hs
   refine⟨hs.1.1.1,hs.1.1.2,hs.1.2,hs.2,?_⟩
   split at h
   ·rename_i hp;exact .inl ⟨hp,(oSi h).symm⟩
   ·rename_i hp
    split at h
    ·rename_i r1 hr
     split at h
     ·rename_i h1
      rw[Bool.and_eq_true]at h1
      exact .inr ⟨hp,g,r1,rfl,hr,h1.1,h1.2,h⟩
     ·cases h
    ·cases h
  ·cases h
def ChainRel(r:List (List Int))(w:World)(gk:Nat)(s3 s4 s5:Value)(wr:World):Prop:=∃ (f p:List Int) (rs:List (List Int × List Value)),VP f s3 wr∧VP p s5 wr∧Own ePol w s4 rs wr∧UB gk (rs.map (·.1)) f p=some r
theorem Ze4{l:List Int}{r:List (List Int)}(h:ZaX l=some r):∃ f,sqfL l=some f∧smL f=true∧0<f.length∧((f.length=1∧r=[f])∨(f.length≠1∧smL (derL f)=true∧UB 20 [f] f (ZG (derL f))=some r)):=by
 unfold ZaX at h
 split at h
 ·rename_i f hf
  split at h
  ·rename_i hs
   simp only[Bool.and_eq_true,decide_eq_true_eq]at hs
   refine⟨f,hf,hs.1,hs.2,?_⟩
   split at h
   ·rename_i h1;exact .inl ⟨h1,(oSi h).symm⟩
   ·rename_i h1
    split at h
    ·rename_i h2;exact .inr ⟨h1,h2,h⟩
    ·cases h
  ·cases h
 ·cases h
theorem ZhD{v:Value}{l:List Int}{r:List (List Int)}{w:World}(hv:VP l v w)(hr:ZaX l=some r):Calls Tryz.prog 144 #[v] w (Zb (Sl ePol r) w):=by
 obtain⟨i0,hi,hz0,hz1,hz2⟩:=info_parts info_Pol
 have HI:=lhd hi;have HZ0:=lhd hz0;have HZ1:=lhd hz1;have HZ2:=lhd hz2
 clear hi hz0 hz1 hz2
 obtain⟨f,hf,hs,h0,hcase⟩:=Ze4 hr
 have HSq:=lhd (KH hv hf)
 have HSm:=lhd hs;have H0:=lhd h0;have HCa:=lhd hcase
 obtain⟨A,c,rfl,-,-⟩:=hv.len
 clear hv hr hf hs h0 hcase
 go_enter Tryz.func144,Tryz.ntmps144
 go_wp2_with fail
 refine HSq.out.mono ?_
 rintro e w1 ⟨r1,rfl,hP1,hb1⟩
 obtain⟨A1,c1,rfl,hc1,hc1'⟩:=hP1.len
 obtain⟨n,hn⟩:=nmx (f.length)
 have HN:=lhd hn
 have HO:=lhd (Own.one (e:=ePol) hb1 hP1.pol)
 have HP:=lhd (hP1.keep ((brf w1.heap.size w1).alloc (nlr _) (.cells [Value.slice A1 f.length c1].toArray ePol.T)))
 rw[← hn]at HO HP hc1 ⊢
 clear hP1 hb1 hn
 rcases HCa.out with⟨hf1,hre⟩ | ⟨hf1,hsd,hch⟩
 ·have d1:((n:Int) == 1)=true:=by have:=HN.out;simp;omega
  have HRe:=lhd hre
  clear hf1 hre
  go_wp2_with fail
  go_ret
  exact⟨_,rfl,by rw[HRe.out];exact HO.out.sl,HO.out.below⟩
 ·have d1:((n:Int) == 1)=false:=by have:=HN.out;simp;omega
  have HDer:=lhd (fun (W:World) (u:Value) (h:VP f u W)=>KG h H0.out (by have:=XB HSm.out;omega) (XZ HSm.out))
  have HPr:=lhd (fun (W:World) (u:Value) (h:VP (derL f) u W)=>XA h (XZ hsd) (by omega) (by have:=XB hsd;omega))
  have HCh:=lhd hch
  clear hf1 hsd hch
  go_wp2_with fail
  obtain⟨W2,hW2⟩:=nmx (w1.alloc (.cells #[.slice A1 n c1] 126))
  have hO:Own ePol w (.slice (some ⟨w1.heap.size,0,none⟩) 1 1) [(f,[.slice A1 n c1])] W2:=by rw[hW2];exact HO.out
  have hP:VP f (.slice A1 n c1) W2:=by rw[hW2];exact HP.out
  rw[← hW2]
  obtain⟨R,hR⟩:=nmx (w1.heap.size)
  rw[← hR]at hO
  rw[← hR]
  have HO2:=lhd hO;have HP2:=lhd hP
  clear hW2 hO hP hR HO HP
  refine(HDer.out _ _ HP2.out).mono ?_
  rintro e w3 ⟨r3,rfl,hP3,hb3⟩
  have HP3:=lhd hP3;have HB3:=lhd hb3
  clear hP3 hb3
  go_wp2_with fail
  refine(HPr.out _ _ HP3.out).mono ?_
  rintro e w4 ⟨r4,rfl,hP4,hb4⟩
  have HP4:=lhd hP4;have HB4:=lhd (HB3.out.trans (hb4.mono HB3.out.size))
  clear hP4 hb4
  go_wp2_with fail
  go_loopg [3,4,5] 20 (fun gk s3 s4 s5 wr=>ChainRel r w gk s3 s4 s5 wr)
  case atStart=>exact⟨_,_,_,HP2.out.keep HB4.out,HP4.out,HO2.out.keep HB4.out,HCh.out⟩
  case round =>
   obtain⟨f2,p2,rs,hV,hVp,hO,hF⟩:=hrel
   obtain⟨A0,c0,rfl,hc1,hc2⟩:=hVp.len
   obtain⟨n2,hn⟩:∃ n,n=p2.length:=⟨_,rfl⟩
   have HV:=lhd hV;have HVp:=lhd hVp;have HOr:=lhd hO;have HN2:=lhd hn
   rw[← hn]at HVp hc1 ⊢
   clear hV hVp hO hn
   obtain⟨t1,t2,t3,t4,hca⟩:=Ze3 hF
   have HCa2:=lhd hca;have T1:=lhd t1;have T2:=lhd t2;have T3:=lhd t3;have T4:=lhd (show rs.length≤1000000 by rw[List.length_map]at t4;omega)
   clear hca t1 t2 t3 t4 hF
   obtain⟨u4,hu4⟩:∃ u,u=u4:=⟨_,rfl⟩
   subst hu4
   go_upto_region 7 with(at_builtin;refine Zbn rfl (.tmp 17) (.tmp 19) 189 rfl i0 Tryz.underlying189 HI.out HZ0.out HZ1.out HZ2.out (HOr.out.keep ((Below.refl _ _).alloc (Nat.le_refl _) _)) (y:=p2) (cs:=[.slice A0 n2 c0]) (HVp.out.keep ((Below.refl _ _).alloc (Nat.le_refl _) _)).pol ⟨wr.heap.size,0,none⟩ 1 rfl rfl (fun d u hd=>by rcases d with _ | d;(injection hd with hd;subst hd;simp[go_sem]);simp at hd) T4.out ?_;intro v' w2 hg2 hkp;have HG2:=lhd hg2;have HKp:=lhd hkp;clear hg2 hkp)
   have hBA:=(brf wr.heap.size wr).alloc (nlr _) (.cells #[.slice A0 n2 c0] 126)
   have HV2:=lhd (pol_vp (HKp.out _ _ (HV.out.keep hBA).pol));have HVp2:=lhd (pol_vp (HKp.out _ _ (HVp.out.keep hBA).pol))
   clear hBA HKp
   rcases HCa2.out with⟨hp1,hre⟩ | ⟨hp1,g',r9,hg,hr,hs3,hs4,hF'⟩
   ·have d5:((n2:Int) == 1)=true:=by have:=HN2.out;simp;omega
    have HRe:=lhd hre
    clear hp1 hre
    go_wp2_with fail
    go_ret
    exact⟨_,rfl,by rw[HRe.out];have:=HG2.out.sl;rw[List.map_append]at this;exact this,HG2.out.below⟩
   ·have d5:((n2:Int) == 1)=false:=by have:=HN2.out;simp;omega
    have HR:=lhd (Zfg HV2.out (q:=p2) (v':=.slice A0 n2 c0) HVp2.out hr T3.out T2.out (by have:=XB T1.out;omega) (by have:=XB T2.out;omega))
    have HE:=lhd (fun (W:World) (u:Value) (h:VP r9 u W)=>Ze8 (f:=(- ·)) (k:=60) h (by have:=XB hs3;omega) (fun z hz=>neg_wn (XZ hs3 z hz)) (by omega) (fun W u u' z hb hz hi=>K7 hi (XZ hs3 z hz) (by omega)))
    have HPq:=lhd (fun (W:World) (u:Value) (h:VP (Zj (r9.map (- ·))) u W)=>XA h (XZ hs4) (by omega) (by have:=XB hs4;omega))
    have HGk:=lhd hg;have HF':=lhd hF'
    clear hp1 hg hr hs3 hs4 hF'
    go_wp2_with fail
    refine HR.out.mono ?_
    rintro e w5 ⟨r5,rfl,hP5,hb5⟩
    have HP5:=lhd hP5;have HB5:=lhd hb5
    clear hP5 hb5
    go_wp2_with fail
    refine(HE.out _ _ HP5.out).mono ?_
    rintro e w6 ⟨r6,rfl,hP6,hb6⟩
    have HP6:=lhd hP6;have HB6:=lhd (HB5.out.trans (hb6.mono HB5.out.size))
    clear hP6 hb6
    go_wp2_with fail
    refine(HPq.out _ _ HP6.out).mono ?_
    rintro e w7 ⟨r7,rfl,hP7,hb7⟩
    have HP7:=lhd hP7;have HB7:=lhd (HB6.out.trans (hb7.mono HB6.out.size))
    clear hP7 hb7
    go_wp2_with fail
    go_roundg g'
    case measure=>have:=HGk.out;omega
    case rel=>exact⟨_,_,_,HVp2.out.keep HB7.out,HP7.out,HG2.out.keep HB7.out,by rw[List.map_append];exact HF'.out⟩
end
section
open Go.RowKit Go.Shelf FF
attribute [local go_sem] Oper.semAt_some
abbrev EV(w0:World):Type:={ x:Int × Value × Value × Int // IC w0 x.2.1 x.2.2.1 x.2.2.2∧Wn 2 x.2.2.2 }
def encV{w0:World}(x:EV w0):Array Value:=#[.int .i64 x.1.1,.agg #[x.1.2.1,x.1.2.2.1]]
def Zcr(w0:World)(b o:Nat)(p:List Int)(es:List (EV w0)):Prop:=
 es.length=p.length∧∀ (i:Nat) (x:EV w0),es[i]?=some x→i<p.length∧x.1.1=((p.length-1-i:Nat):Int)∧p[p.length-1-i]?=some x.1.2.2.2∧w0.cell? ⟨b,o+(p.length-1-i)*2,none⟩=some x.1.2.1∧w0.cell? ⟨b,o+(p.length-1-i)*2+1,none⟩=some x.1.2.2.1
theorem Zjv{w0:World}{p:List Int}{b o n c:Nat}(h:VP p (.slice (some ⟨b,o,none⟩) n c) w0)(hw:∀ x∈p,Wn 2 x):∃ es,Zcr w0 b o p es:=by
 have hex:∀ i:Fin p.length,∃ u v,w0.cell? ⟨b,o+i*2,none⟩=some u∧w0.cell? ⟨b,o+i*2+1,none⟩=some v∧IC w0 u v p[i]:=fun i=>by
  obtain⟨b',o',s,A',m,c',e,h1,h2,h3,-⟩:=h.at (gEe i.2)
  injection e with e
  injection e with e1 e2
  subst e1 e2
  exact⟨_,_,h1,h2,h3⟩
 let f:Fin p.length→EV w0:=fun i=>⟨(((i:Nat):Int),Classical.choose (hex i),Classical.choose (Classical.choose_spec (hex i)),p[i]),(Classical.choose_spec (Classical.choose_spec (hex i))).2.2,hw _ (List.getElem_mem _)⟩
 refine⟨List.ofFn fun i:Fin p.length=>f ⟨p.length-1-i,by have:=i.2;omega⟩,by simp,fun i x hx=>?_⟩
 have hi:i<p.length:=by have:=(List.getElem?_eq_some_iff.1 hx).1;simpa using this
 have hx':f ⟨p.length-1-i,by omega⟩=x:=by simpa[hi] using hx
 subst hx'
 have hs:=Classical.choose_spec (Classical.choose_spec (hex ⟨p.length-1-i,by omega⟩))
 exact⟨hi,rfl,gEe (by omega),hs.1,hs.2.1⟩
def KpB(w0:World)(Bp:Nat)(W W':World):Prop:=Below w0.heap.size W W'∧W'.heap[Bp]?=W.heap[Bp]?
theorem Zcs{W W':World}(h:Below W.heap.size W W')(row:Option Nat):W.grownBy W' row:=⟨h.os,h.tape,h.output,h.size,fun k hk _=>h.block k hk⟩
set_option maxRecDepth 100000 in
theorem back_in{w0:World}{p:List Int}{b o c:Nat}{es:List (EV w0)}(hp:Zcr w0 b o p es)(h64:p.length≤1000000)(hb:b<w0.heap.size)(n:Nat)(hn:1≤n)(l Bp:Nat)(J Jx:List (EV w0)→World→Prop)
  (hY : ∀ pre x W, J pre W → pre.length < es.length → YieldAt Fence.wide (n - 1) Tryz.prog l (encV x) W fun e W' =>
   (e=.returned (.bool true)∧J (pre++[x]) W'∧KpB w0 Bp W W')∨(e=.returned (.bool false)∧Jx (pre++[x]) W'))
  (W0:World) (hW:Below w0.heap.size w0 W0) (c1:W0.cell? ⟨Bp,0,none⟩=some (.slice (some ⟨b,o,none⟩) p.length c)) (h0:J [] W0) :
  CallsIn Fence.wide n Tryz.prog 185 #[.func (.yield l) #[] #[],.pointer (some ⟨Bp,0,none⟩)] W0 fun e W'=>(∃ v,e=.returned v) ∧
   ((∃ ys,ys=es∧J ys W')∨(∃ pre,pre <+: es∧Jx pre W')):=by
 obtain⟨m,hm⟩:=nmx (p.length)
 have HP:=lhd hp;have HY:=lhd hY;have HL:=lhd (show m≤1000000 by omega);have HM:=lhd hm;have HC1:=lhd c1
 have HW:=lhd hW
 rw[← hm]at HC1
 have k1:=HC1.out
 clear hp hY hm h64 c1 hW
 refine callsIn_of_wp Tryz.func185 rfl trivial ?_ rfl
 simp only[Tryz.ntmps185,List.size_toArray,List.length_cons,List.length_nil,Nat.reduceAdd,Nat.reduceSub,Array.replicate_succ,Array.replicate_zero,List.push_toArray,List.append_toArray,List.nil_append,List.cons_append]
 have hw0:=lhd (show wrap64 ((m:Int)-1)=(m:Int)-1 by have:=HL.out;unfold wrap64;omega)
 have hw0':=hw0.out
 gi_wp2
 clear hw0' k1
 gi_loopw [3] (fun s3 wr=>∃ k:Nat,k≤m∧s3=.int .i64 ((m:Int)-1-k)∧J (es.take k) wr∧Below w0.heap.size w0 wr∧wr.heap[Bp]?=W0.heap[Bp]?) (fun s3 _=>(intOf s3+1).toNat)
 case atStart=>exact⟨0,Nat.zero_le _,by rw[hw0.out];simp,by simpa using h0,HW.out,rfl⟩
 case round =>
  obtain⟨k,hk,rfl,hj,hB,hbp⟩:=hrel
  have HB:=lhd hB;have HBp:=lhd hbp
  have k1:wr.cell? ⟨Bp,0,none⟩=some (.slice (some ⟨b,o,none⟩) m c):=by rw[← HC1.out];simp only[World.cell?,hbp]
  clear hB hbp
  by_cases hkm:k<m
  ·obtain⟨j,hjm⟩:∃ j:Nat,(m:Int)-1-k=(j:Int):=⟨m-1-k,by omega⟩
   rw[hjm]
   have HJm:=lhd hjm
   have hjlt:j<m:=by omega
   have hel:k<es.length:=by have:=HP.out.1;have:=HM.out;omega
   obtain⟨x,hx⟩:∃ x,es[k]?=some x:=⟨_,gEe hel⟩
   have hpp:=HP.out.2 k x hx
   rw[← HM.out,show m-1-k=j by omega]at hpp
   have d1:=deT (p:=(0:Int)≤(j:Int)) (by omega)
   have q0:=(HB.out.cell (p:=⟨b,o+j*2,none⟩) hb).trans hpp.2.2.2.1
   have q1:=(HB.out.cell (p:=⟨b,o+j*2+1,none⟩) hb).trans hpp.2.2.2.2
   have HX:=lhd hx;have HPp:=lhd hpp
   have hyy:=HY.out (es.take k) x wr hj (by rw[List.length_take];omega)
   obtain⟨fn,tmps,assign,body,hyl,hR⟩:=hyy
   rw[show encV x=#[.int .i64 (j:Int),.agg #[x.1.2.1,x.1.2.2.1]] by unfold encV;rw[hpp.2.1]]at hyl
   have HR:=lhd hR
   have HTk:=lhd (show es.take k++[x]=es.take (k+1) by rw[List.take_add_one,hx];rfl)
   obtain⟨⟨xi,xu,xv,xz⟩,hxp⟩:=x
   dsimp only at q0 q1 hyl
   clear hpp hx hel hj hkm hjm hR
   have hwj:=lhd (show wrap64 ((j:Int)-1)=(j:Int)-1 by have:=HL.out;unfold wrap64;omega)
   gi_wp2
   refine HR.out.mono ?_
   rintro e7 w7 (⟨rfl,hj7,hb7⟩ | ⟨rfl,hjx7⟩)
   ·rw[HTk.out]at hj7
    have HB7:=lhd (HB.out.trans hb7.1);have HBp7:=lhd (hb7.2.trans HBp.out)
    clear hyl HR q0 q1 k1
    gi_wp2
    exact⟨⟨k+1,by have:=HJm.out;omega,by rw[hwj.out];have:=HJm.out;congr 1;push_cast;omega,hj7,HB7.out,HBp7.out⟩,by rw[hwj.out];simp only[intOf];omega⟩
   ·clear hyl HR
    gi_wp2
    refine bodyPost_ret (results_none rfl _ _ _) rfl ?_
    exact⟨⟨_,rfl⟩,.inr ⟨_,by rw[HTk.out];exact List.take_prefix _ _,hjx7⟩⟩
  ·have hkm':k=m:=by omega
   rw[show(m:Int)-1-(k:Int) = -1 by omega]
   have hes:es.take k=es:=tOl (by have:=HP.out.1;have:=HM.out;omega)
   rw[hes]at hj
   clear hkm hkm' hes k1
   gi_wp2
   go_end0
   exact⟨⟨_,rfl⟩,.inl ⟨es,rfl,hj⟩⟩
theorem kpB_t{w0:World}{Bp:Nat}{A B C:World}(h:KpB w0 Bp A B)(k:KpB w0 Bp B C):KpB w0 Bp A C:=⟨h.1.trans k.1,k.2.trans h.2⟩
theorem kpB_b{w0 w:World}{Bp:Nat}(h0:w0.heap.size≤w.heap.size)(hb:Bp<w.heap.size):∀ (W:World) (l:Nat) (o o':Obj),w.heap.size≤l→W.heap[l]?=some o→o.isCells=false→o.isWalk=false→KpB w0 Bp W (W.putObj l o'):=
 fun W l o o' hl ho hc hw=>⟨belowK_b h0 W l o o' hl ho hc hw,World.putObj_heap_other (by omega)⟩
theorem ZhE{w0:World}{p:List Int}{b o c:Nat}{es:List (EV w0)}(hp:Zcr w0 b o p es)(h64:p.length≤1000000)(hb:b<w0.heap.size)(n:Nat)(hn:1≤n)(Bp:Nat){W:World}(hW:Below w0.heap.size w0 W)(hBp:Bp<W.heap.size)(c1:W.cell? ⟨Bp,0,none⟩=some (.slice (some ⟨b,o,none⟩) p.length c)) :
  SeqStopsK Fence.wide n Tryz.prog 185 #[.pointer (some ⟨Bp,0,none⟩)] (encV (w0:=w0)) (KpB w0 Bp) (fun ys=>ys=es) (fun pre=>pre <+: es) es.length W:=fun l J Jx W1 hW1 _ _ hY h0 =>
 back_in hp h64 hb n hn l Bp J Jx hY W1 (hW.trans (hW1.mono hW.size)) ((hW1.cell (p:=⟨Bp,0,none⟩) hBp).trans c1) h0
end
end Go.Proofs.YthkklilhjnpedaaGreatDoor
