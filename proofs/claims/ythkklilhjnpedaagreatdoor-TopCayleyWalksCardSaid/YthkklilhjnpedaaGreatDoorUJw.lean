/- Hurwitz quaternions in the program: products, quotients by numbers, norms. Coordinates up to a million. -/
import Derived.Test.YthkklilhjnpedaaGreatDoorUJu
import Derived.Test.YthkklilhjnpedaaGreatDoorURpf
import Derived.Test.YthkklilhjnpedaaGreatDoorUQa0
import Derived.Test.YthkklilhjnpedaaGreatDoorURep
set_option maxHeartbeats 16000000
set_option maxRecDepth 8000
namespace Go.Proofs.YthkklilhjnpedaaGreatDoor
section
open Go.RowKit FF
theorem walks_c{a b:Value}{w:World}(hg:GV XI Zz a b w):Calls Tryz.prog 55 #[.agg #[a,b],.int .i64 0,.int .i64 2] w (Zb (VP [7,2]) w):=by
 obtain⟨A',c',rfl,-,-⟩:=hg.2.len
 have hB:=(brf w.heap.size w).alloc (nlr _) (.cells #[a,.slice A' Zz.length c'] 33)
 have hG:=GBox.new (a:=a) (b:=.slice A' Zz.length c') (W:=w)
 obtain⟨W1,hW1⟩:=nmx (w.alloc (.cells #[a,.slice A' Zz.length c'] 33))
 rw[← hW1]at hB hG
 have HB1:=lhd hB;have HG:=lhd hG;have HW1:=lhd hW1
 have HV:=lhd (hg.keep hB)
 have hmk:=(show ∀ W:World,(Instr.makeSlice 51 (.int .i64 2) (.int .i64 2)).run Tryz.prog W=.ok (.slice (some ⟨W.heap.size,0,none⟩) 2 2) (W.alloc (.cells (madeCells #[.bool false,.slice none 0 0] (2*2)) 57)) from XQ _ Tryz.underlying51 2 (by omega))
 clear hg hB hG hW1
 rw[show Zz.length=2 from rfl]at *
 have HM:=lhd (Own.made_int (w:=W1) (N:=2) (brf _ _) (by omega))
 go_enter Tryz.func55,Tryz.ntmps55
 go_upto_region 1 with fail
 rw[← HW1.out]
 obtain⟨Pg,hP⟩:∃ X,X=w.heap.size:=⟨_,rfl⟩
 rw[← hP]at HG
 rw[← hP]
 clear hP HW1
 obtain⟨-,g0,g1⟩:=HG.out
 go_wp2_with fail
 obtain⟨R,hR⟩:=nmx (W1.heap.size)
 rw[← hR]at HM
 rw[← hR]
 clear hR hmk g0 g1
 obtain⟨V0,hV0⟩:∃ V,V=W1.alloc (.cells (madeCells #[.bool false,.slice none 0 0] (2*2)) 57):=⟨_,rfl⟩
 rw[← hV0]at HM
 have hV0':V0=W1.alloc (.cells (madeCells #[.bool false,.slice none 0 0] 4) 57):=hV0
 rw[← hV0']
 have HO:=lhd (show Own eInt W1 (.slice (some ⟨R,0,none⟩) 2 2) [(0,[.bool false,.slice none 0 0]),(0,[.bool false,.slice none 0 0])] V0 from HM.out)
 clear hV0 hV0' HM
 refine(cOf 1 V0 (by unfold I64;omega)).mono ?_
 rintro e w3 ⟨_,rfl,⟨u,v,rfl,h3⟩,hb3⟩
 have HO1:=lhd (HO.out.keep hb3)
 obtain⟨cu,cv,cq,p0,p1,f0,f1,-,-⟩:=Zd HO1.out (i:=0) (by simp)
 have p0:w3.cell? ⟨R,0,none⟩=some cu:=p0
 have p1:w3.cell? ⟨R,1,none⟩=some cv:=p1
 have f0:w3.frozen? ⟨R,0,none⟩=false:=f0
 have f1:w3.frozen? ⟨R,1,none⟩=false:=f1
 have HS:=lhd (Zt HO1.out (i:=0) (by simp) h3)
 obtain⟨az,cz,rfl,rfl,-⟩:=h3
 clear HO HO1 hb3
 generalize sgB 1=sz at *
 generalize lnW 1=nz at *
 go_wp2_with fail
 clear p0 p1 f0 f1
 obtain⟨V1,hW⟩:∃ V,V=(w3.setCell ⟨R,0,none⟩ (.bool sz)).setCell ⟨R,1,none⟩ (.slice az nz cz):=⟨_,rfl⟩
 have HO:=lhd (show Own eInt W1 (.slice (some ⟨R,0,none⟩) 2 2) [(1,[.bool sz,.slice az nz cz]),(0,[.bool false,.slice none 0 0])] V1 from by rw[hW];exact HS.out)
 rw[← hW]
 clear hW HS
 have HL:=lhd (show VP [1,0] (.slice (some ⟨R,0,none⟩) 2 2) V1 from Sl.vp HO.out.sl)
 refine wp_loop_rounds 3 ?_
 rw[rounds_succ]
 obtain⟨-,g0,g1⟩:=HG.out.keep HO.out.below
 go_wp2_with fail
 refine(Zil (HV.out.keep HO.out.below) HL.out).mono ?_
 rintro e V2 ⟨l2,rfl,hl2,hb2⟩
 have HL2:=lhd hl2
 have HB2:=lhd (HO.out.below.trans (hb2.mono HO.out.below.size))
 clear hl2 hb2 g0 g1 HO
 go_wp2_with fail
 rw[rounds_succ]
 obtain⟨-,g0,g1⟩:=HG.out.keep HB2.out
 go_wp2_with fail
 refine(Zim (HV.out.keep HB2.out) HL2.out).mono ?_
 rintro e V3 ⟨l3,rfl,hl3,hb3⟩
 have HL3:=lhd hl3
 have HB3:=lhd (HB2.out.trans (hb3.mono HB2.out.size))
 clear hl3 hb3 g0 g1
 go_wp2_with fail
 rw[rounds_succ]
 go_wp2_with fail
 go_ret
 exact⟨_,rfl,HL3.out,HB1.out.trans (HB3.out.mono HB1.out.size)⟩
theorem Walks_c{a b:Value}{w:World}(hg:GV XI Zz a b w):Calls Tryz.prog 15 #[.agg #[a,b],.int .i64 0,.int .i64 2] w (Zb (fun r W=>∃ l,r=.tuple #[l,.int .i64 0]∧VP [7,2] l W) w):=by
 obtain⟨A',c',rfl,-,-⟩:=hg.2.len
 obtain⟨A2,c2,rfl,-,-⟩:=hg.1.len
 have hB:=(brf w.heap.size w).alloc (nlr _) (.cells #[.slice A2 XI.length c2,.slice A' Zz.length c'] 33)
 have hG:=GBox.new (a:=.slice A2 XI.length c2) (b:=.slice A' Zz.length c') (W:=w)
 obtain⟨W1,hW1⟩:=nmx (w.alloc (.cells #[.slice A2 XI.length c2,.slice A' Zz.length c'] 33))
 rw[← hW1]at hB hG
 have HB1:=lhd hB;have HG:=lhd hG;have HW1:=lhd hW1
 have HV:=lhd (hg.keep hB)
 clear hg hB hG hW1
 rw[show Zz.length=2 from rfl,show XI.length=2 from rfl]at *
 go_enter Tryz.func15,Tryz.ntmps15
 go_upto_region 1 with fail
 rw[← HW1.out]
 obtain⟨Pg,hP⟩:∃ X,X=w.heap.size:=⟨_,rfl⟩
 rw[← hP]at HG
 rw[← hP]
 clear hP HW1
 obtain⟨-,g0,g1⟩:=HG.out
 go_wp2_with fail
 refine(Uu HV.out g_ok).mono ?_
 rintro e W2 ⟨_,rfl,rfl,hb2⟩
 have HB2:=lhd hb2
 clear hb2 g0 g1
 obtain⟨-,g0,g1⟩:=HG.out.keep HB2.out
 go_wp2_with fail
 refine(Ks (by decide) (by decide) W2).mono ?_
 rintro e W3 ⟨_,rfl,rfl,hb3⟩
 have HB3:=lhd (HB2.out.trans (hb3.mono HB2.out.size))
 clear hb3 g0 g1
 obtain⟨-,g0,g1⟩:=HG.out.keep HB3.out
 go_wp2_with fail
 refine(walks_c (HV.out.keep HB3.out)).mono ?_
 rintro e W4 ⟨l,rfl,hl,hb4⟩
 have HL:=lhd hl
 have HB4:=lhd (HB3.out.trans (hb4.mono HB3.out.size))
 clear hl hb4 g0 g1
 go_wp2_with fail
 go_ret2
 exact⟨_,rfl,⟨_,rfl,HL.out⟩,HB1.out.trans (HB4.out.mono HB1.out.size)⟩
theorem Zgi{B:Nat}(hB:0<B):∀ {xs ys:List Nat},xs.length=ys.length→Dig B xs→Dig B ys→val B xs=val B ys→xs=ys
 | [],[],_,_,_,_=>rfl
 | x::xs,y::ys,hl,hx,hy,hv=>by
  have h1:x<B:=hx x lm0
  have h2:y<B:=hy y lm0
  simp only[val]at hv
  have h3:(x+B*val B xs) % B=(y+B*val B ys) % B:=by rw[hv]
  rw[Nat.add_mul_mod_self_left,Nat.add_mul_mod_self_left,Nat.mod_eq_of_lt h1,Nat.mod_eq_of_lt h2]at h3
  subst h3
  have h4:=Nat.eq_of_mul_eq_mul_left hB (Nat.add_left_cancel hv)
  rw[Zgi hB (by simpa using hl) (fun z hz=>hx z (List.mem_cons_of_mem _ hz)) (fun z hz=>hy z (List.mem_cons_of_mem _ hz)) h4]
theorem cSame{u v u' v':Value}{z:Int}{w:World}(hx:IC w u v z)(hy:IC w u' v' z):Calls Tryz.prog 56 #[.agg #[u,v],.agg #[u',v']] w (Zb (VC (.bool true)) w):=by
 obtain⟨A,c,rfl,rfl,xs,l1,s1,d1,n1,m1,v1,-⟩:=hx
 obtain⟨A',c',rfl,rfl,ys,l2,s2,d2,n2,m2,v2,-⟩:=hy
 have e1:val WB xs=z.natAbs:=by rw[← v1,Z5]
 have e2:val WB ys=z.natAbs:=by rw[← v2,Z5]
 have hxy:=Zgi (by decide) (l1.trans l2.symm) d1 d2 (e1.trans e2.symm)
 subst hxy
 have h:=ZfG (sgB z) (sgB z) A A' xs xs c c' w s1 s2 (by rw[l1];exact Nat.le_trans n1 m1)
 rw[l1]at h
 refine h.mono ?_
 rintro e w' ⟨rfl,hb⟩
 exact⟨_,rfl,by simp[VC],hb⟩
theorem Zem{a b:Value}{l:List Int}{w:World}(ha:VP l a w)(hb:VP l b w)(hl:l.length≤1000):Calls Tryz.prog 16 #[a,b] w (Zb (VC (.bool true)) w):=by
 obtain⟨A,c,rfl,-,-⟩:=ha.len
 obtain⟨A',c',rfl,-,-⟩:=hb.len
 obtain⟨i0,hi,hz0,hz1,hz2⟩:=info_parts Xw
 have HI:=lhd hi;have HZ1:=lhd hz1
 obtain⟨n,hn⟩:=nmx (l.length)
 have HVA:=lhd ha;have HVB:=lhd hb;have HN:=lhd hn;have HL:=lhd (show n≤1000 by omega)
 rw[← hn]
 rw[← hn]at HVA HVB
 clear ha hb hl hi hz0 hz1 hz2 hn
 go_enter Tryz.func16,Tryz.ntmps16
 go_wp2_with fail
 go_loopw [5] (fun s5 wr=>∃ i:Nat,s5=.int .i64 i∧i≤n∧Below w.heap.size w wr) (fun s5 _=>(n-(intOf s5).toNat))
 case atStart=>exact⟨0,rfl,Nat.zero_le _,brf _ _⟩
 case round =>
  obtain⟨i,rfl,hin,hB⟩:=hrel
  have HB:=lhd hB
  clear hB
  by_cases hlt:i<n
  ·have hti:=deT (p:=((i:Nat):Int)<((n:Nat):Int)) (by omega)
   obtain⟨z,hz⟩:∃ z,l[i]?=some z:=⟨_,gEe (by have:=HN.out;omega)⟩
   obtain⟨g,o,s,A1,m1,c1,rfl,q0,q1,gz,hg⟩:=(HVA.out.keep HB.out).at hz
   obtain⟨g2,o2,s2,A2,m2,c2,rfl,r0,r1,gz2,hg2⟩:=(HVB.out.keep HB.out).at hz
   have HLt:=lhd hlt
   have HQ0:=lhd q0;have HQ1:=lhd q1;have HR0:=lhd r0;have HR1:=lhd r1
   have HG:=lhd hg;have HG2:=lhd hg2;have HZ:=lhd gz;have HZ2:=lhd gz2
   clear hz q0 q1 r0 r1 gz gz2 hg hg2
   go_upto_region 6 with fail
   obtain⟨W5,hW5⟩:∃ W5:World,W5=wr:=⟨_,rfl⟩
   subst hW5
   refine Zu [(0,17,VC (.slice (some ⟨g,o,none⟩) n c)),(1,18,VC (.int .i64 (i:Int))),(2,19,VC (.pointer (some ⟨g,o+i*2,none⟩))),(3,20,VI z),(4,21,VC (.slice (some ⟨g2,o2,none⟩) n c')),(5,22,VC (.int .i64 (i:Int))),(6,23,VC (.pointer (some ⟨g2,o2+i*2,none⟩))),(7,24,VI z),(8,25,VC (.bool true)),(9,26,VC (.bool false))] (fun _=>True) [17,18,19,20,21,22,23,24,25,26] (by kernel_rfl) (by kernel_rfl) (by kernel_rfl) ⟨kv,kv,kv,Keeps.vi _,kv,kv,kv,Keeps.vi _,kv,kv,trivial⟩ (fun _ _ _ _ _=>trivial) trivial (Zl ⟨?_,?_,?_,?_,?_,?_,?_,?_,?_,?_,trivial⟩) ?_
   ·exact mvX rfl rfl rfl
   ·exact mvX rfl rfl rfl
   ·exact .of rfl rfl fun _ _ _ _ hV _=>.rowAt Tryz.underlying51 HI.out HZ1.out rfl (fgt hV 0 rfl) (fgt hV 1 rfl) HLt.out
   ·exact .of rfl rfl fun _ _ hB _ hV _=>.loadI' hB HG.out HQ0.out HQ1.out HZ.out rfl (fgt hV 2 rfl)
   ·exact mvX rfl rfl rfl
   ·exact mvX rfl rfl rfl
   ·exact .of rfl rfl fun _ _ _ _ hV _=>.rowAt Tryz.underlying51 HI.out HZ1.out rfl (fgt hV 4 rfl) (fgt hV 5 rfl) HLt.out
   ·exact .of rfl rfl fun _ _ hB _ hV _=>.loadI' hB HG2.out HR0.out HR1.out HZ2.out rfl (fgt hV 6 rfl)
   ·exact .of rfl rfl fun _ _ _ _ hV _=>by obtain⟨u3,v3,e3,h3⟩:=hge hV 3 rfl;obtain⟨u7,v7,e7,h7⟩:=hge hV 7 rfl;exact .call Tryz.func56 (by kernel_rfl) rfl rfl rfl (Zg ((fri).trans e3) ((fri).trans e7)) (cSame h3 h7)
   ·exact .of rfl rfl fun _ _ _ _ hV _=>.unOp rfl (fgt hV 8 rfl) (by kernel_rfl) rfl
   intro y W hB hE hV
   have eV:y 26=_:=hend hV 9 rfl
   have HB2:=lhd (HB.out.trans (hB.mono HB.out.size))
   clear hB hE hV
   generalize hact:fr _ _ y=act
   simp only[fr,Zf,fC0,fN0,sA0,sZ0,sS0,eV]at hact
   subst hact
   clear eV
   go_wp2_with fail
   refine⟨⟨i+1,by rw[Zc hlt (by have:=HL.out;omega)],hlt,HB2.out⟩,?_⟩
   rw[Zc hlt (by have:=HL.out;omega)];simp only[intOf];omega
  ·have hti:=deF (p:=((i:Nat):Int)<((n:Nat):Int)) (by omega)
   go_wp2_with fail
   go_ret
   exact⟨_,rfl,rfl,HB.out⟩
theorem Sl.laid{α:Type}{e:El α}{l:List α}{vs:Array Value}{T:TypeId}{W:World}(hl:l.length≤1000)(h:∀ i z,l[i]?=some z→∃ cs,e.E z cs (W.alloc (.cells vs T))∧∀ d u,cs[d]?=some u→vs[i*e.n+d]?=some u):Sl e l (.slice (some ⟨W.heap.size,0,none⟩) l.length l.length) (W.alloc (.cells vs T)):=by
 refine⟨_,_,rfl,Nat.le_refl _,by unfold maxLen;omega,fun _=>⟨_,_,rfl,by simp,fun i z hz=>?_⟩⟩
 obtain⟨cs,h1,h2⟩:=h i z hz
 exact⟨cs,h1,fun d u hd=>by rw[Nat.zero_add,Xs];exact h2 d u hd⟩
theorem Zc8(x y z:Int)(W:World):NP [x,y,z] (.slice (some ⟨W.heap.size,0,none⟩) 3 3) (W.alloc (.cells #[.int .i64 x,.int .i64 y,.int .i64 z] 3)):=by
 refine Sl.laid (e:=eNum) (l:=[x,y,z]) (by simp) (fun i q hq=>⟨[.int .i64 q],rfl,fun d u hd=>?_⟩)
 rcases d with _ | d
 ·injection hd with hd;subst hd
  show #[Value.int .i64 x,.int .i64 y,.int .i64 z][i*1+0]?=_
  rcases i with _ | _ | _ | i
  ·injection hq with hq;subst hq;rfl
  ·injection hq with hq;subst hq;rfl
  ·injection hq with hq;subst hq;rfl
  ·simp at hq
 ·simp at hd
theorem Zin(x y:List UInt8)(W:World):Sl eStr [x,y] (.slice (some ⟨W.heap.size,0,none⟩) 2 2) (W.alloc (.cells #[.string ⟨x.toArray⟩,.string ⟨y.toArray⟩] 9)):=by
 refine Sl.laid (e:=eStr) (l:=[x,y]) (by simp) (fun i q hq=>⟨[.string ⟨q.toArray⟩],rfl,fun d u hd=>?_⟩)
 rcases d with _ | d
 ·injection hd with hd;subst hd
  show #[Value.string ⟨x.toArray⟩,.string ⟨y.toArray⟩][i*1+0]?=_
  rcases i with _ | _ | i
  ·injection hq with hq;subst hq;rfl
  ·injection hq with hq;subst hq;rfl
  ·simp at hq
 ·simp at hd
theorem rOf_vi(n:Int)(hn:I64 n)(w:World):Calls Tryz.prog 17 #[.int .i64 n] w (Zb (VI n) w):=
 (rOf_any n w hn).mono fun _ _ ⟨A',c',h1,h2,h3,h4,_,h5⟩=>⟨_,h1,⟨_,_,rfl,A',c',rfl,rfl,AI.of_post h2 h3 h4⟩,h5⟩
theorem Zip{x y:Int}{u v u' v':Value}{W:World}(h:IC W u v x)(h':IC W u' v' y):VP [x,y] (.slice (some ⟨W.heap.size,0,none⟩) 2 2) (W.alloc (.cells #[u,v,u',v'] 57)):=by
 have hb:=(brf W.heap.size W).alloc (nlr _) (.cells #[u,v,u',v'] 57)
 refine Sl.vp (Sl.laid (e:=eInt) (l:=[x,y]) (by simp) (fun i q hq=>?_))
 rcases i with _ | _ | i
 ·injection hq with hq;subst hq
  refine⟨[u,v],⟨_,_,rfl,h.keep hb⟩,fun d z hd=>?_⟩
  rcases d with _ | _ | d
  ·injection hd with hd;subst hd;rfl
  ·injection hd with hd;subst hd;rfl
  ·simp at hd
 ·injection hq with hq;subst hq
  refine⟨[u',v'],⟨_,_,rfl,h'.keep hb⟩,fun d z hd=>?_⟩
  rcases d with _ | _ | d
  ·injection hd with hd;subst hd;rfl
  ·injection hd with hd;subst hd;rfl
  ·simp at hd
 ·simp at hq
theorem Ziq{x y:List Int}{u v:Value}{W:World}(h1:NP x u W)(h2:NP y v W):Sl eRow [x,y] (.slice (some ⟨W.heap.size,0,none⟩) 2 2) (W.alloc (.cells #[u,v] 40)):=by
 have hb:=(brf W.heap.size W).alloc (nlr _) (.cells #[u,v] 40)
 refine Sl.laid (e:=eRow) (l:=[x,y]) (by simp) (fun i q hq=>?_)
 rcases i with _ | _ | i
 ·injection hq with hq;subst hq
  refine⟨[u],⟨u,rfl,Sl.keep h1 hb⟩,fun d w hd=>?_⟩
  rcases d with _ | d
  ·injection hd with hd;subst hd;rfl
  ·simp at hd
 ·injection hq with hq;subst hq
  refine⟨[v],⟨v,rfl,Sl.keep h2 hb⟩,fun d w hd=>?_⟩
  rcases d with _ | d
  ·injection hd with hd;subst hd;rfl
  ·simp at hd
 ·simp at hq
theorem ZgT(w:World):Calls Tryz.prog 4 #[] w (Zb (VC (.bool true)) w):=by
 obtain⟨A1,hA1⟩:∃ A,A=w.alloc (.cells #[.string { data:=#[48] },.string { data:=#[49] }] 9):=⟨_,rfl⟩
 obtain⟨A2,hA2⟩:∃ A,A=A1.alloc (.cells #[.int .i64 0,.int .i64 1,.int .i64 1] 3):=⟨_,rfl⟩
 obtain⟨A3,hA3⟩:∃ A,A=A2.alloc (.cells #[.int .i64 0,.int .i64 0,.int .i64 0] 3):=⟨_,rfl⟩
 obtain⟨A4,hA4⟩:∃ A,A=A3.alloc (.cells #[.slice (some ⟨A1.heap.size,0,none⟩) 3 3,.slice (some ⟨A2.heap.size,0,none⟩) 3 3] 40):=⟨_,rfl⟩
 obtain⟨A5,hA5⟩:∃ A,A=A4.alloc (.cells #[.slice (some ⟨w.heap.size,0,none⟩) 2 2,.slice (some ⟨A3.heap.size,0,none⟩) 2 2] 33):=⟨_,rfl⟩
 have s1:A1.heap.size=w.heap.size+1:=by rw[hA1];simp
 have s2:A2.heap.size=w.heap.size+1+1:=by rw[hA2];simp[s1]
 have s3:A3.heap.size=w.heap.size+1+1+1:=by rw[hA3];simp[s2]
 have s4:A4.heap.size=w.heap.size+1+1+1+1:=by rw[hA4];simp[s3]
 have b1:Below w.heap.size w A1:=by rw[hA1];exact(brf _ _).alloc (nlr _) _
 have b2:Below A1.heap.size A1 A2:=by rw[hA2];exact(brf _ _).alloc (nlr _) _
 have b3:Below A2.heap.size A2 A3:=by rw[hA3];exact(brf _ _).alloc (nlr _) _
 have b4:Below A3.heap.size A3 A4:=by rw[hA4];exact(brf _ _).alloc (nlr _) _
 have b5:Below A4.heap.size A4 A5:=by rw[hA5];exact(brf _ _).alloc (nlr _) _
 have g1:Sl eStr XI (.slice (some ⟨w.heap.size,0,none⟩) 2 2) A1:=by rw[hA1];exact Zin [48] [49] w
 have g2:NP [0,1,1] (.slice (some ⟨A1.heap.size,0,none⟩) 3 3) A2:=by rw[hA2];exact Zc8 0 1 1 A1
 have g3:NP [0,0,0] (.slice (some ⟨A2.heap.size,0,none⟩) 3 3) A3:=by rw[hA3];exact Zc8 0 0 0 A2
 have g4:Sl eRow Zz (.slice (some ⟨A3.heap.size,0,none⟩) 2 2) A4:=by rw[hA4];exact Ziq (Sl.keep g2 b3) g3
 have HGV:=lhd (show GV XI Zz (.slice (some ⟨w.heap.size,0,none⟩) 2 2) (.slice (some ⟨A3.heap.size,0,none⟩) 2 2) A5 from⟨(((g1.keep b2).keep b3).keep b4).keep b5,g4.keep b5⟩)
 have HGB:=lhd (show GBox A4.heap.size (.slice (some ⟨w.heap.size,0,none⟩) 2 2) (.slice (some ⟨A3.heap.size,0,none⟩) 2 2) A5 from by rw[hA5];exact GBox.new)
 have HB:=lhd (show Below w.heap.size w A5 from b1.trans ((b2.trans ((b3.trans ((b4.trans (b5.mono b4.size)).mono b3.size)).mono b2.size)).mono b1.size))
 have HA5:=lhd (show A5=((((w.alloc (.cells #[.string { data:=#[48] },.string { data:=#[49] }] 9)).alloc (.cells #[.int .i64 0,.int .i64 1,.int .i64 1] 3)).alloc (.cells #[.int .i64 0,.int .i64 0,.int .i64 0] 3)).alloc (.cells #[.slice (some ⟨w.heap.size+1,0,none⟩) 3 3,.slice (some ⟨w.heap.size+1+1,0,none⟩) 3 3] 40)).alloc (.cells #[.slice (some ⟨w.heap.size,0,none⟩) 2 2,.slice (some ⟨w.heap.size+1+1+1,0,none⟩) 2 2] 33) from by rw[hA5,hA4,s3,s2,s1,hA3,hA2,hA1])
 rw[s3]at HGV HGB
 rw[s4]at HGB
 clear hA1 hA2 hA3 hA4 hA5 s1 s2 s3 s4 b1 b2 b3 b4 b5 g1 g2 g3 g4
 go_enter Tryz.func4,Tryz.ntmps4
 go_upto_region 2 with fail
 rw[← HA5.out]
 obtain⟨B0,hB0⟩:=nmx (w.heap.size)
 obtain⟨B4,hB4⟩:=nmx (w.heap.size+1+1+1+1)
 obtain⟨B3,hB3⟩:=nmx (w.heap.size+1+1+1)
 rw[← hB4,← hB3,← hB0]at HGB
 rw[← hB3,← hB0]at HGV
 rw[← hB4,← hB3]
 simp only[← hB0]
 obtain⟨-,q0,q1⟩:=HGB.out
 clear hB4 hB3 hB0
 go_wp2_with fail
 refine(ZfW HGV.out).mono ?_
 rintro e W2 ⟨_,rfl,rfl,hb2⟩
 have HGV2:=lhd (HGV.out.keep hb2)
 have HGB2:=lhd (HGB.out.keep hb2)
 have HB2:=lhd (HB.out.trans (hb2.mono HB.out.size))
 clear q0 q1 hb2
 obtain⟨-,q0,q1⟩:=HGB2.out
 go_wp2_with fail
 refine(Walks_c HGV2.out).mono ?_
 rintro e W3 ⟨_,rfl,⟨l,rfl,hl⟩,hb3⟩
 have HL:=lhd hl
 have HB3:=lhd (HB2.out.trans (hb3.mono HB2.out.size))
 clear q0 q1 hb3 hl
 go_wp2_with fail
 refine(rOf_vi 7 ⟨by omega,by omega⟩ _).mono ?_
 rintro e W4 ⟨_,rfl,⟨_,_,rfl,h7⟩,hb4⟩
 have HL4:=lhd (HL.out.keep hb4)
 have HB4:=lhd (HB3.out.trans (hb4.mono HB3.out.size))
 have H7:=lhd h7
 clear hb4 h7
 go_wp2_with fail
 refine(rOf_vi 2 ⟨by omega,by omega⟩ _).mono ?_
 rintro e W5 ⟨_,rfl,⟨_,_,rfl,h2⟩,hb5⟩
 have HL5:=lhd (HL4.out.keep hb5)
 have HB5:=lhd (HB4.out.trans (hb5.mono HB4.out.size))
 have h75:=H7.out.keep hb5
 obtain⟨A7,c7,rfl,rfl,g7⟩:=h75
 obtain⟨A8,c8,rfl,rfl,g8⟩:=h2
 have HV:=lhd (Zip (x:=7) (y:=2) ⟨A7,c7,rfl,rfl,g7⟩ ⟨A8,c8,rfl,rfl,g8⟩)
 clear hb5 g7 g8 H7
 go_wp2_with fail
 refine(Zem (HL5.out.keep ((brf _ _).alloc (nlr _) _)) HV.out (by decide)).mono ?_
 rintro e W6 ⟨_,rfl,rfl,hb6⟩
 have HB6:=lhd (HB5.out.trans (((Below.refl _ _).alloc (Nat.le_refl _) _).trans (hb6.mono (by simp)) |>.mono HB5.out.size))
 clear hb6
 go_wp2_with fail
 go_ret
 exact⟨_,rfl,rfl,HB6.out⟩
def hv(x:Hw):Value:=cv x.a x.b x.c x.d
def Hb(B:Int)(x:Hw):Prop:=(-B≤x.a∧x.a≤B)∧(-B≤x.b∧x.b≤B)∧(-B≤x.c∧x.c≤B)∧(-B≤x.d∧x.d≤B)
theorem mulm{x y:Int}(hx:-1000000≤x∧x≤1000000)(hy:-1000000≤y∧y≤1000000):-1000000000000≤x*y∧x*y≤1000000000000:=by
 have:=mulb hx hy
 simpa using this
theorem ZY{B b:Nat}{w W:World}(h:Below B w W)(hb:B≤b)(v0 v1 v2 v3:Value):Below B w ((((W.setCell ⟨b,0,none⟩ v0).setCell ⟨b,1,none⟩ v1).setCell ⟨b,2,none⟩ v2).setCell ⟨b,3,none⟩ v3):=
 (((h.setCell hb _).setCell hb _).setCell hb _).setCell hb _
end
end Go.Proofs.YthkklilhjnpedaaGreatDoor
