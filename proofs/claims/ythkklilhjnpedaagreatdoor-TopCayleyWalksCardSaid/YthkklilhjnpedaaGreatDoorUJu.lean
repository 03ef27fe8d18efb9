/- Walks of the constant graph: a step. -/
import Derived.Test.YthkklilhjnpedaaGreatDoorUVrd
set_option maxHeartbeats 16000000
set_option maxRecDepth 8000
namespace Go.Proofs.YthkklilhjnpedaaGreatDoor
open Go.RowKit FF
theorem Zil{a b v:Value}{w:World}(hg:GV XI Zz a b w)(hv:VP [1,0] v w):Calls Tryz.prog 93 #[.agg #[a,b],v] w (Zb (VP [1,2]) w):=by
 obtain⟨A,c,rfl,-,-⟩:=hv.len
 obtain⟨g,o,s9,A9,m9,c9,rfl,-⟩:=hv.at (i:=0) rfl
 obtain⟨A',c',rfl,-,-⟩:=hg.2.len
 have hB:=(brf w.heap.size w).alloc (nlr _) (.cells #[a,.slice A' Zz.length c'] 33)
 have hG:=GBox.new (a:=a) (b:=.slice A' Zz.length c') (W:=w)
 obtain⟨W1,hW1⟩:=nmx (w.alloc (.cells #[a,.slice A' Zz.length c'] 33))
 rw[← hW1]at hB hG
 have HB1:=lhd hB;have HG:=lhd hG;have HW1:=lhd hW1
 have HV:=lhd (hv.keep hB)
 have HE:=lhd (Sl.keep hg.2 hB)
 have hmk:=(show ∀ W:World,(Instr.makeSlice 51 (.int .i64 2) (.int .i64 2)).run Tryz.prog W=.ok (.slice (some ⟨W.heap.size,0,none⟩) 2 2) (W.alloc (.cells (madeCells #[.bool false,.slice none 0 0] (2*2)) 57)) from XQ _ Tryz.underlying51 2 (by omega))
 obtain⟨i0,hi,hz0,hz1,hz2⟩:=info_parts Xw
 have HI:=lhd hi;have HZ1:=lhd hz1
 have HBA:=lhd (show ∀ (W:World) o,Below W.heap.size W (W.alloc o) from fun W o=>(brf W.heap.size W).alloc (nlr _) o)
 clear hv hg hB hG hW1 hi hz0 hz1 hz2
 rw[show Zz.length=2 from rfl]at *
 simp only[List.length_cons,List.length_nil]at *
 have HM:=lhd (Own.made_int (w:=W1) (N:=2) (brf _ _) (by omega))
 go_enter Tryz.func93,Tryz.ntmps93
 go_upto_region 1 with fail
 rw[← HW1.out]
 obtain⟨Pg,hP⟩:∃ X,X=w.heap.size:=⟨_,rfl⟩
 rw[← hP]at HG
 rw[← hP]
 clear hP HW1
 go_wp2_with fail
 obtain⟨R,hR⟩:=nmx (W1.heap.size)
 rw[← hR]at HM
 rw[← hR]
 clear hR hmk
 obtain⟨V0,hV0⟩:∃ V,V=W1.alloc (.cells (madeCells #[.bool false,.slice none 0 0] (2*2)) 57):=⟨_,rfl⟩
 rw[← hV0]at HM
 have hV0':V0=W1.alloc (.cells (madeCells #[.bool false,.slice none 0 0] 4) 57):=hV0
 rw[← hV0']
 have HO0:=lhd (show Own eInt W1 (.slice (some ⟨R,0,none⟩) 2 2) [(0,[.bool false,.slice none 0 0]),(0,[.bool false,.slice none 0 0])] V0 from HM.out)
 clear hV0 hV0' HM
 obtain⟨e0,e1,hO⟩:∃ e0 e1:List Value,Own eInt W1 (.slice (some ⟨R,0,none⟩) 2 2) [(0,e0),(0,e1)] V0:=⟨_,_,HO0.out⟩
 have HO:=lhd hO
 clear HO0 hO
 refine wp_loop_rounds 3 ?_
 rw[rounds_succ]
 obtain⟨s,A,m,k,q0,q1,hI⟩:=Xa (HV.out.keep HO.out.below) (i:=0) rfl
 have q0:V0.cell? ⟨g,o,none⟩=some (.bool s):=q0
 have q1:V0.cell? ⟨g,o+1,none⟩=some (.slice A m k):=q1
 have HIp:=lhd hI
 clear hI
 go_upto_region 5 with fail
 have HX:=lhd (IBox.new HIp.out)
 have HRX:=lhd (show R≠V0.heap.size from by have:=(HO.out.1.lt R rfl).2;omega)
 have HO1:=lhd (HO.out.keep (HBA.out V0 (.cells #[.bool s,.slice A m k] 57)))
 obtain⟨Vx0,hW⟩:∃ V,V=V0.alloc (.cells #[.bool s,.slice A m k] 57):=⟨_,rfl⟩
 obtain⟨X0,hX⟩:∃ X,X=V0.heap.size:=⟨_,rfl⟩
 rw[← hW,← hX]at HX
 rw[← hX]at HRX
 rw[← hW]at HO1
 rw[← hW,← hX]
 clear hW hX q0 q1 HIp HO
 have HO:=lhd HO1.out
 clear HO1
 obtain⟨-,g0,g1⟩:=HG.out.keep HO.out.below
 obtain⟨bE,oE,uE,hA,-,r0,hu⟩:=ZP (Sl.keep HE.out HO.out.below) (i:=0) (z:=[0,1,1]) rfl
 rw[hA]at g1
 rw[Nat.add_zero]at r0
 obtain⟨AE,cE,hE2,-,-⟩:=Sl.len hu
 rw[hE2]at r0 hu
 obtain⟨bF,oF,hF,-,f9⟩:=Zv hu (i:=0) rfl
 rw[hF]at r0 hu
 have HU:=lhd hu
 simp only[List.length_cons,List.length_nil]at *
 clear f9 hu hE2 hF hA
 go_wp2_with fail
 clear g0 g1 r0
 refine wp_loop_rounds 4 ?_
 rw[rounds_succ]
 obtain⟨bG,oG,hF,-,f9⟩:=Zv HU.out (i:=0) rfl
 injection hF with hF;injection hF with ea eb;subst ea eb
 rw[Nat.add_zero]at f9
 go_upto_region 8 with fail
 clear f9
 obtain⟨cu,cv,cq,p0,p1,-,-,pI,pe⟩:=Zd HO.out (i:=0) (by simp)
 have ec:(0:Int)=cq:=congrArg Prod.fst (oSi pe)
 subst ec
 have HRl:=lhd (HO.out.1.lt R rfl).2
 have HC0:=lhd (show Vx0.cell? ⟨R,0+0*2,none⟩=some cu from p0)
 have HC1:=lhd (show Vx0.cell? ⟨R,0+0*2+1,none⟩=some cv from p1)
 have HCI:=lhd pI
 obtain⟨sq,aq,nq,cq,zl,z0,z1,-,-,zi⟩:=HX.out
 have HZl:=lhd zl;have HE0:=lhd z0;have HE1:=lhd z1;have HEI:=lhd zi
 clear p0 p1 pI pe zl z0 z1 zi
 refine wrt 9 [(0,30,VC (.slice (some ⟨R,0,none⟩) 2 2)),(1,31,VC (.int .i64 0)),(2,32,VC (.slice (some ⟨R,0,none⟩) 2 2)),(3,33,VC (.int .i64 0)),(4,34,VC (.pointer (some ⟨R,0+0*2,none⟩))),(5,35,VI 0),(6,36,VI 1),(7,37,VI (0+1)),(8,38,VC (.pointer (some ⟨R,0+0*2,none⟩)))] (fun _=>True) [30,31,32,33,34,35,36,37,38] ⟨kv,kv,kv,kv,kv,Keeps.vi _,Keeps.vi _,Keeps.vi _,kv,trivial⟩ (fun _ _ _ _ _=>trivial) trivial (by decide) (Zn _ ⟨?_,?_,?_,?_,?_,?_,?_,?_,?_,trivial⟩) ?_
 ·exact mvX rfl rfl rfl
 ·exact mvX rfl rfl rfl
 ·exact mvX rfl rfl rfl
 ·exact mvX rfl rfl rfl
 ·exact .of rfl rfl fun _ _ _ _ hV _=>.rowAt Tryz.underlying51 HI.out HZ1.out rfl (fgt hV 2 rfl) (fgt hV 3 rfl) (by decide)
 ·exact .of rfl rfl fun _ _ hB _ hV _=>.loadI' hB HRl.out HC0.out HC1.out HCI.out rfl (fgt hV 4 rfl)
 ·exact .of rfl rfl fun _ _ hB _ _ _=>.loadI' hB HZl.out HE0.out HE1.out HEI.out rfl (fou (v:=.pointer (some ⟨X0,0,none⟩)))
 ·exact .of rfl rfl fun _ _ _ _ hV _=>by obtain⟨u5,v5,e5,h5⟩:=hge hV 5 rfl;obtain⟨u6,v6,e6,h6⟩:=hge hV 6 rfl;exact .call Tryz.func88 (by kernel_rfl) rfl rfl rfl (Zg ((fri).trans e5) ((fri).trans e6)) (cAdd (j:=1) (k:=1) h5 h6 (by unfold Wn;decide) (by unfold Wn;decide) (by omega))
 ·exact .of rfl rfl fun _ _ _ _ hV _=>.rowAt Tryz.underlying51 HI.out HZ1.out rfl (fgt hV 0 rfl) (fgt hV 1 rfl) (by decide)
 intro y W5 hB hE hV
 obtain⟨uS,vS,eS,hS⟩:VI (0+1) (y 37) W5:=hend hV 7 rfl
 rw[show(0:Int)+1=1 from by decide]at hS
 have eP:y 38=.pointer (some ⟨R,0,none⟩):=hend hV 8 rfl
 have HO1:=lhd (HO.out.keep hB)
 have HX1:=lhd (HX.out.keep hB)
 have HU1:=lhd (Sl.keep HU.out hB)
 clear hB hE hV HO HX HU HRl HC0 HC1 HCI HZl HE0 HE1 HEI
 generalize hact:fr _ _ y=act
 simp only[fr,Zf,fC0,fN0,sA0,sZ0,sS0,eS,eP]at hact
 subst hact
 clear eS eP
 show wpList _ _ _ [_] _ _
 obtain⟨cu,cv,cq,p0,p1,f0,f1,-,-⟩:=Zd HO1.out (i:=0) (by simp)
 have p0:W5.cell? ⟨R,0,none⟩=some cu:=p0
 have p1:W5.cell? ⟨R,1,none⟩=some cv:=p1
 have f0:W5.frozen? ⟨R,0,none⟩=false:=f0
 have f1:W5.frozen? ⟨R,1,none⟩=false:=f1
 have HS:=lhd (Zt HO1.out (i:=0) (by simp) hS)
 obtain⟨aS,cS,rfl,rfl,-⟩:=hS
 have HXS:=lhd (HX1.out.row (j:=0) (s:=sgB (1)) (v:=.slice aS (lnW (1)) cS) HRX.out (HO1.out.2.2.2 R rfl))
 have HUS:=lhd (Xu HU1.out (by decide) (HO1.out.2.2.2 R rfl) (Alt.two (g:=R) (k:=0) (j:=1) (u:=.bool (sgB (1))) (v:=.slice aS (lnW (1)) cS)))
 clear HO1 HX1 HU1
 generalize sgB (1)=s5 at *
 generalize lnW (1)=n5 at *
 go_wp2_with fail
 clear p0 p1 f0 f1
 obtain⟨Vn00,hW⟩:∃ V,V=(W5.setCell ⟨R,0,none⟩ (.bool s5)).setCell ⟨R,1,none⟩ (.slice aS n5 cS):=⟨_,rfl⟩
 have HX:=lhd (show IBox Vn00 X0 1 from by rw[hW];exact HXS.out)
 have HU:=lhd (show NP [0,1,1] (.slice (some ⟨bF,oF,none⟩) 3 cE) Vn00 from by rw[hW];exact HUS.out)
 obtain⟨e0,hO⟩:∃ e0:List Value,Own eInt W1 (.slice (some ⟨R,0,none⟩) 2 2) [(1,e0),(0,e1)] Vn00:=⟨_,by rw[hW];exact HS.out⟩
 have HO:=lhd hO
 rw[← hW]
 clear hW hO HS HXS HUS
 rw[rounds_succ]
 obtain⟨bG,oG,hF,-,f9⟩:=Zv HU.out (i:=1) rfl
 injection hF with hF;injection hF with ea eb;subst ea eb
 go_upto_region 8 with fail
 clear f9
 obtain⟨cu,cv,cq,p0,p1,-,-,pI,pe⟩:=Zd HO.out (i:=1) (by simp)
 have ec:(0:Int)=cq:=congrArg Prod.fst (oSi pe)
 subst ec
 have HRl:=lhd (HO.out.1.lt R rfl).2
 have HC0:=lhd (show Vn00.cell? ⟨R,0+1*2,none⟩=some cu from p0)
 have HC1:=lhd (show Vn00.cell? ⟨R,0+1*2+1,none⟩=some cv from p1)
 have HCI:=lhd pI
 obtain⟨sq,aq,nq,cq,zl,z0,z1,-,-,zi⟩:=HX.out
 have HZl:=lhd zl;have HE0:=lhd z0;have HE1:=lhd z1;have HEI:=lhd zi
 clear p0 p1 pI pe zl z0 z1 zi
 refine wrt 9 [(0,30,VC (.slice (some ⟨R,0,none⟩) 2 2)),(1,31,VC (.int .i64 1)),(2,32,VC (.slice (some ⟨R,0,none⟩) 2 2)),(3,33,VC (.int .i64 1)),(4,34,VC (.pointer (some ⟨R,0+1*2,none⟩))),(5,35,VI 0),(6,36,VI 1),(7,37,VI (0+1)),(8,38,VC (.pointer (some ⟨R,0+1*2,none⟩)))] (fun _=>True) [30,31,32,33,34,35,36,37,38] ⟨kv,kv,kv,kv,kv,Keeps.vi _,Keeps.vi _,Keeps.vi _,kv,trivial⟩ (fun _ _ _ _ _=>trivial) trivial (by decide) (Zn _ ⟨?_,?_,?_,?_,?_,?_,?_,?_,?_,trivial⟩) ?_
 ·exact mvX rfl rfl rfl
 ·exact mvX rfl rfl rfl
 ·exact mvX rfl rfl rfl
 ·exact mvX rfl rfl rfl
 ·exact .of rfl rfl fun _ _ _ _ hV _=>.rowAt Tryz.underlying51 HI.out HZ1.out rfl (fgt hV 2 rfl) (fgt hV 3 rfl) (by decide)
 ·exact .of rfl rfl fun _ _ hB _ hV _=>.loadI' hB HRl.out HC0.out HC1.out HCI.out rfl (fgt hV 4 rfl)
 ·exact .of rfl rfl fun _ _ hB _ _ _=>.loadI' hB HZl.out HE0.out HE1.out HEI.out rfl (fou (v:=.pointer (some ⟨X0,0,none⟩)))
 ·exact .of rfl rfl fun _ _ _ _ hV _=>by obtain⟨u5,v5,e5,h5⟩:=hge hV 5 rfl;obtain⟨u6,v6,e6,h6⟩:=hge hV 6 rfl;exact .call Tryz.func88 (by kernel_rfl) rfl rfl rfl (Zg ((fri).trans e5) ((fri).trans e6)) (cAdd (j:=1) (k:=1) h5 h6 (by unfold Wn;decide) (by unfold Wn;decide) (by omega))
 ·exact .of rfl rfl fun _ _ _ _ hV _=>.rowAt Tryz.underlying51 HI.out HZ1.out rfl (fgt hV 0 rfl) (fgt hV 1 rfl) (by decide)
 intro y W5 hB hE hV
 obtain⟨uS,vS,eS,hS⟩:VI (0+1) (y 37) W5:=hend hV 7 rfl
 rw[show(0:Int)+1=1 from by decide]at hS
 have eP:y 38=.pointer (some ⟨R,2,none⟩):=hend hV 8 rfl
 have HO1:=lhd (HO.out.keep hB)
 have HX1:=lhd (HX.out.keep hB)
 have HU1:=lhd (Sl.keep HU.out hB)
 clear hB hE hV HO HX HU HRl HC0 HC1 HCI HZl HE0 HE1 HEI
 generalize hact:fr _ _ y=act
 simp only[fr,Zf,fC0,fN0,sA0,sZ0,sS0,eS,eP]at hact
 subst hact
 clear eS eP
 show wpList _ _ _ [_] _ _
 obtain⟨cu,cv,cq,p0,p1,f0,f1,-,-⟩:=Zd HO1.out (i:=1) (by simp)
 have p0:W5.cell? ⟨R,2,none⟩=some cu:=p0
 have p1:W5.cell? ⟨R,3,none⟩=some cv:=p1
 have f0:W5.frozen? ⟨R,2,none⟩=false:=f0
 have f1:W5.frozen? ⟨R,3,none⟩=false:=f1
 have HS:=lhd (Zt HO1.out (i:=1) (by simp) hS)
 obtain⟨aS,cS,rfl,rfl,-⟩:=hS
 have HXS:=lhd (HX1.out.row (j:=2) (s:=sgB (1)) (v:=.slice aS (lnW (1)) cS) HRX.out (HO1.out.2.2.2 R rfl))
 have HUS:=lhd (Xu HU1.out (by decide) (HO1.out.2.2.2 R rfl) (Alt.two (g:=R) (k:=2) (j:=3) (u:=.bool (sgB (1))) (v:=.slice aS (lnW (1)) cS)))
 clear HO1 HX1 HU1
 generalize sgB (1)=s5 at *
 generalize lnW (1)=n5 at *
 go_wp2_with fail
 clear p0 p1 f0 f1
 obtain⟨Vn01,hW⟩:∃ V,V=(W5.setCell ⟨R,2,none⟩ (.bool s5)).setCell ⟨R,3,none⟩ (.slice aS n5 cS):=⟨_,rfl⟩
 have HX:=lhd (show IBox Vn01 X0 1 from by rw[hW];exact HXS.out)
 have HU:=lhd (show NP [0,1,1] (.slice (some ⟨bF,oF,none⟩) 3 cE) Vn01 from by rw[hW];exact HUS.out)
 obtain⟨e1,hO⟩:∃ e1:List Value,Own eInt W1 (.slice (some ⟨R,0,none⟩) 2 2) [(1,e0),(1,e1)] Vn01:=⟨_,by rw[hW];exact HS.out⟩
 have HO:=lhd hO
 rw[← hW]
 clear hW hO HS HXS HUS
 rw[rounds_succ]
 obtain⟨bG,oG,hF,-,f9⟩:=Zv HU.out (i:=2) rfl
 injection hF with hF;injection hF with ea eb;subst ea eb
 go_upto_region 8 with fail
 clear f9
 obtain⟨cu,cv,cq,p0,p1,-,-,pI,pe⟩:=Zd HO.out (i:=1) (by simp)
 have ec:(1:Int)=cq:=congrArg Prod.fst (oSi pe)
 subst ec
 have HRl:=lhd (HO.out.1.lt R rfl).2
 have HC0:=lhd (show Vn01.cell? ⟨R,0+1*2,none⟩=some cu from p0)
 have HC1:=lhd (show Vn01.cell? ⟨R,0+1*2+1,none⟩=some cv from p1)
 have HCI:=lhd pI
 obtain⟨sq,aq,nq,cq,zl,z0,z1,-,-,zi⟩:=HX.out
 have HZl:=lhd zl;have HE0:=lhd z0;have HE1:=lhd z1;have HEI:=lhd zi
 clear p0 p1 pI pe zl z0 z1 zi
 refine wrt 9 [(0,30,VC (.slice (some ⟨R,0,none⟩) 2 2)),(1,31,VC (.int .i64 1)),(2,32,VC (.slice (some ⟨R,0,none⟩) 2 2)),(3,33,VC (.int .i64 1)),(4,34,VC (.pointer (some ⟨R,0+1*2,none⟩))),(5,35,VI 1),(6,36,VI 1),(7,37,VI (1+1)),(8,38,VC (.pointer (some ⟨R,0+1*2,none⟩)))] (fun _=>True) [30,31,32,33,34,35,36,37,38] ⟨kv,kv,kv,kv,kv,Keeps.vi _,Keeps.vi _,Keeps.vi _,kv,trivial⟩ (fun _ _ _ _ _=>trivial) trivial (by decide) (Zn _ ⟨?_,?_,?_,?_,?_,?_,?_,?_,?_,trivial⟩) ?_
 ·exact mvX rfl rfl rfl
 ·exact mvX rfl rfl rfl
 ·exact mvX rfl rfl rfl
 ·exact mvX rfl rfl rfl
 ·exact .of rfl rfl fun _ _ _ _ hV _=>.rowAt Tryz.underlying51 HI.out HZ1.out rfl (fgt hV 2 rfl) (fgt hV 3 rfl) (by decide)
 ·exact .of rfl rfl fun _ _ hB _ hV _=>.loadI' hB HRl.out HC0.out HC1.out HCI.out rfl (fgt hV 4 rfl)
 ·exact .of rfl rfl fun _ _ hB _ _ _=>.loadI' hB HZl.out HE0.out HE1.out HEI.out rfl (fou (v:=.pointer (some ⟨X0,0,none⟩)))
 ·exact .of rfl rfl fun _ _ _ _ hV _=>by obtain⟨u5,v5,e5,h5⟩:=hge hV 5 rfl;obtain⟨u6,v6,e6,h6⟩:=hge hV 6 rfl;exact .call Tryz.func88 (by kernel_rfl) rfl rfl rfl (Zg ((fri).trans e5) ((fri).trans e6)) (cAdd (j:=1) (k:=1) h5 h6 (by unfold Wn;decide) (by unfold Wn;decide) (by omega))
 ·exact .of rfl rfl fun _ _ _ _ hV _=>.rowAt Tryz.underlying51 HI.out HZ1.out rfl (fgt hV 0 rfl) (fgt hV 1 rfl) (by decide)
 intro y W5 hB hE hV
 obtain⟨uS,vS,eS,hS⟩:VI (1+1) (y 37) W5:=hend hV 7 rfl
 rw[show(1:Int)+1=2 from by decide]at hS
 have eP:y 38=.pointer (some ⟨R,2,none⟩):=hend hV 8 rfl
 have HO1:=lhd (HO.out.keep hB)
 have HX1:=lhd (HX.out.keep hB)
 have HU1:=lhd (Sl.keep HU.out hB)
 clear hB hE hV HO HX HU HRl HC0 HC1 HCI HZl HE0 HE1 HEI
 generalize hact:fr _ _ y=act
 simp only[fr,Zf,fC0,fN0,sA0,sZ0,sS0,eS,eP]at hact
 subst hact
 clear eS eP
 show wpList _ _ _ [_] _ _
 obtain⟨cu,cv,cq,p0,p1,f0,f1,-,-⟩:=Zd HO1.out (i:=1) (by simp)
 have p0:W5.cell? ⟨R,2,none⟩=some cu:=p0
 have p1:W5.cell? ⟨R,3,none⟩=some cv:=p1
 have f0:W5.frozen? ⟨R,2,none⟩=false:=f0
 have f1:W5.frozen? ⟨R,3,none⟩=false:=f1
 have HS:=lhd (Zt HO1.out (i:=1) (by simp) hS)
 obtain⟨aS,cS,rfl,rfl,-⟩:=hS
 have HXS:=lhd (HX1.out.row (j:=2) (s:=sgB (2)) (v:=.slice aS (lnW (2)) cS) HRX.out (HO1.out.2.2.2 R rfl))
 have HUS:=lhd (Xu HU1.out (by decide) (HO1.out.2.2.2 R rfl) (Alt.two (g:=R) (k:=2) (j:=3) (u:=.bool (sgB (2))) (v:=.slice aS (lnW (2)) cS)))
 clear HO1 HX1 HU1
 generalize sgB (2)=s5 at *
 generalize lnW (2)=n5 at *
 go_wp2_with fail
 clear p0 p1 f0 f1
 obtain⟨Vn02,hW⟩:∃ V,V=(W5.setCell ⟨R,2,none⟩ (.bool s5)).setCell ⟨R,3,none⟩ (.slice aS n5 cS):=⟨_,rfl⟩
 have HX:=lhd (show IBox Vn02 X0 1 from by rw[hW];exact HXS.out)
 have HU:=lhd (show NP [0,1,1] (.slice (some ⟨bF,oF,none⟩) 3 cE) Vn02 from by rw[hW];exact HUS.out)
 obtain⟨e1,hO⟩:∃ e1:List Value,Own eInt W1 (.slice (some ⟨R,0,none⟩) 2 2) [(1,e0),(2,e1)] Vn02:=⟨_,by rw[hW];exact HS.out⟩
 have HO:=lhd hO
 rw[← hW]
 clear hW hO HS HXS HUS
 rw[rounds_succ]
 go_wp2_with fail
 clear HX HRX HU
 rw[rounds_succ]
 obtain⟨s,A,m,k,q0,q1,hI⟩:=Xa (HV.out.keep HO.out.below) (i:=1) rfl
 have q0:Vn02.cell? ⟨g,o+2,none⟩=some (.bool s):=q0
 have q1:Vn02.cell? ⟨g,o+2+1,none⟩=some (.slice A m k):=q1
 have HIp:=lhd hI
 clear hI
 go_upto_region 5 with fail
 have HX:=lhd (IBox.new HIp.out)
 have HRX:=lhd (show R≠Vn02.heap.size from by have:=(HO.out.1.lt R rfl).2;omega)
 have HO1:=lhd (HO.out.keep (HBA.out Vn02 (.cells #[.bool s,.slice A m k] 57)))
 obtain⟨Vx1,hW⟩:∃ V,V=Vn02.alloc (.cells #[.bool s,.slice A m k] 57):=⟨_,rfl⟩
 obtain⟨X1,hX⟩:∃ X,X=Vn02.heap.size:=⟨_,rfl⟩
 rw[← hW,← hX]at HX
 rw[← hX]at HRX
 rw[← hW]at HO1
 rw[← hW,← hX]
 clear hW hX q0 q1 HIp HO
 have HO:=lhd HO1.out
 clear HO1
 obtain⟨-,g0,g1⟩:=HG.out.keep HO.out.below
 obtain⟨bE,oE,uE,hA,-,r0,hu⟩:=ZP (Sl.keep HE.out HO.out.below) (i:=1) (z:=[0,0,0]) rfl
 rw[hA]at g1
 obtain⟨AE,cE,hE2,-,-⟩:=Sl.len hu
 rw[hE2]at r0 hu
 obtain⟨bF,oF,hF,-,f9⟩:=Zv hu (i:=0) rfl
 rw[hF]at r0 hu
 have HU:=lhd hu
 simp only[List.length_cons,List.length_nil]at *
 clear f9 hu hE2 hF hA
 go_wp2_with fail
 clear g0 g1 r0
 refine wp_loop_rounds 4 ?_
 rw[rounds_succ]
 obtain⟨bG,oG,hF,-,f9⟩:=Zv HU.out (i:=0) rfl
 injection hF with hF;injection hF with ea eb;subst ea eb
 rw[Nat.add_zero]at f9
 go_upto_region 8 with fail
 clear f9
 obtain⟨cu,cv,cq,p0,p1,-,-,pI,pe⟩:=Zd HO.out (i:=0) (by simp)
 have ec:(1:Int)=cq:=congrArg Prod.fst (oSi pe)
 subst ec
 have HRl:=lhd (HO.out.1.lt R rfl).2
 have HC0:=lhd (show Vx1.cell? ⟨R,0+0*2,none⟩=some cu from p0)
 have HC1:=lhd (show Vx1.cell? ⟨R,0+0*2+1,none⟩=some cv from p1)
 have HCI:=lhd pI
 obtain⟨sq,aq,nq,cq,zl,z0,z1,-,-,zi⟩:=HX.out
 have HZl:=lhd zl;have HE0:=lhd z0;have HE1:=lhd z1;have HEI:=lhd zi
 clear p0 p1 pI pe zl z0 z1 zi
 refine wrt 9 [(0,30,VC (.slice (some ⟨R,0,none⟩) 2 2)),(1,31,VC (.int .i64 0)),(2,32,VC (.slice (some ⟨R,0,none⟩) 2 2)),(3,33,VC (.int .i64 0)),(4,34,VC (.pointer (some ⟨R,0+0*2,none⟩))),(5,35,VI 1),(6,36,VI 0),(7,37,VI (1+0)),(8,38,VC (.pointer (some ⟨R,0+0*2,none⟩)))] (fun _=>True) [30,31,32,33,34,35,36,37,38] ⟨kv,kv,kv,kv,kv,Keeps.vi _,Keeps.vi _,Keeps.vi _,kv,trivial⟩ (fun _ _ _ _ _=>trivial) trivial (by decide) (Zn _ ⟨?_,?_,?_,?_,?_,?_,?_,?_,?_,trivial⟩) ?_
 ·exact mvX rfl rfl rfl
 ·exact mvX rfl rfl rfl
 ·exact mvX rfl rfl rfl
 ·exact mvX rfl rfl rfl
 ·exact .of rfl rfl fun _ _ _ _ hV _=>.rowAt Tryz.underlying51 HI.out HZ1.out rfl (fgt hV 2 rfl) (fgt hV 3 rfl) (by decide)
 ·exact .of rfl rfl fun _ _ hB _ hV _=>.loadI' hB HRl.out HC0.out HC1.out HCI.out rfl (fgt hV 4 rfl)
 ·exact .of rfl rfl fun _ _ hB _ _ _=>.loadI' hB HZl.out HE0.out HE1.out HEI.out rfl (fou (v:=.pointer (some ⟨X1,0,none⟩)))
 ·exact .of rfl rfl fun _ _ _ _ hV _=>by obtain⟨u5,v5,e5,h5⟩:=hge hV 5 rfl;obtain⟨u6,v6,e6,h6⟩:=hge hV 6 rfl;exact .call Tryz.func88 (by kernel_rfl) rfl rfl rfl (Zg ((fri).trans e5) ((fri).trans e6)) (cAdd (j:=1) (k:=1) h5 h6 (by unfold Wn;decide) (by unfold Wn;decide) (by omega))
 ·exact .of rfl rfl fun _ _ _ _ hV _=>.rowAt Tryz.underlying51 HI.out HZ1.out rfl (fgt hV 0 rfl) (fgt hV 1 rfl) (by decide)
 intro y W5 hB hE hV
 obtain⟨uS,vS,eS,hS⟩:VI (1+0) (y 37) W5:=hend hV 7 rfl
 rw[show(1:Int)+0=1 from by decide]at hS
 have eP:y 38=.pointer (some ⟨R,0,none⟩):=hend hV 8 rfl
 have HO1:=lhd (HO.out.keep hB)
 have HX1:=lhd (HX.out.keep hB)
 have HU1:=lhd (Sl.keep HU.out hB)
 clear hB hE hV HO HX HU HRl HC0 HC1 HCI HZl HE0 HE1 HEI
 generalize hact:fr _ _ y=act
 simp only[fr,Zf,fC0,fN0,sA0,sZ0,sS0,eS,eP]at hact
 subst hact
 clear eS eP
 show wpList _ _ _ [_] _ _
 obtain⟨cu,cv,cq,p0,p1,f0,f1,-,-⟩:=Zd HO1.out (i:=0) (by simp)
 have p0:W5.cell? ⟨R,0,none⟩=some cu:=p0
 have p1:W5.cell? ⟨R,1,none⟩=some cv:=p1
 have f0:W5.frozen? ⟨R,0,none⟩=false:=f0
 have f1:W5.frozen? ⟨R,1,none⟩=false:=f1
 have HS:=lhd (Zt HO1.out (i:=0) (by simp) hS)
 obtain⟨aS,cS,rfl,rfl,-⟩:=hS
 have HXS:=lhd (HX1.out.row (j:=0) (s:=sgB (1)) (v:=.slice aS (lnW (1)) cS) HRX.out (HO1.out.2.2.2 R rfl))
 have HUS:=lhd (Xu HU1.out (by decide) (HO1.out.2.2.2 R rfl) (Alt.two (g:=R) (k:=0) (j:=1) (u:=.bool (sgB (1))) (v:=.slice aS (lnW (1)) cS)))
 clear HO1 HX1 HU1
 generalize sgB (1)=s5 at *
 generalize lnW (1)=n5 at *
 go_wp2_with fail
 clear p0 p1 f0 f1
 obtain⟨Vn10,hW⟩:∃ V,V=(W5.setCell ⟨R,0,none⟩ (.bool s5)).setCell ⟨R,1,none⟩ (.slice aS n5 cS):=⟨_,rfl⟩
 have HX:=lhd (show IBox Vn10 X1 0 from by rw[hW];exact HXS.out)
 have HU:=lhd (show NP [0,0,0] (.slice (some ⟨bF,oF,none⟩) 3 cE) Vn10 from by rw[hW];exact HUS.out)
 obtain⟨e0,hO⟩:∃ e0:List Value,Own eInt W1 (.slice (some ⟨R,0,none⟩) 2 2) [(1,e0),(2,e1)] Vn10:=⟨_,by rw[hW];exact HS.out⟩
 have HO:=lhd hO
 rw[← hW]
 clear hW hO HS HXS HUS
 rw[rounds_succ]
 obtain⟨bG,oG,hF,-,f9⟩:=Zv HU.out (i:=1) rfl
 injection hF with hF;injection hF with ea eb;subst ea eb
 go_upto_region 8 with fail
 clear f9
 obtain⟨cu,cv,cq,p0,p1,-,-,pI,pe⟩:=Zd HO.out (i:=0) (by simp)
 have ec:(1:Int)=cq:=congrArg Prod.fst (oSi pe)
 subst ec
 have HRl:=lhd (HO.out.1.lt R rfl).2
 have HC0:=lhd (show Vn10.cell? ⟨R,0+0*2,none⟩=some cu from p0)
 have HC1:=lhd (show Vn10.cell? ⟨R,0+0*2+1,none⟩=some cv from p1)
 have HCI:=lhd pI
 obtain⟨sq,aq,nq,cq,zl,z0,z1,-,-,zi⟩:=HX.out
 have HZl:=lhd zl;have HE0:=lhd z0;have HE1:=lhd z1;have HEI:=lhd zi
 clear p0 p1 pI pe zl z0 z1 zi
 refine wrt 9 [(0,30,VC (.slice (some ⟨R,0,none⟩) 2 2)),(1,31,VC (.int .i64 0)),(2,32,VC (.slice (some ⟨R,0,none⟩) 2 2)),(3,33,VC (.int .i64 0)),(4,34,VC (.pointer (some ⟨R,0+0*2,none⟩))),(5,35,VI 1),(6,36,VI 0),(7,37,VI (1+0)),(8,38,VC (.pointer (some ⟨R,0+0*2,none⟩)))] (fun _=>True) [30,31,32,33,34,35,36,37,38] ⟨kv,kv,kv,kv,kv,Keeps.vi _,Keeps.vi _,Keeps.vi _,kv,trivial⟩ (fun _ _ _ _ _=>trivial) trivial (by decide) (Zn _ ⟨?_,?_,?_,?_,?_,?_,?_,?_,?_,trivial⟩) ?_
 ·exact mvX rfl rfl rfl
 ·exact mvX rfl rfl rfl
 ·exact mvX rfl rfl rfl
 ·exact mvX rfl rfl rfl
 ·exact .of rfl rfl fun _ _ _ _ hV _=>.rowAt Tryz.underlying51 HI.out HZ1.out rfl (fgt hV 2 rfl) (fgt hV 3 rfl) (by decide)
 ·exact .of rfl rfl fun _ _ hB _ hV _=>.loadI' hB HRl.out HC0.out HC1.out HCI.out rfl (fgt hV 4 rfl)
 ·exact .of rfl rfl fun _ _ hB _ _ _=>.loadI' hB HZl.out HE0.out HE1.out HEI.out rfl (fou (v:=.pointer (some ⟨X1,0,none⟩)))
 ·exact .of rfl rfl fun _ _ _ _ hV _=>by obtain⟨u5,v5,e5,h5⟩:=hge hV 5 rfl;obtain⟨u6,v6,e6,h6⟩:=hge hV 6 rfl;exact .call Tryz.func88 (by kernel_rfl) rfl rfl rfl (Zg ((fri).trans e5) ((fri).trans e6)) (cAdd (j:=1) (k:=1) h5 h6 (by unfold Wn;decide) (by unfold Wn;decide) (by omega))
 ·exact .of rfl rfl fun _ _ _ _ hV _=>.rowAt Tryz.underlying51 HI.out HZ1.out rfl (fgt hV 0 rfl) (fgt hV 1 rfl) (by decide)
 intro y W5 hB hE hV
 obtain⟨uS,vS,eS,hS⟩:VI (1+0) (y 37) W5:=hend hV 7 rfl
 rw[show(1:Int)+0=1 from by decide]at hS
 have eP:y 38=.pointer (some ⟨R,0,none⟩):=hend hV 8 rfl
 have HO1:=lhd (HO.out.keep hB)
 have HX1:=lhd (HX.out.keep hB)
 have HU1:=lhd (Sl.keep HU.out hB)
 clear hB hE hV HO HX HU HRl HC0 HC1 HCI HZl HE0 HE1 HEI
 generalize hact:fr _ _ y=act
 simp only[fr,Zf,fC0,fN0,sA0,sZ0,sS0,eS,eP]at hact
 subst hact
 clear eS eP
 show wpList _ _ _ [_] _ _
 obtain⟨cu,cv,cq,p0,p1,f0,f1,-,-⟩:=Zd HO1.out (i:=0) (by simp)
 have p0:W5.cell? ⟨R,0,none⟩=some cu:=p0
 have p1:W5.cell? ⟨R,1,none⟩=some cv:=p1
 have f0:W5.frozen? ⟨R,0,none⟩=false:=f0
 have f1:W5.frozen? ⟨R,1,none⟩=false:=f1
 have HS:=lhd (Zt HO1.out (i:=0) (by simp) hS)
 obtain⟨aS,cS,rfl,rfl,-⟩:=hS
 have HXS:=lhd (HX1.out.row (j:=0) (s:=sgB (1)) (v:=.slice aS (lnW (1)) cS) HRX.out (HO1.out.2.2.2 R rfl))
 have HUS:=lhd (Xu HU1.out (by decide) (HO1.out.2.2.2 R rfl) (Alt.two (g:=R) (k:=0) (j:=1) (u:=.bool (sgB (1))) (v:=.slice aS (lnW (1)) cS)))
 clear HO1 HX1 HU1
 generalize sgB (1)=s5 at *
 generalize lnW (1)=n5 at *
 go_wp2_with fail
 clear p0 p1 f0 f1
 obtain⟨Vn11,hW⟩:∃ V,V=(W5.setCell ⟨R,0,none⟩ (.bool s5)).setCell ⟨R,1,none⟩ (.slice aS n5 cS):=⟨_,rfl⟩
 have HX:=lhd (show IBox Vn11 X1 0 from by rw[hW];exact HXS.out)
 have HU:=lhd (show NP [0,0,0] (.slice (some ⟨bF,oF,none⟩) 3 cE) Vn11 from by rw[hW];exact HUS.out)
 obtain⟨e0,hO⟩:∃ e0:List Value,Own eInt W1 (.slice (some ⟨R,0,none⟩) 2 2) [(1,e0),(2,e1)] Vn11:=⟨_,by rw[hW];exact HS.out⟩
 have HO:=lhd hO
 rw[← hW]
 clear hW hO HS HXS HUS
 rw[rounds_succ]
 obtain⟨bG,oG,hF,-,f9⟩:=Zv HU.out (i:=2) rfl
 injection hF with hF;injection hF with ea eb;subst ea eb
 go_upto_region 8 with fail
 clear f9
 obtain⟨cu,cv,cq,p0,p1,-,-,pI,pe⟩:=Zd HO.out (i:=0) (by simp)
 have ec:(1:Int)=cq:=congrArg Prod.fst (oSi pe)
 subst ec
 have HRl:=lhd (HO.out.1.lt R rfl).2
 have HC0:=lhd (show Vn11.cell? ⟨R,0+0*2,none⟩=some cu from p0)
 have HC1:=lhd (show Vn11.cell? ⟨R,0+0*2+1,none⟩=some cv from p1)
 have HCI:=lhd pI
 obtain⟨sq,aq,nq,cq,zl,z0,z1,-,-,zi⟩:=HX.out
 have HZl:=lhd zl;have HE0:=lhd z0;have HE1:=lhd z1;have HEI:=lhd zi
 clear p0 p1 pI pe zl z0 z1 zi
 refine wrt 9 [(0,30,VC (.slice (some ⟨R,0,none⟩) 2 2)),(1,31,VC (.int .i64 0)),(2,32,VC (.slice (some ⟨R,0,none⟩) 2 2)),(3,33,VC (.int .i64 0)),(4,34,VC (.pointer (some ⟨R,0+0*2,none⟩))),(5,35,VI 1),(6,36,VI 0),(7,37,VI (1+0)),(8,38,VC (.pointer (some ⟨R,0+0*2,none⟩)))] (fun _=>True) [30,31,32,33,34,35,36,37,38] ⟨kv,kv,kv,kv,kv,Keeps.vi _,Keeps.vi _,Keeps.vi _,kv,trivial⟩ (fun _ _ _ _ _=>trivial) trivial (by decide) (Zn _ ⟨?_,?_,?_,?_,?_,?_,?_,?_,?_,trivial⟩) ?_
 ·exact mvX rfl rfl rfl
 ·exact mvX rfl rfl rfl
 ·exact mvX rfl rfl rfl
 ·exact mvX rfl rfl rfl
 ·exact .of rfl rfl fun _ _ _ _ hV _=>.rowAt Tryz.underlying51 HI.out HZ1.out rfl (fgt hV 2 rfl) (fgt hV 3 rfl) (by decide)
 ·exact .of rfl rfl fun _ _ hB _ hV _=>.loadI' hB HRl.out HC0.out HC1.out HCI.out rfl (fgt hV 4 rfl)
 ·exact .of rfl rfl fun _ _ hB _ _ _=>.loadI' hB HZl.out HE0.out HE1.out HEI.out rfl (fou (v:=.pointer (some ⟨X1,0,none⟩)))
 ·exact .of rfl rfl fun _ _ _ _ hV _=>by obtain⟨u5,v5,e5,h5⟩:=hge hV 5 rfl;obtain⟨u6,v6,e6,h6⟩:=hge hV 6 rfl;exact .call Tryz.func88 (by kernel_rfl) rfl rfl rfl (Zg ((fri).trans e5) ((fri).trans e6)) (cAdd (j:=1) (k:=1) h5 h6 (by unfold Wn;decide) (by unfold Wn;decide) (by omega))
 ·exact .of rfl rfl fun _ _ _ _ hV _=>.rowAt Tryz.underlying51 HI.out HZ1.out rfl (fgt hV 0 rfl) (fgt hV 1 rfl) (by decide)
 intro y W5 hB hE hV
 obtain⟨uS,vS,eS,hS⟩:VI (1+0) (y 37) W5:=hend hV 7 rfl
 rw[show(1:Int)+0=1 from by decide]at hS
 have eP:y 38=.pointer (some ⟨R,0,none⟩):=hend hV 8 rfl
 have HO1:=lhd (HO.out.keep hB)
 have HX1:=lhd (HX.out.keep hB)
 have HU1:=lhd (Sl.keep HU.out hB)
 clear hB hE hV HO HX HU HRl HC0 HC1 HCI HZl HE0 HE1 HEI
 generalize hact:fr _ _ y=act
 simp only[fr,Zf,fC0,fN0,sA0,sZ0,sS0,eS,eP]at hact
 subst hact
 clear eS eP
 show wpList _ _ _ [_] _ _
 obtain⟨cu,cv,cq,p0,p1,f0,f1,-,-⟩:=Zd HO1.out (i:=0) (by simp)
 have p0:W5.cell? ⟨R,0,none⟩=some cu:=p0
 have p1:W5.cell? ⟨R,1,none⟩=some cv:=p1
 have f0:W5.frozen? ⟨R,0,none⟩=false:=f0
 have f1:W5.frozen? ⟨R,1,none⟩=false:=f1
 have HS:=lhd (Zt HO1.out (i:=0) (by simp) hS)
 obtain⟨aS,cS,rfl,rfl,-⟩:=hS
 have HXS:=lhd (HX1.out.row (j:=0) (s:=sgB (1)) (v:=.slice aS (lnW (1)) cS) HRX.out (HO1.out.2.2.2 R rfl))
 have HUS:=lhd (Xu HU1.out (by decide) (HO1.out.2.2.2 R rfl) (Alt.two (g:=R) (k:=0) (j:=1) (u:=.bool (sgB (1))) (v:=.slice aS (lnW (1)) cS)))
 clear HO1 HX1 HU1
 generalize sgB (1)=s5 at *
 generalize lnW (1)=n5 at *
 go_wp2_with fail
 clear p0 p1 f0 f1
 obtain⟨Vn12,hW⟩:∃ V,V=(W5.setCell ⟨R,0,none⟩ (.bool s5)).setCell ⟨R,1,none⟩ (.slice aS n5 cS):=⟨_,rfl⟩
 have HX:=lhd (show IBox Vn12 X1 0 from by rw[hW];exact HXS.out)
 have HU:=lhd (show NP [0,0,0] (.slice (some ⟨bF,oF,none⟩) 3 cE) Vn12 from by rw[hW];exact HUS.out)
 obtain⟨e0,hO⟩:∃ e0:List Value,Own eInt W1 (.slice (some ⟨R,0,none⟩) 2 2) [(1,e0),(2,e1)] Vn12:=⟨_,by rw[hW];exact HS.out⟩
 have HO:=lhd hO
 rw[← hW]
 clear hW hO HS HXS HUS
 rw[rounds_succ]
 go_wp2_with fail
 clear HX HRX HU
 rw[rounds_succ]
 go_wp2_with fail
 go_ret
 exact⟨_,rfl,Sl.vp HO.out.sl,HB1.out.trans (HO.out.below.mono HB1.out.size)⟩
theorem Zim{a b v:Value}{w:World}(hg:GV XI Zz a b w)(hv:VP [1,2] v w):Calls Tryz.prog 93 #[.agg #[a,b],v] w (Zb (VP [7,2]) w):=by
 obtain⟨A,c,rfl,-,-⟩:=hv.len
 obtain⟨g,o,s9,A9,m9,c9,rfl,-⟩:=hv.at (i:=0) rfl
 obtain⟨A',c',rfl,-,-⟩:=hg.2.len
 have hB:=(brf w.heap.size w).alloc (nlr _) (.cells #[a,.slice A' Zz.length c'] 33)
 have hG:=GBox.new (a:=a) (b:=.slice A' Zz.length c') (W:=w)
 obtain⟨W1,hW1⟩:=nmx (w.alloc (.cells #[a,.slice A' Zz.length c'] 33))
 rw[← hW1]at hB hG
 have HB1:=lhd hB;have HG:=lhd hG;have HW1:=lhd hW1
 have HV:=lhd (hv.keep hB)
 have HE:=lhd (Sl.keep hg.2 hB)
 have hmk:=(show ∀ W:World,(Instr.makeSlice 51 (.int .i64 2) (.int .i64 2)).run Tryz.prog W=.ok (.slice (some ⟨W.heap.size,0,none⟩) 2 2) (W.alloc (.cells (madeCells #[.bool false,.slice none 0 0] (2*2)) 57)) from XQ _ Tryz.underlying51 2 (by omega))
 obtain⟨i0,hi,hz0,hz1,hz2⟩:=info_parts Xw
 have HI:=lhd hi;have HZ1:=lhd hz1
 have HBA:=lhd (show ∀ (W:World) o,Below W.heap.size W (W.alloc o) from fun W o=>(brf W.heap.size W).alloc (nlr _) o)
 clear hv hg hB hG hW1 hi hz0 hz1 hz2
 rw[show Zz.length=2 from rfl]at *
 simp only[List.length_cons,List.length_nil]at *
 have HM:=lhd (Own.made_int (w:=W1) (N:=2) (brf _ _) (by omega))
 go_enter Tryz.func93,Tryz.ntmps93
 go_upto_region 1 with fail
 rw[← HW1.out]
 obtain⟨Pg,hP⟩:∃ X,X=w.heap.size:=⟨_,rfl⟩
 rw[← hP]at HG
 rw[← hP]
 clear hP HW1
 go_wp2_with fail
 obtain⟨R,hR⟩:=nmx (W1.heap.size)
 rw[← hR]at HM
 rw[← hR]
 clear hR hmk
 obtain⟨V0,hV0⟩:∃ V,V=W1.alloc (.cells (madeCells #[.bool false,.slice none 0 0] (2*2)) 57):=⟨_,rfl⟩
 rw[← hV0]at HM
 have hV0':V0=W1.alloc (.cells (madeCells #[.bool false,.slice none 0 0] 4) 57):=hV0
 rw[← hV0']
 have HO0:=lhd (show Own eInt W1 (.slice (some ⟨R,0,none⟩) 2 2) [(0,[.bool false,.slice none 0 0]),(0,[.bool false,.slice none 0 0])] V0 from HM.out)
 clear hV0 hV0' HM
 obtain⟨e0,e1,hO⟩:∃ e0 e1:List Value,Own eInt W1 (.slice (some ⟨R,0,none⟩) 2 2) [(0,e0),(0,e1)] V0:=⟨_,_,HO0.out⟩
 have HO:=lhd hO
 clear HO0 hO
 refine wp_loop_rounds 3 ?_
 rw[rounds_succ]
 obtain⟨s,A,m,k,q0,q1,hI⟩:=Xa (HV.out.keep HO.out.below) (i:=0) rfl
 have q0:V0.cell? ⟨g,o,none⟩=some (.bool s):=q0
 have q1:V0.cell? ⟨g,o+1,none⟩=some (.slice A m k):=q1
 have HIp:=lhd hI
 clear hI
 go_upto_region 5 with fail
 have HX:=lhd (IBox.new HIp.out)
 have HRX:=lhd (show R≠V0.heap.size from by have:=(HO.out.1.lt R rfl).2;omega)
 have HO1:=lhd (HO.out.keep (HBA.out V0 (.cells #[.bool s,.slice A m k] 57)))
 obtain⟨Vx0,hW⟩:∃ V,V=V0.alloc (.cells #[.bool s,.slice A m k] 57):=⟨_,rfl⟩
 obtain⟨X0,hX⟩:∃ X,X=V0.heap.size:=⟨_,rfl⟩
 rw[← hW,← hX]at HX
 rw[← hX]at HRX
 rw[← hW]at HO1
 rw[← hW,← hX]
 clear hW hX q0 q1 HIp HO
 have HO:=lhd HO1.out
 clear HO1
 obtain⟨-,g0,g1⟩:=HG.out.keep HO.out.below
 obtain⟨bE,oE,uE,hA,-,r0,hu⟩:=ZP (Sl.keep HE.out HO.out.below) (i:=0) (z:=[0,1,1]) rfl
 rw[hA]at g1
 rw[Nat.add_zero]at r0
 obtain⟨AE,cE,hE2,-,-⟩:=Sl.len hu
 rw[hE2]at r0 hu
 obtain⟨bF,oF,hF,-,f9⟩:=Zv hu (i:=0) rfl
 rw[hF]at r0 hu
 have HU:=lhd hu
 simp only[List.length_cons,List.length_nil]at *
 clear f9 hu hE2 hF hA
 go_wp2_with fail
 clear g0 g1 r0
 refine wp_loop_rounds 4 ?_
 rw[rounds_succ]
 obtain⟨bG,oG,hF,-,f9⟩:=Zv HU.out (i:=0) rfl
 injection hF with hF;injection hF with ea eb;subst ea eb
 rw[Nat.add_zero]at f9
 go_upto_region 8 with fail
 clear f9
 obtain⟨cu,cv,cq,p0,p1,-,-,pI,pe⟩:=Zd HO.out (i:=0) (by simp)
 have ec:(0:Int)=cq:=congrArg Prod.fst (oSi pe)
 subst ec
 have HRl:=lhd (HO.out.1.lt R rfl).2
 have HC0:=lhd (show Vx0.cell? ⟨R,0+0*2,none⟩=some cu from p0)
 have HC1:=lhd (show Vx0.cell? ⟨R,0+0*2+1,none⟩=some cv from p1)
 have HCI:=lhd pI
 obtain⟨sq,aq,nq,cq,zl,z0,z1,-,-,zi⟩:=HX.out
 have HZl:=lhd zl;have HE0:=lhd z0;have HE1:=lhd z1;have HEI:=lhd zi
 clear p0 p1 pI pe zl z0 z1 zi
 refine wrt 9 [(0,30,VC (.slice (some ⟨R,0,none⟩) 2 2)),(1,31,VC (.int .i64 0)),(2,32,VC (.slice (some ⟨R,0,none⟩) 2 2)),(3,33,VC (.int .i64 0)),(4,34,VC (.pointer (some ⟨R,0+0*2,none⟩))),(5,35,VI 0),(6,36,VI 1),(7,37,VI (0+1)),(8,38,VC (.pointer (some ⟨R,0+0*2,none⟩)))] (fun _=>True) [30,31,32,33,34,35,36,37,38] ⟨kv,kv,kv,kv,kv,Keeps.vi _,Keeps.vi _,Keeps.vi _,kv,trivial⟩ (fun _ _ _ _ _=>trivial) trivial (by decide) (Zn _ ⟨?_,?_,?_,?_,?_,?_,?_,?_,?_,trivial⟩) ?_
 ·exact mvX rfl rfl rfl
 ·exact mvX rfl rfl rfl
 ·exact mvX rfl rfl rfl
 ·exact mvX rfl rfl rfl
 ·exact .of rfl rfl fun _ _ _ _ hV _=>.rowAt Tryz.underlying51 HI.out HZ1.out rfl (fgt hV 2 rfl) (fgt hV 3 rfl) (by decide)
 ·exact .of rfl rfl fun _ _ hB _ hV _=>.loadI' hB HRl.out HC0.out HC1.out HCI.out rfl (fgt hV 4 rfl)
 ·exact .of rfl rfl fun _ _ hB _ _ _=>.loadI' hB HZl.out HE0.out HE1.out HEI.out rfl (fou (v:=.pointer (some ⟨X0,0,none⟩)))
 ·exact .of rfl rfl fun _ _ _ _ hV _=>by obtain⟨u5,v5,e5,h5⟩:=hge hV 5 rfl;obtain⟨u6,v6,e6,h6⟩:=hge hV 6 rfl;exact .call Tryz.func88 (by kernel_rfl) rfl rfl rfl (Zg ((fri).trans e5) ((fri).trans e6)) (cAdd (j:=1) (k:=1) h5 h6 (by unfold Wn;decide) (by unfold Wn;decide) (by omega))
 ·exact .of rfl rfl fun _ _ _ _ hV _=>.rowAt Tryz.underlying51 HI.out HZ1.out rfl (fgt hV 0 rfl) (fgt hV 1 rfl) (by decide)
 intro y W5 hB hE hV
 obtain⟨uS,vS,eS,hS⟩:VI (0+1) (y 37) W5:=hend hV 7 rfl
 rw[show(0:Int)+1=1 from by decide]at hS
 have eP:y 38=.pointer (some ⟨R,0,none⟩):=hend hV 8 rfl
 have HO1:=lhd (HO.out.keep hB)
 have HX1:=lhd (HX.out.keep hB)
 have HU1:=lhd (Sl.keep HU.out hB)
 clear hB hE hV HO HX HU HRl HC0 HC1 HCI HZl HE0 HE1 HEI
 generalize hact:fr _ _ y=act
 simp only[fr,Zf,fC0,fN0,sA0,sZ0,sS0,eS,eP]at hact
 subst hact
 clear eS eP
 show wpList _ _ _ [_] _ _
 obtain⟨cu,cv,cq,p0,p1,f0,f1,-,-⟩:=Zd HO1.out (i:=0) (by simp)
 have p0:W5.cell? ⟨R,0,none⟩=some cu:=p0
 have p1:W5.cell? ⟨R,1,none⟩=some cv:=p1
 have f0:W5.frozen? ⟨R,0,none⟩=false:=f0
 have f1:W5.frozen? ⟨R,1,none⟩=false:=f1
 have HS:=lhd (Zt HO1.out (i:=0) (by simp) hS)
 obtain⟨aS,cS,rfl,rfl,-⟩:=hS
 have HXS:=lhd (HX1.out.row (j:=0) (s:=sgB (1)) (v:=.slice aS (lnW (1)) cS) HRX.out (HO1.out.2.2.2 R rfl))
 have HUS:=lhd (Xu HU1.out (by decide) (HO1.out.2.2.2 R rfl) (Alt.two (g:=R) (k:=0) (j:=1) (u:=.bool (sgB (1))) (v:=.slice aS (lnW (1)) cS)))
 clear HO1 HX1 HU1
 generalize sgB (1)=s5 at *
 generalize lnW (1)=n5 at *
 go_wp2_with fail
 clear p0 p1 f0 f1
 obtain⟨Vn00,hW⟩:∃ V,V=(W5.setCell ⟨R,0,none⟩ (.bool s5)).setCell ⟨R,1,none⟩ (.slice aS n5 cS):=⟨_,rfl⟩
 have HX:=lhd (show IBox Vn00 X0 1 from by rw[hW];exact HXS.out)
 have HU:=lhd (show NP [0,1,1] (.slice (some ⟨bF,oF,none⟩) 3 cE) Vn00 from by rw[hW];exact HUS.out)
 obtain⟨e0,hO⟩:∃ e0:List Value,Own eInt W1 (.slice (some ⟨R,0,none⟩) 2 2) [(1,e0),(0,e1)] Vn00:=⟨_,by rw[hW];exact HS.out⟩
 have HO:=lhd hO
 rw[← hW]
 clear hW hO HS HXS HUS
 rw[rounds_succ]
 obtain⟨bG,oG,hF,-,f9⟩:=Zv HU.out (i:=1) rfl
 injection hF with hF;injection hF with ea eb;subst ea eb
 go_upto_region 8 with fail
 clear f9
 obtain⟨cu,cv,cq,p0,p1,-,-,pI,pe⟩:=Zd HO.out (i:=1) (by simp)
 have ec:(0:Int)=cq:=congrArg Prod.fst (oSi pe)
 subst ec
 have HRl:=lhd (HO.out.1.lt R rfl).2
 have HC0:=lhd (show Vn00.cell? ⟨R,0+1*2,none⟩=some cu from p0)
 have HC1:=lhd (show Vn00.cell? ⟨R,0+1*2+1,none⟩=some cv from p1)
 have HCI:=lhd pI
 obtain⟨sq,aq,nq,cq,zl,z0,z1,-,-,zi⟩:=HX.out
 have HZl:=lhd zl;have HE0:=lhd z0;have HE1:=lhd z1;have HEI:=lhd zi
 clear p0 p1 pI pe zl z0 z1 zi
 refine wrt 9 [(0,30,VC (.slice (some ⟨R,0,none⟩) 2 2)),(1,31,VC (.int .i64 1)),(2,32,VC (.slice (some ⟨R,0,none⟩) 2 2)),(3,33,VC (.int .i64 1)),(4,34,VC (.pointer (some ⟨R,0+1*2,none⟩))),(5,35,VI 0),(6,36,VI 1),(7,37,VI (0+1)),(8,38,VC (.pointer (some ⟨R,0+1*2,none⟩)))] (fun _=>True) [30,31,32,33,34,35,36,37,38] ⟨kv,kv,kv,kv,kv,Keeps.vi _,Keeps.vi _,Keeps.vi _,kv,trivial⟩ (fun _ _ _ _ _=>trivial) trivial (by decide) (Zn _ ⟨?_,?_,?_,?_,?_,?_,?_,?_,?_,trivial⟩) ?_
 ·exact mvX rfl rfl rfl
 ·exact mvX rfl rfl rfl
 ·exact mvX rfl rfl rfl
 ·exact mvX rfl rfl rfl
 ·exact .of rfl rfl fun _ _ _ _ hV _=>.rowAt Tryz.underlying51 HI.out HZ1.out rfl (fgt hV 2 rfl) (fgt hV 3 rfl) (by decide)
 ·exact .of rfl rfl fun _ _ hB _ hV _=>.loadI' hB HRl.out HC0.out HC1.out HCI.out rfl (fgt hV 4 rfl)
 ·exact .of rfl rfl fun _ _ hB _ _ _=>.loadI' hB HZl.out HE0.out HE1.out HEI.out rfl (fou (v:=.pointer (some ⟨X0,0,none⟩)))
 ·exact .of rfl rfl fun _ _ _ _ hV _=>by obtain⟨u5,v5,e5,h5⟩:=hge hV 5 rfl;obtain⟨u6,v6,e6,h6⟩:=hge hV 6 rfl;exact .call Tryz.func88 (by kernel_rfl) rfl rfl rfl (Zg ((fri).trans e5) ((fri).trans e6)) (cAdd (j:=1) (k:=1) h5 h6 (by unfold Wn;decide) (by unfold Wn;decide) (by omega))
 ·exact .of rfl rfl fun _ _ _ _ hV _=>.rowAt Tryz.underlying51 HI.out HZ1.out rfl (fgt hV 0 rfl) (fgt hV 1 rfl) (by decide)
 intro y W5 hB hE hV
 obtain⟨uS,vS,eS,hS⟩:VI (0+1) (y 37) W5:=hend hV 7 rfl
 rw[show(0:Int)+1=1 from by decide]at hS
 have eP:y 38=.pointer (some ⟨R,2,none⟩):=hend hV 8 rfl
 have HO1:=lhd (HO.out.keep hB)
 have HX1:=lhd (HX.out.keep hB)
 have HU1:=lhd (Sl.keep HU.out hB)
 clear hB hE hV HO HX HU HRl HC0 HC1 HCI HZl HE0 HE1 HEI
 generalize hact:fr _ _ y=act
 simp only[fr,Zf,fC0,fN0,sA0,sZ0,sS0,eS,eP]at hact
 subst hact
 clear eS eP
 show wpList _ _ _ [_] _ _
 obtain⟨cu,cv,cq,p0,p1,f0,f1,-,-⟩:=Zd HO1.out (i:=1) (by simp)
 have p0:W5.cell? ⟨R,2,none⟩=some cu:=p0
 have p1:W5.cell? ⟨R,3,none⟩=some cv:=p1
 have f0:W5.frozen? ⟨R,2,none⟩=false:=f0
 have f1:W5.frozen? ⟨R,3,none⟩=false:=f1
 have HS:=lhd (Zt HO1.out (i:=1) (by simp) hS)
 obtain⟨aS,cS,rfl,rfl,-⟩:=hS
 have HXS:=lhd (HX1.out.row (j:=2) (s:=sgB (1)) (v:=.slice aS (lnW (1)) cS) HRX.out (HO1.out.2.2.2 R rfl))
 have HUS:=lhd (Xu HU1.out (by decide) (HO1.out.2.2.2 R rfl) (Alt.two (g:=R) (k:=2) (j:=3) (u:=.bool (sgB (1))) (v:=.slice aS (lnW (1)) cS)))
 clear HO1 HX1 HU1
 generalize sgB (1)=s5 at *
 generalize lnW (1)=n5 at *
 go_wp2_with fail
 clear p0 p1 f0 f1
 obtain⟨Vn01,hW⟩:∃ V,V=(W5.setCell ⟨R,2,none⟩ (.bool s5)).setCell ⟨R,3,none⟩ (.slice aS n5 cS):=⟨_,rfl⟩
 have HX:=lhd (show IBox Vn01 X0 1 from by rw[hW];exact HXS.out)
 have HU:=lhd (show NP [0,1,1] (.slice (some ⟨bF,oF,none⟩) 3 cE) Vn01 from by rw[hW];exact HUS.out)
 obtain⟨e1,hO⟩:∃ e1:List Value,Own eInt W1 (.slice (some ⟨R,0,none⟩) 2 2) [(1,e0),(1,e1)] Vn01:=⟨_,by rw[hW];exact HS.out⟩
 have HO:=lhd hO
 rw[← hW]
 clear hW hO HS HXS HUS
 rw[rounds_succ]
 obtain⟨bG,oG,hF,-,f9⟩:=Zv HU.out (i:=2) rfl
 injection hF with hF;injection hF with ea eb;subst ea eb
 go_upto_region 8 with fail
 clear f9
 obtain⟨cu,cv,cq,p0,p1,-,-,pI,pe⟩:=Zd HO.out (i:=1) (by simp)
 have ec:(1:Int)=cq:=congrArg Prod.fst (oSi pe)
 subst ec
 have HRl:=lhd (HO.out.1.lt R rfl).2
 have HC0:=lhd (show Vn01.cell? ⟨R,0+1*2,none⟩=some cu from p0)
 have HC1:=lhd (show Vn01.cell? ⟨R,0+1*2+1,none⟩=some cv from p1)
 have HCI:=lhd pI
 obtain⟨sq,aq,nq,cq,zl,z0,z1,-,-,zi⟩:=HX.out
 have HZl:=lhd zl;have HE0:=lhd z0;have HE1:=lhd z1;have HEI:=lhd zi
 clear p0 p1 pI pe zl z0 z1 zi
 refine wrt 9 [(0,30,VC (.slice (some ⟨R,0,none⟩) 2 2)),(1,31,VC (.int .i64 1)),(2,32,VC (.slice (some ⟨R,0,none⟩) 2 2)),(3,33,VC (.int .i64 1)),(4,34,VC (.pointer (some ⟨R,0+1*2,none⟩))),(5,35,VI 1),(6,36,VI 1),(7,37,VI (1+1)),(8,38,VC (.pointer (some ⟨R,0+1*2,none⟩)))] (fun _=>True) [30,31,32,33,34,35,36,37,38] ⟨kv,kv,kv,kv,kv,Keeps.vi _,Keeps.vi _,Keeps.vi _,kv,trivial⟩ (fun _ _ _ _ _=>trivial) trivial (by decide) (Zn _ ⟨?_,?_,?_,?_,?_,?_,?_,?_,?_,trivial⟩) ?_
 ·exact mvX rfl rfl rfl
 ·exact mvX rfl rfl rfl
 ·exact mvX rfl rfl rfl
 ·exact mvX rfl rfl rfl
 ·exact .of rfl rfl fun _ _ _ _ hV _=>.rowAt Tryz.underlying51 HI.out HZ1.out rfl (fgt hV 2 rfl) (fgt hV 3 rfl) (by decide)
 ·exact .of rfl rfl fun _ _ hB _ hV _=>.loadI' hB HRl.out HC0.out HC1.out HCI.out rfl (fgt hV 4 rfl)
 ·exact .of rfl rfl fun _ _ hB _ _ _=>.loadI' hB HZl.out HE0.out HE1.out HEI.out rfl (fou (v:=.pointer (some ⟨X0,0,none⟩)))
 ·exact .of rfl rfl fun _ _ _ _ hV _=>by obtain⟨u5,v5,e5,h5⟩:=hge hV 5 rfl;obtain⟨u6,v6,e6,h6⟩:=hge hV 6 rfl;exact .call Tryz.func88 (by kernel_rfl) rfl rfl rfl (Zg ((fri).trans e5) ((fri).trans e6)) (cAdd (j:=1) (k:=1) h5 h6 (by unfold Wn;decide) (by unfold Wn;decide) (by omega))
 ·exact .of rfl rfl fun _ _ _ _ hV _=>.rowAt Tryz.underlying51 HI.out HZ1.out rfl (fgt hV 0 rfl) (fgt hV 1 rfl) (by decide)
 intro y W5 hB hE hV
 obtain⟨uS,vS,eS,hS⟩:VI (1+1) (y 37) W5:=hend hV 7 rfl
 rw[show(1:Int)+1=2 from by decide]at hS
 have eP:y 38=.pointer (some ⟨R,2,none⟩):=hend hV 8 rfl
 have HO1:=lhd (HO.out.keep hB)
 have HX1:=lhd (HX.out.keep hB)
 have HU1:=lhd (Sl.keep HU.out hB)
 clear hB hE hV HO HX HU HRl HC0 HC1 HCI HZl HE0 HE1 HEI
 generalize hact:fr _ _ y=act
 simp only[fr,Zf,fC0,fN0,sA0,sZ0,sS0,eS,eP]at hact
 subst hact
 clear eS eP
 show wpList _ _ _ [_] _ _
 obtain⟨cu,cv,cq,p0,p1,f0,f1,-,-⟩:=Zd HO1.out (i:=1) (by simp)
 have p0:W5.cell? ⟨R,2,none⟩=some cu:=p0
 have p1:W5.cell? ⟨R,3,none⟩=some cv:=p1
 have f0:W5.frozen? ⟨R,2,none⟩=false:=f0
 have f1:W5.frozen? ⟨R,3,none⟩=false:=f1
 have HS:=lhd (Zt HO1.out (i:=1) (by simp) hS)
 obtain⟨aS,cS,rfl,rfl,-⟩:=hS
 have HXS:=lhd (HX1.out.row (j:=2) (s:=sgB (2)) (v:=.slice aS (lnW (2)) cS) HRX.out (HO1.out.2.2.2 R rfl))
 have HUS:=lhd (Xu HU1.out (by decide) (HO1.out.2.2.2 R rfl) (Alt.two (g:=R) (k:=2) (j:=3) (u:=.bool (sgB (2))) (v:=.slice aS (lnW (2)) cS)))
 clear HO1 HX1 HU1
 generalize sgB (2)=s5 at *
 generalize lnW (2)=n5 at *
 go_wp2_with fail
 clear p0 p1 f0 f1
 obtain⟨Vn02,hW⟩:∃ V,V=(W5.setCell ⟨R,2,none⟩ (.bool s5)).setCell ⟨R,3,none⟩ (.slice aS n5 cS):=⟨_,rfl⟩
 have HX:=lhd (show IBox Vn02 X0 1 from by rw[hW];exact HXS.out)
 have HU:=lhd (show NP [0,1,1] (.slice (some ⟨bF,oF,none⟩) 3 cE) Vn02 from by rw[hW];exact HUS.out)
 obtain⟨e1,hO⟩:∃ e1:List Value,Own eInt W1 (.slice (some ⟨R,0,none⟩) 2 2) [(1,e0),(2,e1)] Vn02:=⟨_,by rw[hW];exact HS.out⟩
 have HO:=lhd hO
 rw[← hW]
 clear hW hO HS HXS HUS
 rw[rounds_succ]
 go_wp2_with fail
 clear HX HRX HU
 rw[rounds_succ]
 obtain⟨s,A,m,k,q0,q1,hI⟩:=Xa (HV.out.keep HO.out.below) (i:=1) rfl
 have q0:Vn02.cell? ⟨g,o+2,none⟩=some (.bool s):=q0
 have q1:Vn02.cell? ⟨g,o+2+1,none⟩=some (.slice A m k):=q1
 have HIp:=lhd hI
 clear hI
 go_upto_region 5 with fail
 have HX:=lhd (IBox.new HIp.out)
 have HRX:=lhd (show R≠Vn02.heap.size from by have:=(HO.out.1.lt R rfl).2;omega)
 have HO1:=lhd (HO.out.keep (HBA.out Vn02 (.cells #[.bool s,.slice A m k] 57)))
 obtain⟨Vx1,hW⟩:∃ V,V=Vn02.alloc (.cells #[.bool s,.slice A m k] 57):=⟨_,rfl⟩
 obtain⟨X1,hX⟩:∃ X,X=Vn02.heap.size:=⟨_,rfl⟩
 rw[← hW,← hX]at HX
 rw[← hX]at HRX
 rw[← hW]at HO1
 rw[← hW,← hX]
 clear hW hX q0 q1 HIp HO
 have HO:=lhd HO1.out
 clear HO1
 obtain⟨-,g0,g1⟩:=HG.out.keep HO.out.below
 obtain⟨bE,oE,uE,hA,-,r0,hu⟩:=ZP (Sl.keep HE.out HO.out.below) (i:=1) (z:=[0,0,0]) rfl
 rw[hA]at g1
 obtain⟨AE,cE,hE2,-,-⟩:=Sl.len hu
 rw[hE2]at r0 hu
 obtain⟨bF,oF,hF,-,f9⟩:=Zv hu (i:=0) rfl
 rw[hF]at r0 hu
 have HU:=lhd hu
 simp only[List.length_cons,List.length_nil]at *
 clear f9 hu hE2 hF hA
 go_wp2_with fail
 clear g0 g1 r0
 refine wp_loop_rounds 4 ?_
 rw[rounds_succ]
 obtain⟨bG,oG,hF,-,f9⟩:=Zv HU.out (i:=0) rfl
 injection hF with hF;injection hF with ea eb;subst ea eb
 rw[Nat.add_zero]at f9
 go_upto_region 8 with fail
 clear f9
 obtain⟨cu,cv,cq,p0,p1,-,-,pI,pe⟩:=Zd HO.out (i:=0) (by simp)
 have ec:(1:Int)=cq:=congrArg Prod.fst (oSi pe)
 subst ec
 have HRl:=lhd (HO.out.1.lt R rfl).2
 have HC0:=lhd (show Vx1.cell? ⟨R,0+0*2,none⟩=some cu from p0)
 have HC1:=lhd (show Vx1.cell? ⟨R,0+0*2+1,none⟩=some cv from p1)
 have HCI:=lhd pI
 obtain⟨sq,aq,nq,cq,zl,z0,z1,-,-,zi⟩:=HX.out
 have HZl:=lhd zl;have HE0:=lhd z0;have HE1:=lhd z1;have HEI:=lhd zi
 clear p0 p1 pI pe zl z0 z1 zi
 refine wrt 9 [(0,30,VC (.slice (some ⟨R,0,none⟩) 2 2)),(1,31,VC (.int .i64 0)),(2,32,VC (.slice (some ⟨R,0,none⟩) 2 2)),(3,33,VC (.int .i64 0)),(4,34,VC (.pointer (some ⟨R,0+0*2,none⟩))),(5,35,VI 1),(6,36,VI 2),(7,37,VI (1+2)),(8,38,VC (.pointer (some ⟨R,0+0*2,none⟩)))] (fun _=>True) [30,31,32,33,34,35,36,37,38] ⟨kv,kv,kv,kv,kv,Keeps.vi _,Keeps.vi _,Keeps.vi _,kv,trivial⟩ (fun _ _ _ _ _=>trivial) trivial (by decide) (Zn _ ⟨?_,?_,?_,?_,?_,?_,?_,?_,?_,trivial⟩) ?_
 ·exact mvX rfl rfl rfl
 ·exact mvX rfl rfl rfl
 ·exact mvX rfl rfl rfl
 ·exact mvX rfl rfl rfl
 ·exact .of rfl rfl fun _ _ _ _ hV _=>.rowAt Tryz.underlying51 HI.out HZ1.out rfl (fgt hV 2 rfl) (fgt hV 3 rfl) (by decide)
 ·exact .of rfl rfl fun _ _ hB _ hV _=>.loadI' hB HRl.out HC0.out HC1.out HCI.out rfl (fgt hV 4 rfl)
 ·exact .of rfl rfl fun _ _ hB _ _ _=>.loadI' hB HZl.out HE0.out HE1.out HEI.out rfl (fou (v:=.pointer (some ⟨X1,0,none⟩)))
 ·exact .of rfl rfl fun _ _ _ _ hV _=>by obtain⟨u5,v5,e5,h5⟩:=hge hV 5 rfl;obtain⟨u6,v6,e6,h6⟩:=hge hV 6 rfl;exact .call Tryz.func88 (by kernel_rfl) rfl rfl rfl (Zg ((fri).trans e5) ((fri).trans e6)) (cAdd (j:=1) (k:=1) h5 h6 (by unfold Wn;decide) (by unfold Wn;decide) (by omega))
 ·exact .of rfl rfl fun _ _ _ _ hV _=>.rowAt Tryz.underlying51 HI.out HZ1.out rfl (fgt hV 0 rfl) (fgt hV 1 rfl) (by decide)
 intro y W5 hB hE hV
 obtain⟨uS,vS,eS,hS⟩:VI (1+2) (y 37) W5:=hend hV 7 rfl
 rw[show(1:Int)+2=3 from by decide]at hS
 have eP:y 38=.pointer (some ⟨R,0,none⟩):=hend hV 8 rfl
 have HO1:=lhd (HO.out.keep hB)
 have HX1:=lhd (HX.out.keep hB)
 have HU1:=lhd (Sl.keep HU.out hB)
 clear hB hE hV HO HX HU HRl HC0 HC1 HCI HZl HE0 HE1 HEI
 generalize hact:fr _ _ y=act
 simp only[fr,Zf,fC0,fN0,sA0,sZ0,sS0,eS,eP]at hact
 subst hact
 clear eS eP
 show wpList _ _ _ [_] _ _
 obtain⟨cu,cv,cq,p0,p1,f0,f1,-,-⟩:=Zd HO1.out (i:=0) (by simp)
 have p0:W5.cell? ⟨R,0,none⟩=some cu:=p0
 have p1:W5.cell? ⟨R,1,none⟩=some cv:=p1
 have f0:W5.frozen? ⟨R,0,none⟩=false:=f0
 have f1:W5.frozen? ⟨R,1,none⟩=false:=f1
 have HS:=lhd (Zt HO1.out (i:=0) (by simp) hS)
 obtain⟨aS,cS,rfl,rfl,-⟩:=hS
 have HXS:=lhd (HX1.out.row (j:=0) (s:=sgB (3)) (v:=.slice aS (lnW (3)) cS) HRX.out (HO1.out.2.2.2 R rfl))
 have HUS:=lhd (Xu HU1.out (by decide) (HO1.out.2.2.2 R rfl) (Alt.two (g:=R) (k:=0) (j:=1) (u:=.bool (sgB (3))) (v:=.slice aS (lnW (3)) cS)))
 clear HO1 HX1 HU1
 generalize sgB (3)=s5 at *
 generalize lnW (3)=n5 at *
 go_wp2_with fail
 clear p0 p1 f0 f1
 obtain⟨Vn10,hW⟩:∃ V,V=(W5.setCell ⟨R,0,none⟩ (.bool s5)).setCell ⟨R,1,none⟩ (.slice aS n5 cS):=⟨_,rfl⟩
 have HX:=lhd (show IBox Vn10 X1 2 from by rw[hW];exact HXS.out)
 have HU:=lhd (show NP [0,0,0] (.slice (some ⟨bF,oF,none⟩) 3 cE) Vn10 from by rw[hW];exact HUS.out)
 obtain⟨e0,hO⟩:∃ e0:List Value,Own eInt W1 (.slice (some ⟨R,0,none⟩) 2 2) [(3,e0),(2,e1)] Vn10:=⟨_,by rw[hW];exact HS.out⟩
 have HO:=lhd hO
 rw[← hW]
 clear hW hO HS HXS HUS
 rw[rounds_succ]
 obtain⟨bG,oG,hF,-,f9⟩:=Zv HU.out (i:=1) rfl
 injection hF with hF;injection hF with ea eb;subst ea eb
 go_upto_region 8 with fail
 clear f9
 obtain⟨cu,cv,cq,p0,p1,-,-,pI,pe⟩:=Zd HO.out (i:=0) (by simp)
 have ec:(3:Int)=cq:=congrArg Prod.fst (oSi pe)
 subst ec
 have HRl:=lhd (HO.out.1.lt R rfl).2
 have HC0:=lhd (show Vn10.cell? ⟨R,0+0*2,none⟩=some cu from p0)
 have HC1:=lhd (show Vn10.cell? ⟨R,0+0*2+1,none⟩=some cv from p1)
 have HCI:=lhd pI
 obtain⟨sq,aq,nq,cq,zl,z0,z1,-,-,zi⟩:=HX.out
 have HZl:=lhd zl;have HE0:=lhd z0;have HE1:=lhd z1;have HEI:=lhd zi
 clear p0 p1 pI pe zl z0 z1 zi
 refine wrt 9 [(0,30,VC (.slice (some ⟨R,0,none⟩) 2 2)),(1,31,VC (.int .i64 0)),(2,32,VC (.slice (some ⟨R,0,none⟩) 2 2)),(3,33,VC (.int .i64 0)),(4,34,VC (.pointer (some ⟨R,0+0*2,none⟩))),(5,35,VI 3),(6,36,VI 2),(7,37,VI (3+2)),(8,38,VC (.pointer (some ⟨R,0+0*2,none⟩)))] (fun _=>True) [30,31,32,33,34,35,36,37,38] ⟨kv,kv,kv,kv,kv,Keeps.vi _,Keeps.vi _,Keeps.vi _,kv,trivial⟩ (fun _ _ _ _ _=>trivial) trivial (by decide) (Zn _ ⟨?_,?_,?_,?_,?_,?_,?_,?_,?_,trivial⟩) ?_
 ·exact mvX rfl rfl rfl
 ·exact mvX rfl rfl rfl
 ·exact mvX rfl rfl rfl
 ·exact mvX rfl rfl rfl
 ·exact .of rfl rfl fun _ _ _ _ hV _=>.rowAt Tryz.underlying51 HI.out HZ1.out rfl (fgt hV 2 rfl) (fgt hV 3 rfl) (by decide)
 ·exact .of rfl rfl fun _ _ hB _ hV _=>.loadI' hB HRl.out HC0.out HC1.out HCI.out rfl (fgt hV 4 rfl)
 ·exact .of rfl rfl fun _ _ hB _ _ _=>.loadI' hB HZl.out HE0.out HE1.out HEI.out rfl (fou (v:=.pointer (some ⟨X1,0,none⟩)))
 ·exact .of rfl rfl fun _ _ _ _ hV _=>by obtain⟨u5,v5,e5,h5⟩:=hge hV 5 rfl;obtain⟨u6,v6,e6,h6⟩:=hge hV 6 rfl;exact .call Tryz.func88 (by kernel_rfl) rfl rfl rfl (Zg ((fri).trans e5) ((fri).trans e6)) (cAdd (j:=1) (k:=1) h5 h6 (by unfold Wn;decide) (by unfold Wn;decide) (by omega))
 ·exact .of rfl rfl fun _ _ _ _ hV _=>.rowAt Tryz.underlying51 HI.out HZ1.out rfl (fgt hV 0 rfl) (fgt hV 1 rfl) (by decide)
 intro y W5 hB hE hV
 obtain⟨uS,vS,eS,hS⟩:VI (3+2) (y 37) W5:=hend hV 7 rfl
 rw[show(3:Int)+2=5 from by decide]at hS
 have eP:y 38=.pointer (some ⟨R,0,none⟩):=hend hV 8 rfl
 have HO1:=lhd (HO.out.keep hB)
 have HX1:=lhd (HX.out.keep hB)
 have HU1:=lhd (Sl.keep HU.out hB)
 clear hB hE hV HO HX HU HRl HC0 HC1 HCI HZl HE0 HE1 HEI
 generalize hact:fr _ _ y=act
 simp only[fr,Zf,fC0,fN0,sA0,sZ0,sS0,eS,eP]at hact
 subst hact
 clear eS eP
 show wpList _ _ _ [_] _ _
 obtain⟨cu,cv,cq,p0,p1,f0,f1,-,-⟩:=Zd HO1.out (i:=0) (by simp)
 have p0:W5.cell? ⟨R,0,none⟩=some cu:=p0
 have p1:W5.cell? ⟨R,1,none⟩=some cv:=p1
 have f0:W5.frozen? ⟨R,0,none⟩=false:=f0
 have f1:W5.frozen? ⟨R,1,none⟩=false:=f1
 have HS:=lhd (Zt HO1.out (i:=0) (by simp) hS)
 obtain⟨aS,cS,rfl,rfl,-⟩:=hS
 have HXS:=lhd (HX1.out.row (j:=0) (s:=sgB (5)) (v:=.slice aS (lnW (5)) cS) HRX.out (HO1.out.2.2.2 R rfl))
 have HUS:=lhd (Xu HU1.out (by decide) (HO1.out.2.2.2 R rfl) (Alt.two (g:=R) (k:=0) (j:=1) (u:=.bool (sgB (5))) (v:=.slice aS (lnW (5)) cS)))
 clear HO1 HX1 HU1
 generalize sgB (5)=s5 at *
 generalize lnW (5)=n5 at *
 go_wp2_with fail
 clear p0 p1 f0 f1
 obtain⟨Vn11,hW⟩:∃ V,V=(W5.setCell ⟨R,0,none⟩ (.bool s5)).setCell ⟨R,1,none⟩ (.slice aS n5 cS):=⟨_,rfl⟩
 have HX:=lhd (show IBox Vn11 X1 2 from by rw[hW];exact HXS.out)
 have HU:=lhd (show NP [0,0,0] (.slice (some ⟨bF,oF,none⟩) 3 cE) Vn11 from by rw[hW];exact HUS.out)
 obtain⟨e0,hO⟩:∃ e0:List Value,Own eInt W1 (.slice (some ⟨R,0,none⟩) 2 2) [(5,e0),(2,e1)] Vn11:=⟨_,by rw[hW];exact HS.out⟩
 have HO:=lhd hO
 rw[← hW]
 clear hW hO HS HXS HUS
 rw[rounds_succ]
 obtain⟨bG,oG,hF,-,f9⟩:=Zv HU.out (i:=2) rfl
 injection hF with hF;injection hF with ea eb;subst ea eb
 go_upto_region 8 with fail
 clear f9
 obtain⟨cu,cv,cq,p0,p1,-,-,pI,pe⟩:=Zd HO.out (i:=0) (by simp)
 have ec:(5:Int)=cq:=congrArg Prod.fst (oSi pe)
 subst ec
 have HRl:=lhd (HO.out.1.lt R rfl).2
 have HC0:=lhd (show Vn11.cell? ⟨R,0+0*2,none⟩=some cu from p0)
 have HC1:=lhd (show Vn11.cell? ⟨R,0+0*2+1,none⟩=some cv from p1)
 have HCI:=lhd pI
 obtain⟨sq,aq,nq,cq,zl,z0,z1,-,-,zi⟩:=HX.out
 have HZl:=lhd zl;have HE0:=lhd z0;have HE1:=lhd z1;have HEI:=lhd zi
 clear p0 p1 pI pe zl z0 z1 zi
 refine wrt 9 [(0,30,VC (.slice (some ⟨R,0,none⟩) 2 2)),(1,31,VC (.int .i64 0)),(2,32,VC (.slice (some ⟨R,0,none⟩) 2 2)),(3,33,VC (.int .i64 0)),(4,34,VC (.pointer (some ⟨R,0+0*2,none⟩))),(5,35,VI 5),(6,36,VI 2),(7,37,VI (5+2)),(8,38,VC (.pointer (some ⟨R,0+0*2,none⟩)))] (fun _=>True) [30,31,32,33,34,35,36,37,38] ⟨kv,kv,kv,kv,kv,Keeps.vi _,Keeps.vi _,Keeps.vi _,kv,trivial⟩ (fun _ _ _ _ _=>trivial) trivial (by decide) (Zn _ ⟨?_,?_,?_,?_,?_,?_,?_,?_,?_,trivial⟩) ?_
 ·exact mvX rfl rfl rfl
 ·exact mvX rfl rfl rfl
 ·exact mvX rfl rfl rfl
 ·exact mvX rfl rfl rfl
 ·exact .of rfl rfl fun _ _ _ _ hV _=>.rowAt Tryz.underlying51 HI.out HZ1.out rfl (fgt hV 2 rfl) (fgt hV 3 rfl) (by decide)
 ·exact .of rfl rfl fun _ _ hB _ hV _=>.loadI' hB HRl.out HC0.out HC1.out HCI.out rfl (fgt hV 4 rfl)
 ·exact .of rfl rfl fun _ _ hB _ _ _=>.loadI' hB HZl.out HE0.out HE1.out HEI.out rfl (fou (v:=.pointer (some ⟨X1,0,none⟩)))
 ·exact .of rfl rfl fun _ _ _ _ hV _=>by obtain⟨u5,v5,e5,h5⟩:=hge hV 5 rfl;obtain⟨u6,v6,e6,h6⟩:=hge hV 6 rfl;exact .call Tryz.func88 (by kernel_rfl) rfl rfl rfl (Zg ((fri).trans e5) ((fri).trans e6)) (cAdd (j:=1) (k:=1) h5 h6 (by unfold Wn;decide) (by unfold Wn;decide) (by omega))
 ·exact .of rfl rfl fun _ _ _ _ hV _=>.rowAt Tryz.underlying51 HI.out HZ1.out rfl (fgt hV 0 rfl) (fgt hV 1 rfl) (by decide)
 intro y W5 hB hE hV
 obtain⟨uS,vS,eS,hS⟩:VI (5+2) (y 37) W5:=hend hV 7 rfl
 rw[show(5:Int)+2=7 from by decide]at hS
 have eP:y 38=.pointer (some ⟨R,0,none⟩):=hend hV 8 rfl
 have HO1:=lhd (HO.out.keep hB)
 have HX1:=lhd (HX.out.keep hB)
 have HU1:=lhd (Sl.keep HU.out hB)
 clear hB hE hV HO HX HU HRl HC0 HC1 HCI HZl HE0 HE1 HEI
 generalize hact:fr _ _ y=act
 simp only[fr,Zf,fC0,fN0,sA0,sZ0,sS0,eS,eP]at hact
 subst hact
 clear eS eP
 show wpList _ _ _ [_] _ _
 obtain⟨cu,cv,cq,p0,p1,f0,f1,-,-⟩:=Zd HO1.out (i:=0) (by simp)
 have p0:W5.cell? ⟨R,0,none⟩=some cu:=p0
 have p1:W5.cell? ⟨R,1,none⟩=some cv:=p1
 have f0:W5.frozen? ⟨R,0,none⟩=false:=f0
 have f1:W5.frozen? ⟨R,1,none⟩=false:=f1
 have HS:=lhd (Zt HO1.out (i:=0) (by simp) hS)
 obtain⟨aS,cS,rfl,rfl,-⟩:=hS
 have HXS:=lhd (HX1.out.row (j:=0) (s:=sgB (7)) (v:=.slice aS (lnW (7)) cS) HRX.out (HO1.out.2.2.2 R rfl))
 have HUS:=lhd (Xu HU1.out (by decide) (HO1.out.2.2.2 R rfl) (Alt.two (g:=R) (k:=0) (j:=1) (u:=.bool (sgB (7))) (v:=.slice aS (lnW (7)) cS)))
 clear HO1 HX1 HU1
 generalize sgB (7)=s5 at *
 generalize lnW (7)=n5 at *
 go_wp2_with fail
 clear p0 p1 f0 f1
 obtain⟨Vn12,hW⟩:∃ V,V=(W5.setCell ⟨R,0,none⟩ (.bool s5)).setCell ⟨R,1,none⟩ (.slice aS n5 cS):=⟨_,rfl⟩
 have HX:=lhd (show IBox Vn12 X1 2 from by rw[hW];exact HXS.out)
 have HU:=lhd (show NP [0,0,0] (.slice (some ⟨bF,oF,none⟩) 3 cE) Vn12 from by rw[hW];exact HUS.out)
 obtain⟨e0,hO⟩:∃ e0:List Value,Own eInt W1 (.slice (some ⟨R,0,none⟩) 2 2) [(7,e0),(2,e1)] Vn12:=⟨_,by rw[hW];exact HS.out⟩
 have HO:=lhd hO
 rw[← hW]
 clear hW hO HS HXS HUS
 rw[rounds_succ]
 go_wp2_with fail
 clear HX HRX HU
 rw[rounds_succ]
 go_wp2_with fail
 go_ret
 exact⟨_,rfl,Sl.vp HO.out.sl,HB1.out.trans (HO.out.below.mono HB1.out.size)⟩
end Go.Proofs.YthkklilhjnpedaaGreatDoor
