/- The squares of the roots, for the constant graph. -/
import Derived.Test.YthkklilhjnpedaaGreatDoorUJq
set_option maxHeartbeats 16000000
set_option maxRecDepth 8000
namespace Go.Proofs.YthkklilhjnpedaaGreatDoor
open Go.RowKit FF
theorem Xa{l:List Int}{g o n c i:Nat}{z:Int}{W:World}(h:VP l (.slice (some ⟨g,o,none⟩) n c) W)(hz:l[i]?=some z):∃ s A m k,W.cell? ⟨g,o+i*2,none⟩=some (.bool s)∧W.cell? ⟨g,o+i*2+1,none⟩=some (.slice A m k)∧IC W (.bool s) (.slice A m k) z:=by
 obtain⟨b,o1,s,A,m,k,e,h1,h2,h3,-⟩:=h.at hz
 injection e with e;injection e with ea eb;subst ea eb
 exact⟨s,A,m,k,h1,h2,h3⟩
theorem Own.put{w W:World}{R Z n cap:Nat}{rs:List (Int × List Value)}{y:Int}(h:Own eInt w (.slice (some ⟨R,0,none⟩) n cap) rs W)(hb:IBox W Z y)(hw:w.heap.size≤Z)(hne:R≠Z)(u v:Value):Own eInt w (.slice (some ⟨R,0,none⟩) n cap) rs ((W.setCell ⟨Z,0,none⟩ u).setCell ⟨Z,1,none⟩ v):=by
 obtain⟨-,-,-,-,-,-,-,-,ni,-⟩:=hb
 have hcl:Clean eInt.Bad W Z:=fun i u e ⟨k,m,hu⟩=>ni i k m (hu ▸ e)
 have ha:Alt (some Z) W ((W.setCell ⟨Z,0,none⟩ u).setCell ⟨Z,1,none⟩ v):=.two
 have hR:(Value.slice (some ⟨R,0,none⟩) n cap).ownBlock≠some Z:=by simp[Value.ownBlock];exact hne
 refine⟨ownsRow_setCell_other (ownsRow_setCell_other h.1 hR u) hR v,YP h.2.1 hw _ _,fun x hx=>eInt.alt (h.2.2.1 x hx) ha (fun g hg=>by injection hg with hg;exact hg ▸ hcl),fun g hg=>(h.2.2.2 g hg).alt ha (h.1.lt g hg).2 (fun e=>hR (by rw[hg,e]))⟩
theorem Zik{v:Value}{w:World}(hv:VP [-6,-1,1] v w):Calls Tryz.prog 51 #[v] w (Zb (VP [36,-13,1]) w):=by
 obtain⟨A,c,rfl,-,-⟩:=hv.len
 obtain⟨g,o,s9,A9,m9,c9,rfl,-⟩:=hv.at (i:=0) rfl
 have HV:=lhd hv
 have hmk:=(show ∀ W:World,(Instr.makeSlice 51 (.int .i64 3) (.int .i64 3)).run Tryz.prog W=.ok (.slice (some ⟨W.heap.size,0,none⟩) 3 3) (W.alloc (.cells (madeCells #[.bool false,.slice none 0 0] (3*2)) 57)) from XQ _ Tryz.underlying51 3 (by omega))
 obtain⟨i0,hi,hz0,hz1,hz2⟩:=info_parts Xw
 have HI:=lhd hi;have HZ1:=lhd hz1
 have HBA:=lhd (show ∀ (W:World) o,Below W.heap.size W (W.alloc o) from fun W o=>(brf W.heap.size W).alloc (nlr _) o)
 clear hv hi hz0 hz1 hz2
 simp only[List.length_cons,List.length_nil]at *
 have HM:=lhd (Own.made_int (w:=w) (N:=3) (brf _ _) (by omega))
 go_enter Tryz.func51,Tryz.ntmps51
 go_wp2_with fail
 obtain⟨R,hR⟩:=nmx (w.heap.size)
 rw[← hR]at HM
 rw[← hR]
 clear hR hmk
 obtain⟨V0,hV0⟩:∃ V,V=w.alloc (.cells (madeCells #[.bool false,.slice none 0 0] (3*2)) 57):=⟨_,rfl⟩
 rw[← hV0]at HM
 have hV0':V0=w.alloc (.cells (madeCells #[.bool false,.slice none 0 0] 6) 57):=hV0
 rw[← hV0']
 have HO0:=lhd (show Own eInt w (.slice (some ⟨R,0,none⟩) 3 3) [(0,[.bool false,.slice none 0 0]),(0,[.bool false,.slice none 0 0]),(0,[.bool false,.slice none 0 0])] V0 from HM.out)
 clear hV0 hV0' HM
 obtain⟨e0,e1,e2,hO⟩:∃ e0 e1 e2:List Value,Own eInt w (.slice (some ⟨R,0,none⟩) 3 3) [(0,e0),(0,e1),(0,e2)] V0:=⟨_,_,_,HO0.out⟩
 have HO:=lhd hO
 clear HO0 hO
 refine wp_loop_rounds 4 ?_
 rw[rounds_succ]
 obtain⟨s,A,m,k,q0,q1,hI⟩:=Xa (HV.out.keep HO.out.below) (i:=0) rfl
 have q0:V0.cell? ⟨g,o,none⟩=some (.bool s):=q0
 have q1:V0.cell? ⟨g,o+1,none⟩=some (.slice A m k):=q1
 have HIp:=lhd hI
 clear hI
 go_upto_region 5 with fail
 have HX:=lhd (IBox.new HIp.out)
 have HO1:=lhd (HO.out.keep (HBA.out V0 (.cells #[.bool s,.slice A m k] 57)))
 obtain⟨Vx0,hW⟩:∃ V,V=V0.alloc (.cells #[.bool s,.slice A m k] 57):=⟨_,rfl⟩
 obtain⟨X0,hX⟩:∃ X,X=V0.heap.size:=⟨_,rfl⟩
 have HRX:=lhd (show R≠X0 from by have:=(HO.out.1.lt R rfl).2;omega)
 rw[← hW,← hX]at HX
 rw[← hW]at HO1
 rw[← hW,← hX]
 clear hW hX q0 q1 HIp HO
 have HO:=lhd HO1.out
 clear HO1
 go_wp2_with fail
 refine wp_loop_rounds 4 ?_
 rw[rounds_succ]
 obtain⟨s,A,m,k,q0,q1,hI⟩:=Xa (HV.out.keep HO.out.below) (i:=0) rfl
 have q0:Vx0.cell? ⟨g,o,none⟩=some (.bool s):=q0
 have q1:Vx0.cell? ⟨g,o+1,none⟩=some (.slice A m k):=q1
 have HIp:=lhd hI
 clear hI
 go_upto_region 8 with fail
 have HY:=lhd (IBox.new HIp.out)
 have hBA:=HBA.out Vx0 (.cells #[.bool s,.slice A m k] 57)
 have HO1:=lhd (HO.out.keep hBA)
 have HX1:=lhd (HX.out.keep hBA)
 obtain⟨Vy00,hW⟩:∃ V,V=Vx0.alloc (.cells #[.bool s,.slice A m k] 57):=⟨_,rfl⟩
 obtain⟨Y00,hY⟩:∃ X,X=Vx0.heap.size:=⟨_,rfl⟩
 rw[← hW,← hY]at HY
 rw[← hW]at HO1 HX1
 rw[← hW,← hY]
 clear hW hY q0 q1 HIp HO HX hBA
 have HO:=lhd HO1.out
 have HX:=lhd HX1.out
 clear HO1 HX1
 obtain⟨sx,ax,nx,cx,-,x0,x1,-,-,hx⟩:=HX.out
 obtain⟨sy,ay,ny,cy,-,y0,y1,-,-,hy⟩:=HY.out
 have HMu:=lhd (cMul (j:=1) (k:=1) hx hy (by unfold Wn;decide) (by unfold Wn;decide) (by omega))
 clear hx hy
 go_wp2_with fail
 refine HMu.out.mono ?_
 rintro e w3 ⟨_,rfl,⟨u,v,rfl,h3⟩,hb3⟩
 rw[show(-6:Int) * -6=36 from by decide]at h3
 obtain⟨az,cz,rfl,rfl,h4⟩:=h3
 have HZI:=lhd (show IC w3 (.bool (sgB (36))) (.slice az (lnW (36)) cz) (36) from⟨az,cz,rfl,rfl,h4⟩)
 have HO1:=lhd (HO.out.keep hb3)
 have HX1:=lhd (HX.out.keep hb3)
 clear HMu HY HO HX x0 x1 y0 y1 h4 hb3
 generalize sgB (36)=sz at *
 generalize lnW (36)=nz at *
 go_upto_region 10 with fail
 have HZ:=lhd (IBox.new HZI.out)
 have hBA:=HBA.out w3 (.cells #[.bool sz,.slice az nz cz] 57)
 have HO:=lhd (HO1.out.keep hBA)
 have HX:=lhd (HX1.out.keep hBA)
 obtain⟨V,hW⟩:=nmx (w3.alloc (.cells #[.bool sz,.slice az nz cz] 57))
 obtain⟨Z00,hZ⟩:∃ X,X=w3.heap.size:=⟨_,rfl⟩
 have HZf:=lhd (show w.heap.size≤Z00∧R≠Z00∧Z00≠X0 from by have h1:=HO1.out.below.size;have h2:=(HO1.out.1.lt R rfl).2;obtain⟨_,_,_,_,h3,-⟩:=HX1.out;omega)
 rw[← hW,← hZ]at HZ
 rw[← hW]at HO HX
 rw[← hW,← hZ]
 clear hW hZ HZI HO1 HX1 hBA
 obtain⟨V00,hV9⟩:∃ V9:World,V9=V:=⟨_,rfl⟩
 subst hV9
 go_upto_region 12 with fail
 obtain⟨cu,cv,cq,p0,p1,-,-,pI,pe⟩:=Zd HO.out (i:=0) (by simp)
 have ec:(0:Int)=cq:=congrArg Prod.fst (oSi pe)
 subst ec
 have HRl:=lhd (HO.out.1.lt R rfl).2
 have HC0:=lhd (show V00.cell? ⟨R,0+0*2,none⟩=some cu from p0)
 have HC1:=lhd (show V00.cell? ⟨R,0+0*2+1,none⟩=some cv from p1)
 have HCI:=lhd pI
 obtain⟨sq,aq,nq,cq,zl,z0,z1,-,-,zi⟩:=HZ.out
 have HZl:=lhd zl;have HE0:=lhd z0;have HE1:=lhd z1;have HEI:=lhd zi
 clear p0 p1 pI pe zl z0 z1 zi
 refine wrt 15 [(0,40,VC (.slice (some ⟨R,0,none⟩) 3 3)),(1,41,VC (.int .i64 0)),(2,42,VC (.int .i64 0)),(3,43,VC (.int .i64 0)),(4,44,VC (.int .i64 0)),(5,45,VC (.slice (some ⟨R,0,none⟩) 3 3)),(6,46,VC (.int .i64 0)),(7,47,VC (.int .i64 0)),(8,48,VC (.int .i64 0)),(9,49,VC (.int .i64 0)),(10,50,VC (.pointer (some ⟨R,0+0*2,none⟩))),(11,51,VI (0)),(12,52,VI (36)),(13,53,VI (0+36)),(14,54,VC (.pointer (some ⟨R,0+0*2,none⟩)))] (fun _=>True) [40,41,42,43,44,45,46,47,48,49,50,51,52,53,54] ⟨kv,kv,kv,kv,kv,kv,kv,kv,kv,kv,kv,Keeps.vi _,Keeps.vi _,Keeps.vi _,kv,trivial⟩ (fun _ _ _ _ _=>trivial) trivial (by decide) (Zn _ ⟨?_,?_,?_,?_,?_,?_,?_,?_,?_,?_,?_,?_,?_,?_,?_,trivial⟩) ?_
 ·exact mvX rfl rfl rfl
 ·exact mvX rfl rfl rfl
 ·exact mvX rfl rfl rfl
 ·exact .of rfl rfl fun _ _ _ _ hV _=>.binOp rfl (fgt hV 1 rfl) (fgt hV 2 rfl) (by kernel_rfl) rfl
 ·exact .of rfl rfl fun _ _ _ _ hV _=>.binOp rfl (fgt hV 3 rfl) rfl (by kernel_rfl) rfl
 ·exact mvX rfl rfl rfl
 ·exact mvX rfl rfl rfl
 ·exact mvX rfl rfl rfl
 ·exact .of rfl rfl fun _ _ _ _ hV _=>.binOp rfl (fgt hV 6 rfl) (fgt hV 7 rfl) (by kernel_rfl) rfl
 ·exact .of rfl rfl fun _ _ _ _ hV _=>.binOp rfl (fgt hV 8 rfl) rfl (by kernel_rfl) rfl
 ·exact .of rfl rfl fun _ _ _ _ hV _=>.rowAt Tryz.underlying51 HI.out HZ1.out rfl (fgt hV 5 rfl) (fgt hV 9 rfl) (by decide)
 ·exact .of rfl rfl fun _ _ hB _ hV _=>.loadI' hB HRl.out HC0.out HC1.out HCI.out rfl (fgt hV 10 rfl)
 ·exact .of rfl rfl fun _ _ hB _ _ _=>.loadI' hB HZl.out HE0.out HE1.out HEI.out rfl (fou (v:=.pointer (some ⟨Z00,0,none⟩)))
 ·exact .of rfl rfl fun _ _ _ _ hV _=>by obtain⟨u11,v11,e11,h11⟩:=hge hV 11 rfl;obtain⟨u12,v12,e12,h12⟩:=hge hV 12 rfl;exact .call Tryz.func88 (by kernel_rfl) rfl rfl rfl (Zg ((fri).trans e11) ((fri).trans e12)) (cAdd (j:=1) (k:=1) h11 h12 (by unfold Wn;decide) (by unfold Wn;decide) (by omega))
 ·exact .of rfl rfl fun _ _ _ _ hV _=>.rowAt Tryz.underlying51 HI.out HZ1.out rfl (fgt hV 0 rfl) (fgt hV 4 rfl) (by decide)
 intro y W5 hB hE hV
 obtain⟨uS,vS,eS,hS⟩:VI (0+(36)) (y 53) W5:=hend hV 13 rfl
 rw[show(0:Int)+(36)=36 from by decide]at hS
 have eP:y 54=.pointer (some ⟨R,0,none⟩):=hend hV 14 rfl
 have HO1:=lhd (HO.out.keep hB)
 have HX1:=lhd (HX.out.keep hB)
 clear hB hE hV HO HX HZ HRl HC0 HC1 HCI HZl HE0 HE1 HEI HZf
 generalize hact:fr _ _ y=act
 simp only[fr,Zf,fC0,fN0,sA0,sZ0,sS0,eS,eP]at hact
 subst hact
 clear eS eP
 show wpList _ _ _ [_] _ _
 obtain⟨cu,cv,cq,p0,p1,f0,f1,-,-⟩:=Zd HO1.out (i:=0) (by simp)
 have p0:W5.cell? ⟨R,0,none⟩=some cu:=p0
 have p1:W5.cell? ⟨R,1,none⟩=some cv:=p1
 have f0:W5.frozen? ⟨R,0,none⟩=false:=f0
 have f1:W5.frozen? ⟨R,1,none⟩=false:=f1
 have HS:=lhd (Zt HO1.out (i:=0) (by simp) hS)
 obtain⟨aS,cS,rfl,rfl,-⟩:=hS
 have HXS:=lhd (HX1.out.row (j:=0) (s:=sgB (36)) (v:=.slice aS (lnW (36)) cS) HRX.out (HO1.out.2.2.2 R rfl))
 clear HO1 HX1
 generalize sgB (36)=s5 at *
 generalize lnW (36)=n5 at *
 go_wp2_with fail
 clear p0 p1 f0 f1
 obtain⟨Vn00,hW⟩:∃ V,V=(W5.setCell ⟨R,0,none⟩ (.bool s5)).setCell ⟨R,1,none⟩ (.slice aS n5 cS):=⟨_,rfl⟩
 have HX:=lhd (show IBox Vn00 X0 (-6) from by rw[hW];exact HXS.out)
 obtain⟨e0,hO⟩:∃ e0:List Value,Own eInt w (.slice (some ⟨R,0,none⟩) 3 3) [(36,e0),(0,e1),(0,e2)] Vn00:=⟨_,by rw[hW];exact HS.out⟩
 have HO:=lhd hO
 rw[← hW]
 clear hW hO HS HXS
 rw[rounds_succ]
 obtain⟨s,A,m,k,q0,q1,hI⟩:=Xa (HV.out.keep HO.out.below) (i:=1) rfl
 have q0:Vn00.cell? ⟨g,o+2,none⟩=some (.bool s):=q0
 have q1:Vn00.cell? ⟨g,o+2+1,none⟩=some (.slice A m k):=q1
 have HIp:=lhd hI
 clear hI
 go_upto_region 8 with fail
 have HY:=lhd (IBox.new HIp.out)
 have hBA:=HBA.out Vn00 (.cells #[.bool s,.slice A m k] 57)
 have HO1:=lhd (HO.out.keep hBA)
 have HX1:=lhd (HX.out.keep hBA)
 obtain⟨Vy01,hW⟩:∃ V,V=Vn00.alloc (.cells #[.bool s,.slice A m k] 57):=⟨_,rfl⟩
 obtain⟨Y01,hY⟩:∃ X,X=Vn00.heap.size:=⟨_,rfl⟩
 rw[← hW,← hY]at HY
 rw[← hW]at HO1 HX1
 rw[← hW,← hY]
 clear hW hY q0 q1 HIp HO HX hBA
 have HO:=lhd HO1.out
 have HX:=lhd HX1.out
 clear HO1 HX1
 clear HY
 go_wp2_with fail
 rw[rounds_succ]
 obtain⟨s,A,m,k,q0,q1,hI⟩:=Xa (HV.out.keep HO.out.below) (i:=2) rfl
 have q0:Vy01.cell? ⟨g,o+4,none⟩=some (.bool s):=q0
 have q1:Vy01.cell? ⟨g,o+4+1,none⟩=some (.slice A m k):=q1
 have HIp:=lhd hI
 clear hI
 go_upto_region 8 with fail
 have HY:=lhd (IBox.new HIp.out)
 have hBA:=HBA.out Vy01 (.cells #[.bool s,.slice A m k] 57)
 have HO1:=lhd (HO.out.keep hBA)
 have HX1:=lhd (HX.out.keep hBA)
 obtain⟨Vy02,hW⟩:∃ V,V=Vy01.alloc (.cells #[.bool s,.slice A m k] 57):=⟨_,rfl⟩
 obtain⟨Y02,hY⟩:∃ X,X=Vy01.heap.size:=⟨_,rfl⟩
 rw[← hW,← hY]at HY
 rw[← hW]at HO1 HX1
 rw[← hW,← hY]
 clear hW hY q0 q1 HIp HO HX hBA
 have HO:=lhd HO1.out
 have HX:=lhd HX1.out
 clear HO1 HX1
 obtain⟨sx,ax,nx,cx,-,x0,x1,-,-,hx⟩:=HX.out
 obtain⟨sy,ay,ny,cy,-,y0,y1,-,-,hy⟩:=HY.out
 have HMu:=lhd (cMul (j:=1) (k:=1) hx hy (by unfold Wn;decide) (by unfold Wn;decide) (by omega))
 clear hx hy
 go_wp2_with fail
 refine HMu.out.mono ?_
 rintro e w3 ⟨_,rfl,⟨u,v,rfl,h3⟩,hb3⟩
 rw[show(-6:Int)*1 = -6 from by decide]at h3
 obtain⟨az,cz,rfl,rfl,h4⟩:=h3
 have HZI:=lhd (show IC w3 (.bool (sgB (-6))) (.slice az (lnW (-6)) cz) (-6) from⟨az,cz,rfl,rfl,h4⟩)
 have HO1:=lhd (HO.out.keep hb3)
 have HX1:=lhd (HX.out.keep hb3)
 clear HMu HY HO HX x0 x1 y0 y1 h4 hb3
 generalize sgB (-6)=sz at *
 generalize lnW (-6)=nz at *
 go_upto_region 10 with fail
 have HZ:=lhd (IBox.new HZI.out)
 have hBA:=HBA.out w3 (.cells #[.bool sz,.slice az nz cz] 57)
 have HO:=lhd (HO1.out.keep hBA)
 have HX:=lhd (HX1.out.keep hBA)
 obtain⟨V,hW⟩:=nmx (w3.alloc (.cells #[.bool sz,.slice az nz cz] 57))
 obtain⟨Z02,hZ⟩:∃ X,X=w3.heap.size:=⟨_,rfl⟩
 have HZf:=lhd (show w.heap.size≤Z02∧R≠Z02∧Z02≠X0 from by have h1:=HO1.out.below.size;have h2:=(HO1.out.1.lt R rfl).2;obtain⟨_,_,_,_,h3,-⟩:=HX1.out;omega)
 rw[← hW,← hZ]at HZ
 rw[← hW]at HO HX
 rw[← hW,← hZ]
 clear hW hZ HZI HO1 HX1 hBA
 obtain⟨V02,hV9⟩:∃ V9:World,V9=V:=⟨_,rfl⟩
 subst hV9
 go_upto_region 12 with fail
 obtain⟨cu,cv,cq,p0,p1,-,-,pI,pe⟩:=Zd HO.out (i:=1) (by simp)
 have ec:(0:Int)=cq:=congrArg Prod.fst (oSi pe)
 subst ec
 have HRl:=lhd (HO.out.1.lt R rfl).2
 have HC0:=lhd (show V02.cell? ⟨R,0+1*2,none⟩=some cu from p0)
 have HC1:=lhd (show V02.cell? ⟨R,0+1*2+1,none⟩=some cv from p1)
 have HCI:=lhd pI
 obtain⟨sq,aq,nq,cq,zl,z0,z1,-,-,zi⟩:=HZ.out
 have HZl:=lhd zl;have HE0:=lhd z0;have HE1:=lhd z1;have HEI:=lhd zi
 clear p0 p1 pI pe zl z0 z1 zi
 refine wrt 15 [(0,40,VC (.slice (some ⟨R,0,none⟩) 3 3)),(1,41,VC (.int .i64 0)),(2,42,VC (.int .i64 2)),(3,43,VC (.int .i64 2)),(4,44,VC (.int .i64 1)),(5,45,VC (.slice (some ⟨R,0,none⟩) 3 3)),(6,46,VC (.int .i64 0)),(7,47,VC (.int .i64 2)),(8,48,VC (.int .i64 2)),(9,49,VC (.int .i64 1)),(10,50,VC (.pointer (some ⟨R,0+1*2,none⟩))),(11,51,VI (0)),(12,52,VI (-6)),(13,53,VI (0+(-6))),(14,54,VC (.pointer (some ⟨R,0+1*2,none⟩)))] (fun _=>True) [40,41,42,43,44,45,46,47,48,49,50,51,52,53,54] ⟨kv,kv,kv,kv,kv,kv,kv,kv,kv,kv,kv,Keeps.vi _,Keeps.vi _,Keeps.vi _,kv,trivial⟩ (fun _ _ _ _ _=>trivial) trivial (by decide) (Zn _ ⟨?_,?_,?_,?_,?_,?_,?_,?_,?_,?_,?_,?_,?_,?_,?_,trivial⟩) ?_
 ·exact mvX rfl rfl rfl
 ·exact mvX rfl rfl rfl
 ·exact mvX rfl rfl rfl
 ·exact .of rfl rfl fun _ _ _ _ hV _=>.binOp rfl (fgt hV 1 rfl) (fgt hV 2 rfl) (by kernel_rfl) rfl
 ·exact .of rfl rfl fun _ _ _ _ hV _=>.binOp rfl (fgt hV 3 rfl) rfl (by kernel_rfl) rfl
 ·exact mvX rfl rfl rfl
 ·exact mvX rfl rfl rfl
 ·exact mvX rfl rfl rfl
 ·exact .of rfl rfl fun _ _ _ _ hV _=>.binOp rfl (fgt hV 6 rfl) (fgt hV 7 rfl) (by kernel_rfl) rfl
 ·exact .of rfl rfl fun _ _ _ _ hV _=>.binOp rfl (fgt hV 8 rfl) rfl (by kernel_rfl) rfl
 ·exact .of rfl rfl fun _ _ _ _ hV _=>.rowAt Tryz.underlying51 HI.out HZ1.out rfl (fgt hV 5 rfl) (fgt hV 9 rfl) (by decide)
 ·exact .of rfl rfl fun _ _ hB _ hV _=>.loadI' hB HRl.out HC0.out HC1.out HCI.out rfl (fgt hV 10 rfl)
 ·exact .of rfl rfl fun _ _ hB _ _ _=>.loadI' hB HZl.out HE0.out HE1.out HEI.out rfl (fou (v:=.pointer (some ⟨Z02,0,none⟩)))
 ·exact .of rfl rfl fun _ _ _ _ hV _=>by obtain⟨u11,v11,e11,h11⟩:=hge hV 11 rfl;obtain⟨u12,v12,e12,h12⟩:=hge hV 12 rfl;exact .call Tryz.func88 (by kernel_rfl) rfl rfl rfl (Zg ((fri).trans e11) ((fri).trans e12)) (cAdd (j:=1) (k:=1) h11 h12 (by unfold Wn;decide) (by unfold Wn;decide) (by omega))
 ·exact .of rfl rfl fun _ _ _ _ hV _=>.rowAt Tryz.underlying51 HI.out HZ1.out rfl (fgt hV 0 rfl) (fgt hV 4 rfl) (by decide)
 intro y W5 hB hE hV
 obtain⟨uS,vS,eS,hS⟩:VI (0+(-6)) (y 53) W5:=hend hV 13 rfl
 rw[show(0:Int)+(-6) = -6 from by decide]at hS
 have eP:y 54=.pointer (some ⟨R,2,none⟩):=hend hV 14 rfl
 have HO1:=lhd (HO.out.keep hB)
 have HX1:=lhd (HX.out.keep hB)
 clear hB hE hV HO HX HZ HRl HC0 HC1 HCI HZl HE0 HE1 HEI HZf
 generalize hact:fr _ _ y=act
 simp only[fr,Zf,fC0,fN0,sA0,sZ0,sS0,eS,eP]at hact
 subst hact
 clear eS eP
 show wpList _ _ _ [_] _ _
 obtain⟨cu,cv,cq,p0,p1,f0,f1,-,-⟩:=Zd HO1.out (i:=1) (by simp)
 have p0:W5.cell? ⟨R,2,none⟩=some cu:=p0
 have p1:W5.cell? ⟨R,3,none⟩=some cv:=p1
 have f0:W5.frozen? ⟨R,2,none⟩=false:=f0
 have f1:W5.frozen? ⟨R,3,none⟩=false:=f1
 have HS:=lhd (Zt HO1.out (i:=1) (by simp) hS)
 obtain⟨aS,cS,rfl,rfl,-⟩:=hS
 have HXS:=lhd (HX1.out.row (j:=2) (s:=sgB (-6)) (v:=.slice aS (lnW (-6)) cS) HRX.out (HO1.out.2.2.2 R rfl))
 clear HO1 HX1
 generalize sgB (-6)=s5 at *
 generalize lnW (-6)=n5 at *
 go_wp2_with fail
 clear p0 p1 f0 f1
 obtain⟨Vn02,hW⟩:∃ V,V=(W5.setCell ⟨R,2,none⟩ (.bool s5)).setCell ⟨R,3,none⟩ (.slice aS n5 cS):=⟨_,rfl⟩
 have HX:=lhd (show IBox Vn02 X0 (-6) from by rw[hW];exact HXS.out)
 obtain⟨e1,hO⟩:∃ e1:List Value,Own eInt w (.slice (some ⟨R,0,none⟩) 3 3) [(36,e0),(-6,e1),(0,e2)] Vn02:=⟨_,by rw[hW];exact HS.out⟩
 have HO:=lhd hO
 rw[← hW]
 clear hW hO HS HXS
 rw[rounds_succ]
 go_wp2_with fail
 clear HX HRX
 rw[rounds_succ]
 obtain⟨s,A,m,k,q0,q1,hI⟩:=Xa (HV.out.keep HO.out.below) (i:=1) rfl
 have q0:Vn02.cell? ⟨g,o+2,none⟩=some (.bool s):=q0
 have q1:Vn02.cell? ⟨g,o+2+1,none⟩=some (.slice A m k):=q1
 have HIp:=lhd hI
 clear hI
 go_upto_region 5 with fail
 have HX:=lhd (IBox.new HIp.out)
 have HO1:=lhd (HO.out.keep (HBA.out Vn02 (.cells #[.bool s,.slice A m k] 57)))
 obtain⟨Vx1,hW⟩:∃ V,V=Vn02.alloc (.cells #[.bool s,.slice A m k] 57):=⟨_,rfl⟩
 obtain⟨X1,hX⟩:∃ X,X=Vn02.heap.size:=⟨_,rfl⟩
 have HRX:=lhd (show R≠X1 from by have:=(HO.out.1.lt R rfl).2;omega)
 rw[← hW,← hX]at HX
 rw[← hW]at HO1
 rw[← hW,← hX]
 clear hW hX q0 q1 HIp HO
 have HO:=lhd HO1.out
 clear HO1
 go_wp2_with fail
 refine wp_loop_rounds 4 ?_
 rw[rounds_succ]
 obtain⟨s,A,m,k,q0,q1,hI⟩:=Xa (HV.out.keep HO.out.below) (i:=0) rfl
 have q0:Vx1.cell? ⟨g,o,none⟩=some (.bool s):=q0
 have q1:Vx1.cell? ⟨g,o+1,none⟩=some (.slice A m k):=q1
 have HIp:=lhd hI
 clear hI
 go_upto_region 8 with fail
 have HY:=lhd (IBox.new HIp.out)
 have hBA:=HBA.out Vx1 (.cells #[.bool s,.slice A m k] 57)
 have HO1:=lhd (HO.out.keep hBA)
 have HX1:=lhd (HX.out.keep hBA)
 obtain⟨Vy10,hW⟩:∃ V,V=Vx1.alloc (.cells #[.bool s,.slice A m k] 57):=⟨_,rfl⟩
 obtain⟨Y10,hY⟩:∃ X,X=Vx1.heap.size:=⟨_,rfl⟩
 rw[← hW,← hY]at HY
 rw[← hW]at HO1 HX1
 rw[← hW,← hY]
 clear hW hY q0 q1 HIp HO HX hBA
 have HO:=lhd HO1.out
 have HX:=lhd HX1.out
 clear HO1 HX1
 clear HY
 go_wp2_with fail
 rw[rounds_succ]
 obtain⟨s,A,m,k,q0,q1,hI⟩:=Xa (HV.out.keep HO.out.below) (i:=1) rfl
 have q0:Vy10.cell? ⟨g,o+2,none⟩=some (.bool s):=q0
 have q1:Vy10.cell? ⟨g,o+2+1,none⟩=some (.slice A m k):=q1
 have HIp:=lhd hI
 clear hI
 go_upto_region 8 with fail
 have HY:=lhd (IBox.new HIp.out)
 have hBA:=HBA.out Vy10 (.cells #[.bool s,.slice A m k] 57)
 have HO1:=lhd (HO.out.keep hBA)
 have HX1:=lhd (HX.out.keep hBA)
 obtain⟨Vy11,hW⟩:∃ V,V=Vy10.alloc (.cells #[.bool s,.slice A m k] 57):=⟨_,rfl⟩
 obtain⟨Y11,hY⟩:∃ X,X=Vy10.heap.size:=⟨_,rfl⟩
 rw[← hW,← hY]at HY
 rw[← hW]at HO1 HX1
 rw[← hW,← hY]
 clear hW hY q0 q1 HIp HO HX hBA
 have HO:=lhd HO1.out
 have HX:=lhd HX1.out
 clear HO1 HX1
 obtain⟨sx,ax,nx,cx,-,x0,x1,-,-,hx⟩:=HX.out
 obtain⟨sy,ay,ny,cy,-,y0,y1,-,-,hy⟩:=HY.out
 have HMu:=lhd (cMul (j:=1) (k:=1) hx hy (by unfold Wn;decide) (by unfold Wn;decide) (by omega))
 clear hx hy
 go_wp2_with fail
 refine HMu.out.mono ?_
 rintro e w3 ⟨_,rfl,⟨u,v,rfl,h3⟩,hb3⟩
 rw[show(-1:Int) * -1=1 from by decide]at h3
 obtain⟨az,cz,rfl,rfl,h4⟩:=h3
 have HZI:=lhd (show IC w3 (.bool (sgB (1))) (.slice az (lnW (1)) cz) (1) from⟨az,cz,rfl,rfl,h4⟩)
 have HO1:=lhd (HO.out.keep hb3)
 have HX1:=lhd (HX.out.keep hb3)
 clear HMu HY HO HX x0 x1 y0 y1 h4 hb3
 generalize sgB (1)=sz at *
 generalize lnW (1)=nz at *
 go_upto_region 10 with fail
 have HZ:=lhd (IBox.new HZI.out)
 have hBA:=HBA.out w3 (.cells #[.bool sz,.slice az nz cz] 57)
 have HO:=lhd (HO1.out.keep hBA)
 have HX:=lhd (HX1.out.keep hBA)
 obtain⟨V,hW⟩:=nmx (w3.alloc (.cells #[.bool sz,.slice az nz cz] 57))
 obtain⟨Z11,hZ⟩:∃ X,X=w3.heap.size:=⟨_,rfl⟩
 have HZf:=lhd (show w.heap.size≤Z11∧R≠Z11∧Z11≠X1 from by have h1:=HO1.out.below.size;have h2:=(HO1.out.1.lt R rfl).2;obtain⟨_,_,_,_,h3,-⟩:=HX1.out;omega)
 rw[← hW,← hZ]at HZ
 rw[← hW]at HO HX
 rw[← hW,← hZ]
 clear hW hZ HZI HO1 HX1 hBA
 obtain⟨V11,hV9⟩:∃ V9:World,V9=V:=⟨_,rfl⟩
 subst hV9
 obtain⟨sq,aq,nq,cq,-,z0,z1,-,-,hz⟩:=HZ.out
 have HSu:=lhd (cSub (j:=1) (k:=1) (Xt V11) hz (by unfold Wn;decide) (by unfold Wn;decide) (by omega))
 clear hz
 go_wp2_with fail
 refine HSu.out.mono ?_
 rintro e w3 ⟨_,rfl,⟨u,v,rfl,h3⟩,hb3⟩
 rw[show(0:Int)-(1) = -1 from by decide]at h3
 obtain⟨az,cz,rfl,rfl,h4⟩:=h3
 have HZI:=lhd (show IC w3 (.bool (sgB (-1))) (.slice az (lnW (-1)) cz) (-1) from⟨az,cz,rfl,rfl,h4⟩)
 have HO1:=lhd (HO.out.keep hb3)
 have HX1:=lhd (HX.out.keep hb3)
 have HZ1':=lhd (HZ.out.keep hb3)
 clear HSu HO HX HZ z0 z1 h4 hb3
 generalize sgB (-1)=sz at *
 generalize lnW (-1)=nz at *
 obtain⟨sq,aq,nq,cq,-,z0,z1,zf,zn,-⟩:=HZ1'.out
 have f0:=zf 0;have f1:=zf 1
 have HZ:=lhd (HZ1'.out.put HZI.out)
 have HO:=lhd (HO1.out.put HZ1'.out HZf.out.1 HZf.out.2.1 (.bool sz) (.slice az nz cz))
 have HX:=lhd (HX1.out.only ((Only.setCell w3 Z11 0 (.bool sz)).trans (Only.setCell _ Z11 1 (.slice az nz cz))) HZf.out.2.2 zn)
 clear zf zn HZI HO1 HX1 HZ1'
 go_upto_region 12 with fail
 clear f0 f1 z0 z1
 obtain⟨Vs11,hW⟩:∃ V,V=(w3.setCell ⟨Z11,0,none⟩ (.bool sz)).setCell ⟨Z11,1,none⟩ (.slice az nz cz):=⟨_,rfl⟩
 rw[← hW]at HZ HO HX
 rw[← hW]
 clear hW
 obtain⟨cu,cv,cq,p0,p1,-,-,pI,pe⟩:=Zd HO.out (i:=1) (by simp)
 have ec:(-6:Int)=cq:=congrArg Prod.fst (oSi pe)
 subst ec
 have HRl:=lhd (HO.out.1.lt R rfl).2
 have HC0:=lhd (show Vs11.cell? ⟨R,0+1*2,none⟩=some cu from p0)
 have HC1:=lhd (show Vs11.cell? ⟨R,0+1*2+1,none⟩=some cv from p1)
 have HCI:=lhd pI
 obtain⟨sq,aq,nq,cq,zl,z0,z1,-,-,zi⟩:=HZ.out
 have HZl:=lhd zl;have HE0:=lhd z0;have HE1:=lhd z1;have HEI:=lhd zi
 clear p0 p1 pI pe zl z0 z1 zi
 refine wrt 15 [(0,40,VC (.slice (some ⟨R,0,none⟩) 3 3)),(1,41,VC (.int .i64 1)),(2,42,VC (.int .i64 1)),(3,43,VC (.int .i64 2)),(4,44,VC (.int .i64 1)),(5,45,VC (.slice (some ⟨R,0,none⟩) 3 3)),(6,46,VC (.int .i64 1)),(7,47,VC (.int .i64 1)),(8,48,VC (.int .i64 2)),(9,49,VC (.int .i64 1)),(10,50,VC (.pointer (some ⟨R,0+1*2,none⟩))),(11,51,VI (-6)),(12,52,VI (-1)),(13,53,VI (-6+(-1))),(14,54,VC (.pointer (some ⟨R,0+1*2,none⟩)))] (fun _=>True) [40,41,42,43,44,45,46,47,48,49,50,51,52,53,54] ⟨kv,kv,kv,kv,kv,kv,kv,kv,kv,kv,kv,Keeps.vi _,Keeps.vi _,Keeps.vi _,kv,trivial⟩ (fun _ _ _ _ _=>trivial) trivial (by decide) (Zn _ ⟨?_,?_,?_,?_,?_,?_,?_,?_,?_,?_,?_,?_,?_,?_,?_,trivial⟩) ?_
 ·exact mvX rfl rfl rfl
 ·exact mvX rfl rfl rfl
 ·exact mvX rfl rfl rfl
 ·exact .of rfl rfl fun _ _ _ _ hV _=>.binOp rfl (fgt hV 1 rfl) (fgt hV 2 rfl) (by kernel_rfl) rfl
 ·exact .of rfl rfl fun _ _ _ _ hV _=>.binOp rfl (fgt hV 3 rfl) rfl (by kernel_rfl) rfl
 ·exact mvX rfl rfl rfl
 ·exact mvX rfl rfl rfl
 ·exact mvX rfl rfl rfl
 ·exact .of rfl rfl fun _ _ _ _ hV _=>.binOp rfl (fgt hV 6 rfl) (fgt hV 7 rfl) (by kernel_rfl) rfl
 ·exact .of rfl rfl fun _ _ _ _ hV _=>.binOp rfl (fgt hV 8 rfl) rfl (by kernel_rfl) rfl
 ·exact .of rfl rfl fun _ _ _ _ hV _=>.rowAt Tryz.underlying51 HI.out HZ1.out rfl (fgt hV 5 rfl) (fgt hV 9 rfl) (by decide)
 ·exact .of rfl rfl fun _ _ hB _ hV _=>.loadI' hB HRl.out HC0.out HC1.out HCI.out rfl (fgt hV 10 rfl)
 ·exact .of rfl rfl fun _ _ hB _ _ _=>.loadI' hB HZl.out HE0.out HE1.out HEI.out rfl (fou (v:=.pointer (some ⟨Z11,0,none⟩)))
 ·exact .of rfl rfl fun _ _ _ _ hV _=>by obtain⟨u11,v11,e11,h11⟩:=hge hV 11 rfl;obtain⟨u12,v12,e12,h12⟩:=hge hV 12 rfl;exact .call Tryz.func88 (by kernel_rfl) rfl rfl rfl (Zg ((fri).trans e11) ((fri).trans e12)) (cAdd (j:=1) (k:=1) h11 h12 (by unfold Wn;decide) (by unfold Wn;decide) (by omega))
 ·exact .of rfl rfl fun _ _ _ _ hV _=>.rowAt Tryz.underlying51 HI.out HZ1.out rfl (fgt hV 0 rfl) (fgt hV 4 rfl) (by decide)
 intro y W5 hB hE hV
 obtain⟨uS,vS,eS,hS⟩:VI (-6+(-1)) (y 53) W5:=hend hV 13 rfl
 rw[show(-6:Int)+(-1) = -7 from by decide]at hS
 have eP:y 54=.pointer (some ⟨R,2,none⟩):=hend hV 14 rfl
 have HO1:=lhd (HO.out.keep hB)
 have HX1:=lhd (HX.out.keep hB)
 clear hB hE hV HO HX HZ HRl HC0 HC1 HCI HZl HE0 HE1 HEI HZf
 generalize hact:fr _ _ y=act
 simp only[fr,Zf,fC0,fN0,sA0,sZ0,sS0,eS,eP]at hact
 subst hact
 clear eS eP
 show wpList _ _ _ [_] _ _
 obtain⟨cu,cv,cq,p0,p1,f0,f1,-,-⟩:=Zd HO1.out (i:=1) (by simp)
 have p0:W5.cell? ⟨R,2,none⟩=some cu:=p0
 have p1:W5.cell? ⟨R,3,none⟩=some cv:=p1
 have f0:W5.frozen? ⟨R,2,none⟩=false:=f0
 have f1:W5.frozen? ⟨R,3,none⟩=false:=f1
 have HS:=lhd (Zt HO1.out (i:=1) (by simp) hS)
 obtain⟨aS,cS,rfl,rfl,-⟩:=hS
 have HXS:=lhd (HX1.out.row (j:=2) (s:=sgB (-7)) (v:=.slice aS (lnW (-7)) cS) HRX.out (HO1.out.2.2.2 R rfl))
 clear HO1 HX1
 generalize sgB (-7)=s5 at *
 generalize lnW (-7)=n5 at *
 go_wp2_with fail
 clear p0 p1 f0 f1
 obtain⟨Vn11,hW⟩:∃ V,V=(W5.setCell ⟨R,2,none⟩ (.bool s5)).setCell ⟨R,3,none⟩ (.slice aS n5 cS):=⟨_,rfl⟩
 have HX:=lhd (show IBox Vn11 X1 (-1) from by rw[hW];exact HXS.out)
 obtain⟨e1,hO⟩:∃ e1:List Value,Own eInt w (.slice (some ⟨R,0,none⟩) 3 3) [(36,e0),(-7,e1),(0,e2)] Vn11:=⟨_,by rw[hW];exact HS.out⟩
 have HO:=lhd hO
 rw[← hW]
 clear hW hO HS HXS
 rw[rounds_succ]
 obtain⟨s,A,m,k,q0,q1,hI⟩:=Xa (HV.out.keep HO.out.below) (i:=2) rfl
 have q0:Vn11.cell? ⟨g,o+4,none⟩=some (.bool s):=q0
 have q1:Vn11.cell? ⟨g,o+4+1,none⟩=some (.slice A m k):=q1
 have HIp:=lhd hI
 clear hI
 go_upto_region 8 with fail
 have HY:=lhd (IBox.new HIp.out)
 have hBA:=HBA.out Vn11 (.cells #[.bool s,.slice A m k] 57)
 have HO1:=lhd (HO.out.keep hBA)
 have HX1:=lhd (HX.out.keep hBA)
 obtain⟨Vy12,hW⟩:∃ V,V=Vn11.alloc (.cells #[.bool s,.slice A m k] 57):=⟨_,rfl⟩
 obtain⟨Y12,hY⟩:∃ X,X=Vn11.heap.size:=⟨_,rfl⟩
 rw[← hW,← hY]at HY
 rw[← hW]at HO1 HX1
 rw[← hW,← hY]
 clear hW hY q0 q1 HIp HO HX hBA
 have HO:=lhd HO1.out
 have HX:=lhd HX1.out
 clear HO1 HX1
 clear HY
 go_wp2_with fail
 rw[rounds_succ]
 go_wp2_with fail
 clear HX HRX
 rw[rounds_succ]
 obtain⟨s,A,m,k,q0,q1,hI⟩:=Xa (HV.out.keep HO.out.below) (i:=2) rfl
 have q0:Vy12.cell? ⟨g,o+4,none⟩=some (.bool s):=q0
 have q1:Vy12.cell? ⟨g,o+4+1,none⟩=some (.slice A m k):=q1
 have HIp:=lhd hI
 clear hI
 go_upto_region 5 with fail
 have HX:=lhd (IBox.new HIp.out)
 have HO1:=lhd (HO.out.keep (HBA.out Vy12 (.cells #[.bool s,.slice A m k] 57)))
 obtain⟨Vx2,hW⟩:∃ V,V=Vy12.alloc (.cells #[.bool s,.slice A m k] 57):=⟨_,rfl⟩
 obtain⟨X2,hX⟩:∃ X,X=Vy12.heap.size:=⟨_,rfl⟩
 have HRX:=lhd (show R≠X2 from by have:=(HO.out.1.lt R rfl).2;omega)
 rw[← hW,← hX]at HX
 rw[← hW]at HO1
 rw[← hW,← hX]
 clear hW hX q0 q1 HIp HO
 have HO:=lhd HO1.out
 clear HO1
 go_wp2_with fail
 refine wp_loop_rounds 4 ?_
 rw[rounds_succ]
 obtain⟨s,A,m,k,q0,q1,hI⟩:=Xa (HV.out.keep HO.out.below) (i:=0) rfl
 have q0:Vx2.cell? ⟨g,o,none⟩=some (.bool s):=q0
 have q1:Vx2.cell? ⟨g,o+1,none⟩=some (.slice A m k):=q1
 have HIp:=lhd hI
 clear hI
 go_upto_region 8 with fail
 have HY:=lhd (IBox.new HIp.out)
 have hBA:=HBA.out Vx2 (.cells #[.bool s,.slice A m k] 57)
 have HO1:=lhd (HO.out.keep hBA)
 have HX1:=lhd (HX.out.keep hBA)
 obtain⟨Vy20,hW⟩:∃ V,V=Vx2.alloc (.cells #[.bool s,.slice A m k] 57):=⟨_,rfl⟩
 obtain⟨Y20,hY⟩:∃ X,X=Vx2.heap.size:=⟨_,rfl⟩
 rw[← hW,← hY]at HY
 rw[← hW]at HO1 HX1
 rw[← hW,← hY]
 clear hW hY q0 q1 HIp HO HX hBA
 have HO:=lhd HO1.out
 have HX:=lhd HX1.out
 clear HO1 HX1
 obtain⟨sx,ax,nx,cx,-,x0,x1,-,-,hx⟩:=HX.out
 obtain⟨sy,ay,ny,cy,-,y0,y1,-,-,hy⟩:=HY.out
 have HMu:=lhd (cMul (j:=1) (k:=1) hx hy (by unfold Wn;decide) (by unfold Wn;decide) (by omega))
 clear hx hy
 go_wp2_with fail
 refine HMu.out.mono ?_
 rintro e w3 ⟨_,rfl,⟨u,v,rfl,h3⟩,hb3⟩
 rw[show(1:Int) * -6 = -6 from by decide]at h3
 obtain⟨az,cz,rfl,rfl,h4⟩:=h3
 have HZI:=lhd (show IC w3 (.bool (sgB (-6))) (.slice az (lnW (-6)) cz) (-6) from⟨az,cz,rfl,rfl,h4⟩)
 have HO1:=lhd (HO.out.keep hb3)
 have HX1:=lhd (HX.out.keep hb3)
 clear HMu HY HO HX x0 x1 y0 y1 h4 hb3
 generalize sgB (-6)=sz at *
 generalize lnW (-6)=nz at *
 go_upto_region 10 with fail
 have HZ:=lhd (IBox.new HZI.out)
 have hBA:=HBA.out w3 (.cells #[.bool sz,.slice az nz cz] 57)
 have HO:=lhd (HO1.out.keep hBA)
 have HX:=lhd (HX1.out.keep hBA)
 obtain⟨V,hW⟩:=nmx (w3.alloc (.cells #[.bool sz,.slice az nz cz] 57))
 obtain⟨Z20,hZ⟩:∃ X,X=w3.heap.size:=⟨_,rfl⟩
 have HZf:=lhd (show w.heap.size≤Z20∧R≠Z20∧Z20≠X2 from by have h1:=HO1.out.below.size;have h2:=(HO1.out.1.lt R rfl).2;obtain⟨_,_,_,_,h3,-⟩:=HX1.out;omega)
 rw[← hW,← hZ]at HZ
 rw[← hW]at HO HX
 rw[← hW,← hZ]
 clear hW hZ HZI HO1 HX1 hBA
 obtain⟨V20,hV9⟩:∃ V9:World,V9=V:=⟨_,rfl⟩
 subst hV9
 go_upto_region 12 with fail
 obtain⟨cu,cv,cq,p0,p1,-,-,pI,pe⟩:=Zd HO.out (i:=1) (by simp)
 have ec:(-7:Int)=cq:=congrArg Prod.fst (oSi pe)
 subst ec
 have HRl:=lhd (HO.out.1.lt R rfl).2
 have HC0:=lhd (show V20.cell? ⟨R,0+1*2,none⟩=some cu from p0)
 have HC1:=lhd (show V20.cell? ⟨R,0+1*2+1,none⟩=some cv from p1)
 have HCI:=lhd pI
 obtain⟨sq,aq,nq,cq,zl,z0,z1,-,-,zi⟩:=HZ.out
 have HZl:=lhd zl;have HE0:=lhd z0;have HE1:=lhd z1;have HEI:=lhd zi
 clear p0 p1 pI pe zl z0 z1 zi
 refine wrt 15 [(0,40,VC (.slice (some ⟨R,0,none⟩) 3 3)),(1,41,VC (.int .i64 2)),(2,42,VC (.int .i64 0)),(3,43,VC (.int .i64 2)),(4,44,VC (.int .i64 1)),(5,45,VC (.slice (some ⟨R,0,none⟩) 3 3)),(6,46,VC (.int .i64 2)),(7,47,VC (.int .i64 0)),(8,48,VC (.int .i64 2)),(9,49,VC (.int .i64 1)),(10,50,VC (.pointer (some ⟨R,0+1*2,none⟩))),(11,51,VI (-7)),(12,52,VI (-6)),(13,53,VI (-7+(-6))),(14,54,VC (.pointer (some ⟨R,0+1*2,none⟩)))] (fun _=>True) [40,41,42,43,44,45,46,47,48,49,50,51,52,53,54] ⟨kv,kv,kv,kv,kv,kv,kv,kv,kv,kv,kv,Keeps.vi _,Keeps.vi _,Keeps.vi _,kv,trivial⟩ (fun _ _ _ _ _=>trivial) trivial (by decide) (Zn _ ⟨?_,?_,?_,?_,?_,?_,?_,?_,?_,?_,?_,?_,?_,?_,?_,trivial⟩) ?_
 ·exact mvX rfl rfl rfl
 ·exact mvX rfl rfl rfl
 ·exact mvX rfl rfl rfl
 ·exact .of rfl rfl fun _ _ _ _ hV _=>.binOp rfl (fgt hV 1 rfl) (fgt hV 2 rfl) (by kernel_rfl) rfl
 ·exact .of rfl rfl fun _ _ _ _ hV _=>.binOp rfl (fgt hV 3 rfl) rfl (by kernel_rfl) rfl
 ·exact mvX rfl rfl rfl
 ·exact mvX rfl rfl rfl
 ·exact mvX rfl rfl rfl
 ·exact .of rfl rfl fun _ _ _ _ hV _=>.binOp rfl (fgt hV 6 rfl) (fgt hV 7 rfl) (by kernel_rfl) rfl
 ·exact .of rfl rfl fun _ _ _ _ hV _=>.binOp rfl (fgt hV 8 rfl) rfl (by kernel_rfl) rfl
 ·exact .of rfl rfl fun _ _ _ _ hV _=>.rowAt Tryz.underlying51 HI.out HZ1.out rfl (fgt hV 5 rfl) (fgt hV 9 rfl) (by decide)
 ·exact .of rfl rfl fun _ _ hB _ hV _=>.loadI' hB HRl.out HC0.out HC1.out HCI.out rfl (fgt hV 10 rfl)
 ·exact .of rfl rfl fun _ _ hB _ _ _=>.loadI' hB HZl.out HE0.out HE1.out HEI.out rfl (fou (v:=.pointer (some ⟨Z20,0,none⟩)))
 ·exact .of rfl rfl fun _ _ _ _ hV _=>by obtain⟨u11,v11,e11,h11⟩:=hge hV 11 rfl;obtain⟨u12,v12,e12,h12⟩:=hge hV 12 rfl;exact .call Tryz.func88 (by kernel_rfl) rfl rfl rfl (Zg ((fri).trans e11) ((fri).trans e12)) (cAdd (j:=1) (k:=1) h11 h12 (by unfold Wn;decide) (by unfold Wn;decide) (by omega))
 ·exact .of rfl rfl fun _ _ _ _ hV _=>.rowAt Tryz.underlying51 HI.out HZ1.out rfl (fgt hV 0 rfl) (fgt hV 4 rfl) (by decide)
 intro y W5 hB hE hV
 obtain⟨uS,vS,eS,hS⟩:VI (-7+(-6)) (y 53) W5:=hend hV 13 rfl
 rw[show(-7:Int)+(-6) = -13 from by decide]at hS
 have eP:y 54=.pointer (some ⟨R,2,none⟩):=hend hV 14 rfl
 have HO1:=lhd (HO.out.keep hB)
 have HX1:=lhd (HX.out.keep hB)
 clear hB hE hV HO HX HZ HRl HC0 HC1 HCI HZl HE0 HE1 HEI HZf
 generalize hact:fr _ _ y=act
 simp only[fr,Zf,fC0,fN0,sA0,sZ0,sS0,eS,eP]at hact
 subst hact
 clear eS eP
 show wpList _ _ _ [_] _ _
 obtain⟨cu,cv,cq,p0,p1,f0,f1,-,-⟩:=Zd HO1.out (i:=1) (by simp)
 have p0:W5.cell? ⟨R,2,none⟩=some cu:=p0
 have p1:W5.cell? ⟨R,3,none⟩=some cv:=p1
 have f0:W5.frozen? ⟨R,2,none⟩=false:=f0
 have f1:W5.frozen? ⟨R,3,none⟩=false:=f1
 have HS:=lhd (Zt HO1.out (i:=1) (by simp) hS)
 obtain⟨aS,cS,rfl,rfl,-⟩:=hS
 have HXS:=lhd (HX1.out.row (j:=2) (s:=sgB (-13)) (v:=.slice aS (lnW (-13)) cS) HRX.out (HO1.out.2.2.2 R rfl))
 clear HO1 HX1
 generalize sgB (-13)=s5 at *
 generalize lnW (-13)=n5 at *
 go_wp2_with fail
 clear p0 p1 f0 f1
 obtain⟨Vn20,hW⟩:∃ V,V=(W5.setCell ⟨R,2,none⟩ (.bool s5)).setCell ⟨R,3,none⟩ (.slice aS n5 cS):=⟨_,rfl⟩
 have HX:=lhd (show IBox Vn20 X2 (1) from by rw[hW];exact HXS.out)
 obtain⟨e1,hO⟩:∃ e1:List Value,Own eInt w (.slice (some ⟨R,0,none⟩) 3 3) [(36,e0),(-13,e1),(0,e2)] Vn20:=⟨_,by rw[hW];exact HS.out⟩
 have HO:=lhd hO
 rw[← hW]
 clear hW hO HS HXS
 rw[rounds_succ]
 obtain⟨s,A,m,k,q0,q1,hI⟩:=Xa (HV.out.keep HO.out.below) (i:=1) rfl
 have q0:Vn20.cell? ⟨g,o+2,none⟩=some (.bool s):=q0
 have q1:Vn20.cell? ⟨g,o+2+1,none⟩=some (.slice A m k):=q1
 have HIp:=lhd hI
 clear hI
 go_upto_region 8 with fail
 have HY:=lhd (IBox.new HIp.out)
 have hBA:=HBA.out Vn20 (.cells #[.bool s,.slice A m k] 57)
 have HO1:=lhd (HO.out.keep hBA)
 have HX1:=lhd (HX.out.keep hBA)
 obtain⟨Vy21,hW⟩:∃ V,V=Vn20.alloc (.cells #[.bool s,.slice A m k] 57):=⟨_,rfl⟩
 obtain⟨Y21,hY⟩:∃ X,X=Vn20.heap.size:=⟨_,rfl⟩
 rw[← hW,← hY]at HY
 rw[← hW]at HO1 HX1
 rw[← hW,← hY]
 clear hW hY q0 q1 HIp HO HX hBA
 have HO:=lhd HO1.out
 have HX:=lhd HX1.out
 clear HO1 HX1
 clear HY
 go_wp2_with fail
 rw[rounds_succ]
 obtain⟨s,A,m,k,q0,q1,hI⟩:=Xa (HV.out.keep HO.out.below) (i:=2) rfl
 have q0:Vy21.cell? ⟨g,o+4,none⟩=some (.bool s):=q0
 have q1:Vy21.cell? ⟨g,o+4+1,none⟩=some (.slice A m k):=q1
 have HIp:=lhd hI
 clear hI
 go_upto_region 8 with fail
 have HY:=lhd (IBox.new HIp.out)
 have hBA:=HBA.out Vy21 (.cells #[.bool s,.slice A m k] 57)
 have HO1:=lhd (HO.out.keep hBA)
 have HX1:=lhd (HX.out.keep hBA)
 obtain⟨Vy22,hW⟩:∃ V,V=Vy21.alloc (.cells #[.bool s,.slice A m k] 57):=⟨_,rfl⟩
 obtain⟨Y22,hY⟩:∃ X,X=Vy21.heap.size:=⟨_,rfl⟩
 rw[← hW,← hY]at HY
 rw[← hW]at HO1 HX1
 rw[← hW,← hY]
 clear hW hY q0 q1 HIp HO HX hBA
 have HO:=lhd HO1.out
 have HX:=lhd HX1.out
 clear HO1 HX1
 obtain⟨sx,ax,nx,cx,-,x0,x1,-,-,hx⟩:=HX.out
 obtain⟨sy,ay,ny,cy,-,y0,y1,-,-,hy⟩:=HY.out
 have HMu:=lhd (cMul (j:=1) (k:=1) hx hy (by unfold Wn;decide) (by unfold Wn;decide) (by omega))
 clear hx hy
 go_wp2_with fail
 refine HMu.out.mono ?_
 rintro e w3 ⟨_,rfl,⟨u,v,rfl,h3⟩,hb3⟩
 rw[show(1:Int)*1=1 from by decide]at h3
 obtain⟨az,cz,rfl,rfl,h4⟩:=h3
 have HZI:=lhd (show IC w3 (.bool (sgB (1))) (.slice az (lnW (1)) cz) (1) from⟨az,cz,rfl,rfl,h4⟩)
 have HO1:=lhd (HO.out.keep hb3)
 have HX1:=lhd (HX.out.keep hb3)
 clear HMu HY HO HX x0 x1 y0 y1 h4 hb3
 generalize sgB (1)=sz at *
 generalize lnW (1)=nz at *
 go_upto_region 10 with fail
 have HZ:=lhd (IBox.new HZI.out)
 have hBA:=HBA.out w3 (.cells #[.bool sz,.slice az nz cz] 57)
 have HO:=lhd (HO1.out.keep hBA)
 have HX:=lhd (HX1.out.keep hBA)
 obtain⟨V,hW⟩:=nmx (w3.alloc (.cells #[.bool sz,.slice az nz cz] 57))
 obtain⟨Z22,hZ⟩:∃ X,X=w3.heap.size:=⟨_,rfl⟩
 have HZf:=lhd (show w.heap.size≤Z22∧R≠Z22∧Z22≠X2 from by have h1:=HO1.out.below.size;have h2:=(HO1.out.1.lt R rfl).2;obtain⟨_,_,_,_,h3,-⟩:=HX1.out;omega)
 rw[← hW,← hZ]at HZ
 rw[← hW]at HO HX
 rw[← hW,← hZ]
 clear hW hZ HZI HO1 HX1 hBA
 obtain⟨V22,hV9⟩:∃ V9:World,V9=V:=⟨_,rfl⟩
 subst hV9
 go_upto_region 12 with fail
 obtain⟨cu,cv,cq,p0,p1,-,-,pI,pe⟩:=Zd HO.out (i:=2) (by simp)
 have ec:(0:Int)=cq:=congrArg Prod.fst (oSi pe)
 subst ec
 have HRl:=lhd (HO.out.1.lt R rfl).2
 have HC0:=lhd (show V22.cell? ⟨R,0+2*2,none⟩=some cu from p0)
 have HC1:=lhd (show V22.cell? ⟨R,0+2*2+1,none⟩=some cv from p1)
 have HCI:=lhd pI
 obtain⟨sq,aq,nq,cq,zl,z0,z1,-,-,zi⟩:=HZ.out
 have HZl:=lhd zl;have HE0:=lhd z0;have HE1:=lhd z1;have HEI:=lhd zi
 clear p0 p1 pI pe zl z0 z1 zi
 refine wrt 15 [(0,40,VC (.slice (some ⟨R,0,none⟩) 3 3)),(1,41,VC (.int .i64 2)),(2,42,VC (.int .i64 2)),(3,43,VC (.int .i64 4)),(4,44,VC (.int .i64 2)),(5,45,VC (.slice (some ⟨R,0,none⟩) 3 3)),(6,46,VC (.int .i64 2)),(7,47,VC (.int .i64 2)),(8,48,VC (.int .i64 4)),(9,49,VC (.int .i64 2)),(10,50,VC (.pointer (some ⟨R,0+2*2,none⟩))),(11,51,VI (0)),(12,52,VI (1)),(13,53,VI (0+1)),(14,54,VC (.pointer (some ⟨R,0+2*2,none⟩)))] (fun _=>True) [40,41,42,43,44,45,46,47,48,49,50,51,52,53,54] ⟨kv,kv,kv,kv,kv,kv,kv,kv,kv,kv,kv,Keeps.vi _,Keeps.vi _,Keeps.vi _,kv,trivial⟩ (fun _ _ _ _ _=>trivial) trivial (by decide) (Zn _ ⟨?_,?_,?_,?_,?_,?_,?_,?_,?_,?_,?_,?_,?_,?_,?_,trivial⟩) ?_
 ·exact mvX rfl rfl rfl
 ·exact mvX rfl rfl rfl
 ·exact mvX rfl rfl rfl
 ·exact .of rfl rfl fun _ _ _ _ hV _=>.binOp rfl (fgt hV 1 rfl) (fgt hV 2 rfl) (by kernel_rfl) rfl
 ·exact .of rfl rfl fun _ _ _ _ hV _=>.binOp rfl (fgt hV 3 rfl) rfl (by kernel_rfl) rfl
 ·exact mvX rfl rfl rfl
 ·exact mvX rfl rfl rfl
 ·exact mvX rfl rfl rfl
 ·exact .of rfl rfl fun _ _ _ _ hV _=>.binOp rfl (fgt hV 6 rfl) (fgt hV 7 rfl) (by kernel_rfl) rfl
 ·exact .of rfl rfl fun _ _ _ _ hV _=>.binOp rfl (fgt hV 8 rfl) rfl (by kernel_rfl) rfl
 ·exact .of rfl rfl fun _ _ _ _ hV _=>.rowAt Tryz.underlying51 HI.out HZ1.out rfl (fgt hV 5 rfl) (fgt hV 9 rfl) (by decide)
 ·exact .of rfl rfl fun _ _ hB _ hV _=>.loadI' hB HRl.out HC0.out HC1.out HCI.out rfl (fgt hV 10 rfl)
 ·exact .of rfl rfl fun _ _ hB _ _ _=>.loadI' hB HZl.out HE0.out HE1.out HEI.out rfl (fou (v:=.pointer (some ⟨Z22,0,none⟩)))
 ·exact .of rfl rfl fun _ _ _ _ hV _=>by obtain⟨u11,v11,e11,h11⟩:=hge hV 11 rfl;obtain⟨u12,v12,e12,h12⟩:=hge hV 12 rfl;exact .call Tryz.func88 (by kernel_rfl) rfl rfl rfl (Zg ((fri).trans e11) ((fri).trans e12)) (cAdd (j:=1) (k:=1) h11 h12 (by unfold Wn;decide) (by unfold Wn;decide) (by omega))
 ·exact .of rfl rfl fun _ _ _ _ hV _=>.rowAt Tryz.underlying51 HI.out HZ1.out rfl (fgt hV 0 rfl) (fgt hV 4 rfl) (by decide)
 intro y W5 hB hE hV
 obtain⟨uS,vS,eS,hS⟩:VI (0+(1)) (y 53) W5:=hend hV 13 rfl
 rw[show(0:Int)+(1)=1 from by decide]at hS
 have eP:y 54=.pointer (some ⟨R,4,none⟩):=hend hV 14 rfl
 have HO1:=lhd (HO.out.keep hB)
 have HX1:=lhd (HX.out.keep hB)
 clear hB hE hV HO HX HZ HRl HC0 HC1 HCI HZl HE0 HE1 HEI HZf
 generalize hact:fr _ _ y=act
 simp only[fr,Zf,fC0,fN0,sA0,sZ0,sS0,eS,eP]at hact
 subst hact
 clear eS eP
 show wpList _ _ _ [_] _ _
 obtain⟨cu,cv,cq,p0,p1,f0,f1,-,-⟩:=Zd HO1.out (i:=2) (by simp)
 have p0:W5.cell? ⟨R,4,none⟩=some cu:=p0
 have p1:W5.cell? ⟨R,5,none⟩=some cv:=p1
 have f0:W5.frozen? ⟨R,4,none⟩=false:=f0
 have f1:W5.frozen? ⟨R,5,none⟩=false:=f1
 have HS:=lhd (Zt HO1.out (i:=2) (by simp) hS)
 obtain⟨aS,cS,rfl,rfl,-⟩:=hS
 have HXS:=lhd (HX1.out.row (j:=4) (s:=sgB (1)) (v:=.slice aS (lnW (1)) cS) HRX.out (HO1.out.2.2.2 R rfl))
 clear HO1 HX1
 generalize sgB (1)=s5 at *
 generalize lnW (1)=n5 at *
 go_wp2_with fail
 clear p0 p1 f0 f1
 obtain⟨Vn22,hW⟩:∃ V,V=(W5.setCell ⟨R,4,none⟩ (.bool s5)).setCell ⟨R,5,none⟩ (.slice aS n5 cS):=⟨_,rfl⟩
 have HX:=lhd (show IBox Vn22 X2 (1) from by rw[hW];exact HXS.out)
 obtain⟨e2,hO⟩:∃ e2:List Value,Own eInt w (.slice (some ⟨R,0,none⟩) 3 3) [(36,e0),(-13,e1),(1,e2)] Vn22:=⟨_,by rw[hW];exact HS.out⟩
 have HO:=lhd hO
 rw[← hW]
 clear hW hO HS HXS
 rw[rounds_succ]
 go_wp2_with fail
 clear HX HRX
 rw[rounds_succ]
 go_wp2_with fail
 go_ret
 exact⟨_,rfl,Sl.vp HO.out.sl,HO.out.below⟩
end Go.Proofs.YthkklilhjnpedaaGreatDoor
