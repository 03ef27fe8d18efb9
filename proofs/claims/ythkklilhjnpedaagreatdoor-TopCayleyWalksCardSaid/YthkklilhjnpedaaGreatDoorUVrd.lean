/- The constant graph is a Ramanujan graph. -/
import Derived.Test.YthkklilhjnpedaaGreatDoorUVsg
import Derived.Test.YthkklilhjnpedaaGreatDoorUJs
set_option maxHeartbeats 16000000
set_option maxRecDepth 8000
namespace Go.Proofs.YthkklilhjnpedaaGreatDoor
section
open Go.RowKit FF
def lim:Int:=2 ^ 1000
theorem Ze5:digs WB lim.natAbs=List.replicate 31 0++[256]:=by decide +kernel
theorem Zgz:¬ lim<0:=by decide +kernel
theorem Zjw{W:World}{G:Nat}{T:TypeId}(h:W.rowIs G T 32 (fun _=>.int .u32 0)):Shows .u32 (W.setCell ⟨G,31,none⟩ (.int .u32 256)) (some ⟨G,0,none⟩) (digs WB lim.natAbs):=by
 have h2:=h.set 31 (.int .u32 256)
 rw[Ze5]
 intro _
 refine⟨G,0,rfl,h2.lt,fun i hi=>?_⟩
 simp only[List.length_append,List.length_replicate,List.length_singleton]at hi
 rw[Nat.zero_add,h2.cell hi]
 by_cases e:i=31
 ·subst e;simp
 ·have hi31:i<31:=by omega
  have key:∀ i,i<31→(List.replicate 31 0++[256]:List Nat).getD i 0=0:=by decide
  rw[if_neg e,key i hi31];rfl
theorem Zjx(w:World):Calls Tryz.prog 125 #[] w (Zb (VI lim) w):=by
 have hmk:∀ W:World,(Instr.makeSlice 55 (.int .i64 32) (.int .i64 32)).run Tryz.prog W=.ok (.slice (some ⟨W.heap.size,0,none⟩) 32 32) (W.alloc (.cells (madeCells #[.int .u32 0] 32) 135)):=fun W=>run_make_row' (P:=Tryz.prog) 55 135 (.int .u32 0) 4 Tryz.underlying55 Uh rfl .i64 .i64 32 (by omega) (by omega) W
 go_enter Tryz.func125,Tryz.ntmps125
 go_upto_region 2 with fail
 obtain⟨W1,hW1⟩:=nmx (w.alloc (.cells #[.bool false,.slice none 0 0] 57))
 have hs1:W1.heap.size=w.heap.size+1:=by rw[hW1];simp
 have hX1:IBox W1 w.heap.size 0:=by rw[hW1];exact IBox.new (Xt w)
 have hB1:Below w.heap.size w W1:=by rw[hW1];exact(brf _ _).alloc (nlr _) _
 rw[← hW1]
 have hr2:=World.rowIs_made W1 (.int .u32 0) 32 135
 obtain⟨W2,hW2⟩:=nmx (W1.alloc (.cells (madeCells #[.int .u32 0] 32) 135))
 have hs2:W2.heap.size=w.heap.size+1+1:=by rw[hW2];simp[hs1]
 have hB12:Below W1.heap.size W1 W2:=by rw[hW2];exact(brf _ _).alloc (nlr _) _
 rw[← hW2]at hr2 ⊢
 rw[hs1]at hr2
 have hB23:Below W2.heap.size W2 (W2.alloc (.cells #[.bool false,.slice (some ⟨w.heap.size+1,0,none⟩) 32 32] 57)):=(brf _ _).alloc (nlr _) _
 have hr3:=hr2.alloc (.cells #[.bool false,.slice (some ⟨w.heap.size+1,0,none⟩) 32 32] 57)
 have c0:(W2.alloc (.cells #[.bool false,.slice (some ⟨w.heap.size+1,0,none⟩) 32 32] 57)).cell? ⟨w.heap.size+1+1,0,none⟩=some (.bool false):=by rw[← hs2];simp[go_sem]
 have c1:(W2.alloc (.cells #[.bool false,.slice (some ⟨w.heap.size+1,0,none⟩) 32 32] 57)).cell? ⟨w.heap.size+1+1,1,none⟩=some (.slice (some ⟨w.heap.size+1,0,none⟩) 32 32):=by rw[← hs2];simp[go_sem]
 obtain⟨W3,hW3⟩:=nmx (W2.alloc (.cells #[.bool false,.slice (some ⟨w.heap.size+1,0,none⟩) 32 32] 57))
 rw[← hW3]at hB23 hr3 c0 c1 ⊢
 have hX3:=(hX1.keep hB12).keep hB23
 have hB3:=(hB1.trans (hB12.mono hB1.size)).trans (hB23.mono (Nat.le_trans hB1.size hB12.size))
 have hr4:=hr3.cell (i:=31) (by omega)
 have hf4:=hr3.frozen 31
 have hsh:=Zjw hr3
 obtain⟨sx,ax,nx,cx,x0,x1,x2,x3,x4,-⟩:=hX3
 have f0:=x3 0;have f1:=x3 1
 have HSh:=lhd hsh;have HB3:=lhd hB3;have HX4:=lhd x4
 have hfin:Zb (VI lim) w (.returned (.agg #[.bool false,.slice (some ⟨w.heap.size+1,0,none⟩) 32 32])) (((W3.setCell ⟨w.heap.size+1,31,none⟩ (.int .u32 256)).setCell ⟨w.heap.size,0,none⟩ (.bool false)).setCell ⟨w.heap.size,1,none⟩ (.slice (some ⟨w.heap.size+1,0,none⟩) 32 32)):=by
  have hlen:wl lim.natAbs=32:=by show(digs WB lim.natAbs).length=32;rw[Ze5];rfl
  have hai:=AI.of_post (z:=lim) (c:=32) HSh.out (by rw[hlen];exact nlr _) (by unfold maxLen;omega)
  have hIC:IC (W3.setCell ⟨w.heap.size+1,31,none⟩ (.int .u32 256)) (.bool false) (.slice (some ⟨w.heap.size+1,0,none⟩) 32 32) lim:=by
   refine⟨some ⟨w.heap.size+1,0,none⟩,32,?_,?_,hai⟩
   ·unfold sgB;rw[deF Zgz]
   ·unfold lnW;rw[hlen]
  have hni:NoIntAt (W3.setCell ⟨w.heap.size+1,31,none⟩ (.int .u32 256)) w.heap.size:=fun i k n e=>HX4.out i k n (by
   rw[← e]
   have:=(Only.setCell W3 (w.heap.size+1) 31 (.int .u32 256)).block w.heap.size (by omega)
   simp only[World.cell?,this])
  exact⟨_,rfl,⟨_,_,rfl,Za3 hIC hni (by intro k n e;cases e)⟩,YP (HB3.out.setCell (Nat.le_succ _) _) (nlr _) _ _⟩
 have HFin:=lhd hfin
 clear hfin hmk hW1 hs1 hX1 hB1 hr2 hW2 hs2 hB12 hB23 hr3 hW3 hB3 hsh x0 x3 x4
 generalize lim=z at *
 go_wp2_with fail
 refine bodyPost_ret (v:=.agg #[.bool false,.slice (some ⟨w.heap.size+1,0,none⟩) 32 32]) (by simp[results,Tryz.results125,go_sem,x1,x2]) rfl ?_
 exact HFin.out
theorem lim_wn:Wn 32 lim:=by
 show lim.natAbs<WB ^ 32
 decide +kernel
theorem sizeZ_lt{x:Int}(h:Xd x<lim):sgn (Xd x-lim) = -1:=by
 generalize lim=z at *
 unfold sgn;split <;> (try split) <;> omega
theorem Zjy{u v:Value}{x:Int}{M:Nat}{w:World}(hx:IC w u v x)(hk:Wn 60 x)(hl:Xd x<lim)(hM:IVal w M lim):Calls Tryz.prog 127 #[.agg #[u,v],.pointer (some ⟨M,0,none⟩)] w (Zb (VC (.bool false)) w):=by
 obtain⟨um,vm,m0,m1,m2,m5⟩:=hM
 have BA:=(brf w.heap.size w).alloc (nlr _) (.cells #[u,v] 57)
 have HSz:=lhd (sizeZ_lt hl);have HK:=lhd hk;have HB:=lhd BA
 have HM0:=lhd (nLl m0 BA.size);have HM1:=lhd ((BA.cell (p:=⟨M,0,none⟩) m0).trans m1);have HM2:=lhd ((BA.cell (p:=⟨M,1,none⟩) m0).trans m2);have HM5:=lhd (m5.keep BA)
 have HX0:=lhd (show w.heap.size<(w.alloc (.cells #[u,v] 57)).heap.size by simp)
 have HX1:=lhd (show(w.alloc (.cells #[u,v] 57)).cell? ⟨w.heap.size,0,none⟩=some u by simp[go_sem])
 have HX2:=lhd (show(w.alloc (.cells #[u,v] 57)).cell? ⟨w.heap.size,1,none⟩=some v by simp[go_sem])
 have HX5:=lhd (hx.keep BA)
 clear hx hk hl m0 m1 m2 m5 BA
 go_enter Tryz.func127,Tryz.ntmps127
 go_upto_region 1 with fail
 obtain⟨W0,hW0⟩:=nmx (w.alloc (.cells #[u,v] 57))
 rw[← hW0]at HB HM0 HM1 HM2 HM5 HX0 HX1 HX2 HX5
 rw[← hW0]
 clear hW0
 refine Zu [(0,4,VI x),(1,5,VI (Xd x)),(2,6,VI lim),(3,7,VC (.int .i64 (-1))),(4,8,VC (.bool false)),(5,3,VC (.bool false))] (fun _=>True) [4,5,6,7,8,3] (by kernel_rfl) (by kernel_rfl) (by kernel_rfl) ⟨Keeps.vi _,Keeps.vi _,Keeps.vi _,kv,kv,kv,trivial⟩ (fun _ _ _ _ _=>trivial) trivial (Zl ⟨?_,?_,?_,?_,?_,?_,trivial⟩) ?_
 ·exact .of rfl rfl fun _ _ hB _ _ _=>.loadI' hB HX0.out HX1.out HX2.out HX5.out rfl (fou (v:=.pointer (some ⟨w.heap.size,0,none⟩)))
 ·exact .of rfl rfl fun _ _ _ _ hV _=>by obtain⟨u0,v0,e0,h0⟩:=hge hV 0 rfl;exact .call Tryz.func129 (by kernel_rfl) rfl rfl rfl (Xf ((fri).trans e0)) (Zdw h0 HK.out (by omega))
 ·exact .of rfl rfl fun _ _ hB _ _ _=>.loadI' hB HM0.out HM1.out HM2.out HM5.out rfl (fou (v:=.pointer (some ⟨M,0,none⟩)))
 ·exact .of rfl rfl fun _ _ _ _ hV _=>by obtain⟨u1,v1,e1,h1⟩:=hge hV 1 rfl;obtain⟨u2,v2,e2,h2⟩:=hge hV 2 rfl;exact .call Tryz.func128 (by kernel_rfl) rfl rfl rfl (Zg ((fri).trans e1) ((fri).trans e2)) (by have:=cCmp h1 h2 (Zaa HK.out) lim_wn (by omega);rwa [HSz.out]at this)
 ·exact .of rfl rfl fun _ _ _ _ hV _=>.binOp (p:=.int .i64 (-1)) (r:=.int .i64 0) rfl (fgt hV 3 rfl) rfl (by simp[go_sem,eqGuard]) rfl
 ·exact .of rfl rfl fun _ _ _ _ hV _=>.assign rfl (fgt hV 4 rfl) rfl
 intro y W hB hE hV
 have e3:y 3=.bool false:=hend hV 5 rfl
 have HB2:=lhd (HB.out.trans (hB.mono HB.out.size))
 clear hB hE hV
 generalize hact:fr _ _ y=act
 simp only[fr,Zf,fC0,fN0,sA0,sZ0,sS0,e3]at hact
 subst hact
 clear e3
 go_wp2_with fail
 go_ret
 exact⟨_,rfl,rfl,HB2.out⟩
theorem ZhF{v q:Value}{l:List Int}{w:World}(hv:VP l v w)(hl:l.length≤1000000)(hcl:∀ (W:World) (u u':Value) (x:Int),Below w.heap.size w W→x∈l→IC W u u' x→Calls Tryz.prog 127 #[.agg #[u,u'],q] W (Zb (VC (.bool false)) W)) :
  Calls Tryz.prog 171 #[v,.func (.func 127) #[] #[q]] w (Zb (VC (.int .i64 (-1))) w):=by
 obtain⟨A,c,rfl,h1,h2⟩:=hv.len
 obtain⟨n,hn⟩:=nmx (l.length)
 have HV:=lhd hv;have HL:=lhd (show n≤1000000 by omega);have HC:=lhd hcl;have HN:=lhd hn
 have HLe:=lhd (show ∀ i:Nat,i<n→∃ z,l[i]?=some z from fun i hi=>⟨_,gEe (by omega)⟩)
 rw[← hn]at h1 ⊢
 clear hv hl hcl hn
 go_enter Tryz.func171,Tryz.ntmps171
 go_wp2_with fail
 go_loopw [4,5,8] (fun s4 _ s8 wr=>∃ i:Nat,s4=.int .i64 0∧s8=.int .i64 i∧i≤n∧Below w.heap.size w wr) (fun _ _ s8 _=>(n-(intOf s8).toNat))
 case atStart=>exact⟨0,rfl,rfl,Nat.zero_le _,brf _ _⟩
 case round =>
  obtain⟨i,rfl,rfl,hil,hB⟩:=hrel
  have HB:=lhd hB
  clear hB
  by_cases hlt:i<n
  ·have hti:=deT (p:=((i:Nat):Int)<((n:Nat):Int)) (by omega)
   obtain⟨z,hz⟩:=HLe.out i hlt
   have HZ:=lhd hz
   obtain⟨b,o,s,A',m,c',rfl,q0,q1,g,hb⟩:=(HV.out.keep HB.out).at hz
   have GI:=lhd g
   clear g hz
   go_wp2_with fail
   refine(HC.out _ _ _ z HB.out (mGe HZ.out) GI.out).mono ?_
   rintro e w1 ⟨_,rfl,rfl,hb1⟩
   have HB1:=lhd (HB.out.trans (hb1.mono HB.out.size))
   clear hb1 q0 q1
   go_wp2_with fail
   refine⟨⟨i+1,rfl,by rw[Zc hlt HL.out],hlt,HB1.out⟩,?_⟩
   rw[Zc hlt HL.out];simp only[intOf];omega
  ·have hti:=deF (p:=((i:Nat):Int)<((n:Nat):Int)) (by omega)
   go_wp2_with fail
   go_ret
   exact⟨_,rfl,rfl,HB.out⟩
theorem ZdQ{v q:Value}{l:List Int}{w:World}(hv:VP l v w)(hl:l.length≤1000000)(hcl:∀ (W:World) (u u':Value) (x:Int),Below w.heap.size w W→x∈l→IC W u u' x→Calls Tryz.prog 127 #[.agg #[u,u'],q] W (Zb (VC (.bool false)) W)) :
  Calls Tryz.prog 126 #[v,.func (.func 127) #[] #[q]] w (Zb (VC (.bool false)) w):=by
 have HI:=lhd (ZhF hv hl hcl)
 obtain⟨A,c,rfl,-,-⟩:=hv.len
 clear hv hl hcl
 go_enter Tryz.func126,Tryz.ntmps126
 go_wp2_with fail
 refine HI.out.mono ?_
 rintro e w1 ⟨_,rfl,rfl,hb1⟩
 have HB1:=lhd hb1
 clear hb1
 go_wp2_with fail
 go_ret
 exact⟨_,rfl,rfl,HB1.out⟩
def rdL(l:List Int):Bool:=decide (l.length≤61) && l.all (fun x=>decide (x.natAbs<4294967296 ^ 31)) && decide (0<(Zj l).length)
theorem rdL_iff{l:List Int}(h:rdL l=true):l.length≤61∧(∀ x∈l,Wn 31 x∧Xd x<lim)∧0<(Zj l).length:=by
 unfold rdL at h
 simp only[Bool.and_eq_true,decide_eq_true_eq]at h
 refine⟨h.1.1,fun x hx=>?_,h.2⟩
 have h1:=of_decide_eq_true (p:=x.natAbs<4294967296 ^ 31) (List.all_eq_true.1 h.1.2 x hx)
 refine⟨h1,?_⟩
 have h2:(4294967296 ^ 31:Nat)≤lim.natAbs:=by decide +kernel
 have h3:=Zgz
 unfold Xd
 generalize lim=z at *
 generalize (4294967296 ^ 31:Nat)=k at *
 omega
theorem ZbT{v:Value}{l:List Int}{w:World}(hv:VP l v w)(hr:rdL l=true):Calls Tryz.prog 84 #[v] w (Zb (fun r W=>∃ a,r=.tuple #[a,.int .i64 0]∧VP (Zj l) a W) w):=by
 obtain⟨r1,r2,r3⟩:=rdL_iff hr
 have HNo:=lhd (fun (W:World) (hb:Below w.heap.size w W)=>YO (k:=31) (hv.keep hb) (fun x hx=>(r2 x hx).1) (by omega) (by omega))
 have HCo:=lhd (fun (W:World) (M:Nat) (hb:Below w.heap.size w W) (hM:IVal W M lim)=>ZdQ (q:=.pointer (some ⟨M,0,none⟩)) (hv.keep hb) (by omega) (fun W2 u u' x hb2 hx hi=>Zjy hi ((r2 x hx).1.mono (by omega)) (r2 x hx).2 (hM.keep hb2)))
 obtain⟨A,c,rfl,hc1,hc2⟩:=hv.len
 obtain⟨n,hn⟩:=nmx (l.length)
 have d0:=deF (p:=(61:Int)<(n:Int)) (by omega)
 have R3:=lhd r3
 rw[← hn]at HNo HCo hc1 ⊢
 clear hv hr r1 r2 r3 hn
 go_enter Tryz.func84,Tryz.ntmps84
 go_wp2_with fail
 refine(Zjx _).mono ?_
 rintro e w1 ⟨_,rfl,⟨u1,v1,rfl,h1⟩,hb1⟩
 obtain⟨s1,A1,n1,c1,rfl,rfl⟩:=X8 h1
 have hBA:=(brf w1.heap.size w1).alloc (nlr _) (.cells #[.bool s1,.slice A1 n1 c1] 57)
 have hB:=hb1.trans (hBA.mono hb1.size)
 have hM:IVal (w1.alloc (.cells #[.bool s1,.slice A1 n1 c1] 57)) w1.heap.size lim:=⟨_,_,by simp,by simp[go_sem],by simp[go_sem],h1.keep hBA⟩
 have HC:=lhd (HCo.out _ _ hB hM);have HB:=lhd hB
 clear h1 hBA hb1 hB hM HCo
 go_wp2_with fail
 refine HC.out.mono ?_
 rintro e w2 ⟨_,rfl,rfl,hb2⟩
 have HB2:=lhd (HB.out.trans (hb2.mono HB.out.size))
 clear hb2
 go_wp2_with fail
 refine(HNo.out _ HB2.out).mono ?_
 rintro e w3 ⟨r4,rfl,hP,hb3⟩
 obtain⟨A4,c4,rfl,-,-⟩:=hP.len
 obtain⟨m,hm⟩:=nmx ((Zj l).length)
 rw[← hm]at hP ⊢
 have d1:((m:Int) == 0)=false:=by have:=R3.out;simp;omega
 have HP:=lhd hP;have HB3:=lhd (HB2.out.trans (hb3.mono HB2.out.size))
 clear hP hb3 hm
 go_wp2_with fail
 go_ret2
 exact⟨_,rfl,⟨_,rfl,HP.out⟩,HB3.out⟩
def smW(n:Int):Prop:=-1000000≤n∧n≤1000000
theorem UE{n:Int}(hn:smW n)(w:World):Calls Tryz.prog 90 #[.agg #[.int .i64 n,.int .i64 1]] w (Zb (VC (.int .i64 0)) w):=by
 have d1:decide (n < -1000000000)=false:=deF (by have:=hn.1;omega)
 have d2:decide (1000000000<n)=false:=deF (by have:=hn.2;omega)
 clear hn
 go_enter Tryz.func90,Tryz.ntmps90
 go_wp2_with fail
 go_ret
 exact⟨_,rfl,rfl,(brf _ _).alloc (nlr _) _⟩
theorem ZhG{a b:Int}(ha:smW a)(hb:smW b)(h:b≤a)(w:World):Calls Tryz.prog 143 #[.agg #[.int .i64 a,.int .i64 1],.agg #[.int .i64 b,.int .i64 1]] w (Zb (VC (.bool false)) w):=by
 have d1:decide (a<b)=false:=deF (by omega)
 have e1:wrap64 a=a:=by have:=ha.1;have:=ha.2;unfold wrap64;omega
 have e2:wrap64 b=b:=by have:=hb.1;have:=hb.2;unfold wrap64;omega
 clear ha hb h
 go_enter Tryz.func143,Tryz.ntmps143
 go_wp2_with fail
 go_ret
 exact⟨_,rfl,rfl,((Below.refl _ _).alloc (Nat.le_refl _) _).alloc (by simp) _⟩
theorem KI{v:Value}{l q:List Int}{w:World}(hv:VP l v w)(hr:rdL l=true)(hq:sqfL (Zj l)=some q):Calls Tryz.prog 50 #[v] w (Zb (fun r W=>∃ a,r=.tuple #[a,.int .i64 0]∧VP q a W) w):=by
 have HR:=lhd (ZbT hv hr);have HQ:=lhd hq
 obtain⟨A,c,rfl,-,-⟩:=hv.len
 clear hv hr hq
 go_enter Tryz.func50,Tryz.ntmps50
 go_wp2_with fail
 refine HR.out.mono ?_
 rintro e w1 ⟨_,rfl,⟨r1,rfl,hP⟩,hb1⟩
 have HP:=lhd hP;have HB:=lhd hb1
 clear hP hb1
 go_wp2_with fail
 refine(KH HP.out HQ.out).mono ?_
 rintro e w2 ⟨r2,rfl,hP2,hb2⟩
 have HP2:=lhd hP2;have HB2:=lhd (HB.out.trans (hb2.mono HB.out.size))
 clear hP2 hb2
 go_wp2_with fail
 go_ret2
 exact⟨_,rfl,⟨_,rfl,HP2.out⟩,HB2.out⟩
theorem Zjz{v:Value}{l:List Int}{n:Int}{w:World}(hv:VP l v w)(hr:rdL l=true)(hs:smS (Zj l)=true)(h0:0<(Zj l).length)(hn:smW n):Calls Tryz.prog 53 #[v,.agg #[.int .i64 n,.int .i64 1]] w (Zb (VC (.tuple #[.int .i64 (Y3 (Zj l) n 1),.int .i64 0])) w):=by
 have hBA:=(brf w.heap.size w).alloc (nlr _) (.cells #[.int .i64 n,.int .i64 1] 97)
 have hX:FVar (w.alloc (.cells #[.int .i64 n,.int .i64 1] 97)) w.heap.size n 1:=⟨by simp,by simp[go_sem],by simp[go_sem]⟩
 have HR:=lhd (ZbT (hv.keep hBA) hr);have HB0:=lhd hBA;have HX:=lhd hX
 have HSg:=lhd (fun (W:World) (u:Value) (h:VP (Zj l) u W)=>Zfb h h0 hs (num:=n) (den:=1) ⟨by have:=hn.1;omega,by have:=hn.2;omega⟩ ⟨by omega,by omega⟩)
 have HCk:=lhd (fun w=>UE hn w)
 obtain⟨A,c,rfl,-,-⟩:=hv.len
 clear hv hr hs h0 hn hBA hX
 go_enter Tryz.func53,Tryz.ntmps53
 go_wp2_with fail
 refine HR.out.mono ?_
 rintro e w1 ⟨_,rfl,⟨r1,rfl,hP⟩,hb1⟩
 have HP:=lhd hP;have HB:=lhd (HB0.out.trans (hb1.mono HB0.out.size));have HX1:=lhd (HX.out.keep hb1)
 obtain⟨x0,x1,x2⟩:=HX1.out
 clear hP hb1 x0
 go_wp2_with fail
 refine(HCk.out _).mono ?_
 rintro e w2 ⟨_,rfl,rfl,hb2⟩
 have HP2:=lhd (HP.out.keep hb2);have HB2:=lhd (HB.out.trans (hb2.mono HB.out.size))
 obtain⟨x0,x3,x4⟩:=HX1.out.keep hb2
 clear hb2 x0 x1 x2
 go_wp2_with fail
 refine(HSg.out _ _ HP2.out).mono ?_
 rintro e w3 ⟨_,rfl,rfl,hb3⟩
 have HB3:=lhd (HB2.out.trans (hb3.mono HB2.out.size))
 clear hb3 x3 x4
 go_wp2_with fail
 go_ret2
 exact⟨_,rfl,rfl,HB3.out⟩
theorem Y4:∀ (l:List Int) (last n:Int),n≤ZK l last n∧ZK l last n≤n+l.length
 | [],_,n=>by unfold ZK;simp
 | s::l,last,n=>by
  have h1:=Y4 l last n
  have h2:=Y4 l s (n+1)
  have h3:=Y4 l s n
  unfold ZK
  rw[List.length_cons]
  split <;> (try split) <;> omega
theorem Za1{c:List (List Int)}(h:c.length≤1000)(n d:Int):0≤Xk c n d∧Xk c n d≤1000:=by
 have:=Y4 (c.map fun p=>Y3 p n d) 0 0
 rw[List.length_map]at this
 unfold Xk;omega
theorem ZcU{l:List Int}{lo hi r:Int}(h:YK l lo hi=some r):∃ c,ZaX (Zj l)=some c∧c.length≤1000∧c.all (fun p=>smS p && decide (0<p.length))=true∧r=Xk c lo 1-Xk c hi 1:=by
 unfold YK at h
 split at h
 ·rename_i c hc
  split at h
  ·rename_i hs
   rw[Bool.and_eq_true]at hs
   exact⟨c,hc,of_decide_eq_true hs.1,hs.2,(oSi h).symm⟩
  ·cases h
 ·cases h
theorem smW_64{n:Int}(h:smW n):I64 n:=⟨by have:=h.1;omega,by have:=h.2;omega⟩
theorem idx_frac(a b:Int)(i:Nat)(hi:i<2)(W:World):(Instr.index 187 (.agg #[.int .i64 a,.int .i64 1,.int .i64 b,.int .i64 1]) (.int .i64 (i:Int))).run Tryz.prog W=.ok (.agg #[.int .i64 (if i=0 then a else b),.int .i64 1]) W:=by
 have h0:∀ W,(Instr.index 187 (.agg #[.int .i64 a,.int .i64 1,.int .i64 b,.int .i64 1]) (.int .i64 0)).run Tryz.prog W=.ok (.agg #[.int .i64 a,.int .i64 1]) W:=fun W=>by kernel_rfl
 have h1:∀ W,(Instr.index 187 (.agg #[.int .i64 a,.int .i64 1,.int .i64 b,.int .i64 1]) (.int .i64 1)).run Tryz.prog W=.ok (.agg #[.int .i64 b,.int .i64 1]) W:=fun W=>by kernel_rfl
 rcases i with _ | _ | i
 ·exact h0 W
 ·exact h1 W
 ·omega
theorem ZfV{v:Value}{l:List Int}{lo hi r:Int}{w:World}(hv:VP l v w)(hr:rdL l=true)(hb:YK l lo hi=some r)(hlo:smW lo)(hhi:smW hi)(hlh:lo≤hi) :
  Calls Tryz.prog 89 #[v,.agg #[.int .i64 lo,.int .i64 1],.agg #[.int .i64 hi,.int .i64 1]] w (Zb (VC (.tuple #[.int .i64 r,.int .i64 0])) w):=by
 obtain⟨ch,hc1,hc2,hc3,hc4⟩:=ZcU hb
 have b1:=Za1 hc2 lo 1;have b2:=Za1 hc2 hi 1
 have HR4:=lhd hc4
 have HCh:=lhd (fun (W:World) (u:Value) (h:VP (Zj l) u W)=>ZhD h hc1)
 have HAt:=lhd (fun (W:World) (u:Value) (n:Int) (h:Sl ePol ch u W) (hn:smW n)=>ZdR h (by omega) hc3 (num:=n) (den:=1) (smW_64 hn) ⟨by omega,by omega⟩)
 have HSub:=lhd (show ∀ x y:Int,0≤x∧x≤1000→0≤y∧y≤1000→IntKind.i64.wrap (x-y)=x-y from fun x y h1 h2=>IntWalk.i64_in _ (by omega))
 have HBn:=lhd (And.intro b1 b2)
 have hBA:=((Below.refl w.heap.size w).alloc (Nat.le_refl _) (.cells #[.int .i64 lo,.int .i64 1] 97)).alloc (by simp) (.cells #[.int .i64 hi,.int .i64 1] 97)
 have hX:FVar ((w.alloc (.cells #[.int .i64 lo,.int .i64 1] 97)).alloc (.cells #[.int .i64 hi,.int .i64 1] 97)) w.heap.size lo 1:=⟨by simp;omega,by simp[go_sem],by simp[go_sem]⟩
 have hY:FVar ((w.alloc (.cells #[.int .i64 lo,.int .i64 1] 97)).alloc (.cells #[.int .i64 hi,.int .i64 1] 97)) (w.heap.size+1) hi 1:=⟨by simp,by simp[go_sem],by simp[go_sem]⟩
 have HRd:=lhd (ZbT (hv.keep hBA) hr);have HB0:=lhd hBA;have HX:=lhd hX;have HY:=lhd hY
 have HCk:=lhd (fun w=>UE hlo w);have HCk2:=lhd (fun w=>UE hhi w)
 have HBf:=lhd (fun w=>ZhG hhi hlo hlh w)
 have HLo:=lhd hlo;have HHi:=lhd hhi
 obtain⟨A,c,rfl,-,-⟩:=hv.len
 clear hv hr hb hlo hhi hlh hBA hX hY hc1 hc2 hc3 hc4 b1 b2
 go_enter Tryz.func89,Tryz.ntmps89
 go_wp2_with fail
 refine HRd.out.mono ?_
 rintro e w1 ⟨_,rfl,⟨r1,rfl,hP⟩,hb1⟩
 have HP:=lhd hP;have HB:=lhd (HB0.out.trans (hb1.mono HB0.out.size));have HX1:=lhd (HX.out.keep hb1);have HY1:=lhd (HY.out.keep hb1)
 obtain⟨-,x1,x2⟩:=HX1.out
 obtain⟨-,y1,y2⟩:=HY1.out
 clear hP hb1
 go_wp2_with fail
 clear x1 x2 y1 y2
 go_loopw [6,7,11,12,25] (fun s6 s7 _ _ s25 wr=>∃ i:Nat,s6=.int .i64 0∧s7=.int .i64 0∧s25=.int .i64 i∧i≤2∧Below w1.heap.size w1 wr) (fun _ _ _ _ s25 _=>(2-(intOf s25).toNat))
 case atStart=>exact⟨0,rfl,rfl,rfl,by omega,brf _ _⟩
 case round =>
  obtain⟨i,rfl,rfl,rfl,hi2,hB⟩:=hrel
  have HBr:=lhd hB
  clear hB
  by_cases hlt:i<2
  ·have hti:=deT (p:=((i:Nat):Int)<(2:Int)) (by omega)
   have hidx:=idx_frac lo hi i hlt
   obtain⟨x,hx⟩:=nmx (if i=0 then lo else hi)
   rw[← hx]at hidx
   have HCx:=lhd (show ∀ w,Calls Tryz.prog 90 #[.agg #[.int .i64 x,.int .i64 1]] w (Zb (VC (.int .i64 0)) w) from fun w=>by
    rw[hx]
    by_cases h:i=0
    ·rw[if_pos h];exact HCk.out w
    ·rw[if_neg h];exact HCk2.out w)
   have HLt:=lhd hlt
   clear hx
   go_wp2_with fail
   refine(HCx.out _).mono ?_
   rintro e w2 ⟨_,rfl,rfl,hb2⟩
   have HB2:=lhd (HBr.out.trans ((((Below.refl wr.heap.size wr).alloc (Nat.le_refl _) (.cells #[.int .i64 x,.int .i64 1] 97)).trans (hb2.mono (by simp))).mono HBr.out.size))
   clear hb2 hidx
   go_wp2_with fail
   refine⟨⟨i+1,rfl,rfl,by go_num,HLt.out,HB2.out⟩,?_⟩
   have:=HLt.out
   simp only[intOf];omega
  ·have hti:=deF (p:=((i:Nat):Int)<(2:Int)) (by omega)
   have HP3:=lhd (HP.out.keep HBr.out);have HX3:=lhd (HX1.out.keep HBr.out);have HY3:=lhd (HY1.out.keep HBr.out);have HB3:=lhd (HB.out.trans (HBr.out.mono HB.out.size))
   obtain⟨-,x1,x2⟩:=HX3.out
   obtain⟨-,y1,y2⟩:=HY3.out
   go_wp2_with fail
   refine(HBf.out _).mono ?_
   rintro e w4 ⟨_,rfl,rfl,hb4⟩
   have HP4:=lhd (HP3.out.keep hb4);have HX4:=lhd (HX3.out.keep hb4);have HY4:=lhd (HY3.out.keep hb4);have HB4:=lhd (HB3.out.trans (hb4.mono HB3.out.size))
   clear hb4 x1 x2 y1 y2
   go_wp2_with fail
   refine(HCh.out _ _ HP4.out).mono ?_
   rintro e w5 ⟨r5,rfl,hS,hb5⟩
   have HS5:=lhd hS;have HX5:=lhd (HX4.out.keep hb5);have HY5:=lhd (HY4.out.keep hb5);have HB5:=lhd (HB4.out.trans (hb5.mono HB4.out.size))
   clear hS hb5
   go_upto_region 14 with fail
   refine Zu [(0,39,VC r5),(1,40,VC (.agg #[.int .i64 lo,.int .i64 1])),(2,41,VC (.int .i64 (Xk ch lo 1))),(3,42,VC r5),(4,43,VC (.agg #[.int .i64 hi,.int .i64 1])),(5,44,VC (.int .i64 (Xk ch hi 1))),(6,45,VC (.int .i64 r)),(7,6,VC (.int .i64 r)),(8,7,VC (.int .i64 0))] (fun _=>True) [39,40,41,42,43,44,45,6,7] (by kernel_rfl) (by kernel_rfl) (by kernel_rfl) ⟨kv,kv,kv,kv,kv,kv,kv,kv,kv,trivial⟩ (fun _ _ _ _ _=>trivial) trivial (Zl ⟨?_,?_,?_,?_,?_,?_,?_,?_,?_,trivial⟩) ?_
   ·exact mvX rfl rfl rfl
   ·exact .of rfl rfl fun _ _ hB _ _ _=>by obtain⟨x0,x1,x2⟩:=HX5.out.keep hB;exact .loadL (us:=[.int .i64 lo,.int .i64 1]) rfl (fou (v:=.pointer (some ⟨w.heap.size,0,none⟩))) (Uz x1 x2) rfl Tryz.underlying97 rfl (by kernel_rfl) rfl
   ·exact .of rfl rfl fun _ W hB _ hV _=>.call Tryz.func145 (by kernel_rfl) rfl rfl rfl (Zg (fgt hV 0 rfl) (fgt hV 1 rfl)) (HAt.out W _ lo (HS5.out.keep hB) HLo.out)
   ·exact mvX rfl rfl rfl
   ·exact .of rfl rfl fun _ _ hB _ _ _=>by obtain⟨x0,x1,x2⟩:=HY5.out.keep hB;exact .loadL (us:=[.int .i64 hi,.int .i64 1]) rfl (fou (v:=.pointer (some ⟨w.heap.size+1,0,none⟩))) (Uz x1 x2) rfl Tryz.underlying97 rfl (by kernel_rfl) rfl
   ·exact .of rfl rfl fun _ W hB _ hV _=>.call Tryz.func145 (by kernel_rfl) rfl rfl rfl (Zg (fgt hV 3 rfl) (fgt hV 4 rfl)) (HAt.out W _ hi (HS5.out.keep hB) HHi.out)
   ·exact .of rfl rfl fun _ _ _ _ hV _=>.binOp (p:=.int .i64 (Xk ch lo 1)) (r:=.int .i64 (Xk ch hi 1)) rfl (fgt hV 2 rfl) (fgt hV 5 rfl) (by simp[go_sem,eqGuard,HSub.out _ _ HBn.out.1 HBn.out.2,HR4.out]) rfl
   ·exact .of rfl rfl fun _ _ _ _ hV _=>.assign rfl (fgt hV 6 rfl) rfl
   ·exact .of rfl rfl fun _ _ _ _ _ _=>.assign rfl rfl rfl
   intro y W hB hE hV
   have e6:y 6=.int .i64 r:=hend hV 7 rfl
   have e7:y 7=.int .i64 0:=hend hV 8 rfl
   have HB6:=lhd (HB5.out.trans (hB.mono HB5.out.size))
   clear hB hE hV
   generalize hact:fr _ _ y=act
   simp only[fr,Zf,fC0,fN0,sA0,sZ0,sS0,e6,e7]at hact
   subst hact
   clear e6 e7
   go_wp2_with fail
   go_ret2
   exact⟨_,rfl,rfl,HB6.out⟩
theorem Zct(n:Int)(w:World):Calls Tryz.prog 54 #[.int .i64 n] w (Zb (VC (.agg #[.int .i64 n,.int .i64 1])) w):=by
 go_enter Tryz.func54,Tryz.ntmps54
 go_wp2_with fail
 refine bodyPost_ret (v:=.agg #[.int .i64 n,.int .i64 1]) (by simp[results,Tryz.results54,go_sem]) rfl ?_
 exact⟨_,rfl,rfl,(brf _ _).alloc (nlr _) _⟩
theorem Za2{v:Value}{l:List Int}{lo hi r:Int}{w:World}(hv:VP l v w)(hr:rdL l=true)(hb:YK l lo hi=some r)(hlo:smW lo)(hhi:smW hi)(hlh:lo≤hi) :
  Calls Tryz.prog 52 #[v,.int .i64 lo,.int .i64 hi] w (Zb (VC (.int .i64 r)) w):=by
 have HBt:=lhd (fun (W:World) (hB:Below w.heap.size w W)=>ZfV (hv.keep hB) hr hb hlo hhi hlh)
 have HW:=lhd (fun n w=>Zct n w)
 obtain⟨A,c,rfl,-,-⟩:=hv.len
 clear hv hr hb hlo hhi hlh
 go_enter Tryz.func52,Tryz.ntmps52
 go_wp2_with fail
 refine(HW.out _ _).mono ?_
 rintro e w1 ⟨_,rfl,rfl,hb1⟩
 have HB1:=lhd hb1
 clear hb1
 go_wp2_with fail
 refine(HW.out _ _).mono ?_
 rintro e w2 ⟨_,rfl,rfl,hb2⟩
 have HB2:=lhd (HB1.out.trans (hb2.mono HB1.out.size))
 clear hb2
 go_wp2_with fail
 refine(HBt.out _ HB2.out).mono ?_
 rintro e w3 ⟨_,rfl,rfl,hb3⟩
 have HB3:=lhd (HB2.out.trans (hb3.mono HB2.out.size))
 clear hb3
 go_wp2_with fail
 go_ret
 exact⟨_,rfl,rfl,HB3.out⟩
theorem real_any{v:Value}{l q:List Int}{m r:Int}{w:World}(hv:VP l v w)(hr:rdL l=true)(hq:sqfL (Zj l)=some q)(hb:YK l (-m-1) m=some r)(hm:0≤m∧m≤1000)(hql:1≤q.length∧q.length≤1000) :
  Calls Tryz.prog 49 #[v,.int .i64 m] w (Zb (VC (.bool (r == ((q.length:Int)-1)))) w):=by
 have HSq:=lhd (KI hv hr hq)
 have HBt:=lhd (fun (W:World) (hB:Below w.heap.size w W)=>Za2 (hv.keep hB) hr hb ⟨by omega,by omega⟩ ⟨by omega,by omega⟩ (by omega))
 have e1:wrap64 (wrap64 (-m)-1) = -m-1:=by unfold wrap64;omega
 have E1:=lhd e1
 have E2:=lhd (show wrap64 ((q.length:Int)-1)=(q.length:Int)-1 by unfold wrap64;omega)
 have HQl:=lhd hql
 obtain⟨A,c,rfl,-,-⟩:=hv.len
 clear hv hr hq hb hql hm
 go_enter Tryz.func49,Tryz.ntmps49
 clear e1
 go_wp2_with fail
 refine HSq.out.mono ?_
 rintro e w1 ⟨_,rfl,⟨r1,rfl,hP⟩,hb1⟩
 obtain⟨A1,c1,rfl,-,-⟩:=hP.len
 have HB1:=lhd hb1
 clear hb1 hP
 have e1:=E1.out
 go_wp2_with fail
 refine(HBt.out _ HB1.out).mono ?_
 rintro e w2 ⟨_,rfl,rfl,hb2⟩
 have HB2:=lhd (HB1.out.trans (hb2.mono HB1.out.size))
 clear hb2
 clear e1
 go_wp2_with fail
 go_ret
 exact⟨_,rfl,by show Value.bool (r == wrap64 ((q.length:Int)-1))=_;rw[E2.out],HB2.out⟩
theorem gr1:rdL [-6,-1,1]=true:=by decide +kernel
theorem gr2:sqfL (Zj [-6,-1,1])=some [-6,-1,1]:=by decide +kernel
theorem gr3:YK [-6,-1,1] (-3-1) 3=some 2:=by decide +kernel
theorem gr4:rdL [36,-13,1]=true:=by decide +kernel
theorem gr5:sqfL (Zj [36,-13,1])=some [36,-13,1]:=by decide +kernel
theorem gr6:rdL [36,-13,1]=true:=by decide +kernel
theorem gr7:YK [36,-13,1] 8 9=some 1:=by decide +kernel
theorem gr8:smS (Zj [36,-13,1])=true:=by decide +kernel
theorem gr9:0<(Zj [36,-13,1]).length:=by decide +kernel
theorem gr10:Y3 (Zj [36,-13,1]) 9 1=0:=by decide +kernel
theorem ZfW{a b:Value}{w:World}(hg:GV XI Zz a b w):Calls Tryz.prog 14 #[.agg #[a,b]] w (Zb (VC (.tuple #[.bool true,.int .i64 0])) w):=by
 obtain⟨A',c',rfl,-,-⟩:=hg.2.len
 have hB:=(brf w.heap.size w).alloc (nlr _) (.cells #[a,.slice A' Zz.length c'] 33)
 have hG:=GBox.new (a:=a) (b:=.slice A' Zz.length c') (W:=w)
 obtain⟨W1,hW1⟩:=nmx (w.alloc (.cells #[a,.slice A' Zz.length c'] 33))
 rw[← hW1]at hB hG
 have HB1:=lhd hB;have HG:=lhd hG;have HW1:=lhd hW1
 have HDe:=lhd (fun (W:World) (hb:Below W1.heap.size W1 W)=>ZgO (d:=3) ((hg.keep hB).keep hb) g_ok (by decide) (by decide))
 have HPo:=lhd (fun (W:World) (hb:Below W1.heap.size W1 W)=>Zel ((hg.keep hB).keep hb))
 clear hg hB hG hW1
 rw[show Zz.length=2 from rfl]at *
 go_enter Tryz.func14,Tryz.ntmps14
 go_upto_region 1 with fail
 rw[← HW1.out]
 obtain⟨-,g0,g1⟩:=HG.out
 go_wp2_with fail
 refine(HDe.out W1 (brf _ _)).mono ?_
 rintro e W2 ⟨_,rfl,rfl,hb2⟩
 have HB2:=lhd hb2
 clear g0 g1 hb2
 obtain⟨-,g0,g1⟩:=HG.out.keep HB2.out
 rw[show(((3:Nat):Int))=3 from rfl]
 go_wp2_with fail
 refine(HPo.out W2 HB2.out).mono ?_
 rintro e W3 ⟨_,rfl,⟨l,rfl,hl⟩,hb3⟩
 have HL:=lhd hl
 have HB3:=lhd (HB2.out.trans (hb3.mono HB2.out.size))
 clear hb3 hl g0 g1
 go_wp2_with fail
 refine(real_any (q:=[-6,-1,1]) (m:=3) (r:=2) HL.out gr1 gr2 gr3 (by decide) (by decide)).mono ?_
 rintro e W4 ⟨_,rfl,rfl,hb4⟩
 have HL4:=lhd (HL.out.keep hb4)
 have HB4:=lhd (HB3.out.trans (hb4.mono HB3.out.size))
 rw[show((2:Int) == ((([-6,-1,1]:List Int).length:Nat):Int)-1)=true from by decide]
 clear hb4
 go_wp2_with fail
 refine(Zik HL4.out).mono ?_
 rintro e W5 ⟨l5,rfl,hl5,hb5⟩
 have HL5:=lhd hl5
 have HB5:=lhd (HB4.out.trans (hb5.mono HB4.out.size))
 clear hl5 hb5
 go_wp2_with fail
 refine(KI HL5.out gr4 gr5).mono ?_
 rintro e W6 ⟨_,rfl,⟨l6,rfl,hl6⟩,hb6⟩
 have HL6:=lhd hl6
 have HB6:=lhd (HB5.out.trans (hb6.mono HB5.out.size))
 clear hl6 hb6
 go_wp2_with fail
 refine(Za2 HL6.out gr6 gr7 ⟨by decide,by decide⟩ ⟨by decide,by decide⟩ (by decide)).mono ?_
 rintro e W7 ⟨_,rfl,rfl,hb7⟩
 have HL7:=lhd (HL6.out.keep hb7)
 have HB7:=lhd (HB6.out.trans (hb7.mono HB6.out.size))
 clear hb7
 go_wp2_with fail
 refine(Zct 9 W7).mono ?_
 rintro e W8 ⟨_,rfl,rfl,hb8⟩
 have HL8:=lhd (HL7.out.keep hb8)
 have HB8:=lhd (HB7.out.trans (hb8.mono HB7.out.size))
 clear hb8
 go_wp2_with fail
 refine(Zjz HL8.out gr6 gr8 gr9 ⟨by decide,by decide⟩).mono ?_
 rintro e W9 ⟨_,rfl,rfl,hb9⟩
 have HB9:=lhd (HB8.out.trans (hb9.mono HB8.out.size))
 rw[gr10]
 clear hb9
 go_wp2_with fail
 go_ret2
 exact⟨_,rfl,rfl,HB1.out.trans (HB9.out.mono HB1.out.size)⟩
end
end Go.Proofs.YthkklilhjnpedaaGreatDoor
