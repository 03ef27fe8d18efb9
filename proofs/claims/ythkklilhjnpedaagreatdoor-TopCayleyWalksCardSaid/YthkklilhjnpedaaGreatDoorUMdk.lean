/- An integer known modulo a product of primes: join. -/
import Derived.Test.YthkklilhjnpedaaGreatDoorUMdc
set_option maxHeartbeats 16000000
set_option maxRecDepth 8000
namespace Go.Proofs.YthkklilhjnpedaaGreatDoor
section
open Go.RowKit FF
theorem rows2{a b c d:Int}{v:Value}{W:World}(h:Sl eRow [[a,b],[c,d]] v W):∃ B O C u0 u1 b0 o0 c0 b1 o1 c1,v=.slice (some ⟨B,O,none⟩) 2 C∧u0=.slice (some ⟨b0,o0,none⟩) 2 c0∧u1=.slice (some ⟨b1,o1,none⟩) 2 c1 ∧
  W.cell? ⟨B,O,none⟩=some u0∧W.cell? ⟨B,O+1,none⟩=some u1∧W.cell? ⟨b0,o0,none⟩=some (.int .i64 a)∧W.cell? ⟨b0,o0+1,none⟩=some (.int .i64 b)∧W.cell? ⟨b1,o1,none⟩=some (.int .i64 c)∧W.cell? ⟨b1,o1+1,none⟩=some (.int .i64 d):=by
 obtain⟨A,C,rfl,-,-⟩:=h.len
 obtain⟨B,O,u0,rfl,-,q0,h0⟩:=ZP h (i:=0) rfl
 obtain⟨B',O',u1,e,-,q1,h1⟩:=ZP h (i:=1) rfl
 injection e with e;injection e with ea eb;subst ea eb
 obtain⟨A0,c0,rfl,-,-⟩:=Sl.len h0
 obtain⟨A1,c1,rfl,-,-⟩:=Sl.len h1
 obtain⟨b0,o0,rfl,-,x0⟩:=Zv h0 (i:=0) rfl
 obtain⟨b',o',e,-,x1⟩:=Zv h0 (i:=1) rfl
 injection e with e;injection e with ea eb;subst ea eb
 obtain⟨b1,o1,rfl,-,y0⟩:=Zv h1 (i:=0) rfl
 obtain⟨b',o',e,-,y1⟩:=Zv h1 (i:=1) rfl
 injection e with e;injection e with ea eb;subst ea eb
 exact⟨B,O,C,_,_,b0,o0,c0,b1,o1,c1,rfl,rfl,rfl,q0,q1,x0,x1,y0,y1⟩
theorem length2(w:World):Calls Tryz.prog 120 #[.int .i64 2] w (Zb (VC (.int .i64 2)) w):=by
 go_enter Tryz.func120,Tryz.ntmps120
 go_wp2_with fail
 refine wp_loop_rounds 3 ?_
 rw[rounds_succ]
 go_wp2_with fail
 rw[rounds_succ]
 go_wp2_with fail
 rw[rounds_succ]
 go_wp2_with fail
 go_ret
 exact⟨_,rfl,rfl,brf _ _⟩
theorem length3(w:World):Calls Tryz.prog 120 #[.int .i64 3] w (Zb (VC (.int .i64 2)) w):=by
 go_enter Tryz.func120,Tryz.ntmps120
 go_wp2_with fail
 refine wp_loop_rounds 3 ?_
 rw[rounds_succ]
 go_wp2_with fail
 rw[rounds_succ]
 go_wp2_with fail
 rw[rounds_succ]
 go_wp2_with fail
 go_ret
 exact⟨_,rfl,rfl,brf _ _⟩
theorem ZdI{v:Value}{w:World}(hv:Sl eRow [[1,2],[3,0]] v w):Calls Tryz.prog 119 #[v] w (Zb (VC (.int .i64 0)) w):=by
 obtain⟨B,O,C,u0,u1,b0,o0,c0,b1,o1,c1,rfl,rfl,rfl,q0,q1,x0,x1,y0,y1⟩:=rows2 hv
 clear hv
 go_enter Tryz.func119,Tryz.ntmps119
 go_wp2_with fail
 refine wp_loop_rounds 3 ?_
 rw[rounds_succ]
 go_wp2_with fail
 rw[rounds_succ]
 go_wp2_with fail
 rw[rounds_succ]
 go_wp2_with fail
 refine wp_loop_rounds 3 ?_
 rw[rounds_succ]
 go_wp2_with fail
 refine wp_loop_rounds 3 ?_
 rw[rounds_succ]
 go_wp2_with fail
 rw[rounds_succ]
 go_wp2_with fail
 rw[rounds_succ]
 go_wp2_with fail
 rw[rounds_succ]
 go_wp2_with fail
 refine wp_loop_rounds 3 ?_
 rw[rounds_succ]
 go_wp2_with fail
 rw[rounds_succ]
 go_wp2_with fail
 rw[rounds_succ]
 go_wp2_with fail
 rw[rounds_succ]
 go_wp2_with fail
 go_ret
 exact⟨_,rfl,rfl,brf _ _⟩
def VD(x y e:Int):Value→World→Prop:=fun v W=>∃ a b c d,v=.tuple #[.agg #[a,b],.agg #[c,d],.int .i64 e]∧IC W a b x∧IC W c d y
theorem Firm.vd(x y e:Int):Firm (VD x y e):=
 ⟨fun _ _ _ ⟨a,b,c,d,e,h,k⟩ hb=>⟨a,b,c,d,e,h.keep hb,k.keep hb⟩,fun _ _ _ _ ⟨a,b,c,d,e,h,k⟩ ho hg=>⟨a,b,c,d,e,h.only ho hg,k.only ho hg⟩⟩
theorem ZiA{u v:Value}{z p:Int}{R:Nat}{w:World}(hz:IC w u v z)(hk:Wn 3 z)(hp:NBox R p w)(_h0:0≤z)(hp0:0<p)(hp1:p≤1000000000) :
  Calls Tryz.prog 167 #[.agg #[u,v],.pointer (some ⟨R,0,none⟩)] w (Zb (VC (.int .i64 (z % p))) w):=by
 obtain⟨A,c,rfl,rfl,hai⟩:=hz
 have HI:=lhd (show IC w (.bool (sgB z)) (.slice A (lnW z) c) z from⟨A,c,rfl,rfl,hai⟩)
 have HP:=lhd hp
 have HK:=lhd hk
 have HKp:=lhd (show Wn 2 p from Nat.lt_of_le_of_lt (show p.natAbs≤1000000000 by omega) (by decide))
 have HRem:=lhd (show remZ z p=z % p from by unfold remZ;omega)
 have HSm:=lhd (show YX (z % p)=z % p from by have h1:=Int.emod_nonneg z (show p≠0 by omega);have h2:=Int.emod_lt_of_pos z hp0;unfold YX;rw[if_pos (by omega)])
 have HIp:=lhd (show I64 p from by unfold I64;omega)
 clear hai hp hk _h0 hp0 hp1
 go_enter Tryz.func167,Tryz.ntmps167
 go_upto_region 1 with fail
 have hBA:=(brf w.heap.size w).alloc (nlr _) (.cells #[.bool (sgB z),.slice A (lnW z) c] 57)
 have c0:(w.alloc (.cells #[.bool (sgB z),.slice A (lnW z) c] 57)).cell? ⟨w.heap.size,0,none⟩=some (.bool (sgB z)):=by simp[go_sem]
 have c1:(w.alloc (.cells #[.bool (sgB z),.slice A (lnW z) c] 57)).cell? ⟨w.heap.size,1,none⟩=some (.slice A (lnW z) c):=by simp[go_sem]
 have hB8:w.heap.size<(w.alloc (.cells #[.bool (sgB z),.slice A (lnW z) c] 57)).heap.size:=by simp
 obtain⟨W1,hW1⟩:=nmx (w.alloc (.cells #[.bool (sgB z),.slice A (lnW z) c] 57))
 rw[← hW1]at hBA c0 c1 hB8
 rw[← hW1]
 have HBA:=lhd hBA;have HC0:=lhd c0;have HC1:=lhd c1;have HB8:=lhd hB8
 have HI1:=lhd (HI.out.keep hBA)
 have HP1:=lhd (HP.out.keep hBA)
 clear hW1 hBA c0 c1 hB8
 obtain⟨T2,hT2⟩:=nmx (w.heap.size)
 rw[← hT2]at HC0 HC1 HB8
 rw[← hT2]
 generalize sgB z=s at *
 generalize lnW z=n at *
 clear hT2
 refine Kz (W1.heap.size) [(0,10,VI z),(1,11,VC (.int .i64 p)),(2,12,VI p),(3,13,VD ((z / p)) ((remZ z p)) ((errZ p))),(4,9,VD ((z / p)) ((remZ z p)) ((errZ p))),(5,14,VI ((z / p))),(6,15,VI ((remZ z p))),(7,16,VC (.int .i64 (errZ p))),(12,6,VC (.int .i64 (errZ p)))] [⟨8,4,10,5,14,#[.bool false,.slice none 0 0]⟩,⟨9,5,11,6,15,#[.bool false,.slice none 0 0]⟩] [] (fun _=>True) [10,11,12,13,9,14,15,16,4,5,6] ?_ (by kernel_rfl) (by kernel_rfl) (by kernel_rfl) (Firms.all (l:=[(0,10,VI z),(1,11,VC (.int .i64 p)),(2,12,VI p),(3,13,VD ((z / p)) ((remZ z p)) ((errZ p))),(4,9,VD ((z / p)) ((remZ z p)) ((errZ p))),(5,14,VI ((z / p))),(6,15,VI ((remZ z p))),(7,16,VC (.int .i64 (errZ p))),(12,6,VC (.int .i64 (errZ p)))]) ⟨Firm.vi _,Firm.vc _,Firm.vi _,Firm.vd _ _ _,Firm.vd _ _ _,Firm.vi _,Firm.vi _,Firm.vc _,Firm.vc _,trivial⟩) (⟨fun _ _ _ _ _=>trivial,fun _ _ _ _ _ _ _=>trivial⟩) (trivial) ?_ ?_ ?_
 ·exact nlr _
 ·intro c hc;cases hc
 ·refine Zl ⟨?_,?_,?_,?_,?_,?_,?_,?_,?_,?_,?_,?_,?_,trivial⟩
  ·exact FOk.val rfl rfl rfl rfl fun y W hB hE hO hV=>by exact .loadI' hB HB8.out HC0.out HC1.out HI1.out rfl (fou (v:=.pointer (some ⟨T2,0,none⟩)))
  ·exact FOk.val rfl rfl rfl rfl fun y W hB hE hO hV=>by exact .load1 rfl (fou (v:=.pointer (some ⟨R,0,none⟩))) (Za Tryz.underlying3 rfl (HP1.out.keep hB).2) rfl
  ·exact FOk.val rfl rfl rfl rfl fun _ W _ _ _ hV=>.call Tryz.func92 (by kernel_rfl) rfl rfl rfl (Xf (fgt hV 1 rfl)) (cOf p W HIp.out)
  ·exact FOk.val rfl rfl rfl rfl fun y W hB hE hO hV=>by obtain⟨u0,v0,e0,h0⟩:=hge hV 0 rfl;obtain⟨u2,v2,e2,h2⟩:=hge hV 2 rfl;exact .call Tryz.func168 (by kernel_rfl) rfl rfl rfl (Zg ((fri).trans e0) ((fri).trans e2)) (ZcT h0 h2 HK.out HKp.out (by omega))
  ·exact FOk.val rfl rfl rfl rfl fun y W hB hE hO hV=>.move rfl fri (hge hV 3 rfl)
  ·exact FOk.val rfl rfl rfl rfl fun y W hB hE hO hV=>by obtain⟨a,b,c,d,e9,h1,h2⟩:=hge hV 4 rfl;exact .extract rfl ((fri).trans e9) rfl ⟨a,b,rfl,h1⟩
  ·exact FOk.val rfl rfl rfl rfl fun y W hB hE hO hV=>by obtain⟨a,b,c,d,e9,h1,h2⟩:=hge hV 4 rfl;exact .extract rfl ((fri).trans e9) rfl ⟨c,d,rfl,h2⟩
  ·exact FOk.val rfl rfl rfl rfl fun y W hB hE hO hV=>by obtain⟨a,b,c,d,e9,h1,h2⟩:=hge hV 4 rfl;exact .extract rfl ((fri).trans e9) rfl rfl
  ·refine .inl ⟨.inl rfl,.inr (.inl ⟨XP (by kernel_rfl),by simp,_,lm0,rfl,by simp,by simp,57,?_,fun y W K Q' hK=>?_⟩)⟩
   ·exact UN (by kernel_rfl)
   ·simp only[fr,Zf,fC0,fN0,sA0,sZ0,sS0]at hK ⊢
    go_simp
    exact hK
  ·refine .inl ⟨.inl rfl,.inr (.inl ⟨XP (by kernel_rfl),by simp,_,lm1,rfl,by simp,by simp,57,?_,fun y W K Q' hK=>?_⟩)⟩
   ·exact UN (by kernel_rfl)
   ·simp only[fr,Zf,fC0,fN0,sA0,sZ0,sS0]at hK ⊢
    go_simp
    exact hK
  ·refine .inl ⟨.inl rfl,.inr (.inr (.inl ⟨rfl,XP (by kernel_rfl),by simp,_,lm0,rfl,by simp,by simp,by kernel_rfl,by kernel_rfl,fun y W g hB hV hg hgw hc K Q' hK=>?_⟩))⟩
   obtain⟨u14_0,u14_1,y14,i14⟩:VI ((z / p)) (y 14) W:=hV (5,14,VI ((z / p))) (Z2 (by kernel_rfl)) (by kernel_rfl)
   exact .stoC (us:=#[u14_0,u14_1]) (vs:=#[u14_0,u14_1]) rfl ((fri).trans hg) ((fri).trans y14) (ICs.fit (l:=[(_,_,_)]) ⟨i14,trivial⟩ rfl).all hc rfl (Nat.le_of_ble_eq_true rfl) rfl (by kernel_rfl) fun W' hC hO=>hK W' ⟨_,y14,hC⟩ hO
  ·refine .inl ⟨.inl rfl,.inr (.inr (.inl ⟨rfl,XP (by kernel_rfl),by simp,_,lm1,rfl,by simp,by simp,by kernel_rfl,by kernel_rfl,fun y W g hB hV hg hgw hc K Q' hK=>?_⟩))⟩
   obtain⟨u15_0,u15_1,y15,i15⟩:VI ((remZ z p)) (y 15) W:=hV (6,15,VI ((remZ z p))) (Z2 (by kernel_rfl)) (by kernel_rfl)
   exact .stoC (us:=#[u15_0,u15_1]) (vs:=#[u15_0,u15_1]) rfl ((fri).trans hg) ((fri).trans y15) (ICs.fit (l:=[(_,_,_)]) ⟨i15,trivial⟩ rfl).all hc rfl (Nat.le_of_ble_eq_true rfl) rfl (by kernel_rfl) fun W' hC hO=>hK W' ⟨_,y15,hC⟩ hO
  ·exact FOk.val rfl rfl rfl rfl fun _ _ _ _ _ hV=>.assign rfl (fgt hV 7 rfl) rfl
 intro y W2 hB hE hO hV hX hA
 obtain⟨a,b,y15,i15⟩:VI (remZ z p) (y 15) W2:=hV (6,15,VI (remZ z p)) (Z2 (by kernel_rfl))
 obtain⟨g1,z1,l1,v1,e1,k1⟩:=hX _ lm1
 dsimp only at z1 e1
 rw[y15]at e1;injection e1 with e1;subst e1
 have HB2:=lhd hB
 clear hE hO hV hX hA y15 hB
 generalize hact:fr _ _ y=act
 simp only[fr,Zf,fC0,fN0,sA0,sZ0,sS0,z1]at hact
 subst hact
 clear z1
 obtain⟨A2,c2,rfl,rfl,hai⟩:=i15
 have q0:W2.cell? ⟨g1,0,none⟩=some (.bool (sgB (remZ z p))):=k1.2.1 0 (by simp)
 have q1:W2.cell? ⟨g1,1,none⟩=some (.slice A2 (lnW (remZ z p)) c2):=k1.2.1 1 (by simp)
 have HC:=lhd (Zjd _ _ _ _ _ _ hai)
 clear hai k1 l1
 go_wp2_with fail
 refine HC.out.mono ?_
 rintro e w3 ⟨rfl,hb3⟩
 have HB3:=lhd hb3
 clear hb3 q0 q1
 have hrem:=HRem.out
 have hsm:=HSm.out
 rw[hrem]
 rw[hsm]
 clear hrem hsm
 go_wp2_with fail
 go_ret
 exact⟨_,rfl,rfl,HBA.out.trans ((HB2.out.trans (HB3.out.mono HB2.out.size)).mono HBA.out.size)⟩
theorem Zfx:(Tryz.prog.info? 169).map (fun i=>(i.zero,i.size,i.bytes))=some (some (.agg zz2),4,64):=by kernel_rfl
theorem ic_alt{W W':World}{u v:Value}{x:Int}{row:Option Nat}(h:IC W u v x)(ha:Alt row W W')(hn:∀ g,row=some g→Clean eInt.Bad W g):IC W' u v x:=by
 obtain⟨a,b,e,h'⟩:=eInt.alt (x:=x) (cs:=[u,v]) ⟨u,v,rfl,h⟩ ha hn
 injection e with e1 e2;injection e2 with e2;subst e1 e2;exact h'
def eJ:El (Int × Int) where
 T:=169
 n:=4
 bytes:=64
 z:=.agg zz2
 E:=fun x cs W=>∃ a b c d,cs=[a,b,c,d]∧IC W a b x.1∧IC W c d x.2
 Bad:=eInt.Bad
 pos:=by decide
 small:=by decide
 zn:=rfl
 zg:=by
  intro u hu
  simp only[Value.cells]at hu
  rintro⟨k,n,rfl⟩
  simp at hu
 len:=by rintro x cs W ⟨a,b,c,d,rfl,-⟩;rfl
 one:=by
  rintro x cs W ⟨a,b,c,d,rfl,⟨A,k,rfl,rfl,-⟩,⟨A',k',rfl,rfl,-⟩⟩ y hy
  simp only[List.mem_cons,List.not_mem_nil,or_false]at hy
  rcases hy with rfl | rfl | rfl | rfl <;> exact⟨rfl,fun ⟨k,n,e⟩=>by cases e⟩
 alt:=by
  rintro x cs W W' row ⟨a,b,c,d,rfl,h1,h2⟩ ha hn
  exact⟨a,b,c,d,rfl,ic_alt h1 ha hn,ic_alt h2 ha hn⟩
theorem Yl.callC {P : Program} {W : World} {o : Oper} {a : Act} {q : Value → World → Prop} {c : Call} {f : FuncId} {fn : Func} {b : Code} {x : Operand} {bs args caps : Array Value} (hf : P.funcs[f]? = some fn) (hname : (fn.name == "runtime.NumGoroutine") = false) (hb : fn.body = some b) (ho : o.op = .call c) (hc : c.callee = .value x)
  (hx:a.eval x=.func (.func f) #[] caps) (ha:c.args.map a.eval=bs) (hargs:bs++caps=args) (hq:Calls P f args W (Zb q W)):Yl P o a W q:=by
 refine⟨fun K Q' hK=>?_⟩
 have h1:(callFunc f args).run P W=.ok (.enter f args) W:=by
  unfold callFunc
  have hn : ¬ fn.name = "runtime.NumGoroutine" := by simpa using hname
  simp[hf,hn,hb]
 have h2:(execOp a.eval o).run P W=.ok (.enter f args) W:=by
  subst hargs ha
  simp[execOp,ho,resolve,hc,hx,Deferred.ofValue,invoke,h1]
 unfold Oper.wp;rw[h2]
 show Calls P f args W _
 refine hq.mono ?_
 rintro e w' ⟨v,rfl,hv,hb⟩
 exact hK v w' hb hv
section
variable {P:Program}{a:Act}{W:World}{o:Oper}{x z:Operand}{S D:TypeId}{p q:Int}
theorem Yl.addI(ho:o.op=.binOp .add S x z D)(hx:a.eval x=.int .i64 p)(hz:a.eval z=.int .i64 q)(h:-4000000000000000000≤p+q∧p+q≤4000000000000000000):Yl P o a W (VC (.int .i64 (p+q))):=by
 refine .binOp ho hx hz ?_ rfl
 have:=IntWalk.i64_in (p+q) (by omega)
 simp[go_sem,eqGuard,this]
theorem Yl.subI(ho:o.op=.binOp .sub S x z D)(hx:a.eval x=.int .i64 p)(hz:a.eval z=.int .i64 q)(h:-4000000000000000000≤p-q∧p-q≤4000000000000000000):Yl P o a W (VC (.int .i64 (p-q))):=by
 refine .binOp ho hx hz ?_ rfl
 have:=IntWalk.i64_in (p-q) (by omega)
 simp[go_sem,eqGuard,this]
theorem Yl.mulI(ho:o.op=.binOp .mul S x z D)(hx:a.eval x=.int .i64 p)(hz:a.eval z=.int .i64 q)(h:-4000000000000000000≤p*q∧p*q≤4000000000000000000):Yl P o a W (VC (.int .i64 (p*q))):=by
 refine .binOp ho hx hz ?_ rfl
 have:=IntWalk.i64_in (p*q) (by omega)
 simp[go_sem,eqGuard,this]
theorem Yl.remI(ho:o.op=.binOp .rem S x z D)(hx:a.eval x=.int .i64 p)(hz:a.eval z=.int .i64 q)(h0:0≤p∧p≤4000000000000000000)(hq:0<q):Yl P o a W (VC (.int .i64 (p.tmod q))):=by
 refine .binOp ho hx hz ?_ rfl
 have h1:p.tmod q=p % q:=Int.tmod_eq_emod_of_nonneg h0.1
 have h2:=Int.emod_nonneg p (show q≠0 by omega)
 have h3:p % q≤p:=by
  rw[Int.emod_def];have:=Int.mul_nonneg (show 0≤q by omega) (Int.ediv_nonneg h0.1 (show 0≤q by omega));omega
 have h5:¬ q=0:=by omega
 simp[go_sem,eqGuard,h5]
end
theorem Alt.of{g:Nat}{W W':World}(h:Below W.heap.size W W'):Alt (some g) W W':=⟨h.size,fun b hb _=>h.block b hb⟩
theorem Alt.two{g k j:Nat}{u v:Value}{W:World}:Alt (some g) W ((W.setCell ⟨g,k,none⟩ u).setCell ⟨g,j,none⟩ v):=.only ((Only.setCell W g k u).trans (Only.setCell (W.setCell ⟨g,k,none⟩ u) g j v))
theorem NBox.put{Q Rw k j:Nat}{p:Int}{u v:Value}{W:World}(h:NBox Q p W)(ne:Rw≠Q):NBox Q p ((W.setCell ⟨Rw,k,none⟩ u).setCell ⟨Rw,j,none⟩ v):=by
 have h1:=((Only.setCell W Rw k u).trans (Only.setCell (W.setCell ⟨Rw,k,none⟩ u) Rw j v))
 refine⟨by rw[h1.size];exact h.1,?_⟩
 have:=h1.block Q (fun e=>ne e.symm)
 simp only[World.cell?,this]
 exact h.2
theorem Own.setX{w0 W:World}{Rw n cap i:Nat}{rs:List ((Int × Int) × List Value)}{u v c d:Value}{y:Int × Int}(h:Own eJ w0 (.slice (some ⟨Rw,0,none⟩) n cap) rs W)(hi:i<rs.length)(hE:eJ.E y [u,v,c,d] W)(h2:W.cell? ⟨Rw,i*4+2,none⟩=some c)(h3:W.cell? ⟨Rw,i*4+2+1,none⟩=some d) :
  Own eJ w0 (.slice (some ⟨Rw,0,none⟩) n cap) (rs.set i (y,[u,v,c,d])) ((W.setCell ⟨Rw,i*4,none⟩ u).setCell ⟨Rw,i*4+1,none⟩ v):=by
 have:=h.set hi hE
 have e2:((W.setCell ⟨Rw,i*4,none⟩ u).setCell ⟨Rw,i*4+1,none⟩ v).cell? ⟨Rw,i*4+1+1,none⟩=some c:=by
  rw[World.cell?_setCell_other _ _ _ _ (by intro e;injection e with _ e _;omega),World.cell?_setCell_other _ _ _ _ (by intro e;injection e with _ e _;omega)];exact h2
 have e3:((W.setCell ⟨Rw,i*4,none⟩ u).setCell ⟨Rw,i*4+1,none⟩ v).cell? ⟨Rw,i*4+1+1+1,none⟩=some d:=by
  rw[World.cell?_setCell_other _ _ _ _ (by intro e;injection e with _ e _;omega),World.cell?_setCell_other _ _ _ _ (by intro e;injection e with _ e _;omega)];exact h3
 rw[show W.setCells Rw (i*eJ.n) [u,v,c,d]=(((W.setCell ⟨Rw,i*4,none⟩ u).setCell ⟨Rw,i*4+1,none⟩ v).setCell ⟨Rw,i*4+1+1,none⟩ c).setCell ⟨Rw,i*4+1+1+1,none⟩ d from rfl,Xh e2,Xh e3]at this
 exact this
theorem Own.setM{w0 W:World}{Rw n cap i:Nat}{rs:List ((Int × Int) × List Value)}{u v c d:Value}{y:Int × Int}(h:Own eJ w0 (.slice (some ⟨Rw,0,none⟩) n cap) rs W)(hi:i<rs.length)(hE:eJ.E y [u,v,c,d] W)(h2:W.cell? ⟨Rw,i*4,none⟩=some u)(h3:W.cell? ⟨Rw,i*4+1,none⟩=some v) :
  Own eJ w0 (.slice (some ⟨Rw,0,none⟩) n cap) (rs.set i (y,[u,v,c,d])) ((W.setCell ⟨Rw,i*4+2,none⟩ c).setCell ⟨Rw,i*4+2+1,none⟩ d):=by
 have:=h.set hi hE
 rw[show W.setCells Rw (i*eJ.n) [u,v,c,d]=(((W.setCell ⟨Rw,i*4,none⟩ u).setCell ⟨Rw,i*4+1,none⟩ v).setCell ⟨Rw,i*4+2,none⟩ c).setCell ⟨Rw,i*4+2+1,none⟩ d from rfl,Xh h2,Xh h3]at this
 exact this
theorem Zer{w0 w:World}{Rw n cap i:Nat}{rs:List ((Int × Int) × List Value)}{cs:List Value}{r p:Int}(h:Own eJ w0 (.slice (some ⟨Rw,0,none⟩) n cap) rs w)(hi:rs[i]?=some ((0,1),cs))(hr0:0≤r)(hr1:r<p)(hp:p=999999937) :
  Calls Tryz.prog 123 #[.pointer (some ⟨Rw,i*4,none⟩),.int .i64 r,.int .i64 p] w (fun e W=>e=.returned (.tuple #[])∧∃ cs',Own eJ w0 (.slice (some ⟨Rw,0,none⟩) n cap) (rs.set i ((r,p),cs')) W∧Alt (some Rw) w W):=by
 have HO:=lhd h
 obtain⟨hc,⟨a,b,c,d,hcs,hx,hm⟩⟩:=h.cell hi
 dsimp only at hx hm hcs
 subst hcs
 have hlt:Rw<w.heap.size:=(h.1.lt Rw rfl).2
 have k0:w.cell? ⟨Rw,i*4,none⟩=some a:=hc 0 a rfl
 have k1:w.cell? ⟨Rw,i*4+1,none⟩=some b:=hc 1 b rfl
 have k2:w.cell? ⟨Rw,i*4+2,none⟩=some c:=hc 2 c rfl
 have k3:w.cell? ⟨Rw,i*4+2+1,none⟩=some d:=hc 3 d rfl
 have HLi:=lhd (show i<rs.length from(List.getElem?_eq_some_iff.1 hi).1)
 have HX:=lhd hx;have HM:=lhd hm;have HLt:=lhd hlt
 have HK0:=lhd k0;have HK1:=lhd k1;have HK2:=lhd k2;have HK3:=lhd k3
 have HR:=lhd (show 0≤r∧r<p∧p=999999937 from⟨hr0,hr1,hp⟩)
 have HBA:=lhd ((brf w.heap.size w).alloc (nlr _) (.cells #[.int .i64 p] 3))
 have HNB:=lhd (show NBox w.heap.size p (w.alloc (.cells #[.int .i64 p] 3)) from⟨by simp,by simp[go_sem]⟩)
 have HJ:=lhd (fun (W:World) (Q:Nat) (u v:Value) (z:Int) (h1:NBox Q p W) (h2:IC W u v z) (h3:Wn 3 z) (h4:0≤z)=>ZiA h2 h3 h1 h4 (show 0<p by omega) (by omega))
 have HIn:=lhd (show ∀ W:World,Calls Tryz.prog 60 #[.int .i64 1,.int .i64 p] W (Zb (VC (.tuple #[.int .i64 1,.int .i64 0])) W) from fun W=>(Kq 1 p W (by unfold I64;omega)).mono fun _ _ hh=>by
  subst hp
  have e2:invE 1 999999937=0:=by decide +kernel
  have e1:invV 1 999999937=1:=by unfold invV;rw[if_pos e2];exact(Zbz (by decide) (by decide) (by decide) (by decide) ⟨0,by decide⟩).symm
  rw[e1,e2]at hh
  exact YG hh)
 clear h hi hc hx hm hlt k0 k1 k2 k3 hr0 hr1 hp
 go_enter Tryz.func123,Tryz.ntmps123
 go_upto_region 2 with fail
 obtain⟨W1,hW1⟩:=nmx (w.alloc (.cells #[.int .i64 p] 3))
 rw[← hW1]at HBA HNB
 rw[← hW1]
 obtain⟨Q,hQ⟩:=nmx (w.heap.size)
 rw[← hQ]at HNB
 rw[← hQ]
 have HRQ:=lhd (show Rw≠Q by have:=HLt.out;omega)
 clear hW1 hQ
 have HO1:=lhd (HO.out.keep HBA.out)
 have HA1:=lhd (Alt.of (g:=Rw) HBA.out)
 have HX1:=lhd (HX.out.keep HBA.out);have HM1:=lhd (HM.out.keep HBA.out)
 have HL1:=lhd (nLl HLt.out HBA.out.size)
 have HC0:=lhd ((HBA.out.cell (p:=⟨Rw,i*4,none⟩) HLt.out).trans HK0.out)
 have HC1:=lhd ((HBA.out.cell (p:=⟨Rw,i*4+1,none⟩) HLt.out).trans HK1.out)
 have HC2:=lhd ((HBA.out.cell (p:=⟨Rw,i*4+2,none⟩) HLt.out).trans HK2.out)
 have HC3:=lhd ((HBA.out.cell (p:=⟨Rw,i*4+2+1,none⟩) HLt.out).trans HK3.out)
 clear HO HX HM HLt HK0 HK1 HK2 HK3
 obtain⟨k,hk⟩:=nmx (i*4)
 rw[← hk]at HC0 HC1 HC2 HC3
 rw[← hk]
 have HKk:=lhd hk
 clear hk
 refine Zu [(0,12,VC (.func (.func 167) #[] #[.pointer (some ⟨Q,0,none⟩)])),(1,13,VC (.pointer (some ⟨Rw,k,none⟩))),(2,14,VC (.pointer (some ⟨Rw,k,none⟩))),(3,15,VC (.pointer (some ⟨Rw,k+2,none⟩))),(4,16,VI 1),(5,17,VC (.int .i64 (1 % p))),(6,18,VC (.int .i64 p)),(7,19,VC (.tuple #[.int .i64 1,.int .i64 0])),(8,11,VC (.tuple #[.int .i64 1,.int .i64 0])),(9,20,VC (.int .i64 1)),(10,21,VC (.int .i64 0)),(11,7,VC (.int .i64 1)),(12,8,VC (.int .i64 0))] (fun _=>True) [12,13,14,15,16,17,18,19,11,20,21,7,8] (by kernel_rfl) (by kernel_rfl) (by kernel_rfl) ⟨kv,kv,kv,kv,Keeps.vi _,kv,kv,kv,kv,kv,kv,kv,kv,trivial⟩ (fun _ _ _ _ _=>trivial) trivial (Zl ⟨?_,?_,?_,?_,?_,?_,?_,?_,?_,?_,?_,?_,?_,trivial⟩) ?_
 ·exact mvX rfl rfl rfl
 ·exact mvX rfl rfl rfl
 ·exact .of rfl rfl fun _ _ _ _ hV _=>.nilCheck rfl (fgt hV 1 rfl) rfl
 ·exact .of rfl rfl fun _ _ _ _ hV _=>.fieldAddr rfl (fgt hV 2 rfl) (by kernel_rfl) rfl
 ·exact .of rfl rfl fun _ _ hB _ hV _=>.loadI' hB HL1.out HC2.out HC3.out HM1.out rfl (fgt hV 3 rfl)
 ·exact .of rfl rfl fun _ W hB _ hV _=>by obtain⟨u,v,e,h⟩:=hge hV 4 rfl;exact .callC Tryz.func167 (by kernel_rfl) rfl rfl rfl (fgt hV 0 rfl) (Xf ((fri).trans e)) rfl (HJ.out W Q u v 1 (HNB.out.keep hB) h (by unfold Wn;decide) (by decide))
 ·exact .of rfl rfl fun _ _ hB _ _ _=>.load1 rfl (fou (v:=.pointer (some ⟨Q,0,none⟩))) (Za Tryz.underlying3 rfl (HNB.out.keep hB).2) rfl
 ·exact .of rfl rfl fun _ W _ _ hV _=>.call Tryz.func60 (by kernel_rfl) rfl rfl rfl (Zg (fgt hV 5 rfl) (fgt hV 6 rfl)) (by rw[show(1:Int) % p=1 from by have:=HR.out.2.2;subst this;rfl];exact HIn.out W)
 ·exact .of rfl rfl fun _ _ _ _ hV _=>.move rfl (fgt hV 7 rfl) rfl
 ·exact .of rfl rfl fun _ _ _ _ hV _=>.extract rfl (fgt hV 8 rfl) rfl rfl
 ·exact .of rfl rfl fun _ _ _ _ hV _=>.extract rfl (fgt hV 8 rfl) rfl rfl
 ·exact .of rfl rfl fun _ _ _ _ hV _=>.assign rfl (fgt hV 9 rfl) rfl
 ·exact .of rfl rfl fun _ _ _ _ hV _=>.assign rfl (fgt hV 10 rfl) rfl
 intro y W2 hB hE hV
 have eV:y 7=_:=hend hV 11 rfl
 have HO2:=lhd (HO1.out.keep hB)
 have HA2:=lhd (HA1.out.trans (.of hB))
 have HNB2:=lhd (HNB.out.keep hB)
 have HX2:=lhd (HX1.out.keep hB);have HM2:=lhd (HM1.out.keep hB)
 have HL2:=lhd (nLl HL1.out hB.size)
 have HD0:=lhd ((hB.cell (p:=⟨Rw,k,none⟩) HL1.out).trans HC0.out)
 have HD1:=lhd ((hB.cell (p:=⟨Rw,k+1,none⟩) HL1.out).trans HC1.out)
 have HD2:=lhd ((hB.cell (p:=⟨Rw,k+2,none⟩) HL1.out).trans HC2.out)
 have HD3:=lhd ((hB.cell (p:=⟨Rw,k+2+1,none⟩) HL1.out).trans HC3.out)
 clear hB hE hV HO1 HNB HX1 HM1 HL1 HC0 HC1 HC2 HC3
 generalize hact:fr _ _ y=act
 simp only[fr,Zf,fC0,fN0,sA0,sZ0,sS0,eV]at hact
 subst hact
 clear eV
 go_upto_region 3 with fail
 refine Zu [(0,22,VC (.int .i64 r)),(1,23,VC (.int .i64 p)),(2,24,VC (.int .i64 (r+p))),(3,25,VC (.func (.func 167) #[] #[.pointer (some ⟨Q,0,none⟩)])),(4,26,VC (.pointer (some ⟨Rw,k,none⟩))),(5,27,VC (.pointer (some ⟨Rw,k,none⟩))),(6,28,VC (.pointer (some ⟨Rw,k,none⟩))),(7,29,VI 0),(8,30,VC (.int .i64 (0 % p))),(9,31,VC (.int .i64 (r+p-0 % p))),(10,32,VC (.int .i64 p)),(11,33,VC (.int .i64 ((r+p-0 % p).tmod p))),(12,34,VC (.int .i64 1)),(13,35,VC (.int .i64 ((r+p-0 % p).tmod p*1))),(14,36,VC (.int .i64 p)),(15,37,VC (.int .i64 (((r+p-0 % p).tmod p*1).tmod p))),(16,9,VC (.int .i64 (((r+p-0 % p).tmod p*1).tmod p)))] (fun _=>True) [22,23,24,25,26,27,28,29,30,31,32,33,34,35,36,37,9] (by kernel_rfl) (by kernel_rfl) (by kernel_rfl) ⟨kv,kv,kv,kv,kv,kv,kv,Keeps.vi _,kv,kv,kv,kv,kv,kv,kv,kv,kv,trivial⟩ (fun _ _ _ _ _=>trivial) trivial (Zl ⟨?_,?_,?_,?_,?_,?_,?_,?_,?_,?_,?_,?_,?_,?_,?_,?_,?_,trivial⟩) ?_
 ·exact mvX rfl rfl rfl
 ·exact .of rfl rfl fun _ _ hB _ _ _=>.load1 rfl (fou (v:=.pointer (some ⟨Q,0,none⟩))) (Za Tryz.underlying3 rfl (HNB2.out.keep hB).2) rfl
 ·exact .of rfl rfl fun _ _ _ _ hV _=>.addI rfl (fgt hV 0 rfl) (fgt hV 1 rfl) (by have:=HR.out;omega)
 ·exact mvX rfl rfl rfl
 ·exact mvX rfl rfl rfl
 ·exact .of rfl rfl fun _ _ _ _ hV _=>.nilCheck rfl (fgt hV 4 rfl) rfl
 ·exact .of rfl rfl fun _ _ _ _ hV _=>.fieldAddr rfl (fgt hV 5 rfl) (by kernel_rfl) rfl
 ·exact .of rfl rfl fun _ _ hB _ hV _=>.loadI' hB HL2.out HD0.out HD1.out HX2.out rfl (fgt hV 6 rfl)
 ·exact .of rfl rfl fun _ W hB _ hV _=>by obtain⟨u,v,e,h⟩:=hge hV 7 rfl;exact .callC Tryz.func167 (by kernel_rfl) rfl rfl rfl (fgt hV 3 rfl) (Xf ((fri).trans e)) rfl (HJ.out W Q u v 0 (HNB2.out.keep hB) h (by unfold Wn;decide) (by decide))
 ·exact .of rfl rfl fun _ _ _ _ hV _=>.subI rfl (fgt hV 2 rfl) (fgt hV 8 rfl) (by have:=HR.out;rw[Int.zero_emod];omega)
 ·exact .of rfl rfl fun _ _ hB _ _ _=>.load1 rfl (fou (v:=.pointer (some ⟨Q,0,none⟩))) (Za Tryz.underlying3 rfl (HNB2.out.keep hB).2) rfl
 ·exact .of rfl rfl fun _ _ _ _ hV _=>.remI rfl (fgt hV 9 rfl) (fgt hV 10 rfl) (by have:=HR.out;rw[Int.zero_emod];omega) (by have:=HR.out;omega)
 ·exact mvX rfl rfl rfl
 ·exact .of rfl rfl fun _ _ _ _ hV _=>.mulI rfl (fgt hV 11 rfl) (fgt hV 12 rfl) (by have:=HR.out;rw[Int.zero_emod,Int.sub_zero,(Ku this.1 this.2.1).2];omega)
 ·exact .of rfl rfl fun _ _ hB _ _ _=>.load1 rfl (fou (v:=.pointer (some ⟨Q,0,none⟩))) (Za Tryz.underlying3 rfl (HNB2.out.keep hB).2) rfl
 ·exact .of rfl rfl fun _ _ _ _ hV _=>.remI rfl (fgt hV 13 rfl) (fgt hV 14 rfl) (by have:=HR.out;rw[Int.zero_emod,Int.sub_zero,(Ku this.1 this.2.1).2];omega) (by have:=HR.out;omega)
 ·exact .of rfl rfl fun _ _ _ _ hV _=>.assign rfl (fgt hV 15 rfl) rfl
 intro y W3 hB hE hV
 have eV:y 9=_:=hend hV 16 rfl
 rw[show((r+p-0 % p).tmod p*1).tmod p=r from by
  have hr:=HR.out
  rw[Int.zero_emod,Int.sub_zero,(Ku hr.1 hr.2.1).2,Int.mul_one,(Ku hr.1 hr.2.1).1]]at eV
 have HO3:=lhd (HO2.out.keep hB)
 have HA3:=lhd (HA2.out.trans (.of hB))
 have HNB3:=lhd (HNB2.out.keep hB)
 have HX3:=lhd (HX2.out.keep hB);have HM3:=lhd (HM2.out.keep hB)
 have HL3:=lhd (nLl HL2.out hB.size)
 have HE0:=lhd ((hB.cell (p:=⟨Rw,k,none⟩) HL2.out).trans HD0.out)
 have HE1:=lhd ((hB.cell (p:=⟨Rw,k+1,none⟩) HL2.out).trans HD1.out)
 have HE2:=lhd ((hB.cell (p:=⟨Rw,k+2,none⟩) HL2.out).trans HD2.out)
 have HE3:=lhd ((hB.cell (p:=⟨Rw,k+2+1,none⟩) HL2.out).trans HD3.out)
 clear hB hE hV HO2 HNB2 HX2 HM2 HL2 HD0 HD1 HD2 HD3
 generalize hact:fr _ _ y=act
 simp only[fr,Zf,fC0,fN0,sA0,sZ0,sS0,eV]at hact
 subst hact
 clear eV
 have HIr:=lhd (show I64 r from by have:=HR.out;unfold I64;omega)
 have HIp:=lhd (show I64 p from by have:=HR.out;unfold I64;omega)
 have HWr:=lhd (show Wn 2 r from Nat.lt_of_le_of_lt (show r.natAbs≤1000000000 by have:=HR.out;omega) (by decide))
 have HWp:=lhd (show Wn 2 p from Nat.lt_of_le_of_lt (show p.natAbs≤1000000000 by have:=HR.out;omega) (by decide))
 have HWm:=lhd (show Wn 2 (1*r) from by rw[Int.one_mul];exact HWr.out)
 go_upto_region 4 with fail
 refine wrt 15 [(0,38,VC (.pointer (some ⟨Rw,k,none⟩))),(1,39,VC (.pointer (some ⟨Rw,k,none⟩))),(2,40,VC (.pointer (some ⟨Rw,k,none⟩))),(3,41,VC (.pointer (some ⟨Rw,k,none⟩))),(4,42,VI 0),(5,43,VC (.pointer (some ⟨Rw,k,none⟩))),(6,44,VC (.pointer (some ⟨Rw,k,none⟩))),(7,45,VC (.pointer (some ⟨Rw,k+2,none⟩))),(8,46,VI 1),(9,47,VC (.int .i64 r)),(10,48,VI r),(11,49,VI (1*r)),(12,50,VI (0+1*r)),(13,51,VC (.pointer (some ⟨Rw,k,none⟩))),(14,52,VC (.pointer (some ⟨Rw,k,none⟩)))] (fun _=>True) [38,39,40,41,42,43,44,45,46,47,48,49,50,51,52] ⟨kv,kv,kv,kv,Keeps.vi _,kv,kv,kv,Keeps.vi _,kv,Keeps.vi _,Keeps.vi _,Keeps.vi _,kv,kv,trivial⟩ (fun _ _ _ _ _=>trivial) trivial (by decide) (Zn _ ⟨?_,?_,?_,?_,?_,?_,?_,?_,?_,?_,?_,?_,?_,?_,?_,trivial⟩) ?_
 ·exact mvX rfl rfl rfl
 ·exact mvX rfl rfl rfl
 ·exact .of rfl rfl fun _ _ _ _ hV _=>.nilCheck rfl (fgt hV 1 rfl) rfl
 ·exact .of rfl rfl fun _ _ _ _ hV _=>.fieldAddr rfl (fgt hV 2 rfl) (by kernel_rfl) rfl
 ·exact .of rfl rfl fun _ _ hB _ hV _=>.loadI' hB HL3.out HE0.out HE1.out HX3.out rfl (fgt hV 3 rfl)
 ·exact mvX rfl rfl rfl
 ·exact .of rfl rfl fun _ _ _ _ hV _=>.nilCheck rfl (fgt hV 5 rfl) rfl
 ·exact .of rfl rfl fun _ _ _ _ hV _=>.fieldAddr rfl (fgt hV 6 rfl) (by kernel_rfl) rfl
 ·exact .of rfl rfl fun _ _ hB _ hV _=>.loadI' hB HL3.out HE2.out HE3.out HM3.out rfl (fgt hV 7 rfl)
 ·exact mvX rfl rfl rfl
 ·exact .of rfl rfl fun _ W _ _ hV _=>.call Tryz.func92 (by kernel_rfl) rfl rfl rfl (Xf (fgt hV 9 rfl)) (cOf r W HIr.out)
 ·exact .of rfl rfl fun _ _ _ _ hV _=>by obtain⟨u8,v8,e8,h8⟩:=hge hV 8 rfl;obtain⟨u10,v10,e10,h10⟩:=hge hV 10 rfl;exact .call Tryz.func86 (by kernel_rfl) rfl rfl rfl (Zg ((fri).trans e8) ((fri).trans e10)) (cMul (j:=2) (k:=2) h8 h10 (by unfold Wn;decide) HWr.out (by omega))
 ·exact .of rfl rfl fun _ _ _ _ hV _=>by obtain⟨u4,v4,e4,h4⟩:=hge hV 4 rfl;obtain⟨u11,v11,e11,h11⟩:=hge hV 11 rfl;exact .call Tryz.func88 (by kernel_rfl) rfl rfl rfl (Zg ((fri).trans e4) ((fri).trans e11)) (cAdd (j:=2) (k:=2) h4 h11 (by unfold Wn;decide) HWm.out (by omega))
 ·exact .of rfl rfl fun _ _ _ _ hV _=>.nilCheck rfl (fgt hV 0 rfl) rfl
 ·exact .of rfl rfl fun _ _ _ _ hV _=>.fieldAddr rfl (fgt hV 13 rfl) (by kernel_rfl) rfl
 intro y W4 hB hE hV
 obtain⟨u4,v4,e5,h5⟩:VI (0+1*r) (y 50) W4:=hend hV 12 rfl
 rw[show 0+1*r=r by omega]at h5
 have eP:y 52=_:=hend hV 14 rfl
 have HO4:=lhd (HO3.out.keep hB)
 have HA4:=lhd (HA3.out.trans (.of hB))
 have HNB4:=lhd (HNB3.out.keep hB)
 have HX4:=lhd (HX3.out.keep hB);have HM4:=lhd (HM3.out.keep hB)
 have HF0:=lhd ((hB.cell (p:=⟨Rw,k,none⟩) HL3.out).trans HE0.out)
 have HF1:=lhd ((hB.cell (p:=⟨Rw,k+1,none⟩) HL3.out).trans HE1.out)
 have HF2:=lhd ((hB.cell (p:=⟨Rw,k+2,none⟩) HL3.out).trans HE2.out)
 have HF3:=lhd ((hB.cell (p:=⟨Rw,k+2+1,none⟩) HL3.out).trans HE3.out)
 clear hB hE hV HO3 HNB3 HX3 HM3 HL3 HE0 HE1 HE2 HE3
 generalize hact:fr _ _ y=act
 simp only[fr,Zf,fC0,fN0,sA0,sZ0,sS0,e5,eP]at hact
 subst hact
 clear e5 eP
 have HS:=lhd (HO4.out.setX (y:=(r,1)) (u:=u4) (v:=v4) (c:=c) (d:=d) HLi.out ⟨u4,v4,c,d,rfl,h5,HM4.out⟩ (by rw[← HKk.out];exact HF2.out) (by rw[← HKk.out];exact HF3.out))
 rw[← HKk.out]at HS
 have f0:=HO4.out.fz k;have f1:=HO4.out.fz (k+1)
 have q0:=HF0.out;have q1:=HF1.out
 have HNB5:=lhd (HNB4.out.put (k:=k) (j:=k+1) (u:=u4) (v:=v4) HRQ.out)
 obtain⟨A5,c5,rfl,rfl,-⟩:=h5
 clear HX4 HM4 HF0 HF1 HF2 HF3 HNB4 HO4
 generalize sgB r=s5 at *
 generalize lnW r=n5 at *
 show wpList _ _ _ [_] _ _
 go_wp2_with fail
 obtain⟨W5,hW5⟩:=nmx ((W4.setCell ⟨Rw,k,none⟩ (.bool s5)).setCell ⟨Rw,k+1,none⟩ (.slice A5 n5 c5))
 have HA5:=lhd (show Alt (some Rw) w W5 from by rw[hW5];exact HA4.out.trans .two)
 rw[← hW5]at HS HNB5
 rw[← hW5]
 clear hW5 f0 f1 q0 q1
 obtain⟨hc,a9,b9,c9,d9,e9,hx,hm⟩:=HS.out.cell (i:=i) (x:=((r,1),[.bool s5,.slice A5 n5 c5,c,d])) (by rw[List.getElem?_set_self HLi.out])
 injection e9 with e91 e9;injection e9 with e92 e9;injection e9 with e93 e9;injection e9 with e94 e9
 subst e91 e92 e93 e94
 have HX5:=lhd hx;have HM5:=lhd hm
 have HL5:=lhd ((HS.out.1.lt Rw rfl).2)
 have HO5:=lhd HS.out
 have HG0:=lhd (show W5.cell? ⟨Rw,k,none⟩=some (.bool s5) by rw[HKk.out];exact hc 0 _ rfl)
 have HG1:=lhd (show W5.cell? ⟨Rw,k+1,none⟩=some (.slice A5 n5 c5) by rw[HKk.out];exact hc 1 _ rfl)
 have HG2:=lhd (show W5.cell? ⟨Rw,k+2,none⟩=some c by rw[HKk.out];exact hc 2 _ rfl)
 have HG3:=lhd (show W5.cell? ⟨Rw,k+2+1,none⟩=some d by rw[HKk.out];exact hc 3 _ rfl)
 clear hc hx hm HS
 refine wrt 10 [(0,53,VC (.pointer (some ⟨Rw,k,none⟩))),(1,54,VC (.pointer (some ⟨Rw,k,none⟩))),(2,55,VC (.pointer (some ⟨Rw,k,none⟩))),(3,56,VC (.pointer (some ⟨Rw,k+2,none⟩))),(4,57,VI 1),(5,58,VC (.int .i64 p)),(6,59,VI p),(7,60,VI (1*p)),(8,61,VC (.pointer (some ⟨Rw,k,none⟩))),(9,62,VC (.pointer (some ⟨Rw,k+2,none⟩)))] (fun _=>True) [53,54,55,56,57,58,59,60,61,62] ⟨kv,kv,kv,kv,Keeps.vi _,kv,Keeps.vi _,Keeps.vi _,kv,kv,trivial⟩ (fun _ _ _ _ _=>trivial) trivial (by decide) (Zn _ ⟨?_,?_,?_,?_,?_,?_,?_,?_,?_,?_,trivial⟩) ?_
 ·exact mvX rfl rfl rfl
 ·exact mvX rfl rfl rfl
 ·exact .of rfl rfl fun _ _ _ _ hV _=>.nilCheck rfl (fgt hV 1 rfl) rfl
 ·exact .of rfl rfl fun _ _ _ _ hV _=>.fieldAddr rfl (fgt hV 2 rfl) (by kernel_rfl) rfl
 ·exact .of rfl rfl fun _ _ hB _ hV _=>.loadI' hB HL5.out HG2.out HG3.out HM5.out rfl (fgt hV 3 rfl)
 ·exact .of rfl rfl fun _ _ hB _ _ _=>.load1 rfl (fou (v:=.pointer (some ⟨Q,0,none⟩))) (Za Tryz.underlying3 rfl (HNB5.out.keep hB).2) rfl
 ·exact .of rfl rfl fun _ W _ _ hV _=>.call Tryz.func92 (by kernel_rfl) rfl rfl rfl (Xf (fgt hV 5 rfl)) (cOf p W HIp.out)
 ·exact .of rfl rfl fun _ _ _ _ hV _=>by obtain⟨u4,v4,e4,h4⟩:=hge hV 4 rfl;obtain⟨u6,v6,e6,h6⟩:=hge hV 6 rfl;exact .call Tryz.func86 (by kernel_rfl) rfl rfl rfl (Zg ((fri).trans e4) ((fri).trans e6)) (cMul (j:=2) (k:=2) h4 h6 (by unfold Wn;decide) HWp.out (by omega))
 ·exact .of rfl rfl fun _ _ _ _ hV _=>.nilCheck rfl (fgt hV 0 rfl) rfl
 ·exact .of rfl rfl fun _ _ _ _ hV _=>.fieldAddr rfl (fgt hV 8 rfl) (by kernel_rfl) rfl
 intro y W6 hB hE hV
 obtain⟨u6,v6,e5,h5⟩:VI (1*p) (y 60) W6:=hend hV 7 rfl
 rw[show 1*p=p by omega]at h5
 have eP:y 62=_:=hend hV 9 rfl
 have HO6:=lhd (HO5.out.keep hB)
 have HA6:=lhd (HA5.out.trans (.of hB))
 have HNB6:=lhd (HNB5.out.keep hB)
 have HX6:=lhd (HX5.out.keep hB);have HM6:=lhd (HM5.out.keep hB)
 have HF0:=lhd ((hB.cell (p:=⟨Rw,k,none⟩) HL5.out).trans HG0.out)
 have HF1:=lhd ((hB.cell (p:=⟨Rw,k+1,none⟩) HL5.out).trans HG1.out)
 have HF2:=lhd ((hB.cell (p:=⟨Rw,k+2,none⟩) HL5.out).trans HG2.out)
 have HF3:=lhd ((hB.cell (p:=⟨Rw,k+2+1,none⟩) HL5.out).trans HG3.out)
 clear hB hE hV HO5 HNB5 HX5 HM5 HL5 HG0 HG1 HG2 HG3
 generalize hact:fr _ _ y=act
 simp only[fr,Zf,fC0,fN0,sA0,sZ0,sS0,e5,eP]at hact
 subst hact
 clear e5 eP
 have HS:=lhd (HO6.out.setM (y:=(r,p)) (u:=.bool s5) (v:=.slice A5 n5 c5) (c:=u6) (d:=v6) (by rw[List.length_set];exact HLi.out) ⟨_,_,u6,v6,rfl,HX6.out,h5⟩ (by rw[← HKk.out];exact HF0.out) (by rw[← HKk.out];exact HF1.out))
 rw[← HKk.out]at HS
 have f0:=HO6.out.fz (k+2);have f1:=HO6.out.fz (k+2+1)
 have q0:=HF2.out;have q1:=HF3.out
 obtain⟨A6,c6,rfl,rfl,-⟩:=h5
 clear HX6 HM6 HF0 HF1 HF2 HF3 HNB6 HO6
 generalize sgB p=s6 at *
 generalize lnW p=n6 at *
 show wpList _ _ _ [_] _ _
 go_wp2_with fail
 go_end0
 refine⟨rfl,⟨[.bool s5,.slice A5 n5 c5,.bool s6,.slice A6 n6 c6],?_⟩,HA6.out.trans .two⟩
 have hfin:=HS.out
 rw[List.set_set]at hfin
 exact hfin
end
end Go.Proofs.YthkklilhjnpedaaGreatDoor
