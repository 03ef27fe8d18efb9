/- Sums, products with fractions, negatives, conjugates, products in the reference; fractions that are valid. Norms and inverses, in the program and in the reference. Inverses, in the program and in the reference. Boxes of a call's own that are read and written. -/
import Derived.Test.YthkklilhjnpedaaGreatDoorUQa0
import Derived.Test.YthkklilhjnpedaaGreatDoorURpi
import Derived.Test.YthkklilhjnpedaaGreatDoorUQn0
set_option maxHeartbeats 16000000
set_option maxRecDepth 8000
namespace Go.Proofs.YthkklilhjnpedaaGreatDoor
section
open Go.RowKit FF
theorem ZeI(q:Qt)(w:World)(hf:KU q)(he:q.d≠0) :
  Calls Tryz.prog 37 #[cv q.w q.x q.y q.z,.int .i64 q.d] w fun r w'=>r=.returned (.tuple #[qv (fitQ q),.int .i64 (fitE q)])∧Below w.heap.size w w':=by
 obtain⟨a,b,c,d,e⟩:=q
 have HO:=lhd (fun w=>ZiS a b c d e w hf he)
 have HE:=lhd (show fitQ ⟨a,b,c,d,e⟩=(if qB (nrm ⟨a,b,c,d,e⟩)=true then nrm ⟨a,b,c,d,e⟩ else Qt.zero)∧fitE ⟨a,b,c,d,e⟩=(if qB (nrm ⟨a,b,c,d,e⟩)=true then 0 else 8) from⟨rfl,rfl⟩)
 clear hf he
 generalize nrm ⟨a,b,c,d,e⟩=N at *
 generalize fitQ ⟨a,b,c,d,e⟩=Q at *
 generalize fitE ⟨a,b,c,d,e⟩=E at *
 obtain⟨n0,n1,n2,n3,n4⟩:=N
 generalize qB ⟨n0,n1,n2,n3,n4⟩=B at *
 unfold cv at *
 simp only[qv]at HO
 have H0:=lhd (brf w.heap.size w)
 go_enter Tryz.func37,Tryz.ntmps37
 go_wp2_with fail
 refine(HO.out _).mono ?_
 rintro e1 w1 ⟨rfl,hbb⟩
 have HB1:=lhd (((H0.out.alloc (Nat.le_refl _) _).alloc (by simp) _).trans (hbb.mono (by simp;omega)))
 have HR:=lhd (show Cells w1 (w.heap.size+1) #[.int .i64 0,.int .i64 0,.int .i64 0,.int .i64 0,.int .i64 0] from(Cells.new (w.alloc _) _ _ (by simp)).keep hbb)
 have h1:w.heap.size+1<w1.heap.size:=HR.out.1
 clear hbb HO H0
 go_upto_region 2 with fail
 obtain⟨W8,hW8⟩:∃ W8:World,W8=w1.alloc (.cells #[.int .i64 n0,.int .i64 n1,.int .i64 n2,.int .i64 n3,.int .i64 n4] 37):=⟨_,rfl⟩
 rw[← hW8]
 have HG:=lhd (show Reg w [] (w.heap.size+1) 5 W8 from hW8 ▸ Reg.nil (HB1.out.alloc HB1.out.size _) (by omega) (HR.out.alloc _))
 obtain⟨z0,z1,z2,z3,z4,f0,f1,f2,f3,f4⟩:=HG.out.res5
 obtain⟨c0,c1,c2,c3,c4⟩:=(show Cells W8 w1.heap.size #[.int .i64 n0,.int .i64 n1,.int .i64 n2,.int .i64 n3,.int .i64 n4] from hW8 ▸ Cells.new w1 _ _ rfl).five
 clear hW8 HB1 HR
 cases B
 ·obtain⟨rfl,rfl⟩:=HE.out
  clear c0 c1 c2 c3 c4
  go_wp2_with fail
  obtain⟨W9,e9,q0,q1,q2,q3,q4,B9⟩:=Reg.fin5 HG.out (.int .i64 0) (.int .i64 0) (.int .i64 0) (.int .i64 0) (.int .i64 0)
  rw[e9]
  refine bodyPost_ret (v:=.tuple #[qv Qt.zero,.int .i64 8]) (by simp[results,Tryz.results37,go_sem,q0,q1,q2,q3,q4,qv,Qt.zero]) rfl ?_
  exact⟨rfl,B9⟩
 ·obtain⟨rfl,rfl⟩:=HE.out
  go_wp2_with fail
  obtain⟨W9,e9,q0,q1,q2,q3,q4,B9⟩:=Reg.fin5 HG.out (.int .i64 n0) (.int .i64 n1) (.int .i64 n2) (.int .i64 n3) (.int .i64 n4)
  rw[e9]
  refine bodyPost_ret (v:=.tuple #[qv ⟨n0,n1,n2,n3,n4⟩,.int .i64 0]) (by simp[results,Tryz.results37,go_sem,q0,q1,q2,q3,q4,qv]) rfl ?_
  exact⟨rfl,B9⟩
def resQ(E:Int)(q:Qt):Qt:=if E=0 then fitQ q else Qt.zero
def resE(E:Int)(q:Qt):Int:=if E=0 then fitE q else E
theorem ZfE{q:Qt}(h:qB q=true):KU q:=by
 obtain⟨h1,h2,h3,h4,h5⟩:=Yh.1 h
 exact⟨⟨by omega,by omega⟩,⟨by omega,by omega⟩,⟨by omega,by omega⟩,⟨by omega,by omega⟩,⟨by omega,by omega⟩⟩
open Go.RowKit FF
def YV(n:Int):Prop:=-1000000≤n∧n≤1000000
set_option maxRecDepth 100000 in
theorem Zhe(c0 c1 c2 c3 d0 d1 d2 d3 a b:Int)(w:World)(h0:YV c0)(h1:YV c1)(h2:YV c2)(h3:YV c3)(g0:YV d0)(g1:YV d1)(g2:YV d2)(g3:YV d3)
  (ha:-1000≤a∧a≤1000) (hb:-1000≤b∧b≤1000) :
  Calls Tryz.prog 36 #[cv c0 c1 c2 c3,.agg #[.int .i64 a,.int .i64 b],cv d0 d1 d2 d3] w fun r w' =>
   r=.returned (cv (c0*d0+a*c1*d1+b*c2*d2-a*b*c3*d3) (c0*d1+c1*d0+b*(c3*d2-c2*d3)) (c0*d2+c2*d0+a*(c1*d3-c3*d1)) (c0*d3+c3*d0+c1*d2-c2*d1))∧Below w.heap.size w w':=by
 unfold YV at *
 obtain⟨b1,b1'⟩:=mulb h0 g0
 obtain⟨b2,b2'⟩:=mulb ha h1
 obtain⟨b3,b3'⟩:=mulb (mulb ha h1) g1
 obtain⟨b4,b4'⟩:=mulb hb h2
 obtain⟨b5,b5'⟩:=mulb (mulb hb h2) g2
 obtain⟨b6,b6'⟩:=mulb ha hb
 obtain⟨b7,b7'⟩:=mulb (mulb ha hb) h3
 obtain⟨b8,b8'⟩:=mulb (mulb (mulb ha hb) h3) g3
 obtain⟨b9,b9'⟩:=mulb h0 g1
 obtain⟨c1',c1''⟩:=mulb h1 g0
 obtain⟨c2',c2''⟩:=mulb h3 g2
 obtain⟨c3',c3''⟩:=mulb h2 g3
 obtain⟨c4',c4''⟩:=mulb h0 g2
 obtain⟨c5',c5''⟩:=mulb h2 g0
 obtain⟨c6',c6''⟩:=mulb h1 g3
 obtain⟨c7',c7''⟩:=mulb h3 g1
 obtain⟨c8',c8''⟩:=mulb h0 g3
 obtain⟨c9',c9''⟩:=mulb h3 g0
 obtain⟨e1',e1''⟩:=mulb h1 g2
 obtain⟨e2',e2''⟩:=mulb h2 g1
 simp only[Int.reduceMul,Int.reduceNeg]at *
 obtain⟨e3',e3''⟩:=mulb (m:=1000) (n:=2000000000000) hb (show -2000000000000≤c3*d2-c2*d3∧c3*d2-c2*d3≤2000000000000 by omega)
 obtain⟨e4',e4''⟩:=mulb (m:=1000) (n:=2000000000000) ha (show -2000000000000≤c1*d3-c3*d1∧c1*d3-c3*d1≤2000000000000 by omega)
 simp only[Int.reduceMul,Int.reduceNeg]at e3' e3'' e4' e4''
 clear h0 h1 h2 h3 g0 g1 g2 g3 ha hb
 have H0:=lhd (brf w.heap.size w)
 unfold cv
 go_enter Tryz.func36,Tryz.ntmps36
 go_wp2_with fail
 refine bodyPost_ret (v:=cv (c0*d0+a*c1*d1+b*c2*d2-a*b*c3*d3) (c0*d1+c1*d0+b*(c3*d2-c2*d3)) (c0*d2+c2*d0+a*(c1*d3-c3*d1)) (c0*d3+c3*d0+c1*d2-c2*d1)) (by simp[results,Tryz.results36,go_sem,cv]) rfl ?_
 exact⟨rfl,(((H0.out.alloc (Nat.le_refl _) _).alloc (by simp) _).alloc (by simp;omega) _).alloc (by simp;omega) _⟩
theorem Zhf(p q:Qt)(a b:Int)(w:World)(hp:qB p=true)(hq:qB q=true)(ha:aE a b=0) :
  Calls Tryz.prog 36 #[cv p.w p.x p.y p.z,.agg #[.int .i64 a,.int .i64 b],cv q.w q.x q.y q.z] w fun r w' =>
   r=.returned (cv (mulQ a b p q).w (mulQ a b p q).x (mulQ a b p q).y (mulQ a b p q).z)∧Below w.heap.size w w':=by
 obtain⟨h0,h1,h2,h3,-⟩:=Yh.1 hp
 obtain⟨g0,g1,g2,g3,-⟩:=Yh.1 hq
 obtain⟨-,-,ha,hb⟩:=Zgu.1 ha
 have h:=Zhe p.w p.x p.y p.z q.w q.x q.y q.z a b w h0 h1 h2 h3 g0 g1 g2 g3 ha hb
 have e1:p.w*q.x+p.x*q.w+b*(p.z*q.y-p.y*q.z)=(mulQ a b p q).x:=by simp only[mulQ];grind
 have e2:p.w*q.y+p.y*q.w+a*(p.x*q.z-p.z*q.x)=(mulQ a b p q).y:=by simp only[mulQ];grind
 rw[e1,e2]at h
 exact h
open Go.RowKit FF
theorem ZfF{W:World}{T:TypeId}{B:Nat}(hB:W.heap.size=B)(p0 p1 p2 p3 p4 q0 q1 q2 q3 q4:Int) :
  ShowsI (W.alloc (.cells #[.int .i64 p0,.int .i64 p1,.int .i64 p2,.int .i64 p3,.int .i64 p4,.int .i64 q0,.int .i64 q1,.int .i64 q2,.int .i64 q3,.int .i64 q4] T)) (some ⟨B,0,none⟩) (X9 [⟨p0,p1,p2,p3,p4⟩,⟨q0,q1,q2,q3,q4⟩]):=by
 subst hB
 exact ShowsI.new fun i hi=>by match i,hi with | 0,_=>rfl | 1,_=>rfl | 2,_=>rfl | 3,_=>rfl | 4,_=>rfl | 5,_=>rfl | 6,_=>rfl | 7,_=>rfl | 8,_=>rfl | 9,_=>rfl
theorem ZeJ{x y:Int}(hx:1≤x∧x≤1000000)(hy:1≤y∧y≤1000000):1≤x*y∧x*y≤1000000000000:=by
 have h1:=Int.mul_pos (show 0<x by omega) (show 0<y by omega)
 have h2:=(mulb (x:=x) (y:=y) (m:=1000000) (n:=1000000) ⟨by omega,hx.2⟩ ⟨by omega,hy.2⟩).2
 omega
theorem wrap_id(x:Int)(h1:-4611686018427387904≤x)(h2:x≤4611686018427387904):IntKind.i64.wrap x=x:=by rw[IntKind.wrap_i64];omega
theorem mulQ_fit{a b:Int}{p q:Qt}(hp:qB p=true)(hq:qB q=true)(h:aE a b=0):KU (mulQ a b p q)∧(mulQ a b p q).d≠0:=by
 obtain⟨h0,h1,h2,h3,h4⟩:=Yh.1 hp
 obtain⟨g0,g1,g2,g3,g4⟩:=Yh.1 hq
 obtain⟨-,-,ha,hb⟩:=Zgu.1 h
 have hd:=ZeJ h4 g4
 have b1:=mulb h0 g0;have b2:=mulb (mulb ha h1) g1;have b3:=mulb (mulb hb h2) g2;have b4:=mulb (mulb (mulb ha hb) h3) g3
 have b5:=mulb h0 g1;have b6:=mulb h1 g0;have b7:=mulb (mulb hb h2) g3;have b8:=mulb (mulb hb h3) g2
 have b9:=mulb h0 g2;have c1:=mulb h2 g0;have c2:=mulb (mulb ha h1) g3;have c3:=mulb (mulb ha h3) g1
 have c4:=mulb h0 g3;have c5:=mulb h3 g0;have c6:=mulb h1 g2;have c7:=mulb h2 g1
 simp only[Int.reduceMul,Int.reduceNeg]at *
 refine⟨⟨?_,?_,?_,?_,?_⟩,?_⟩ <;> simp only[mulQ] <;> omega
theorem ZiT{p:Qt}(hp:qB p=true):qB (XH p)=true:=by
 obtain⟨h0,h1,h2,h3,h4⟩:=Yh.1 hp
 refine Yh.2 ⟨h0,?_,?_,?_,h4⟩ <;> simp only[XH] <;> omega
set_option maxRecDepth 100000 in
theorem ZiU(p0 p1 p2 p3 p4:Int)(w:World) :
  Calls Tryz.prog 10 #[qv ⟨p0,p1,p2,p3,p4⟩] w fun r w'=>r=.returned (.tuple #[qv (resQ (qE ⟨p0,p1,p2,p3,p4⟩) (XH ⟨p0,p1,p2,p3,p4⟩)),.int .i64 (resE (qE ⟨p0,p1,p2,p3,p4⟩) (XH ⟨p0,p1,p2,p3,p4⟩))])∧Below w.heap.size w w':=by
 have HE:=lhd (show resQ (qE ⟨p0,p1,p2,p3,p4⟩) (XH ⟨p0,p1,p2,p3,p4⟩)=(if qE ⟨p0,p1,p2,p3,p4⟩=0 then fitQ (XH ⟨p0,p1,p2,p3,p4⟩) else Qt.zero)∧resE (qE ⟨p0,p1,p2,p3,p4⟩) (XH ⟨p0,p1,p2,p3,p4⟩)=(if qE ⟨p0,p1,p2,p3,p4⟩=0 then fitE (XH ⟨p0,p1,p2,p3,p4⟩) else qE ⟨p0,p1,p2,p3,p4⟩) from⟨rfl,rfl⟩)
 have HC:=lhd (fun w=>KS ⟨p0,p1,p2,p3,p4⟩ w)
 have HF:=lhd (fun (h:qE ⟨p0,p1,p2,p3,p4⟩=0)=>(show(∀ w,Calls Tryz.prog 35 #[qv ⟨p0,p1,p2,p3,p4⟩] w fun r w'=>r=.returned (cv (p0) (p1) (p2) (p3))∧Below w.heap.size w w')∧(∀ w,Calls Tryz.prog 39 #[cv (p0) (p1) (p2) (p3)] w fun r w'=>r=.returned (cv p0 (-p1) (-p2) (-p3))∧Below w.heap.size w w')∧(∀ w,Calls Tryz.prog 37 #[cv p0 (-p1) (-p2) (-p3),.int .i64 p4] w fun r w'=>r=.returned ((.tuple #[qv (fitQ (XH ⟨p0,p1,p2,p3,p4⟩)),.int .i64 (fitE (XH ⟨p0,p1,p2,p3,p4⟩))]))∧Below w.heap.size w w') from by
  have hq:=Zgt.1 h
  obtain⟨k0,k1,k2,k3,k4⟩:=Yh.1 hq
  simp only at k0 k1 k2 k3 k4
  exact⟨fun w=>Zbh _ _ _ _ _ w,fun w=>ZiR _ _ _ _ w (by omega) (by omega) (by omega),fun w=>ZeI (XH ⟨p0,p1,p2,p3,p4⟩) w (ZfE (ZiT hq)) (by show p4≠0;omega)⟩))
 generalize resQ (qE ⟨p0,p1,p2,p3,p4⟩) (XH ⟨p0,p1,p2,p3,p4⟩)=RQ at *
 generalize resE (qE ⟨p0,p1,p2,p3,p4⟩) (XH ⟨p0,p1,p2,p3,p4⟩)=RE at *
 generalize qE ⟨p0,p1,p2,p3,p4⟩=E at *
 generalize fitQ (XH ⟨p0,p1,p2,p3,p4⟩)=FQ at *
 generalize fitE (XH ⟨p0,p1,p2,p3,p4⟩)=FE at *
 simp only[qv,cv]at HC HF
 simp only[qv]
 go_enter Tryz.func10,Tryz.ntmps10
 go_wp2_with fail
 refine(HC.out _).mono ?_
 rintro e1 w1 ⟨rfl,hbb⟩
 have HG:=lhd (show Reg w [(w.heap.size,#[.int .i64 p0,.int .i64 p1,.int .i64 p2,.int .i64 p3,.int .i64 p4])] (w.heap.size+1) 5 w1 from((Reg.nil (vs:=#[.int .i64 0,.int .i64 0,.int .i64 0,.int .i64 0,.int .i64 0]) (((Below.refl _ _).alloc (Nat.le_refl _) _).alloc (by simp;try omega) _) (by omega) (Cells.new _ _ _ (by simp))).cons ((Cells.new _ _ _ (by simp)).alloc _) (by omega)).keep hbb)
 clear hbb HC
 obtain⟨z0,z1,z2,z3,z4,f0,f1,f2,f3,f4⟩:=HG.out.res5
 by_cases hE:E=0
 ·subst hE
  obtain⟨rfl,rfl⟩:=HE.out
  obtain⟨hHO,hHK,hHT⟩:=HF.out rfl
  clear HF HE z0 z1 z2 z3 z4 f0 f1 f2 f3 f4
  obtain⟨g0,g1,g2,g3,g4⟩:=RQ
  have HO:=lhd hHO
  clear hHO
  have HK:=lhd hHK
  clear hHK
  have HT:=lhd hHT
  clear hHT
  generalize -p1=m1 at *
  generalize -p2=m2 at *
  generalize -p3=m3 at *
  have mk:=fun w' (h:Reg w [(w.heap.size,#[.int .i64 p0,.int .i64 p1,.int .i64 p2,.int .i64 p3,.int .i64 p4])] (w.heap.size+1) 5 w')=>And.intro h (And.intro (h.five lm0) h.res5)
  have MK:=lhd mk
  have HG2:=lhd (mk _ (HG.out.keep (brf _ _).drew))
  clear mk
  go_upto_region 4 with fail
  go_region_held3 (fun w'=>Reg w [(w.heap.size,#[.int .i64 p0,.int .i64 p1,.int .i64 p2,.int .i64 p3,.int .i64 p4])] (w.heap.size+1) 5 w'∧(w'.cell? ⟨w.heap.size,0,none⟩=some (.int .i64 p0)∧w'.cell? ⟨w.heap.size,1,none⟩=some (.int .i64 p1)∧w'.cell? ⟨w.heap.size,2,none⟩=some (.int .i64 p2)∧w'.cell? ⟨w.heap.size,3,none⟩=some (.int .i64 p3)∧w'.cell? ⟨w.heap.size,4,none⟩=some (.int .i64 p4))∧Res5 (w.heap.size+1) w')
   (first
    | exact HG2.out
    | exact MK.out _ (Reg.keep (And.left (by assumption)) (by assumption))
    | exact MK.out _ (Reg.set5 (And.left (by assumption)) _ _ _ _ _))
   (first
    | (go_at_call 35;(with_reducible refine(HO.out _).mono ?_);rintro e w' ⟨rfl,hb⟩)
    | (go_at_call 39;(with_reducible refine(HK.out _).mono ?_);rintro e w' ⟨rfl,hb⟩)
    | (go_at_call 37;(with_reducible refine(HT.out _).mono ?_);rintro e w' ⟨rfl,hb⟩))
  have hR:Reg w [(w.heap.size,#[.int .i64 p0,.int .i64 p1,.int .i64 p2,.int .i64 p3,.int .i64 p4])] (w.heap.size+1) 5 w':=by repeat (first | exact HG2.out.1 | refine Reg.keep ?_ (by assumption))
  obtain⟨W9,e9,q0,q1,q2,q3,q4,B9⟩:=Reg.fin5 hR (.int .i64 g0) (.int .i64 g1) (.int .i64 g2) (.int .i64 g3) (.int .i64 g4)
  rw[e9]
  clear hR HG2 MK HG
  go_wp2_with fail
  refine bodyPost_ret (v:=.tuple #[.agg #[.int .i64 g0,.int .i64 g1,.int .i64 g2,.int .i64 g3,.int .i64 g4],.int .i64 RE]) (by simp[results,Tryz.results10,go_sem,q0,q1,q2,q3,q4]) rfl ?_
  exact⟨rfl,B9⟩
 ·have d1:(E == 0)=false:=Xx hE
  obtain⟨h1,h2⟩:=HE.out
  rw[if_neg hE]at h1 h2
  subst h1;subst h2
  clear HE HF
  go_wp2_with fail
  obtain⟨W9,e9,q0,q1,q2,q3,q4,B9⟩:=Reg.fin5 HG.out (.int .i64 0) (.int .i64 0) (.int .i64 0) (.int .i64 0) (.int .i64 0)
  rw[e9]
  refine bodyPost_ret (v:=.tuple #[.agg #[.int .i64 0,.int .i64 0,.int .i64 0,.int .i64 0,.int .i64 0],.int .i64 RE]) (by simp[results,Tryz.results10,go_sem,q0,q1,q2,q3,q4]) rfl ?_
  exact⟨rfl,B9⟩
set_option maxRecDepth 100000 in
theorem qMul_any(a b p0 p1 p2 p3 p4 q0 q1 q2 q3 q4:Int)(w:World) :
  Calls Tryz.prog 9 #[.agg #[.int .i64 a,.int .i64 b],qv ⟨p0,p1,p2,p3,p4⟩,qv ⟨q0,q1,q2,q3,q4⟩] w fun r w'=>r=.returned (.tuple #[qv (resQ (allE a b [⟨p0,p1,p2,p3,p4⟩,⟨q0,q1,q2,q3,q4⟩]) (mulQ a b ⟨p0,p1,p2,p3,p4⟩ ⟨q0,q1,q2,q3,q4⟩)),.int .i64 (resE (allE a b [⟨p0,p1,p2,p3,p4⟩,⟨q0,q1,q2,q3,q4⟩]) (mulQ a b ⟨p0,p1,p2,p3,p4⟩ ⟨q0,q1,q2,q3,q4⟩))])∧Below w.heap.size w w':=by
 have HE:=lhd (show resQ (allE a b [⟨p0,p1,p2,p3,p4⟩,⟨q0,q1,q2,q3,q4⟩]) (mulQ a b ⟨p0,p1,p2,p3,p4⟩ ⟨q0,q1,q2,q3,q4⟩)=(if allE a b [⟨p0,p1,p2,p3,p4⟩,⟨q0,q1,q2,q3,q4⟩]=0 then fitQ (mulQ a b ⟨p0,p1,p2,p3,p4⟩ ⟨q0,q1,q2,q3,q4⟩) else Qt.zero)∧resE (allE a b [⟨p0,p1,p2,p3,p4⟩,⟨q0,q1,q2,q3,q4⟩]) (mulQ a b ⟨p0,p1,p2,p3,p4⟩ ⟨q0,q1,q2,q3,q4⟩)=(if allE a b [⟨p0,p1,p2,p3,p4⟩,⟨q0,q1,q2,q3,q4⟩]=0 then fitE (mulQ a b ⟨p0,p1,p2,p3,p4⟩ ⟨q0,q1,q2,q3,q4⟩) else allE a b [⟨p0,p1,p2,p3,p4⟩,⟨q0,q1,q2,q3,q4⟩]) from⟨rfl,rfl⟩)
 have HC:=lhd (fun A c w hx=>Zjf a b A [⟨p0,p1,p2,p3,p4⟩,⟨q0,q1,q2,q3,q4⟩] 2 c w hx rfl (by omega))
 have HF:=lhd (fun (h:allE a b [⟨p0,p1,p2,p3,p4⟩,⟨q0,q1,q2,q3,q4⟩]=0)=>(show IntKind.i64.wrap (p4*q4)=p4*q4∧(∀ w,Calls Tryz.prog 35 #[qv ⟨p0,p1,p2,p3,p4⟩] w fun r w'=>r=.returned (cv (p0) (p1) (p2) (p3))∧Below w.heap.size w w')∧(∀ w,Calls Tryz.prog 35 #[qv ⟨q0,q1,q2,q3,q4⟩] w fun r w'=>r=.returned (cv (q0) (q1) (q2) (q3))∧Below w.heap.size w w')∧(∀ w,Calls Tryz.prog 36 #[cv (p0) (p1) (p2) (p3),.agg #[.int .i64 a,.int .i64 b],cv (q0) (q1) (q2) (q3)] w fun r w'=>r=.returned (cv ((mulQ a b ⟨p0,p1,p2,p3,p4⟩ ⟨q0,q1,q2,q3,q4⟩).w) ((mulQ a b ⟨p0,p1,p2,p3,p4⟩ ⟨q0,q1,q2,q3,q4⟩).x) ((mulQ a b ⟨p0,p1,p2,p3,p4⟩ ⟨q0,q1,q2,q3,q4⟩).y) ((mulQ a b ⟨p0,p1,p2,p3,p4⟩ ⟨q0,q1,q2,q3,q4⟩).z))∧Below w.heap.size w w')∧(∀ w,Calls Tryz.prog 37 #[cv ((mulQ a b ⟨p0,p1,p2,p3,p4⟩ ⟨q0,q1,q2,q3,q4⟩).w) ((mulQ a b ⟨p0,p1,p2,p3,p4⟩ ⟨q0,q1,q2,q3,q4⟩).x) ((mulQ a b ⟨p0,p1,p2,p3,p4⟩ ⟨q0,q1,q2,q3,q4⟩).y) ((mulQ a b ⟨p0,p1,p2,p3,p4⟩ ⟨q0,q1,q2,q3,q4⟩).z),.int .i64 (p4*q4)] w fun r w'=>r=.returned ((.tuple #[qv (fitQ (mulQ a b ⟨p0,p1,p2,p3,p4⟩ ⟨q0,q1,q2,q3,q4⟩)),.int .i64 (fitE (mulQ a b ⟨p0,p1,p2,p3,p4⟩ ⟨q0,q1,q2,q3,q4⟩))]))∧Below w.heap.size w w') from by
  obtain⟨ha,hall⟩:=Zdo.1 h
  have hp:=hall ⟨p0,p1,p2,p3,p4⟩ (by simp)
  have hq:=hall ⟨q0,q1,q2,q3,q4⟩ (by simp)
  have hd:=ZeJ (Yh.1 hp).2.2.2.2 (Yh.1 hq).2.2.2.2
  have hfit:=mulQ_fit hp hq ha
  exact⟨wrap_id _ (by simp only at hd;omega) (by simp only at hd;omega),fun w=>Zbh _ _ _ _ _ w,fun w=>Zbh _ _ _ _ _ w,fun w=>Zhf ⟨p0,p1,p2,p3,p4⟩ ⟨q0,q1,q2,q3,q4⟩ a b w hp hq ha,fun w=>ZeI (mulQ a b ⟨p0,p1,p2,p3,p4⟩ ⟨q0,q1,q2,q3,q4⟩) w hfit.1 hfit.2⟩))
 generalize resQ (allE a b [⟨p0,p1,p2,p3,p4⟩,⟨q0,q1,q2,q3,q4⟩]) (mulQ a b ⟨p0,p1,p2,p3,p4⟩ ⟨q0,q1,q2,q3,q4⟩)=RQ at *
 generalize resE (allE a b [⟨p0,p1,p2,p3,p4⟩,⟨q0,q1,q2,q3,q4⟩]) (mulQ a b ⟨p0,p1,p2,p3,p4⟩ ⟨q0,q1,q2,q3,q4⟩)=RE at *
 generalize allE a b [⟨p0,p1,p2,p3,p4⟩,⟨q0,q1,q2,q3,q4⟩]=E at *
 generalize fitQ (mulQ a b ⟨p0,p1,p2,p3,p4⟩ ⟨q0,q1,q2,q3,q4⟩)=FQ at *
 generalize fitE (mulQ a b ⟨p0,p1,p2,p3,p4⟩ ⟨q0,q1,q2,q3,q4⟩)=FE at *
 simp only[qv,cv]at HC HF
 simp only[qv]
 go_enter Tryz.func9,Tryz.ntmps9
 go_wp2_with fail
 refine(HC.out _ _ _ (ZfF (by simp) p0 p1 p2 p3 p4 q0 q1 q2 q3 q4)).mono ?_
 rintro e1 w1 ⟨rfl,hbb⟩
 have HG:=lhd (show Reg w [(w.heap.size,#[.int .i64 a,.int .i64 b]),(w.heap.size+1,#[.int .i64 p0,.int .i64 p1,.int .i64 p2,.int .i64 p3,.int .i64 p4]),(w.heap.size+2,#[.int .i64 q0,.int .i64 q1,.int .i64 q2,.int .i64 q3,.int .i64 q4])] (w.heap.size+3) 5 w1 from(((((Reg.nil (vs:=#[.int .i64 0,.int .i64 0,.int .i64 0,.int .i64 0,.int .i64 0]) (((((Below.refl _ _).alloc (Nat.le_refl _) _).alloc (by simp;try omega) _).alloc (by simp;try omega) _).alloc (by simp;try omega) _) (by omega) (Cells.new _ _ _ (by simp))).cons ((Cells.new _ _ _ (by simp)).alloc _) (by omega)).cons (((Cells.new _ _ _ (by simp)).alloc _).alloc _) (by omega)).cons ((((Cells.new _ _ _ (by simp)).alloc _).alloc _).alloc _) (by omega)).keep ((Below.refl _ _).alloc (Nat.le_refl _) _)).keep hbb)
 clear hbb HC
 obtain⟨z0,z1,z2,z3,z4,f0,f1,f2,f3,f4⟩:=HG.out.res5
 by_cases hE:E=0
 ·subst hE
  obtain⟨rfl,rfl⟩:=HE.out
  obtain⟨d2,hHO,hHO2,hHM,hHT⟩:=HF.out rfl
  clear HF HE z0 z1 z2 z3 z4 f0 f1 f2 f3 f4
  obtain⟨g0,g1,g2,g3,g4⟩:=RQ
  have HO:=lhd hHO
  clear hHO
  have HO2:=lhd hHO2
  clear hHO2
  have HM:=lhd hHM
  clear hHM
  have HT:=lhd hHT
  clear hHT
  generalize (mulQ a b ⟨p0,p1,p2,p3,p4⟩ ⟨q0,q1,q2,q3,q4⟩).w=mw at *
  generalize (mulQ a b ⟨p0,p1,p2,p3,p4⟩ ⟨q0,q1,q2,q3,q4⟩).x=mx at *
  generalize (mulQ a b ⟨p0,p1,p2,p3,p4⟩ ⟨q0,q1,q2,q3,q4⟩).y=my at *
  generalize (mulQ a b ⟨p0,p1,p2,p3,p4⟩ ⟨q0,q1,q2,q3,q4⟩).z=mz at *
  have mk:=fun w' (h:Reg w [(w.heap.size,#[.int .i64 a,.int .i64 b]),(w.heap.size+1,#[.int .i64 p0,.int .i64 p1,.int .i64 p2,.int .i64 p3,.int .i64 p4]),(w.heap.size+2,#[.int .i64 q0,.int .i64 q1,.int .i64 q2,.int .i64 q3,.int .i64 q4])] (w.heap.size+3) 5 w')=>And.intro h (And.intro (h.two lm0) (And.intro (h.five lm1) (And.intro (h.five lm2) h.res5)))
  have MK:=lhd mk
  have HG2:=lhd (mk _ (HG.out.keep (brf _ _).drew))
  clear mk
  go_upto_region 4 with fail
  go_region_held3 (fun w'=>Reg w [(w.heap.size,#[.int .i64 a,.int .i64 b]),(w.heap.size+1,#[.int .i64 p0,.int .i64 p1,.int .i64 p2,.int .i64 p3,.int .i64 p4]),(w.heap.size+2,#[.int .i64 q0,.int .i64 q1,.int .i64 q2,.int .i64 q3,.int .i64 q4])] (w.heap.size+3) 5 w'∧(w'.cell? ⟨w.heap.size,0,none⟩=some (.int .i64 a)∧w'.cell? ⟨w.heap.size,1,none⟩=some (.int .i64 b))∧(w'.cell? ⟨w.heap.size+1,0,none⟩=some (.int .i64 p0)∧w'.cell? ⟨w.heap.size+1,1,none⟩=some (.int .i64 p1)∧w'.cell? ⟨w.heap.size+1,2,none⟩=some (.int .i64 p2)∧w'.cell? ⟨w.heap.size+1,3,none⟩=some (.int .i64 p3)∧w'.cell? ⟨w.heap.size+1,4,none⟩=some (.int .i64 p4))∧(w'.cell? ⟨w.heap.size+2,0,none⟩=some (.int .i64 q0)∧w'.cell? ⟨w.heap.size+2,1,none⟩=some (.int .i64 q1)∧w'.cell? ⟨w.heap.size+2,2,none⟩=some (.int .i64 q2)∧w'.cell? ⟨w.heap.size+2,3,none⟩=some (.int .i64 q3)∧w'.cell? ⟨w.heap.size+2,4,none⟩=some (.int .i64 q4))∧Res5 (w.heap.size+3) w')
   (first
    | exact HG2.out
    | exact MK.out _ (Reg.keep (And.left (by assumption)) (by assumption))
    | exact MK.out _ (Reg.set5 (And.left (by assumption)) _ _ _ _ _))
   (first
    | (go_at_call 35;(with_reducible refine(HO.out _).mono ?_);rintro e w' ⟨rfl,hb⟩)
    | (go_at_call 35;(with_reducible refine(HO2.out _).mono ?_);rintro e w' ⟨rfl,hb⟩)
    | (go_at_call 36;(with_reducible refine(HM.out _).mono ?_);rintro e w' ⟨rfl,hb⟩)
    | (go_at_call 37;(with_reducible refine(HT.out _).mono ?_);rintro e w' ⟨rfl,hb⟩))
  have hR:Reg w [(w.heap.size,#[.int .i64 a,.int .i64 b]),(w.heap.size+1,#[.int .i64 p0,.int .i64 p1,.int .i64 p2,.int .i64 p3,.int .i64 p4]),(w.heap.size+2,#[.int .i64 q0,.int .i64 q1,.int .i64 q2,.int .i64 q3,.int .i64 q4])] (w.heap.size+3) 5 w':=by repeat (first | exact HG2.out.1 | refine Reg.keep ?_ (by assumption))
  obtain⟨W9,e9,q0,q1,q2,q3,q4,B9⟩:=Reg.fin5 hR (.int .i64 g0) (.int .i64 g1) (.int .i64 g2) (.int .i64 g3) (.int .i64 g4)
  rw[e9]
  clear hR HG2 MK HG
  go_wp2_with fail
  refine bodyPost_ret (v:=.tuple #[.agg #[.int .i64 g0,.int .i64 g1,.int .i64 g2,.int .i64 g3,.int .i64 g4],.int .i64 RE]) (by simp[results,Tryz.results9,go_sem,q0,q1,q2,q3,q4]) rfl ?_
  exact⟨rfl,B9⟩
 ·have d1:(E == 0)=false:=Xx hE
  obtain⟨h1,h2⟩:=HE.out
  rw[if_neg hE]at h1 h2
  subst h1;subst h2
  clear HE HF
  go_wp2_with fail
  obtain⟨W9,e9,q0,q1,q2,q3,q4,B9⟩:=Reg.fin5 HG.out (.int .i64 0) (.int .i64 0) (.int .i64 0) (.int .i64 0) (.int .i64 0)
  rw[e9]
  refine bodyPost_ret (v:=.tuple #[.agg #[.int .i64 0,.int .i64 0,.int .i64 0,.int .i64 0,.int .i64 0],.int .i64 RE]) (by simp[results,Tryz.results9,go_sem,q0,q1,q2,q3,q4]) rfl ?_
  exact⟨rfl,B9⟩
structure Bxs(w:World)(L:List (Nat × Array Value))(w':World):Prop where
 below:Below w.heap.size w w'
 bx:∀ x∈L,x.1<w'.heap.size∧∀ i,i<x.2.size→w'.cell? ⟨x.1,i,none⟩=x.2[i]?
section
variable {w w0 w1:World}{L:List (Nat × Array Value)}
theorem Reg.bxs{r n:Nat}(h:Reg w L r n w0):Bxs w L w0:=⟨h.below,fun x hx=>⟨(h.bx x hx).1,(h.bx x hx).2.2⟩⟩
end
open Go.RowKit FF
structure Bx(w:World)(L:List (Nat × Array Value))(W:World):Prop where
 below:Below w.heap.size w W
 own:∀ x∈L,w.heap.size≤x.1∧Cells W x.1 x.2
section
variable {w W W':World}{L:List (Nat × Array Value)}{b:Nat}{v0 v1 v2 v3 v4:Value}
theorem Bx.keep(h:Bx w L W)(hb:Below W.heap.size W W'):Bx w L W':=⟨h.below.trans (hb.mono h.below.size),fun x hx=>⟨(h.own x hx).1,(h.own x hx).2.keep hb⟩⟩
theorem Bx.nil(h:Below w.heap.size w W):Bx w [] W:=⟨h,fun x hx=>by cases hx⟩
theorem Bx.cons{vs:Array Value}(h:Bx w L W)(hb:w.heap.size≤b)(hc:Cells W b vs):Bx w ((b,vs)::L) W:=
 ⟨h.below, fun x hx => by
  rcases List.mem_cons.1 hx with e | e
  ·subst e;exact⟨hb,hc⟩
  ·exact h.own x e⟩
theorem Bx.new(h:Bx w L W)(vs:Array Value)(T:TypeId):Bx w ((W.heap.size,vs)::L) (W.alloc (.cells vs T)):=
 (h.keep ((brf _ _).alloc (nlr _) _)).cons h.below.size (Cells.new W vs T rfl)
end
theorem mulOk{a b:Int}{p q:Qt}(hp:qB p=true)(hq:qB q=true)(ha:aE a b=0):allE a b [p,q]=0:=Zdo.2 ⟨ha,by simp[hp,hq]⟩
theorem qMul_ok(a b:Int)(p q:Qt)(w:World)(hp:qB p=true)(hq:qB q=true)(ha:aE a b=0) :
  Calls Tryz.prog 9 #[.agg #[.int .i64 a,.int .i64 b],qv p,qv q] w fun r w'=>r=.returned (.tuple #[qv (fitQ (mulQ a b p q)),.int .i64 (fitE (mulQ a b p q))])∧Below w.heap.size w w':=by
 obtain⟨p0,p1,p2,p3,p4⟩:=p
 obtain⟨q0,q1,q2,q3,q4⟩:=q
 have h:=qMul_any a b p0 p1 p2 p3 p4 q0 q1 q2 q3 q4 w
 rw[mulOk hp hq ha]at h
 exact h
end
end Go.Proofs.YthkklilhjnpedaaGreatDoor
