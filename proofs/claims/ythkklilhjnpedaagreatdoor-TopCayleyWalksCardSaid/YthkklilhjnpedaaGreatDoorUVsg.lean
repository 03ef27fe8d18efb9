/- Changes of sign along a chain of polynomials. -/
import Derived.Test.YthkklilhjnpedaaGreatDoorUVn
import Derived.Test.YthkklilhjnpedaaGreatDoorURpi
import Derived.Test.YthkklilhjnpedaaGreatDoorUQf0
set_option maxHeartbeats 16000000
set_option maxRecDepth 8000
namespace Go.Proofs.YthkklilhjnpedaaGreatDoor
section
open Go.RowKit Go.Shelf FF
attribute [local go_sem] Oper.semAt_some
theorem back_fn{A:Option Addr}{n c:Nat}{w:World}:Calls Tryz.prog 146 #[.slice A n c] w fun e w'=>∃ Bp,e=.returned (.func (.func 185) #[] #[.pointer (some ⟨Bp,0,none⟩)])∧w.heap.size≤Bp∧Bp<w'.heap.size∧w'.cell? ⟨Bp,0,none⟩=some (.slice A n c)∧Below w.heap.size w w':=by
 go_enter Tryz.func146,Tryz.ntmps146
 go_wp2_with fail
 go_ret
 exact⟨_,rfl,Nat.le_refl _,by simp,by simp[go_sem],(Below.refl _ _).alloc (Nat.le_refl _) _⟩
def IVal(W:World)(R:Nat)(z:Int):Prop:=∃ u v,R<W.heap.size∧W.cell? ⟨R,0,none⟩=some u∧W.cell? ⟨R,1,none⟩=some v∧IC W u v z
theorem IVal.keep{W W':World}{R:Nat}{z:Int}(h:IVal W R z)(hb:Below W.heap.size W W'):IVal W' R z:=by
 obtain⟨u,v,h0,h1,h2,h3⟩:=h
 exact⟨u,v,nLl h0 hb.size,(hb.cell (p:=⟨R,0,none⟩) h0).trans h1,(hb.cell (p:=⟨R,1,none⟩) h0).trans h2,h3.keep hb⟩
section
variable {W W':World}{row:Option Nat}{R:Nat}{u v:Value}{z:Int}
theorem ZcW{i:Nat}(h:W.cell? ⟨R,i,none⟩=some u)(hr:∀ r,row=some r→∃ o:Obj,W.heap[r]?=some o∧o.isCells=false):some R≠row:=fun e=>by
 obtain⟨o,ho,hc⟩:=hr R e.symm
 simp only[World.cell?,ho]at h
 cases o <;> simp_all [Obj.isCells]
theorem IC.grownO(h:IC W u v z)(hg:W.grownBy W' row)(hr:∀ r,row=some r→∃ o:Obj,W.heap[r]?=some o∧o.isCells=false):IC W' u v z:=by
 obtain⟨A,c,rfl,rfl,xs,k1,k2,k3⟩:=h
 refine⟨A,c,rfl,rfl,xs,k1,fun hp=>?_,k3⟩
 obtain⟨b,o,e,hb,hc⟩:=k2 hp
 have hne:=ZcW (hc 0 hp) hr
 refine⟨b,o,e,nLl hb hg.size,fun i hi=>?_⟩
 rw[← hc i hi]
 simp only[World.cell?,hg.block b hb hne]
theorem IVal.grownO(h:IVal W R z)(hg:W.grownBy W' row)(hr:∀ r,row=some r→∃ o:Obj,W.heap[r]?=some o∧o.isCells=false):IVal W' R z:=by
 obtain⟨u,v,h0,h1,h2,h3⟩:=h
 have hb:=hg.block R h0 (ZcW h1 hr)
 have hc:∀ i,W'.cell? ⟨R,i,none⟩=W.cell? ⟨R,i,none⟩:=fun i=>by simp only[World.cell?,hb]
 exact⟨u,v,nLl h0 hg.size,(hc 0).trans h1,(hc 1).trans h2,h3.grownO hg hr⟩
theorem IBox.grownO(h:IBox W R z)(hg:W.grownBy W' row)(hr:∀ r,row=some r→∃ o:Obj,W.heap[r]?=some o∧o.isCells=false):IBox W' R z:=by
 obtain⟨s,A,n,c,h0,h1,h2,h3,h4,h5⟩:=h
 have hb:=hg.block R h0 (ZcW h1 hr)
 have hc:∀ i,W'.cell? ⟨R,i,none⟩=W.cell? ⟨R,i,none⟩:=fun i=>by simp only[World.cell?,hb]
 exact⟨s,A,n,c,Nat.lt_of_lt_of_le h0 hg.size,(hc 0).trans h1,(hc 1).trans h2,fun i=>by simp only[World.frozen?,hb];exact h3 i,fun i k m e=>h4 i k m (by rw[← hc i];exact e),h5.grownO hg hr⟩
end
theorem IVal.only{W W':World}{B g:Nat}{z:Int}(h:IVal W B z)(ho:Only g W W')(hne:g≠B)(hn:NoIntAt W g):IVal W' B z:=by
 obtain⟨u,v,h0,h1,h2,h5⟩:=h
 have hb:=ho.block B (fun e=>hne e.symm)
 have hc:∀ i,W'.cell? ⟨B,i,none⟩=W.cell? ⟨B,i,none⟩:=fun i=>by simp only[World.cell?,hb]
 exact⟨u,v,by rw[ho.size];exact h0,(hc 0).trans h1,(hc 1).trans h2,h5.only ho hn⟩
theorem Za5{W W':World}(h:Below W.heap.size W W'):KeepsOthers W W':=⟨h.size,fun k _ hk _=>(h.block k (Array.getElem?_eq_some_iff.1 hk).1).trans hk⟩
theorem Ze9{W:World}{R:Nat}(u v:Value):Only R W ((W.setCell ⟨R,0,none⟩ u).setCell ⟨R,1,none⟩ v):=(Only.setCell W R 0 u).trans (Only.setCell _ R 1 v)
theorem IBox.put_box{W:World}{R B:Nat}{z y:Int}{s:Bool}{v:Value}(h:IBox W B z)(hR:IBox W R y)(hne:R≠B):IBox ((W.setCell ⟨R,0,none⟩ (.bool s)).setCell ⟨R,1,none⟩ v) B z:=by
 obtain⟨_,_,_,_,-,-,-,-,n,-⟩:=hR
 exact(h.only (Only.setCell W R 0 _) hne n).only (Only.setCell _ R 1 _) hne (n.set 0 (by intro k n e;cases e))
theorem IVal.put_box{W:World}{R B:Nat}{z y:Int}{s:Bool}{v:Value}(h:IVal W B z)(hR:IBox W R y)(hne:R≠B):IVal ((W.setCell ⟨R,0,none⟩ (.bool s)).setCell ⟨R,1,none⟩ v) B z:=by
 obtain⟨_,_,_,_,-,-,-,-,n,-⟩:=hR
 exact(h.only (Only.setCell W R 0 _) hne n).only (Only.setCell _ R 1 _) hne (n.set 0 (by intro k n e;cases e))
theorem Zfa(l:List Int)(c num den:Int):stZ (l++[c]) num den=((stZ l num den).1*num+c*(stZ l num den).2,(stZ l num den).2*den):=by
 unfold stZ
 rw[List.foldl_append];rfl
theorem stZ_wn{num den:Int}(hn:Wn 2 num)(hd:Wn 2 den):∀ (n:Nat) (l:List Int),l.length=n→(∀ x∈l,Wn 2 x)→Wn (4*n+2) (stZ l num den).1∧Wn (2*n+1) (stZ l num den).2
 | 0,l,hl,_=>by
  have:l=[]:=List.eq_nil_of_length_eq_zero hl
  subst this
  exact⟨UV 2,Wn.of (z:=1) (by decide)⟩
 | n+1,l,hl,hw=>by
  rcases List.eq_nil_or_concat l with rfl | ⟨r,c,rfl⟩
  ·cases hl
  ·rw[List.concat_eq_append]at hl hw ⊢
   rw[List.length_append,List.length_singleton]at hl
   obtain⟨h1,h2⟩:=stZ_wn hn hd n r (by omega) (fun x hx=>hw x (List.mem_append_left _ hx))
   rw[Zfa]
   have hc:=hw c (by simp)
   refine⟨?_,(h2.mul hd).mono (by omega)⟩
   exact(((h1.mul hn).mono (show 4*n+2+2≤4*n+5 by omega)).add ((hc.mul h2).mono (show 2+(2*n+1)≤4*n+5 by omega))).mono (by omega)
theorem i64_wn{n:Int}(h:I64 n):Wn 2 n:=by
 have:=h.1;have:=h.2
 show n.natAbs<WB ^ 2
 exact Nat.lt_of_le_of_lt (show n.natAbs≤9223372036854775808 by omega) (by decide)
theorem smS_wn{l:List Int}(h:smS l=true):l.length≤20∧∀ x∈l,Wn 2 x:=by
 unfold smS at h
 rw[Bool.and_eq_true]at h
 exact⟨of_decide_eq_true h.1,fun x hx=>of_decide_eq_true (p:=x.natAbs<4294967296 ^ 2) (List.all_eq_true.1 h.2 x hx)⟩
def stE{w0:World}(num den:Int)(pre:List (EV w0)):Int × Int:=stZ (pre.map fun x=>x.1.2.2.2) num den
theorem stE_wn{w0:World}{num den:Int}(hn:Wn 2 num)(hd:Wn 2 den)(pre:List (EV w0)):Wn (4*pre.length+2) (stE num den pre).1∧Wn (2*pre.length+1) (stE num den pre).2:=
 stZ_wn hn hd pre.length _ (by simp) (fun x hx=>by obtain⟨y,_,rfl⟩:=List.mem_map.1 hx;exact y.2.2)
theorem ZjG{w0:World}{b o:Nat}{p:List Int}{es:List (EV w0)}(h:Zcr w0 b o p es):(es.map fun x=>x.1.2.2.2)=p.reverse:=by
 apply List.ext_getElem?
 intro i
 rw[List.getElem?_map]
 cases hx:es[i]? with
 | none =>
  have:=List.getElem?_eq_none_iff.1 hx
  rw[h.1]at this
  rw[List.getElem?_eq_none (by simpa using this)];rfl
 | some x =>
  obtain⟨h1,h2,h3,-⟩:=h.2 i x hx
  rw[List.getElem?_reverse h1,h3];rfl
theorem sgn_sgZ(x:Int):sgn x=sgZ x:=by unfold sgn sgZ;split <;> (try split) <;> (try split) <;> omega
set_option maxRecDepth 100000 in
theorem Zfb{v:Value}{p:List Int}{num den:Int}{w:World}(hv:VP p v w)(h0:0<p.length)(hs:smS p=true)(hn:I64 num)(hd:I64 den) :
  Calls Tryz.prog 91 #[v,.agg #[.int .i64 num,.int .i64 den]] w (Zb (VC (.int .i64 (Y3 p num den))) w):=by
 have HN64:=lhd hn;have HD64:=lhd hd;have HV:=lhd hv
 obtain⟨b,o,-,-,-,-,eA,-,-,-,hb⟩:∃ b o s A' m c',(∃ n c,v=.slice (some ⟨b,o,none⟩) n c)∧True∧True∧True∧b<w.heap.size:=by
  obtain⟨A,c,rfl,-,-⟩:=hv.len
  obtain⟨b,o,s,A',m,c',e,-,-,-,hb⟩:=hv.at (gEe h0)
  exact⟨b,o,s,A',m,c',⟨_,_,by rw[e]⟩,trivial,trivial,trivial,hb⟩
 obtain⟨n0,c,rfl⟩:=eA
 obtain⟨A9,c9,e9,hc1,hc2⟩:=hv.len
 injection e9 with e1 e2 e3
 subst e2 e3
 obtain⟨hl20,hw2⟩:=smS_wn hs
 have HL20:=lhd hl20;have HW2:=lhd hw2;have HNw:=lhd (i64_wn hn);have HDw:=lhd (i64_wn hd);have H0:=lhd h0;have HBlt:=lhd hb
 clear hn hd hv e1 hl20 hw2 hs h0 hc1 hc2 hb
 refine(callsIn_wide (n:=3)).1 ?_
 refine callsIn_of_wp_marks Tryz.func91 rfl trivial ?_ rfl
 simp only[Tryz.ntmps91,List.size_toArray,List.length_cons,List.length_nil,Nat.reduceAdd,Nat.reduceSub,Array.replicate_succ,Array.replicate_zero,List.push_toArray,List.append_toArray,List.nil_append,List.cons_append]
 refine wpIn_wide.2 ?_
 go_upto_region 1 with fail
 obtain⟨W0,hW0⟩:∃ W0:World,W0=(w.alloc (.cells #[.int .i64 num,.int .i64 den] 97)):=⟨_,rfl⟩
 rw[← hW0]
 have HB0:=lhd (show Bx w [(w.heap.size,#[.int .i64 num,.int .i64 den])] W0 by rw[hW0];simpa using((Bx.nil (Below.refl w.heap.size w)).new #[.int .i64 num,.int .i64 den] 97))
 clear hW0
 refine Kz (w.heap.size) [(0,11,VC (.pointer (some ⟨w.heap.size,0,none⟩))),(1,12,VC (.int .i64 num)),(2,13,VI num),(3,14,VC (.pointer (some ⟨w.heap.size,1,none⟩))),(4,15,VC (.int .i64 den)),(5,16,VI den)] [⟨6,5,8,2,13,#[.bool false,.slice none 0 0]⟩,⟨7,6,9,5,16,#[.bool false,.slice none 0 0]⟩] [⟨w.heap.size,999,999,999,#[.int .i64 num,.int .i64 den],fun v vs=>v=.agg vs⟩] (fun _=>True) [11,12,13,14,15,16,5,6] ?_ (by kernel_rfl) (by kernel_rfl) (by kernel_rfl) (Firms.all (l:=[(0,11,VC (.pointer (some ⟨w.heap.size,0,none⟩))),(1,12,VC (.int .i64 num)),(2,13,VI num),(3,14,VC (.pointer (some ⟨w.heap.size,1,none⟩))),(4,15,VC (.int .i64 den)),(5,16,VI den)]) ⟨Firm.vc _,Firm.vc _,Firm.vi _,Firm.vc _,Firm.vc _,Firm.vi _,trivial⟩) (⟨fun _ _ _ _ _=>trivial,fun _ _ _ _ _ _ _=>trivial⟩) (trivial) ?_ ?_ ?_
 ·exact HB0.out.below.size
 ·intro c hc
  simp only[List.mem_cons,List.not_mem_nil,or_false]at hc
  rcases hc with rfl
  ·exact⟨(HB0.out.own _ lm0).2,fun h=>absurd rfl h⟩
 ·refine Zl ⟨?_,?_,?_,?_,?_,?_,?_,?_,?_,?_,trivial⟩
  ·exact FOk.val rfl rfl rfl rfl fun _ _ _ _ _ _=>.fieldAddr rfl (fou (v:=.pointer (some ⟨w.heap.size,0,none⟩))) (by kernel_rfl) rfl
  ·exact FOk.val rfl rfl rfl rfl fun _ _ _ _ hO hV=>.load1 rfl (fgt hV 0 rfl) (Za Tryz.underlying3 rfl ((hO _ lm0 rfl).2.1 0 (by simp))) rfl
  ·exact FOk.val rfl rfl rfl rfl fun _ W _ _ _ hV=>.call Tryz.func92 (by kernel_rfl) rfl rfl rfl (Xf (fgt hV 1 rfl)) (cOf num W HN64.out)
  ·exact FOk.val rfl rfl rfl rfl fun _ _ _ _ _ _=>.fieldAddr rfl (fou (v:=.pointer (some ⟨w.heap.size,0,none⟩))) (by kernel_rfl) rfl
  ·exact FOk.val rfl rfl rfl rfl fun _ _ _ _ hO hV=>.load1 rfl (fgt hV 3 rfl) (Za Tryz.underlying3 rfl ((hO _ lm0 rfl).2.1 1 (by simp))) rfl
  ·exact FOk.val rfl rfl rfl rfl fun _ W _ _ _ hV=>.call Tryz.func92 (by kernel_rfl) rfl rfl rfl (Xf (fgt hV 4 rfl)) (cOf den W HD64.out)
  ·refine .inl ⟨.inl rfl,.inr (.inl ⟨XP (by kernel_rfl),by simp,_,lm0,rfl,by simp,by simp,57,?_,fun y W K Q' hK=>?_⟩)⟩
   ·exact UN (by kernel_rfl)
   ·simp only[fr,Zf,fC0,fN0,sA0,sZ0,sS0]at hK ⊢
    go_simp
    exact hK
  ·refine .inl ⟨.inl rfl,.inr (.inl ⟨XP (by kernel_rfl),by simp,_,lm1,rfl,by simp,by simp,57,?_,fun y W K Q' hK=>?_⟩)⟩
   ·exact UN (by kernel_rfl)
   ·simp only[fr,Zf,fC0,fN0,sA0,sZ0,sS0]at hK ⊢
    go_simp
    exact hK
  ·refine .inl ⟨.inl rfl,.inr (.inr (.inl ⟨rfl,XP (by kernel_rfl),by simp,_,lm0,rfl,by simp,by simp,by kernel_rfl,by kernel_rfl,fun y W g hB hV hg hgw hc K Q' hK=>?_⟩))⟩
   obtain⟨u13_0,u13_1,y13,i13⟩:VI num (y 13) W:=hV (2,13,VI num) (Z2 (by kernel_rfl)) (by kernel_rfl)
   exact .stoC (us:=#[u13_0,u13_1]) (vs:=#[u13_0,u13_1]) rfl ((fri).trans hg) ((fri).trans y13) (ICs.fit (l:=[(_,_,_)]) ⟨i13,trivial⟩ rfl).all hc rfl (Nat.le_of_ble_eq_true rfl) rfl (by kernel_rfl) fun W' hC hO=>hK W' ⟨_,y13,hC⟩ hO
  ·refine .inl ⟨.inl rfl,.inr (.inr (.inl ⟨rfl,XP (by kernel_rfl),by simp,_,lm1,rfl,by simp,by simp,by kernel_rfl,by kernel_rfl,fun y W g hB hV hg hgw hc K Q' hK=>?_⟩))⟩
   obtain⟨u16_0,u16_1,y16,i16⟩:VI den (y 16) W:=hV (5,16,VI den) (Z2 (by kernel_rfl)) (by kernel_rfl)
   exact .stoC (us:=#[u16_0,u16_1]) (vs:=#[u16_0,u16_1]) rfl ((fri).trans hg) ((fri).trans y16) (ICs.fit (l:=[(_,_,_)]) ⟨i16,trivial⟩ rfl).all hc rfl (Nat.le_of_ble_eq_true rfl) rfl (by kernel_rfl) fun W' hC hO=>hK W' ⟨_,y16,hC⟩ hO
 intro y W1 hB hE hO hV hX hA
 have y11:y 11=.pointer (some ⟨w.heap.size,0,none⟩):=hV (0,11,VC (.pointer (some ⟨w.heap.size,0,none⟩))) (Z2 (by kernel_rfl))
 have y12:y 12=.int .i64 num:=hV (1,12,VC (.int .i64 num)) (Z2 (by kernel_rfl))
 obtain⟨u13_0,u13_1,y13,j13⟩:VI num (y 13) W1:=hV (2,13,VI num) (Z2 (by kernel_rfl))
 have J13:=lhd j13;clear j13
 have y14:y 14=.pointer (some ⟨w.heap.size,1,none⟩):=hV (3,14,VC (.pointer (some ⟨w.heap.size,1,none⟩))) (Z2 (by kernel_rfl))
 have y15:y 15=.int .i64 den:=hV (4,15,VC (.int .i64 den)) (Z2 (by kernel_rfl))
 obtain⟨u16_0,u16_1,y16,j16⟩:VI den (y 16) W1:=hV (5,16,VI den) (Z2 (by kernel_rfl))
 have J16:=lhd j16;clear j16
 obtain⟨W1g0,z0,W1g0l,W1g0v,W1g0e,W1g0c⟩:=hX _ lm0
 dsimp only at z0 W1g0e
 rw[y13]at W1g0e
 injection W1g0e with W1g0e
 subst W1g0e
 obtain⟨W1g1,z1,W1g1l,W1g1v,W1g1e,W1g1c⟩:=hX _ lm1
 dsimp only at z1 W1g1e
 rw[y16]at W1g1e
 injection W1g1e with W1g1e
 subst W1g1e
 have W1g0neW1g1:W1g0≠W1g1:=fun e=>hA _ lm0 _ lm1 (by simp) (by simp only[z0,z1,e])
 have ho0:=(hO _ lm0).1 rfl
 dsimp only at ho0
 have HB1:=lhd (show Bx w [(W1g1,#[u16_0,u16_1]),(W1g0,#[u13_0,u13_1]),(w.heap.size,#[.int .i64 num,.int .i64 den])] W1 from((((Bx.nil (HB0.out.below.trans hB)).cons (HB0.out.own _ lm0).1 ho0).cons (Nat.le_trans HB0.out.below.size W1g0l) W1g0c).cons (Nat.le_trans HB0.out.below.size W1g1l) W1g1c))
 have HE1:=lhd hE
 simp only[fr,Zf,fC0,fN0,sA0,sZ0,sS0]
 simp only[y11,y12,y13,y14,y15,y16,z0,z1]
 clear y11 y12 y13 y14 y15 y16 z0 z1 W1g0l W1g0c W1g1l W1g1c hB hE hO hV hX hA ho0
 have hiv:IVal W1 W1g0 num∧IVal W1 W1g1 den∧w.heap.size≤W1g0∧w.heap.size≤W1g1:=by
  have h1:=HB1.out.own (W1g1,#[u16_0,u16_1]) lm0
  have h2:=HB1.out.own (W1g0,#[u13_0,u13_1]) lm1
  exact⟨⟨_,_,h2.2.1,h2.2.2.1 0 (by simp),h2.2.2.1 1 (by simp),J13.out⟩,⟨_,_,h1.2.1,h1.2.2.1 0 (by simp),h1.2.2.1 1 (by simp),J16.out⟩,h2.1,h1.1⟩
 have hB1:=HB1.out.below
 have HIv:=lhd hiv;have HBl1:=lhd hB1
 clear hiv hB1 HB1 J13 J16 HB0
 go_wp2_with fail
 refine(cOf 1 W1 ⟨by omega,by omega⟩).mono ?_
 rintro e W2 ⟨_,rfl,⟨u1,v1,rfl,h1⟩,hb2⟩
 obtain⟨s1,A1,n1,c1,rfl,rfl⟩:=X8 h1
 have hBz:=(brf W2.heap.size W2).alloc (nlr _) (.cells #[.bool false,.slice none 0 0] 57)
 have hBo:=hBz.alloc (by simp) (.cells #[.bool s1,.slice A1 n1 c1] 57)
 have hS:=(IBox.new (Xt W2)).keep ((brf _ _).alloc (nlr _) (.cells #[.bool s1,.slice A1 n1 c1] 57))
 have hP:=IBox.new (h1.keep hBz)
 obtain⟨W3,hW3⟩:=nmx ((W2.alloc (.cells #[.bool false,.slice none 0 0] 57)).alloc (.cells #[.bool s1,.slice A1 n1 c1] 57))
 have hPs:(W2.alloc (.cells #[.bool false,.slice none 0 0] 57)).heap.size=W2.heap.size+1:=by simp
 rw[hPs]at hP
 rw[← hW3]at hS hP hBo
 have HB3:=lhd (HBl1.out.trans ((hb2.trans (hBo.mono hb2.size)).mono HBl1.out.size))
 have HB13:=lhd (hb2.trans (hBo.mono hb2.size))
 have HS3:=lhd hS;have HP3:=lhd hP
 have HSz:=lhd (show W1.heap.size≤W2.heap.size from hb2.size)
 clear h1 hBz hBo hS hP hPs hb2
 go_wp2_with fail
 rw[← hW3]
 clear hW3
 refine back_fn.mono ?_
 rintro e W4 ⟨Bp,rfl,hBp0,hBp1,hBp2,hb4⟩
 have HB4:=lhd (HB3.out.trans (hb4.mono HB3.out.size))
 have HS4:=lhd (HS3.out.keep hb4);have HP4:=lhd (HP3.out.keep hb4)
 have HN4:=lhd ((HIv.out.1.keep HB13.out).keep hb4);have HD4:=lhd ((HIv.out.2.1.keep HB13.out).keep hb4)
 have HV4:=lhd (HV.out.keep HB4.out)
 have HBp1:=lhd hBp1;have HBp2:=lhd hBp2
 obtain⟨S,hS⟩:=nmx (W2.heap.size)
 have hSB:=hS
 rw[← hS]at HS4 HP4
 rw[← hS]
 have HNe:=lhd (show w.heap.size≤S by have:=HBl1.out.size;have:=HSz.out;omega)
 have HNS:=lhd (show W1g0<S∧W1g1<S by
  obtain⟨⟨_,_,h1,-⟩,⟨_,_,h2,-⟩,-,-⟩:=HIv.out
  have:=HSz.out;omega)
 clear hb4 hBp0 hBp1 hBp2 hSB hS HS3 HP3
 have HLt4:=lhd (show S+1<W4.heap.size by obtain⟨_,_,_,_,h,-⟩:=HP4.out;exact h)
 have HNe1:=lhd (show W1g0≠S∧W1g0≠S+1∧W1g1≠S∧W1g1≠S+1 by have:=HNS.out;omega)
 obtain⟨es,hes⟩:=Zjv HV.out HW2.out
 have HEs:=lhd hes;have HEl:=lhd (show es.length≤20 by rw[hes.1];exact HL20.out)
 clear hes
 have HBpS:=lhd (show Bp≠S∧Bp≠S+1 by
  obtain⟨s8,A8,n8,c8,h1,h2,-⟩:=HS4.out
  obtain⟨s9,A9,n9,c9,h3,h4,-⟩:=HP4.out
  refine⟨fun e=>?_,fun e=>?_⟩
  ·subst e;have:=HBp2.out;rw[h2]at this;cases this
  ·subst e;have:=HBp2.out;rw[h4]at this;cases this)
 go_wp2_with fail
 refine(wpIn_wide (n:=3)).1 ?_
 refine wpIn_rangeFunc_ownH rfl (by omega) (gf:=185) (lb:=#[.pointer (some ⟨Bp,0,none⟩)]) rfl trivial (enters_of Tryz.func185 (by kernel_rfl) rfl)
  (ZhE (w0:=w) HEs.out (by have:=HL20.out;omega) HBlt.out 2 (by omega) Bp HB4.out HBp1.out HBp2.out) (fun h k=>kpB_t h k) (kpB_b HB4.out.size HBp1.out) (brf _ _) (fun _=>rfl)
  (fun pre W=>(IBox W S (stE num den pre).1∧IBox W (S+1) (stE num den pre).2∧IVal W W1g0 num∧IVal W W1g1 den∧Bp<W.heap.size)∧Below w.heap.size w W)
  (fun _ _ _=>False)
  (OwnFrom.and (fun s X Y row hs hg hr=>⟨hs.1.grownO hg (fun r e=>(hr r e).2),hs.2.1.grownO hg (fun r e=>(hr r e).2),hs.2.2.1.grownO hg (fun r e=>(hr r e).2),hs.2.2.2.1.grownO hg (fun r e=>(hr r e).2),nLl hs.2.2.2.2 hg.size⟩) (ownFrom_below (nlr _) HB4.out.size))
  (fun _ _ _ _ _ hs _ _=>hs)
  ⟨⟨HS4.out,HP4.out,HN4.out,HD4.out,HBp1.out⟩,HB4.out⟩
  (fun x a' W=>∃ Bx,S+1<Bx∧IVal W Bx x.1.2.2.2∧a'={ tmps:=#[.slice (some ⟨b,o,none⟩) p.length c,.agg #[.int .i64 num,.int .i64 den],undef,.pointer (some ⟨w.heap.size,0,none⟩),.int .i64 0,.pointer (some ⟨W1g0,0,none⟩),.pointer (some ⟨W1g1,0,none⟩),.pointer (some ⟨S,0,none⟩),.pointer (some ⟨S+1,0,none⟩),undef,.pointer (some ⟨Bx,0,none⟩),.pointer (some ⟨w.heap.size,0,none⟩),.int .i64 num,.agg #[u13_0,u13_1],.pointer (some ⟨w.heap.size,1,none⟩),.int .i64 den,.agg #[u16_0,u16_1],.agg #[.bool false,.slice none 0 0],.agg #[.bool s1,.slice A1 n1 c1],.slice (some ⟨b,o,none⟩) p.length c,.func (.func 185) #[] #[.pointer (some ⟨Bp,0,none⟩)],.int .i64 x.1.1,.agg #[x.1.2.1,x.1.2.2.1],undef,undef,undef,undef,undef,undef,undef,undef,undef,undef,undef,undef],defers:=[] })
  (fun x a' _ X Y row hs hg hr=>by obtain⟨Bx,h1,h2,h3⟩:=hs;exact⟨Bx,h1,h2.grownO hg (fun r e=>(hr r e).2),h3⟩)
  ?assign ?body ?done ?stop
 case assign =>
  rintro l pre ⟨⟨xi,xu,xv,xz⟩,hx1,hx2⟩ W K ⟨⟨g1,g2,g3,g4,g5⟩,hB⟩ hK
  dsimp only at hx1 hx2
  obtain⟨sx,ax,nx,cx,rfl,rfl⟩:=X8 hx1
  have hxW:=hx1.keep hB
  simp only[encV]
  gi_wp2
  have hA:=(brf W.heap.size W).alloc (nlr _) (.cells #[.bool sx,.slice ax nx cx] 57)
  have hSl:S+1<W.heap.size:=by obtain⟨_,_,_,_,h,-⟩:=g2;exact h
  refine hK _ _ ((KeepsOthers.alloc _ _).from _) ⟨hA.mono hB.size,hA.block Bp g5⟩ ⟨⟨g1.keep hA,g2.keep hA,g3.keep hA,g4.keep hA,Nat.lt_of_lt_of_le g5 hA.size⟩,hB.trans (hA.mono hB.size)⟩ ⟨W.heap.size,hSl,⟨_,_,by simp,by simp[go_sem],by simp[go_sem],hxW.keep hA⟩,rfl⟩
 case body =>
  rintro l pre ⟨⟨xi,xu,xv,xz⟩,hx1,hx2⟩ a' W hl ⟨r,hr⟩ ⟨⟨g1,g2,g3,g4,g5⟩,hB⟩ ⟨Bx,hBx,bX,rfl⟩ hlt
  dsimp only at hx1 hx2 bX
  obtain⟨wS,wP⟩:=stE_wn HNw.out HDw.out pre
  have hpl:pre.length≤20:=by have:=HEl.out;omega
  have hsn:stE num den (pre++[⟨(xi,xu,xv,xz),hx1,hx2⟩])=((stE num den pre).1*num+xz*(stE num den pre).2,(stE num den pre).2*den):=by
   unfold stE
   rw[List.map_append]
   exact Zfa _ _ _ _
  obtain⟨sm,hsm⟩:=nmx ((stE num den pre).1)
  obtain⟨pw,hpw⟩:=nmx ((stE num den pre).2)
  rw[← hsm]at g1 wS hsn
  rw[← hpw]at g2 wP hsn
  have HSn:=lhd hsn
  have HWS:=lhd (wS.mono (show 4*pre.length+2≤82 by omega));have HWP:=lhd (wP.mono (show 2*pre.length+1≤41 by omega));have HWX:=lhd hx2
  have HG1:=lhd g1;have HG2:=lhd g2;have HG3:=lhd g3;have HG4:=lhd g4;have HG5:=lhd g5;have HBW:=lhd hB
  obtain⟨sS,aS,nS,cS,s0,s1',s2,-,-,s5⟩:=g1
  have HSl:=lhd s0;have HS0:=lhd s1';have HS1:=lhd s2;have HSI:=lhd s5
  obtain⟨sP,aP,nP,cP,p0,p1,p2,-,-,p5⟩:=g2
  have HPl:=lhd p0;have HP0:=lhd p1;have HP1:=lhd p2;have HPI:=lhd p5
  obtain⟨uN,vN,n0',n1',n2',n5'⟩:=g3
  have HNl:=lhd n0';have HN0:=lhd n1';have HN1:=lhd n2';have HNI:=lhd n5'
  obtain⟨uX,vX,x0,x1,x2,x5⟩:=bX
  have HXl:=lhd x0;have HX0:=lhd x1;have HX1:=lhd x2;have HXI:=lhd x5
  clear s0 s1' s2 s5 p0 p1 p2 p5 n0' n1' n2' n5' x0 x1 x2 x5 wS wP g4 g5 hB hsn hr hlt hsm hpw hpl
  gi_wp2
  refine U5 7 [(0,23,VI sm),(1,24,VI num),(2,25,VI (sm*num)),(3,26,VI xz),(4,27,VI pw),(5,28,VI (xz*pw)),(6,29,VI (sm*num+xz*pw))] (fun _=>True) [23,24,25,26,27,28,29] (by kernel_rfl) (by kernel_rfl) (by kernel_rfl) (by kernel_rfl) (by kernel_rfl) ⟨Keeps.vi _,Keeps.vi _,Keeps.vi _,Keeps.vi _,Keeps.vi _,Keeps.vi _,Keeps.vi _,trivial⟩ (fun _ _ _ _ _=>trivial) trivial (by decide) (ZeT (by kernel_rfl)) (Zn _ ⟨?_,?_,?_,?_,?_,?_,?_,trivial⟩) ?_
  ·exact .of rfl rfl fun _ _ hB _ _ _=>.loadI' hB HSl.out HS0.out HS1.out HSI.out rfl (fou (v:=.pointer (some ⟨S,0,none⟩)))
  ·exact .of rfl rfl fun _ _ hB _ _ _=>.loadI' hB HNl.out HN0.out HN1.out HNI.out rfl (fou (v:=.pointer (some ⟨W1g0,0,none⟩)))
  ·exact .of rfl rfl fun _ _ _ _ hV _=>by obtain⟨u0,v0,e0,h0⟩:=hge hV 0 rfl;obtain⟨u1,v1,e1,h1⟩:=hge hV 1 rfl;exact .call Tryz.func86 (by kernel_rfl) rfl rfl rfl (Zg ((fri).trans e0) ((fri).trans e1)) (cMul h0 h1 HWS.out HNw.out (by omega))
  ·exact .of rfl rfl fun _ _ hB _ _ _=>.loadI' hB HXl.out HX0.out HX1.out HXI.out rfl (fou (v:=.pointer (some ⟨Bx,0,none⟩)))
  ·exact .of rfl rfl fun _ _ hB _ _ _=>.loadI' hB HPl.out HP0.out HP1.out HPI.out rfl (fou (v:=.pointer (some ⟨S+1,0,none⟩)))
  ·exact .of rfl rfl fun _ _ _ _ hV _=>by obtain⟨u3,v3,e3,h3⟩:=hge hV 3 rfl;obtain⟨u4,v4,e4,h4⟩:=hge hV 4 rfl;exact .call Tryz.func86 (by kernel_rfl) rfl rfl rfl (Zg ((fri).trans e3) ((fri).trans e4)) (cMul h3 h4 HWX.out HWP.out (by omega))
  ·exact .of rfl rfl fun _ _ _ _ hV _=>by obtain⟨u2,v2,e2,h2⟩:=hge hV 2 rfl;obtain⟨u5,v5,e5,h5⟩:=hge hV 5 rfl;exact .call Tryz.func88 (by kernel_rfl) rfl rfl rfl (Zg ((fri).trans e2) ((fri).trans e5)) (cAdd h2 h5 (HWS.out.mul HNw.out) (HWX.out.mul HWP.out) (by omega))
  intro y2 W7 hB7 hE7 hV7
  obtain⟨uQ,vQ,eQ,hQ⟩:=hend hV7 6 rfl
  obtain⟨sQ,aQ,nQ,cQ,rfl,rfl⟩:=X8 hQ
  have hS7:=HG1.out.keep hB7;have hP7:=HG2.out.keep hB7;have hN7:=HG3.out.keep hB7;have hD7:=HG4.out.keep hB7
  have hne1:S≠S+1:=by omega
  have hS8:=hS7.put hQ
  have hP8:=hP7.put_box (s:=sQ) (v:=.slice aQ nQ cQ) hS7 hne1
  have hN8:=hN7.put_box (s:=sQ) (v:=.slice aQ nQ cQ) hS7 HNe1.out.1.symm
  have hD8:=hD7.put_box (s:=sQ) (v:=.slice aQ nQ cQ) hS7 HNe1.out.2.2.1.symm
  have ho8:=Ze9 (W:=W7) (R:=S) (.bool sQ) (.slice aQ nQ cQ)
  obtain⟨W8,hW8⟩:=nmx ((W7.setCell ⟨S,0,none⟩ (.bool sQ)).setCell ⟨S,1,none⟩ (.slice aQ nQ cQ))
  rw[← hW8]at hS8 hP8 hN8 hD8 ho8
  have hk8:KeepsOthers W W8:=by rw[hW8];exact(Za5 hB7).trans ((KeepsOthers.setCell _ _ _).trans (KeepsOthers.setCell _ _ _))
  have HK8:=lhd hk8
  have HB8:=lhd (show Below w.heap.size W W8 from ho8.below (hB7.mono HBW.out.size) HNe.out)
  have HBp8:=lhd (show W8.heap[Bp]?=W.heap[Bp]? from(ho8.block Bp HBpS.out.1).trans (hB7.block Bp HG5.out))
  have HS8:=lhd hS8;have HP8:=lhd hP8;have HN8:=lhd hN8;have HD8:=lhd hD8
  obtain⟨sa,aa,na,ca,k0,k1,k2,k3,k4,-⟩:=hS7
  have f0:=k3 0;have f1:=k3 1
  obtain⟨sb,ab,nb,cb,q0,q1,q2,-,-,q5⟩:=hP7
  obtain⟨ud,vd,r0,r1,r2,r5⟩:=hD7
  have q8:=Za3 (v0:=.slice aQ nQ cQ) q5 k4 (u0:=.bool sQ) (by intro k n e;cases e)
  have r8:=Za3 (v0:=.slice aQ nQ cQ) r5 k4 (u0:=.bool sQ) (by intro k n e;cases e)
  rw[← hW8]at q8 r8
  have HQ8:=lhd q8;have HR8:=lhd r8
  have hne3:=HNe1.out.2.2.1
  have HW8:=lhd hW8
  clear hB7 hE7 hV7 hN7 k0 k3 k4 q0 r0 q5 r5 q8 r8 hW8 hS8 hP8 hN8 hD8 ho8 hk8 hQ hne1
  generalize hact:fr _ _ y2=act
  simp only[fr,Zf,fC0,fN0,sA0,sZ0,sS0,eQ]at hact
  subst hact
  clear eQ
  show wpListIn _ _ _ _ _ [_] _ _
  gi_wp2
  rw[← HW8.out]
  refine⟨trivial,(CallsIn.inRound l (callsIn_wide.2 (cMul HQ8.out HR8.out HWP.out HDw.out (by omega)))).mono ?_⟩
  rintro e W9 ⟨_,rfl,⟨u9,v9,rfl,h9⟩,hb9⟩
  obtain⟨s9,a9,n9,c9,rfl,rfl⟩:=X8 h9
  have hP9:=HP8.out.keep hb9
  have hne1:S+1≠S:=by omega
  have hP10:=hP9.put h9
  have hS10:=(HS8.out.keep hb9).put_box (s:=s9) (v:=.slice a9 n9 c9) hP9 hne1
  have hN10:=(HN8.out.keep hb9).put_box (s:=s9) (v:=.slice a9 n9 c9) hP9 HNe1.out.2.1.symm
  have hD10:=(HD8.out.keep hb9).put_box (s:=s9) (v:=.slice a9 n9 c9) hP9 HNe1.out.2.2.2.symm
  have ho10:=Ze9 (W:=W9) (R:=S+1) (.bool s9) (.slice a9 n9 c9)
  have hB10:=ho10.below (show Below w.heap.size W W9 from HB8.out.trans (hb9.mono (Nat.le_trans HBW.out.size HB8.out.size))) (Nat.le_trans HNe.out (Nat.le_succ _))
  have hBp8:Bp<W8.heap.size:=nLl HG5.out HB8.out.size
  have hBp10:=((ho10.block Bp HBpS.out.2).trans (hb9.block Bp hBp8)).trans HBp8.out
  have hK10:=HK8.out.trans ((Za5 hb9).trans ((KeepsOthers.setCell W9 ⟨S+1,0,none⟩ (.bool s9)).trans (KeepsOthers.setCell _ ⟨S+1,1,none⟩ (.slice a9 n9 c9))))
  have HR10:=lhd hS10;have HR11:=lhd hP10;have HR12:=lhd hN10;have HR13:=lhd hD10;have HR14:=lhd hB10;have HR15:=lhd hBp10;have HR16:=lhd hK10
  obtain⟨sc,ac,nc,cc,t0,t1,t2,t3,-,-⟩:=hP9
  have g0:=t3 0;have g1:=t3 1
  clear hS10 hP10 hN10 hD10 hB10 hBp10 hK10 ho10 h9 hb9 t0 t3 hne1 hBp8 k1 k2 f0 f1 q1 q2 r1 r2 hne3
  gi_wp2
  refine⟨HR16.out.from _,⟨HR14.out,HR15.out⟩,⟨?_,?_,HR12.out,HR13.out,nLl HG5.out (HR14.out).size⟩,HBW.out.trans HR14.out⟩
  ·rw[HSn.out];exact HR10.out
  ·rw[HSn.out];exact HR11.out
 case done =>
  rintro D ys W hD rfl ⟨⟨g1,g2,g3,g4,g5⟩,hB⟩ hK
  have hst:stE num den ys=stZ p.reverse num den:=by unfold stE;rw[ZjG HEs.out]
  have hwn:=(stE_wn HNw.out HDw.out ys).1.mono (show 4*ys.length+2≤82 by have:=HEl.out;omega)
  rw[hst]at g1 hwn
  obtain⟨sm,hsm⟩:=nmx ((stZ p.reverse num den).1)
  rw[← hsm]at g1 hwn
  have hfin:Y3 p num den=sgn sm:=by rw[sgn_sgZ,hsm];rfl
  have HFin:=lhd hfin;have HWn:=lhd hwn
  obtain⟨sS,aS,nS,cS,s0,s1',s2,-,-,s5⟩:=g1
  have HSI:=lhd s5;have HBW:=lhd hB;have HK:=lhd hK;have HDD:=lhd hD
  clear g2 g3 g4 g5 hst hwn hsm hfin s0 s5 hB hK hD
  go_wp2_with fail
  refine(UC HSI.out HWn.out (by omega)).mono ?_
  rintro e W9 ⟨_,rfl,rfl,hb9⟩
  rw[← HFin.out]
  have HK9:=lhd ((hb9.block D (Array.getElem?_eq_some_iff.1 HK.out).1).trans HK.out)
  have HB9:=lhd (HBW.out.trans (hb9.mono HBW.out.size))
  clear hb9 s1' s2
  go_wp2_with fail
  refine⟨by simp,.inl ⟨_,_,rfl,run_takeDeferred HK9.out,?_⟩⟩
  refine⟨_,results_tmp rfl _ _ _,?_⟩
  exact⟨_,rfl,rfl,HB9.out.trans (belowK_b (w:=w) (nlr _) W9 D _ _ (Nat.le_trans HB4.out.size HDD.out) HK9.out rfl rfl)⟩
 case stop =>
  rintro D c pre W _ _ h _
  exact h.elim
end
section
open Go.RowKit FF
def FVar(W:World)(R:Nat)(num den:Int):Prop:=R<W.heap.size∧W.cell? ⟨R,0,none⟩=some (.int .i64 num)∧W.cell? ⟨R,1,none⟩=some (.int .i64 den)
theorem FVar.keep{W W':World}{R:Nat}{num den:Int}(h:FVar W R num den)(hb:Below W.heap.size W W'):FVar W' R num den:=
 ⟨nLl h.1 hb.size,(hb.cell (p:=⟨R,0,none⟩) h.1).trans h.2.1,(hb.cell (p:=⟨R,1,none⟩) h.1).trans h.2.2⟩
theorem ZhI{v:Value}{p:List Int}{num den:Int}{X:Nat}{w:World}(hv:VP p v w)(hx:FVar w X num den)(h0:0<p.length)(hs:smS p=true)(hn:I64 num)(hd:I64 den) :
  Calls Tryz.prog 184 #[v,.pointer (some ⟨X,0,none⟩)] w (Zb (VC (.int .i64 (Y3 p num den))) w):=by
 have HS:=lhd (Zfb hv h0 hs hn hd)
 obtain⟨A,c,rfl,-,-⟩:=hv.len
 obtain⟨x0,x1,x2⟩:=hx
 clear hv h0 hs hn hd x0
 go_enter Tryz.func184,Tryz.ntmps184
 go_wp2_with fail
 refine HS.out.mono ?_
 rintro e w1 ⟨_,rfl,rfl,hb1⟩
 have HB1:=lhd hb1
 clear hb1
 go_wp2_with fail
 go_ret
 exact⟨_,rfl,rfl,HB1.out⟩
theorem ZjH(p:List Int)(num den:Int):-1≤Y3 p num den∧Y3 p num den≤1:=by
 unfold Y3 sgZ;split <;> (try split) <;> omega
def ChgRel(sg:List Int)(K:Int)(w:World)(s5 s6 s12:Value)(wr:World):Prop:=∃ (i:Nat) (n last:Int),s12=.int .i64 i∧s5=.int .i64 n∧s6=.int .i64 last∧i≤sg.length∧ZK (sg.drop i) last n=K∧0≤n∧n≤i∧-1≤last∧last≤1∧Below w.heap.size w wr
theorem ZfY{v q:Value}{l:List (List Int)}{f:List Int→Int}{w:World}(hv:Sl ePol l v w)(hl:l.length≤1000000)(hf:∀ p∈l,-1≤f p∧f p≤1)
  (hcl:∀ (W:World) (u:Value) (p:List Int),Below w.heap.size w W→p∈l→VP p u W→Calls Tryz.prog 184 #[u,q] W (Zb (VC (.int .i64 (f p))) W)) :
  Calls Tryz.prog 183 #[v,.func (.func 184) #[] #[q]] w (Zb (VC (.int .i64 (ZK (l.map f) 0 0))) w):=by
 obtain⟨A,c,rfl,h1,h2⟩:=hv.len
 obtain⟨n,hn⟩:=nmx (l.length)
 have HL':=lhd (show n≤1000000 by omega)
 have HV:=lhd hv;have HN:=lhd hn;have HL:=lhd hl;have HF:=lhd hf;have HC:=lhd hcl
 have HLe:=lhd (show ∀ i:Nat,i<n→∃ z,l[i]?=some z from fun i hi=>⟨_,gEe (by omega)⟩)
 obtain⟨K,hK⟩:=nmx (ZK (l.map f) 0 0)
 have HK:=lhd hK
 rw[← hK]
 rw[← hn]at h1 ⊢
 clear hv hn hl hf hcl hK
 go_enter Tryz.func183,Tryz.ntmps183
 go_wp2_with fail
 go_loopw [5,6,8,9,12] (fun s5 s6 _ _ s12 wr=>ChgRel (l.map f) K w s5 s6 s12 wr) (fun _ _ _ _ s12 _=>(n-(intOf s12).toNat))
 case atStart=>exact⟨0,0,0,rfl,rfl,rfl,Nat.zero_le _,HK.out.symm,by omega,by omega,by omega,by omega,brf _ _⟩
 case round =>
  obtain⟨i,cn,last,rfl,rfl,rfl,hil,hch,hc0,hc1,hl0,hl1,hB⟩:=hrel
  have HCh:=lhd hch;have HB:=lhd hB;have HCn:=lhd (And.intro hc0 hc1);have HLa:=lhd (And.intro hl0 hl1)
  rw[List.length_map,← HN.out]at hil
  clear hch hB hc0 hc1 hl0 hl1
  by_cases hlt:i<n
  ·have hti:=deT (p:=((i:Nat):Int)<((n:Nat):Int)) (by omega)
   obtain⟨p,hp⟩:=HLe.out i hlt
   obtain⟨b,o,cs,rfl,hb,⟨u,rfl,hu⟩,hcell⟩:=(HV.out.keep HB.out).at hp
   have q0:=hcell 0 u rfl
   rw[show o+i*ePol.n+0=o+i from by show o+i*1+0=o+i;omega]at q0
   obtain⟨s,hs⟩:=nmx (f p)
   have HCl:=lhd (HC.out wr u p HB.out (mGe hp) hu.vp)
   rw[← hs]at HCl
   have hstep:ZK ((l.map f).drop i) last cn=ZK (s::(l.map f).drop (i+1)) last cn:=by
    rw[List.drop_eq_getElem_cons (by rw[List.length_map];have:=HN.out;omega)]
    congr 2
    rw[List.getElem_map,hs]
    have:=HN.out
    rw[gEe (by omega)]at hp
    rw[oSi hp]
   have HSt:=lhd (hstep.symm.trans HCh.out)
   have HSb:=lhd (show -1≤s∧s≤1 by rw[hs];exact HF.out p (mGe hp))
   obtain⟨A7,c7,rfl,-,-⟩:=hu.vp.len
   clear hcell hu hs hstep HCh hb hp
   have hwn:=lhd (show wrap64 (-last) = -last by have:=HLa.out;unfold wrap64;omega)
   have hwc:=lhd (show wrap64 (cn+1)=cn+1 by have:=HCn.out;have:=HL.out;have:=HN.out;unfold wrap64;omega)
   go_upto_region 6 with(refine HCl.out.mono ?_;rintro e w1 ⟨_,rfl,rfl,hb1⟩;have HB1:=lhd (HB.out.trans (hb1.mono HB.out.size));clear hb1)
   have HCn2:=HCn.out;have HLa2:=HLa.out
   by_cases h0:s=0
   ·have HSt2:=lhd (show ZK ((l.map f).drop (i+1)) last cn=K by have:=HSt.out;unfold ZK at this;rwa [if_pos h0]at this)
    clear HCn2 HLa2 HSt
    subst h0
    go_wp2_with fail
    refine⟨⟨i+1,cn,last,by rw[Zc hlt HL'.out],rfl,rfl,by rw[List.length_map,← HN.out];exact hlt,HSt2.out,HCn.out.1,by have:=HCn.out.2;omega,HLa.out.1,HLa.out.2,HB1.out⟩,?_⟩
    rw[Zc hlt HL'.out];simp only[intOf];omega
   ·have d1:(s != 0)=true:=by simpa using h0
    have d1':(s == 0)=false:=by simpa using h0
    by_cases h1:s = -last
    ·have d2:(s == wrap64 (-last))=true:=by rw[hwn.out];simpa using h1
     have HSt2:=lhd (show ZK ((l.map f).drop (i+1)) s (cn+1)=K by have:=HSt.out;unfold ZK at this;rwa [if_neg h0,if_pos h1]at this)
     clear HCn2 HLa2 HSt h0 h1
     go_wp2_with fail
     refine⟨⟨i+1,cn+1,s,by rw[Zc hlt HL'.out],by rw[hwc.out],rfl,by rw[List.length_map,← HN.out];exact hlt,HSt2.out,by have:=HCn.out.1;omega,by have:=HCn.out.2;omega,HSb.out.1,HSb.out.2,HB1.out⟩,?_⟩
     rw[Zc hlt HL'.out];simp only[intOf];omega
    ·have d2:(s == wrap64 (-last))=false:=by rw[hwn.out];simpa using h1
     have HSt2:=lhd (show ZK ((l.map f).drop (i+1)) s cn=K by have:=HSt.out;unfold ZK at this;rwa [if_neg h0,if_neg h1]at this)
     clear HCn2 HLa2 HSt h0 h1
     go_wp2_with fail
     refine⟨⟨i+1,cn,s,by rw[Zc hlt HL'.out],rfl,rfl,by rw[List.length_map,← HN.out];exact hlt,HSt2.out,HCn.out.1,by have:=HCn.out.2;omega,HSb.out.1,HSb.out.2,HB1.out⟩,?_⟩
     rw[Zc hlt HL'.out];simp only[intOf];omega
  ·have hti:=deF (p:=((i:Nat):Int)<((n:Nat):Int)) (by omega)
   have hfin:cn=K:=by
    have:=HCh.out
    rw[List.drop_of_length_le (by rw[List.length_map];have:=HN.out;omega)]at this
    unfold ZK at this;exact this
   have HFi:=lhd hfin
   clear hfin
   go_wp2_with fail
   go_ret
   exact⟨_,rfl,by rw[HFi.out];rfl,HB.out⟩
theorem ZdR{v:Value}{l:List (List Int)}{num den:Int}{w:World}(hv:Sl ePol l v w)(hl:l.length≤1000000)(hs:l.all (fun p=>smS p && decide (0<p.length))=true)(hn:I64 num)(hd:I64 den) :
  Calls Tryz.prog 145 #[v,.agg #[.int .i64 num,.int .i64 den]] w (Zb (VC (.int .i64 (Xk l num den))) w):=by
 have hs':∀ p∈l,smS p=true∧0<p.length:=fun p hp=>by
  have:=List.all_eq_true.1 hs p hp
  simpa using this
 have hB:=(brf w.heap.size w).alloc (nlr _) (.cells #[.int .i64 num,.int .i64 den] 97)
 have hX:FVar (w.alloc (.cells #[.int .i64 num,.int .i64 den] 97)) w.heap.size num den:=⟨by simp,by simp[go_sem],by simp[go_sem]⟩
 have HCh:=lhd (ZfY (q:=.pointer (some ⟨w.heap.size,0,none⟩)) (f:=fun p=>Y3 p num den) (hv.keep hB) hl (fun p _=>ZjH p num den) (fun W u p hb hp hu=>ZhI hu (hX.keep hb) (hs' p hp).2 (hs' p hp).1 hn hd))
 have HB:=lhd hB
 obtain⟨A,c,rfl,-,-⟩:=hv.len
 clear hv hl hs hs' hn hd hB hX
 go_enter Tryz.func145,Tryz.ntmps145
 go_wp2_with fail
 refine HCh.out.mono ?_
 rintro e w1 ⟨_,rfl,rfl,hb1⟩
 have HB1:=lhd (HB.out.trans (hb1.mono HB.out.size))
 clear hb1
 go_wp2_with fail
 go_ret
 exact⟨_,rfl,rfl,HB1.out⟩
end
end Go.Proofs.YthkklilhjnpedaaGreatDoor
