/- Polynomials: the remainder, times a positive number. -/
import Derived.Test.YthkklilhjnpedaaGreatDoorUVs
import Derived.Test.YthkklilhjnpedaaGreatDoorURpt
import Derived.Lib.LazyBuf
import Derived.Deep.DeepCutAuto
set_option maxHeartbeats 16000000
set_option maxRecDepth 8000
namespace Go.Proofs.YthkklilhjnpedaaGreatDoor
section
open Go.RowKit FF
theorem Zbj{w:World}{R:Nat}(hR:R<w.heap.size)(o o':Obj):∀ i:Nat,((w.alloc o).alloc o').cell? ⟨R,i,none⟩=w.cell? ⟨R,i,none⟩:=fun i=>(Zdx hR o o' i).1
theorem ZjI{u v gu gv:Value}{x g:Int}{j k R:Nat}{w:World}(hx:IC w u v x)(hg:IC w gu gv g)(c0:w.cell? ⟨R,0,none⟩=some gu)(c1:w.cell? ⟨R,1,none⟩=some gv)(hR:R<w.heap.size)(h1:Wn j x)(h2:Wn k g)(hk:j+k≤400) :
  Calls Tryz.prog 179 #[.agg #[u,v],.pointer (some ⟨R,0,none⟩)] w (Zb (VI (x / g)) w):=by
 have hS:=lhd (fun (W:World) (h:IC W u v x) (h':IC W gu gv g)=>wQuo_any h h' h1 h2 hk)
 have hX:=lhd hx;have hG:=lhd hg
 clear hx hg h1 h2
 have a0:=(Zbj hR (.cells #[u,v] 57) (.cells #[.bool false,.slice none 0 0] 57) 0).trans c0
 have a1:=(Zbj hR (.cells #[u,v] 57) (.cells #[.bool false,.slice none 0 0] 57) 1).trans c1
 clear c0 c1
 have B0:=((Below.refl w.heap.size w).alloc (Nat.le_refl _) (.cells #[u,v] 57)).alloc (by simp) (.cells #[.bool false,.slice none 0 0] 57)
 have HB0:=lhd B0
 clear B0
 go_enter Tryz.func179,Tryz.ntmps179
 go_wp2_with fail
 refine(hS.out _ (hX.out.keep HB0.out) (hG.out.keep HB0.out)).mono ?_
 rintro e w' ⟨_,rfl,⟨p,q,rfl,h⟩,hb⟩
 have hn:=(NoIntAt.new (w.alloc (.cells #[u,v] 57)) 57 (KE false none 0 0) (g:=w.heap.size+1) (by simp)).keep (by simp) hb
 obtain⟨-,d1,f1,hlt,B⟩:=YH (by simpa using hb)
 have c10:=d1 0;have c11:=d1 1;have f0:=f1 0;have f2:=f1 1
 simp only[List.getElem?_toArray,List.getElem?_cons_zero,List.getElem?_cons_succ]at c10 c11
 obtain⟨A,c,rfl,rfl,g'⟩:=h
 generalize x / g=z at *
 have H:=lhd (show IC w' (.bool (sgB z)) (.slice A (lnW z) c) z from⟨A,c,rfl,rfl,g'⟩);have HN:=lhd hn
 clear d1 f1 hn g' a0 a1 hb
 generalize sgB z=s at *
 generalize lnW z=n at *
 go_wp2_with fail
 refine bodyPost_ret (v:=.agg #[.bool s,.slice A n c]) (by simp[results,Tryz.results179,go_sem,c10,c11]) rfl ?_
 exact ZaY _ _ H.out HN.out (fun _ _ e=>by cases e) B (by omega)
theorem ZjJ{u v gu gv:Value}{x g:Int}{j k R:Nat}{w:World}(hx:IC w u v x)(hg:IC w gu gv g)(c0:w.cell? ⟨R,0,none⟩=some gu)(c1:w.cell? ⟨R,1,none⟩=some gv)(hR:R<w.heap.size)(h1:Wn j x)(h2:Wn k g)(hk:j+k≤400) :
  Calls Tryz.prog 176 #[.agg #[u,v],.pointer (some ⟨R,0,none⟩)] w (Zb (VI (x*g)) w):=by
 have hS:=lhd (fun (W:World) (h:IC W u v x) (h':IC W gu gv g)=>cMul h h' h1 h2 hk)
 have hX:=lhd hx;have hG:=lhd hg
 clear hx hg h1 h2
 have a0:=(Zbj hR (.cells #[u,v] 57) (.cells #[.bool false,.slice none 0 0] 57) 0).trans c0
 have a1:=(Zbj hR (.cells #[u,v] 57) (.cells #[.bool false,.slice none 0 0] 57) 1).trans c1
 clear c0 c1
 have B0:=((Below.refl w.heap.size w).alloc (Nat.le_refl _) (.cells #[u,v] 57)).alloc (by simp) (.cells #[.bool false,.slice none 0 0] 57)
 have HB0:=lhd B0
 clear B0
 go_enter Tryz.func176,Tryz.ntmps176
 go_wp2_with fail
 refine(hS.out _ (hX.out.keep HB0.out) (hG.out.keep HB0.out)).mono ?_
 rintro e w' ⟨_,rfl,⟨p,q,rfl,h⟩,hb⟩
 have hn:=(NoIntAt.new (w.alloc (.cells #[u,v] 57)) 57 (KE false none 0 0) (g:=w.heap.size+1) (by simp)).keep (by simp) hb
 obtain⟨-,d1,f1,hlt,B⟩:=YH (by simpa using hb)
 have c10:=d1 0;have c11:=d1 1;have f0:=f1 0;have f2:=f1 1
 simp only[List.getElem?_toArray,List.getElem?_cons_zero,List.getElem?_cons_succ]at c10 c11
 obtain⟨A,c,rfl,rfl,g'⟩:=h
 generalize x*g=z at *
 have H:=lhd (show IC w' (.bool (sgB z)) (.slice A (lnW z) c) z from⟨A,c,rfl,rfl,g'⟩);have HN:=lhd hn
 clear d1 f1 hn g' a0 a1 hb
 generalize sgB z=s at *
 generalize lnW z=n at *
 go_wp2_with fail
 refine bodyPost_ret (v:=.agg #[.bool s,.slice A n c]) (by simp[results,Tryz.results176,go_sem,c10,c11]) rfl ?_
 exact ZaY _ _ H.out HN.out (fun _ _ e=>by cases e) B (by omega)
theorem ZjK{v:Value}{l:List Int}{w:World}(hv:VP l v w)(h0:0<l.length)(hl:l.length≤1000000):Calls Tryz.prog 200 #[v] w (Zb (OwnV eInt w l) w):=by
 obtain⟨i0,hi,hz0,hz1,hz2⟩:=info_parts Xw
 have HI:=lhd hi;have HZ0:=lhd hz0;have HZ1:=lhd hz1;have HZ2:=lhd hz2
 clear hi hz0 hz1 hz2
 obtain⟨A,c,rfl,h1,h2⟩:=hv.len
 obtain⟨ys,y1,y2,y3⟩:=hv.sl.list
 obtain⟨b,o,s0,A0,m0,c0,rfl,-,-,-,hb⟩:=hv.at (gEe h0)
 have hown:=Own.empty (w:=w) eInt (brf w.heap.size w)
 have hB1:=hown.below
 have HO:=lhd (show Own eInt w (.slice (some ⟨w.heap.size,0,none⟩) 0 0) [] (w.alloc (.cells #[] 57)) from hown)
 have hyl:ys.length=l.length:=by rw[← y1,List.length_map]
 have HYl:=lhd hyl
 have HY1:=lhd y1;have HY2:=lhd (fun y hy=>eInt.keep (y2 y hy) hB1)
 have HY3:=lhd (show ∀ d u,(Zk ys)[d]?=some u→(w.alloc (.cells #[] 57)).cell? ((⟨b,o,none⟩:Addr).add d)=some u from fun d u hd=>by
  rw[Addr.add_lit];exact(hB1.cell (p:=⟨b,o+d,none⟩) hb).trans (y3 b o rfl d u hd))
 have HL:=lhd hl;have HV:=lhd hv;have H0:=lhd h0
 have hnil:∀ W,(binOp .eql 126 (.slice (some ⟨b,o,none⟩) l.length c) (.slice none 0 0)).run Tryz.prog W=.ok (.bool false) W:=fun W=>run_eql_slice_nil W _ _ (some ⟨b,o,none⟩) _ c Tryz.underlying126
 clear hl hv y1 y2 y3 hyl hown hB1
 go_enter Tryz.func200,Tryz.ntmps200
 go_wp2_with (at_builtin;refine Yq rfl (.tmp 5) (.tmp 6) 126 rfl i0 Tryz.underlying126 HI.out HZ0.out HZ1.out HZ2.out HO.out (ys:=ys) HY2.out (by rw[HYl.out];exact H0.out) ⟨b,o,none⟩ l.length c HYl.out.symm rfl rfl HY3.out (by rw[HYl.out];simpa using HL.out) ?_;intro v' w2 hg2;have HG2:=lhd hg2;clear hg2)
 go_ret
 exact⟨_,rfl,⟨ys,HG2.out,HY1.out⟩,HG2.out.below⟩
theorem Zdz(l:List Int)(i:Nat)(z:Int)(h:l[i]?=some z):gcdP (l.take (i+1))=(Int.gcd (gcdP (l.take i)) z:Int):=by
 unfold gcdP
 rw[List.take_add_one,h]
 simp
theorem gcd_wn{k:Nat}{x y:Int}(hx:Wn k x)(hy:Wn k y):Wn k (Int.gcd x y:Int):=by
 unfold Wn at *
 rw[Int.natAbs_natCast]
 by_cases h:y.natAbs=0
 ·have:y=0:=by omega
  subst this
  simpa using hx
 ·exact Nat.lt_of_le_of_lt (Nat.le_of_dvd (by omega) (Nat.gcd_dvd_right x.natAbs y.natAbs)) hy
theorem ZgA{k:Nat}{l:List Int}(h:∀ x∈l,Wn k x)(i:Nat):Wn k (gcdP (l.take i)):=by
 induction i with
 | zero=>exact UV k
 | succ i ih =>
  cases hz:l[i]? with
  | none =>
   rw[tOl (by have:=List.getElem?_eq_none_iff.1 hz;omega)]
   rw[tOl (by have:=List.getElem?_eq_none_iff.1 hz;omega)]at ih
   exact ih
  | some z=>rw[Zdz l i z hz];exact gcd_wn ih (h z (mGe hz))
theorem Zfc{k:Nat}{x y:Int}(hx:Wn k x):Wn k (x / y):=by
 unfold Wn at *
 refine Nat.lt_of_le_of_lt (Nat.le_of_lt_succ ?_) hx
 have:=Int.natAbs_ediv_le_natAbs x y
 omega
theorem XA{v:Value}{l:List Int}{k:Nat}{w:World}(hv:VP l v w)(hk:∀ x∈l,Wn k x)(hk4:k≤200)(hl:l.length≤1000000):Calls Tryz.prog 134 #[v] w (Zb (VP (ZG l)) w):=by
 obtain⟨A,c,rfl,h1,h2⟩:=hv.len
 obtain⟨n,hn⟩:=nmx (l.length)
 have HL:=lhd (show n≤1000000 by omega)
 have HV:=lhd hv;have HK:=lhd hk;have HN:=lhd hn
 have HLe:=lhd (show ∀ i:Nat,i<n→∃ z,l[i]?=some z from fun i hi=>⟨_,gEe (by omega)⟩)
 rw[← hn]at h1 ⊢
 clear hv hk hn hl
 have hG:=lhd (fun (W:World) (u v u' v':Value) (x y:Int) (h:IC W u v x) (h':IC W u' v' y) (hx:Wn k x) (hy:Wn k y)=>cGcd h h' hx hy (by omega))
 have HB0:=lhd ((brf w.heap.size w).alloc (nlr _) (.cells #[.bool false,.slice none 0 0] 57))
 have HX0:=lhd (IBox.new (Xt w))
 go_enter Tryz.func134,Tryz.ntmps134
 go_wp2_with fail
 obtain⟨R,hR⟩:=nmx (w.heap.size)
 rw[← hR]at HX0
 have HR:=lhd hR
 rw[← hR]
 clear hR
 go_loopw [5,9] (fun _ s9 wr=>∃ (i:Nat),s9=.int .i64 i∧i≤n∧IBox wr R (gcdP (l.take i))∧Below w.heap.size w wr) (fun _ s9 _=>(n-(intOf s9).toNat))
 case atStart=>exact⟨0,rfl,Nat.zero_le _,HX0.out,HB0.out⟩
 case round =>
  obtain⟨i,rfl,hil,hX,hB⟩:=hrel
  have HX:=lhd hX;have HB:=lhd hB
  by_cases hlt:i<n
  ·have hti:=deT (p:=((i:Nat):Int)<((n:Nat):Int)) (by omega)
   obtain⟨z,hz⟩:=HLe.out i hlt
   have HZ:=lhd hz
   obtain⟨b,o,s,A',m,c',rfl,q0,q1,g,hb⟩:=(HV.out.keep HB.out).at hz
   have GI:=lhd g
   obtain⟨s1,A1,n1,c1,x0,x1,x2,x3,x4,x5⟩:=hX
   have X5:=lhd x5
   have BA:=(brf wr.heap.size wr).alloc (nlr _) (.cells #[.bool s,.slice A' m c'] 57)
   have y1:=(BA.cell (p:=⟨R,0,none⟩) x0).trans x1
   have y2:=(BA.cell (p:=⟨R,1,none⟩) x0).trans x2
   clear g hz hB x1 x2 x3 x4 x5
   go_wp2_with fail
   refine(hG.out _ _ _ _ _ _ _ (X5.out.keep BA) (GI.out.keep BA) (ZgA HK.out i) (HK.out z (mGe HZ.out))).mono ?_
   rintro e w1 ⟨_,rfl,⟨p,q',rfl,h⟩,hb1⟩
   have hb2:=BA.trans (hb1.mono (by simp))
   have hXn:=HX.out.keep hb2
   obtain⟨a1,c2,rfl,rfl,h'⟩:=h
   have HXp:=lhd (hXn.put (show IC w1 _ _ _ from⟨a1,c2,rfl,rfl,h'⟩))
   have HBp:=lhd (YP (HB.out.trans (hb2.mono HB.out.size)) (R:=R) (by rw[HR.out];exact nlr _) (.bool (sgB (Int.gcd (gcdP (l.take i)) z:Int))) (.slice a1 (lnW (Int.gcd (gcdP (l.take i)) z:Int)) c2))
   obtain⟨s3,A3,n3,c3,z0,z1,z2,z3,-,-⟩:=hXn
   have f0:=z3 0;have f1:=z3 1
   have hgs:=Zdz l i z HZ.out
   obtain⟨gz,hgz⟩:=nmx (gcdP (l.take (i+1)))
   rw[← hgs,← hgz]at HXp HBp
   rw[← hgs,← hgz]
   have HGZ:=lhd hgz
   clear z3 hb1 hb2 BA h' y1 y2 q0 q1 GI X5 x0 hb hgs hgz
   generalize sgB gz=s1 at *
   generalize lnW gz=m1 at *
   go_wp2_with fail
   refine⟨⟨i+1,by rw[Zc hlt HL.out],hlt,?_,HBp.out⟩,?_⟩
   ·rw[← HGZ.out];exact HXp.out
   ·rw[Zc hlt HL.out];simp only[intOf];omega
  ·have hti:=deF (p:=((i:Nat):Int)<((n:Nat):Int)) (by omega)
   have hin:l.take i=l:=tOl (by have:=HN.out;omega)
   obtain⟨s1,A1,n1,c1,x0,x1,x2,-,-,x5⟩:=hX
   rw[hin]at x5
   have hp:=ZjB (q:=.pointer (some ⟨R,0,none⟩)) (f:=fun x=>x / gcdP l) (k:=k) (w:=wr) (HV.out.keep HB.out) (by have:=HL.out;have:=HN.out;omega) (fun x hx=>Zfc (HK.out x hx)) (by omega)
    (fun W u u' x hb hx hi=>ZjI hi (x5.keep hb) ((hb.cell (p:=⟨R,0,none⟩) x0).trans x1) ((hb.cell (p:=⟨R,1,none⟩) x0).trans x2) (nLl x0 hb.size) (HK.out x hx) (by have:=ZgA HK.out i;rwa [hin]at this) (by omega))
   rw[← HN.out]at hp
   have HP:=lhd hp
   clear hB hp x0 x1 x2 x5 hin
   go_wp2_with fail
   refine HP.out.mono ?_
   rintro e w1 ⟨r,rfl,hP,hb1⟩
   have HPp:=lhd hP;have HBp:=lhd (HB.out.trans (hb1.mono HB.out.size))
   clear hP hb1
   go_wp2_with fail
   go_ret
   exact⟨_,rfl,HPp.out,HBp.out⟩
theorem K8{p:List Int}{b z:Int}{q:List Int}{k:Nat}{out:List Int}(h:Yp p b (z::q) k=some out):∃ x,p[k]?=some x∧smI b=true∧smI z=true∧smI x=true∧Yp (p.set k (x-b*z)) b q (k+1)=some out:=by
 unfold Yp at h
 split at h
 ·rename_i hk
  split at h
  ·rename_i hs
   simp only[Bool.and_eq_true]at hs
   exact⟨p[k],gEe hk,hs.1.1,hs.1.2,hs.2,h⟩
  ·cases h
 ·cases h
theorem U9{z:Int}(h:smI z=true):Wn 60 z:=by
 show z.natAbs<WB ^ 60
 exact of_decide_eq_true (p:=z.natAbs<4294967296 ^ 60) h
theorem sub_wn{x b z:Int}(h1:Wn 60 x)(h2:Wn 60 b)(h3:Wn 60 z):Wn 121 (x-b*z):=by
 have:=((h1.mono (show 60≤120 by decide)).add (x:=x) (y:=-(b*z)) (by have:=h2.mul h3;unfold Wn at *;rwa [Int.natAbs_neg]))
 rwa [← Int.sub_eq_add_neg]at this
theorem Zfd{v v':Value}{bu bv:Value}{l q r:List Int}{b:Int}{f:Nat}{w:World}(hv:VP l v w)(hq:VP q v' w)(hb:IC w bu bv b)(h0:0<l.length)(hr:Y1 l b q f=some r)(hk:∀ x∈l,Wn 121 x)(hf:f≤1000000)(hl:l.length≤1000000)(hql:q.length≤1000000) :
  Calls Tryz.prog 177 #[v,.agg #[bu,bv],v',.int .i64 (f:Int)] w (Zb (OwnV eInt w r) w):=by
 obtain⟨i0,hi,hz0,hz1,hz2⟩:=info_parts Xw
 have HI:=lhd hi;have HI2:=lhd hz1
 obtain⟨out,ho,hro⟩:∃ out,Yp l b q f=some out∧Zj out=r:=by
  unfold Y1 at hr
  cases e:Yp l b q f with
  | none=>rw[e]at hr;cases hr
  | some out=>rw[e]at hr;exact⟨out,rfl,by simpa using hr⟩
 obtain⟨A,c,rfl,h1,h2⟩:=hv.len
 obtain⟨A',c',rfl,h1',h2'⟩:=hq.len
 obtain⟨n,hn⟩:=nmx (l.length)
 obtain⟨m,hm⟩:=nmx (q.length)
 have HL:=lhd (show n≤1000000 by omega);have HM:=lhd (show m≤1000000 by omega);have HF:=lhd hf
 have HV:=lhd hv;have HQ:=lhd hq;have HN:=lhd hn;have HMe:=lhd hm;have H0:=lhd h0;have HK:=lhd hk
 have HO:=lhd ho;have HRo:=lhd hro
 have HLe:=lhd (show ∀ i:Nat,i<m→∃ z,q[i]?=some z from fun i hi=>⟨_,gEe (by omega)⟩)
 obtain⟨s0,a0,m0,c0,eb1,eb2,hb'⟩:∃ s a m c,bu=.bool s∧bv=.slice a m c∧IC w bu bv b:=by
  obtain⟨a,c,e1,e2,h⟩:=hb
  exact⟨_,a,_,c,e1,e2,⟨a,c,e1,e2,h⟩⟩
 subst eb1 eb2
 have HX0:=lhd (IBox.new hb')
 have HBA:=lhd ((brf w.heap.size w).alloc (nlr _) (.cells #[.bool s0,.slice a0 m0 c0] 57))
 have HCl:=lhd (ZjK (hv.keep HBA.out) h0 hl)
 rw[← hn]at h1 HCl ⊢
 rw[← hm]at h1' ⊢
 clear hv hq hb hr hk hf hl hql ho hro hi hz0 hz1 hz2 hn hm h0 hb'
 obtain⟨B,hB⟩:=nmx (w.heap.size)
 have HBe:=lhd hB
 rw[← hB]at HX0
 clear hB
 go_enter Tryz.func177,Tryz.ntmps177
 go_wp2_with fail
 refine HCl.out.mono ?_
 rintro e w1 ⟨_,rfl,⟨rs,hO,hrl⟩,hb1⟩
 have hnl:rs.length=n:=by have:=congrArg List.length hrl;rw[List.length_map]at this;exact this.trans HN.out.symm
 obtain⟨R,cap,rfl,k1,k2,k3,k4⟩:=hO.form (by rw[hnl,HN.out];exact H0.out)
 rw[hnl]at k1
 have hO':Own eInt (w.alloc (.cells #[.bool s0,.slice a0 m0 c0] 57)) (.slice (some ⟨R,0,none⟩) n cap) rs w1:=by rw[← hnl];exact hO
 have HOw:=lhd (hO'.mono HBA.out)
 have HXb:=lhd (HX0.out.keep hb1)
 have HRB:=lhd (show R≠B by have:=HBe.out;simp at k3;omega)
 have HRl:=lhd hrl;have HRn:=lhd hnl
 rw[hnl]
 rw[show w.heap.size=B from HBe.out.symm]
 clear hO hO' hb1 hrl hnl k3 k4 HX0 HCl
 go_wp2_with fail
 go_loopw [10,11,16] (fun _ _ s16 wr=>∃ (i:Nat) (rs:List (Int × List Value)),s16=.int .i64 i∧i≤m∧rs.length=n∧Yp (rs.map (·.1)) b (q.drop i) (f+i)=some out∧Own eInt w (.slice (some ⟨R,0,none⟩) n cap) rs wr∧IBox wr B b∧∀ x∈rs,Wn 121 x.1) (fun _ _ s16 _=>(m-(intOf s16).toNat))
 case atStart=>exact⟨0,rs,rfl,Nat.zero_le _,HRn.out,by rw[HRl.out];exact HO.out,HOw.out,HXb.out,fun x hx=>HK.out _ (by rw[← HRl.out];exact List.mem_map_of_mem hx)⟩
 case round =>
  obtain⟨i,rs2,rfl,him,hn2,hs2,hO2,hX2,hw2⟩:=hrel
  have HN2:=lhd hn2;have HS2:=lhd hs2;have HO2:=lhd hO2;have HX2:=lhd hX2;have HW2:=lhd hw2
  clear hn2 hs2 hO2 hw2 HRl HRn HOw HXb
  by_cases hlt:i<m
  ·have hti:=deT (p:=((i:Nat):Int)<((m:Nat):Int)) (by omega)
   obtain⟨z,hz⟩:=HLe.out i hlt
   have HZ:=lhd hz
   have hst:=HS2.out
   rw[show q.drop i=z::q.drop (i+1) by rw[List.drop_eq_getElem_cons (by have:=HMe.out;omega)];congr 1;have:=HZ.out;rw[gEe (by have:=HMe.out;omega)]at this;exact oSi this]at hst
   obtain⟨x0,hx0,sb,sz,sx,hst⟩:=K8 hst
   have hfl:f+i<rs2.length:=by have:=(List.getElem?_eq_some_iff.1 hx0).1;simpa using this
   have HWb:=lhd (U9 sb);have HWz:=lhd (U9 sz);have HWx:=lhd (U9 sx);have HSt:=lhd hst;have HLt0:=lhd hfl
   have HLt:=lhd (show f+i<n by rw[← HN2.out];exact hfl)
   have HS:=lhd (show f+i≤4000000000 by have:=HF.out;have:=HM.out;omega)
   obtain⟨g,o,s,A1,m1,c1,rfl,q0,q1,gz,hg⟩:=(HQ.out.keep HO2.out.below).at hz
   have GZ:=lhd gz
   have HX0:=lhd hx0
   clear hz hst sb sz sx hfl gz hx0
   go_upto_region 5 with fail
   obtain⟨W5,hW5⟩:=nmx (wr)
   subst hW5
   obtain⟨W6,hW6⟩:=nmx (W5.alloc (.cells #[.bool s,.slice A1 m1 c1] 57))
   have BA:=(brf W5.heap.size W5).alloc (nlr _) (.cells #[.bool s,.slice A1 m1 c1] 57)
   have HNB:=lhd (IBox.new GZ.out)
   rw[← hW6]at BA HNB
   rw[← hW6]
   have HO6:=lhd (HO2.out.keep BA);have HX6:=lhd (HX2.out.keep BA)
   clear BA q0 q1 hg hX2
   clear hW6
   obtain⟨cu,cv,cz,e0,e1,e2,e3,e4,e5⟩:=Zd HO6.out (i:=f+i) HLt0.out
   have ecz:cz=x0:=by
    have h1:=HX0.out
    rw[List.getElem?_map,e5]at h1
    exact oSi h1
   obtain rfl:x0=cz:=ecz.symm
   have HRl:=lhd (show R<W6.heap.size from(HO6.out.1.lt R rfl).2)
   have HC0:=lhd (show W6.cell? ⟨R,0+(f+i)*2,none⟩=some cu by rw[Nat.zero_add];exact e0)
   have HC1:=lhd (show W6.cell? ⟨R,0+(f+i)*2+1,none⟩=some cv by rw[Nat.zero_add];exact e1)
   have HCI:=lhd e4
   obtain⟨sB,aB,mB,cB,b0,b1,b2,b3,b4,b5⟩:=HX6.out
   have HBl:=lhd b0;have HB0:=lhd b1;have HB1:=lhd b2;have HBI:=lhd b5
   obtain⟨sZ,aZ,mZ,cZ,z0,z1,z2,z3,z4,z5⟩:=HNB.out
   have HZl:=lhd z0;have HZ0:=lhd z1;have HZ1:=lhd z2;have HZI:=lhd z5
   clear e0 e1 e2 e3 e4 e5 b0 b1 b2 b3 b4 b5 z0 z1 z2 z3 z4 z5
   refine wrt 15 [(0,21,VC (.slice (some ⟨R,0,none⟩) n cap)),(1,22,VC (.int .i64 (f:Int))),(2,23,VC (.int .i64 (i:Int))),(3,24,VC (.int .i64 ((f+i:Nat):Int))),(4,25,VC (.slice (some ⟨R,0,none⟩) n cap)),(5,26,VC (.int .i64 (f:Int))),(6,27,VC (.int .i64 (i:Int))),(7,28,VC (.int .i64 ((f+i:Nat):Int))),(8,29,VC (.pointer (some ⟨R,0+(f+i)*2,none⟩))),(9,30,VI x0),(10,31,VI b),(11,32,VI z),(12,33,VI (b*z)),(13,34,VI (x0-b*z)),(14,35,VC (.pointer (some ⟨R,0+(f+i)*2,none⟩)))] (fun _=>True) [21,22,23,24,25,26,27,28,29,30,31,32,33,34,35] ⟨kv,kv,kv,kv,kv,kv,kv,kv,kv,Keeps.vi _,Keeps.vi _,Keeps.vi _,Keeps.vi _,Keeps.vi _,kv,trivial⟩ (fun _ _ _ _ _=>trivial) trivial (by decide) (Zn _ ⟨?_,?_,?_,?_,?_,?_,?_,?_,?_,?_,?_,?_,?_,?_,?_,trivial⟩) ?_
   ·exact mvX rfl rfl rfl
   ·exact mvX rfl rfl rfl
   ·exact mvX rfl rfl rfl
   ·exact .of rfl rfl fun _ _ _ _ hV _=>.addN rfl (fgt hV 1 rfl) (fgt hV 2 rfl) HS.out
   ·exact mvX rfl rfl rfl
   ·exact mvX rfl rfl rfl
   ·exact mvX rfl rfl rfl
   ·exact .of rfl rfl fun _ _ _ _ hV _=>.addN rfl (fgt hV 5 rfl) (fgt hV 6 rfl) HS.out
   ·exact .of rfl rfl fun _ _ _ _ hV _=>.rowAt Tryz.underlying126 HI.out HI2.out rfl (fgt hV 4 rfl) (fgt hV 7 rfl) HLt.out
   ·exact .of rfl rfl fun _ _ hB _ hV _=>.loadI' hB HRl.out HC0.out HC1.out HCI.out rfl (fgt hV 8 rfl)
   ·exact .of rfl rfl fun _ _ hB _ _ _=>.loadI' hB HBl.out HB0.out HB1.out HBI.out rfl (fou (v:=.pointer (some ⟨B,0,none⟩)))
   ·exact .of rfl rfl fun _ _ hB _ _ _=>.loadI' hB HZl.out HZ0.out HZ1.out HZI.out rfl (fou (v:=.pointer (some ⟨W5.heap.size,0,none⟩)))
   ·exact .of rfl rfl fun _ _ _ _ hV _=>by obtain⟨u10,v10,e10,h10⟩:=hge hV 10 rfl;obtain⟨u11,v11,e11,h11⟩:=hge hV 11 rfl;exact .call Tryz.func86 (by kernel_rfl) rfl rfl rfl (Zg ((fri).trans e10) ((fri).trans e11)) (cMul h10 h11 HWb.out HWz.out (by omega))
   ·exact .of rfl rfl fun _ _ _ _ hV _=>by obtain⟨u9,v9,e9,h9⟩:=hge hV 9 rfl;obtain⟨u12,v12,e12,h12⟩:=hge hV 12 rfl;exact .call Tryz.func87 (by kernel_rfl) rfl rfl rfl (Zg ((fri).trans e9) ((fri).trans e12)) (cSub h9 h12 HWx.out (HWb.out.mul HWz.out) (by omega))
   ·exact .of rfl rfl fun _ _ _ _ hV _=>.rowAt Tryz.underlying126 HI.out HI2.out rfl (fgt hV 0 rfl) (fgt hV 3 rfl) HLt.out
   intro y W hB hE hV
   obtain⟨uS,vS,eS,hS⟩:=hend hV 13 rfl
   have eP:y 35=.pointer (some ⟨R,(f+i)*2,none⟩):=by
    have:=hend hV 14 rfl
    rw[Nat.zero_add]at this
    exact this
   have HO7:=lhd (HO6.out.keep hB);have HX7:=lhd (HX6.out.keep hB)
   obtain⟨ou,ov,oz,p0,p1,p2,p3,-,-⟩:=Zd HO7.out (i:=f+i) HLt0.out
   have HOS:=lhd (Zt HO7.out (i:=f+i) HLt0.out hS)
   obtain⟨aS,cS,rfl,rfl,-⟩:=hS
   have HXS:=lhd (HX7.out.row (j:=(f+i)*2) (s:=sgB (x0-b*z)) (v:=.slice aS (lnW (x0-b*z)) cS) HRB.out (HO7.out.2.2.2 R rfl))
   clear hB hE hV
   generalize hact:fr _ _ y=act
   simp only[fr,Zf,fC0,fN0,sA0,sZ0,sS0,eS,eP]at hact
   subst hact
   clear eS eP hst ecz
   show wpList _ _ _ [_] _ _
   generalize sgB (x0-b*z)=s9 at *
   generalize lnW (x0-b*z)=m9 at *
   go_wp2_with fail
   refine⟨⟨i+1,_,by rw[Zc hlt HM.out],hlt,by rw[List.length_set];exact HN2.out,?_,HOS.out,HXS.out,fun x hx=>?_⟩,?_⟩
   ·rw[List.map_set];exact HSt.out
   ·rcases List.mem_or_eq_of_mem_set hx with h | h
    ·exact HW2.out x h
    ·rw[h];exact sub_wn HWx.out HWb.out HWz.out
   ·rw[Zc hlt HM.out];simp only[intOf];omega
  ·have hti:=deF (p:=((i:Nat):Int)<((m:Nat):Int)) (by omega)
   have hout:rs2.map (·.1)=out:=by
    have h1:=HS2.out
    rw[List.drop_of_length_le (by have:=HMe.out;omega)]at h1
    unfold Yp at h1
    exact oSi h1
   have hno:=Zcu (v:=.slice (some ⟨R,0,none⟩) n cap) (l:=out) (k:=121) (w:=wr) (by rw[← hout];exact HO2.out.sl.vp) (fun x hx=>by rw[← hout]at hx;obtain⟨y,hy,rfl⟩:=List.mem_map.1 hx;exact HW2.out y hy) (by omega) (by rw[← hout,List.length_map,HN2.out];exact HL.out)
   rw[HRo.out]at hno
   have HNo:=lhd hno
   clear hout hno hX2
   go_wp2_with fail
   refine HNo.out.mono ?_
   rintro e w2 ⟨r2,rfl,hP,hb1⟩
   have HPp:=lhd (hP.mono HO2.out.below);have HBp:=lhd (HO2.out.below.trans (hb1.mono HO2.out.below.size))
   clear hP hb1
   go_wp2_with fail
   go_ret
   exact⟨_,rfl,HPp.out,HBp.out⟩
theorem Zfe{v v':Value}{bu bv:Value}{l q r:List Int}{b:Int}{f:Nat}{w:World}(hv:VP l v w)(hq:VP q v' w)(hb:IC w bu bv b)(h0:0<l.length)(hr:Y1 l b q f=some r)(hk:∀ x∈l,Wn 121 x)(hf:f≤1000000)(hl:l.length≤1000000)(hql:q.length≤1000000) :
  Calls Tryz.prog 177 #[v,.agg #[bu,bv],v',.int .i64 (f:Int)] w (Zb (VP r) w):=Ze6 (Zfd hv hq hb h0 hr hk hf hl hql)
theorem ZfZ{g:Nat}{p q r:List Int}(h:Y2 g p q=some r):(p.length<q.length∧r=p)∨(q.length≤p.length∧smL p=true∧smL q=true∧∃ g' r1,g=g'+1∧Y1 (Zj (p.map (·*Xd (Zo q)))) (if Zo q<0 then -Zo p else Zo p) q (p.length-q.length)=some r1∧Y2 g' (ZG r1) q=some r):=by
 cases g with
 | zero=>simp[Y2]at h
 | succ g =>
  unfold Y2 at h
  split at h
  ·rename_i hl;exact .inl ⟨hl,(oSi h).symm⟩
  ·rename_i hl
   split at h
   ·rename_i hs
    simp only[Bool.and_eq_true]at hs
    split at h
    ·rename_i r1 hr;exact .inr ⟨by omega,hs.1,hs.2,g,r1,rfl,hr,h⟩
    ·cases h
   ·cases h
theorem XZ{l:List Int}(h:smL l=true):∀ x∈l,Wn 60 x:=fun x hx=>by
 unfold smL at h
 rw[Bool.and_eq_true]at h
 exact U9 (List.all_eq_true.1 h.2 x hx)
theorem XB{l:List Int}(h:smL l=true):l.length≤1000:=by
 unfold smL at h
 rw[Bool.and_eq_true]at h
 exact of_decide_eq_true h.1
theorem Ug{l:List Int}{k:Nat}(h:∀ x∈l,Wn k x):Wn k (Zo l):=by
 rcases Nat.eq_zero_or_pos l.length with h0 | h0
 ·rw[List.eq_nil_of_length_eq_zero h0];exact UV k
 ·exact h _ (mGe (Zdy h0))
theorem K9{l:List Int}:∀ x∈Zj l,x∈l:=fun x hx=>by
 unfold Zj at hx
 have:=List.dropWhile_sublist (p:=(· == (0:Int))) (l:=l.reverse)
 exact List.mem_reverse.1 (this.subset (List.mem_reverse.1 hx))
theorem UF(l:List Int):(Zj l).length≤l.length:=by
 unfold Zj
 rw[List.length_reverse]
 have:=(List.dropWhile_sublist (p:=(· == (0:Int))) (l:=l.reverse)).length_le
 rwa [List.length_reverse]at this
theorem Zff:∀ (q:List Int) (p:List Int) (b:Int) (k:Nat) (out:List Int),Yp p b q k=some out→(∀ x∈p,Wn 121 x)→(∀ x∈out,Wn 121 x)∧out.length=p.length
 | [],p,b,k,out,h,hp=>by unfold Yp at h;have:=oSi h;subst this;exact⟨hp,rfl⟩
 | z::q,p,b,k,out,h,hp=>by
  obtain⟨x,hx,s1,s2,s3,h'⟩:=K8 h
  obtain⟨h1,h2⟩:=Zff q _ b (k+1) out h' (fun y hy=>by
   rcases List.mem_or_eq_of_mem_set hy with h | h
   ·exact hp y h
   ·rw[h];exact sub_wn (U9 s3) (U9 s1) (U9 s2))
  exact⟨h1,by rw[h2,List.length_set]⟩
theorem Yk{p q r:List Int}{b:Int}{k:Nat}(h:Y1 p b q k=some r)(hp:∀ x∈p,Wn 121 x):(∀ x∈r,Wn 121 x)∧r.length≤p.length:=by
 unfold Y1 at h
 cases e:Yp p b q k with
 | none=>rw[e]at h;cases h
 | some out =>
  rw[e]at h
  have h':Zj out=r:=by simpa using h
  obtain⟨h1,h2⟩:=Zff q p b k out e hp
  subst h'
  exact⟨fun x hx=>h1 x (K9 x hx),by rw[← h2];exact UF _⟩
theorem Ka(l:List Int):(ZG l).length≤l.length:=by
 unfold ZG
 have:=UF (l.map fun x=>x / gcdP l)
 rwa [List.length_map]at this
theorem Zaa{k:Nat}{z:Int}(h:Wn k z):Wn k (Xd z):=by unfold Wn Xd at *;rwa [Int.natAbs_natCast]
theorem neg_wn{k:Nat}{z:Int}(h:Wn k z):Wn k (-z):=by unfold Wn at *;rwa [Int.natAbs_neg]
theorem X8{W:World}{u v:Value}{z:Int}(h:IC W u v z):∃ s A n c,u=.bool s∧v=.slice A n c:=by
 obtain⟨A,c,e1,e2,-⟩:=h
 exact⟨_,A,_,c,e1,e2⟩
theorem ZbU{n m:Nat}(h:m≤n)(hn:n≤1000000):wrap64 ((n:Int)-(m:Int))=((n-m:Nat):Int):=by unfold wrap64;omega
theorem Za6{p q r:List Int}{b:Int}{k:Nat}(h:Y1 p b q k=some r)(hq:0<q.length):0<p.length:=by
 unfold Y1 at h
 cases q with
 | nil=>simp at hq
 | cons z q =>
  cases e:Yp p b (z::q) k with
  | none=>rw[e]at h;cases h
  | some out =>
   obtain⟨x,hx,-⟩:=K8 e
   have:=(List.getElem?_eq_some_iff.1 hx).1
   omega
theorem Zao{v:Value}{l:List Int}{z:Int}{S:Nat}{w:World}(hv:VP l v w)(hX:IBox w S z)(hk:∀ x∈l,Wn 60 x)(hz:Wn 60 z)(hl:l.length≤1000000) :
  Calls Tryz.prog 175 #[v,.func (.func 176) #[] #[.pointer (some ⟨S,0,none⟩)]] w (Zb (VP (Zj (l.map (·*z)))) w):=by
 obtain⟨s,A,n,c,x0,x1,x2,-,-,x5⟩:=hX
 exact ZjC (f:=(·*z)) (k:=120) hv hl (fun x hx=>(hk x hx).mul hz) (by omega) (fun W u u' x hb hx hi=>ZjJ hi (x5.keep hb) ((hb.cell (p:=⟨S,0,none⟩) x0).trans x1) ((hb.cell (p:=⟨S,1,none⟩) x0).trans x2) (nLl x0 hb.size) (hk x hx) hz (by omega))
def RestRel(q r:List Int)(w:World)(S:Nat)(gk:Nat)(s0:Value)(wr:World):Prop:=∃ p2,VP p2 s0 wr∧Y2 gk p2 q=some r∧p2.length≤1000000∧IBox wr S (Xd (Zo q))∧Below w.heap.size w wr
theorem Zfg{v v':Value}{p q r:List Int}{g:Nat}{w:World}(hp:VP p v w)(hq:VP q v' w)(hr:Y2 g p q=some r)(h0:0<q.length)(hs:smL q=true)(hl:p.length≤1000000)(hl':q.length≤1000000) :
  Calls Tryz.prog 133 #[v,v'] w (Zb (VP r) w):=by
 have HQ:=lhd hq;have HP:=lhd hp;have HR:=lhd hr;have H0:=lhd h0;have HL:=lhd hl;have HL':=lhd hl';have HS:=lhd hs
 have hqw:=XZ hs
 have HLq:=lhd (Ug hqw)
 have HQw:=lhd hqw
 obtain⟨A',c',rfl,hc1',hc2'⟩:=hq.len
 obtain⟨m,hm⟩:=nmx (q.length)
 have HM:=lhd hm
 rw[← hm]at HQ hc1' ⊢
 have HC0:=lhd (fun (W:World) (hB:Below w.heap.size w W)=>Uf (HQ.out.keep hB) H0.out)
 clear hp hq hr h0 hl hl' hs hqw hm
 go_enter Tryz.func133,Tryz.ntmps133
 go_wp2_with fail
 refine(HC0.out w (brf _ _)).mono ?_
 rintro e w1 ⟨_,rfl,⟨u,v2,rfl,h⟩,hb1⟩
 have HI1:=lhd h;have HB1:=lhd hb1
 clear h hb1
 go_wp2_with fail
 refine(Zdw HI1.out HLq.out (by omega)).mono ?_
 rintro e w2 ⟨_,rfl,⟨u2,v3,rfl,h⟩,hb2⟩
 obtain⟨s2,A2,n2,c2,rfl,rfl⟩:=X8 h
 have HI2:=lhd (IBox.new h)
 have HB2:=lhd (HB1.out.trans (hb2.mono HB1.out.size))
 have HB3:=lhd (HB2.out.trans (((brf w2.heap.size w2).alloc (nlr _) (.cells #[.bool s2,.slice A2 n2 c2] 57)).mono HB2.out.size))
 clear h hb2 HI1 HB1
 go_wp2_with fail
 obtain⟨S,hS⟩:=nmx (w2.heap.size)
 rw[← hS]at HI2
 rw[← hS]
 clear hS
 go_loopg [0] g (fun gk s0 wr=>RestRel q r w S gk s0 wr)
 case atStart=>exact⟨p,HP.out.keep HB3.out,HR.out,HL.out,HI2.out,HB3.out⟩
 case round =>
  obtain⟨p2,hV,hF,hL2,hX,hB⟩:=hrel
  obtain⟨A0,c0,rfl,hc1,hc2⟩:=hV.len
  obtain⟨n,hn⟩:=nmx (p2.length)
  have HVp:=lhd hV;have HX:=lhd hX;have HBr:=lhd hB;have HL2:=lhd hL2;have HN:=lhd hn
  rw[← hn]at HVp hc1 ⊢
  clear hV hL2 hX hB hn
  rcases ZfZ hF with⟨hlt,hrp⟩ | ⟨hge,hs1,hs2,g',r1,hg,hle,hF'⟩
  ·have hlt':n<m:=by rw[HN.out,HM.out];exact hlt
   have d1:=deF (p:=m≤n) (by omega)
   have d2:=deF (p:=(m:Int)≤(n:Int)) (by omega)
   have HRp:=lhd hrp
   clear hlt hrp hF hlt'
   go_wp2_with fail
   go_ret
   exact⟨_,rfl,by rw[HRp.out];exact HVp.out,HBr.out⟩
  ·have hge':m≤n:=by rw[HN.out,HM.out];exact hge
   have d1:=deT hge'
   have d2:=deT (p:=(m:Int)≤(n:Int)) (by omega)
   have hpw:=XZ hs1
   have HPw:=lhd hpw;have HG:=lhd hg;have HF':=lhd hF';have HGe:=lhd hge'
   have HLp:=lhd (Ug hpw)
   have h0p:0<p2.length:=nLl H0.out hge
   have H0p:=lhd h0p
   have HLess0:=lhd hle
   have HLead:=lhd (Uf HVp.out h0p)
   clear hge hs1 hs2 hg hF' hF hpw h0p hle hge'
   go_wp2_with fail
   refine HLead.out.mono ?_
   rintro e w3 ⟨_,rfl,⟨u4,v4,rfl,h⟩,hb3⟩
   obtain⟨s4,A4,n4,c4,rfl,rfl⟩:=X8 h
   have HBx:=lhd (IBox.new h)
   have hB4:=hb3.trans (((brf w3.heap.size w3).alloc (nlr _) (.cells #[.bool s4,.slice A4 n4 c4] 57)).mono hb3.size)
   have HB4:=lhd hB4;have HMge:=lhd hb3.size
   clear h hb3 hB4 HLead
   obtain⟨W4,hW4⟩:=nmx (w3.alloc (.cells #[.bool s4,.slice A4 n4 c4] 57))
   obtain⟨M,hM⟩:=nmx (w3.heap.size)
   rw[← hW4,← hM]at HBx
   rw[← hW4]at HB4
   rw[← hM]at HMge
   have HLq4:=lhd (Uf (HQ.out.keep (HBr.out.trans (HB4.out.mono HBr.out.size))) H0.out)
   have HW4:=lhd hW4;have HMe:=lhd hM
   clear hW4 hM
   have HL3:=lhd (show n≤1000000 by rw[HN.out];exact HL2.out)
   have HSw:=lhd (show ∀ x∈Zj (p2.map (·*Xd (Zo q))),Wn 121 x from fun x hx=>by
    obtain⟨y,hy,rfl⟩:=List.mem_map.1 (K9 x hx)
    exact((HPw.out y hy).mul (Zaa HLq.out)).mono (by omega))
   have HSl:=lhd (show(Zj (p2.map (·*Xd (Zo q)))).length≤1000000 by have h1:=UF (p2.map (·*Xd (Zo q)));rw[List.length_map]at h1;exact Nat.le_trans h1 HL2.out)
   by_cases hneg:Zo q<0
   ·have hsg:=deT (p:=sgn (Zo q)<0) (by unfold sgn;split <;> (try split) <;> omega)
    have HNeg:=lhd hneg
    have HSg:=lhd (fun (W:World) (u v:Value) (h:IC W u v (Zo q))=>UC h HLq.out (by omega))
    clear hneg
    generalize sgn (Zo q)=sg at *
    go_wp2_with fail
    rw[← HW4.out,← HMe.out]
    refine HLq4.out.mono ?_
    rintro e w5 ⟨_,rfl,⟨u5,v5,rfl,h5⟩,hb5⟩
    have HI5:=lhd h5;have HB5:=lhd (HB4.out.trans (hb5.mono HB4.out.size));have HX5:=lhd (HBx.out.keep hb5)
    clear h5 hb5
    go_wp2_with fail
    refine(HSg.out _ _ _ HI5.out).mono ?_
    rintro e w6 ⟨_,rfl,rfl,hb6⟩
    have HB6:=lhd (HB5.out.trans (hb6.mono HB5.out.size));have HX6:=lhd (HX5.out.keep hb6)
    clear hb6
    have hsub:=ZbU HGe.out HL3.out
    obtain⟨s7,A7,n7,c7,x0,x1,x2,x3,x4,x5⟩:=HX6.out
    have X5:=lhd x5
    clear x0 x3 x4 x5
    go_wp2_with fail
    refine(K7 X5.out HLp.out (by omega)).mono ?_
    rintro e w7 ⟨_,rfl,⟨u7',v7,rfl,h7⟩,hb7⟩
    obtain⟨s8,A8,n8,c8,rfl,rfl⟩:=X8 h7
    have HX7:=lhd ((HX6.out.keep hb7).put h7)
    have HB7:=lhd (YP (HB6.out.trans (hb7.mono HB6.out.size)) HMge.out (.bool s8) (.slice A8 n8 c8))
    obtain⟨s9,A9,n9,c9,y0,y1,y2,y3,-,-⟩:=HX6.out.keep hb7
    have f0:=y3 0;have f1:=y3 1
    clear x1 x2 X5 y3 h7 hb7
    go_upto_region 7 with fail
    rw[hsub]
    clear hsub hsg
    obtain⟨d,hd⟩:=nmx (n-m)
    rw[← hd]
    have HD:=lhd hd
    clear hd
    obtain⟨W8,hW8⟩:=nmx (((w7.setCell ⟨M,0,none⟩ (.bool s8)).setCell ⟨M,1,none⟩ (.slice A8 n8 c8)))
    rw[← hW8]at HX7 HB7
    rw[← hW8]
    rw[if_pos HNeg.out]at HLess0
    have HX8:=HX7;have HB8:=HB7
    clear hW8
    have HEach:=lhd (fun (W:World) (hB:Below W8.heap.size W8 W)=>Zao (v:=.slice A0 n c0) (HVp.out.keep (HB8.out.trans (hB.mono HB8.out.size))) ((HX.out.keep HB8.out).keep hB) HPw.out (Zaa HLq.out) HL2.out)
    have HLess:=lhd (fun (W:World) (a1 a2 a3:Value) (hB:Below W8.heap.size W8 W) (hv:VP (Zj (p2.map (·*Xd (Zo q)))) a1 W) (hi:IC W a2 a3 (-Zo p2))=>by
     have:=Zfe hv ((HQ.out.keep HBr.out).keep (HB8.out.trans (hB.mono HB8.out.size))) hi (Za6 HLess0.out H0.out) HLess0.out (HSw.out) (by have:=HD.out;have:=HL3.out;have:=HN.out;have:=HM.out;omega) HSl.out HL'.out
     rw[show p2.length-q.length=d by rw[HD.out,HN.out,HM.out]]at this
     exact this)
    have HPrim:=lhd (fun (W:World) (a1:Value) (hv:VP r1 a1 W)=>XA hv (Yk HLess0.out HSw.out).1 (by omega) (Nat.le_trans (Yk HLess0.out HSw.out).2 HSl.out))
    obtain⟨sM,aM,mM,cM,z0,z1,z2,-,-,z5⟩:=HX8.out
    have HMl:=lhd z0;have HM0:=lhd z1;have HM1:=lhd z2;have HMI:=lhd z5
    clear z0 z1 z2 z5
    refine Zu [(0,29,VC (.slice A0 n c0)),(1,30,VC (.func (.func 176) #[] #[.pointer (some ⟨S,0,none⟩)])),(2,31,VP (Zj (p2.map (·*Xd (Zo q))))),(3,32,VI (-Zo p2)),(4,33,VC (.slice A' m c')),(5,34,VC (.int .i64 ((d:Nat):Int))),(6,35,VP r1),(7,36,VP (ZG r1)),(8,0,VP (ZG r1))] (fun _=>True) [29,30,31,32,33,34,35,36,0] (by kernel_rfl) (by kernel_rfl) (by kernel_rfl) ⟨kv,kv,Keeps.vp _,Keeps.vi _,kv,kv,Keeps.vp _,Keeps.vp _,Keeps.vp _,trivial⟩ (fun _ _ _ _ _=>trivial) trivial (Zl ⟨?_,?_,?_,?_,?_,?_,?_,?_,?_,trivial⟩) ?_
    ·exact .of rfl rfl fun _ _ _ _ _ hU=>.move rfl (KA (by kernel_rfl) (hU 0 (by kernel_rfl)) (by kernel_rfl)) rfl
    ·exact .of rfl rfl fun _ _ _ _ _ _=>.makeFunc1 rfl (fou (v:=.pointer (some ⟨S,0,none⟩)))
    ·exact .of rfl rfl fun _ W hB _ hV _=>.call Tryz.func175 (by kernel_rfl) rfl rfl rfl (Zg (fgt hV 0 rfl) (fgt hV 1 rfl)) (HEach.out W hB)
    ·exact .of rfl rfl fun _ _ hB _ _ _=>.loadI' hB HMl.out HM0.out HM1.out HMI.out rfl (fou (v:=.pointer (some ⟨M,0,none⟩)))
    ·exact mvX rfl rfl rfl
    ·exact mvX rfl rfl rfl
    ·exact .of rfl rfl fun _ W hB _ hV _=>by have h2:=hge hV 2 rfl;obtain⟨u3,v3,e3,h3⟩:=hge hV 3 rfl;exact .call Tryz.func177 (by kernel_rfl) rfl rfl rfl (ZeU fri ((fri).trans e3) (fgt hV 4 rfl) (fgt hV 5 rfl)) (HLess.out W _ _ _ hB h2 h3)
    ·exact .of rfl rfl fun _ W _ _ hV _=>by have h6:=hge hV 6 rfl;exact .call Tryz.func134 (by kernel_rfl) rfl rfl rfl (Xf fri) (HPrim.out W _ h6)
    ·exact .of rfl rfl fun _ _ _ _ hV _=>.assign rfl fri (hge hV 7 rfl)
    intro y W hB hE hV
    have hP:=hend hV 8 rfl
    have HP9:=lhd hP;have HB9:=lhd (HB8.out.trans (hB.mono HB8.out.size))
    clear hB hE hV hP
    generalize hact:fr _ _ y=act
    simp only[fr,Zf,fC0,fN0,sA0,sZ0,sS0]at hact
    subst hact
    go_wp2_with fail
    go_roundg g'
    case measure=>have:=HG.out;omega
    case rel=>exact⟨ZG r1,HP9.out,HF'.out,Nat.le_trans (Ka r1) (Nat.le_trans (Yk HLess0.out HSw.out).2 HSl.out),HX.out.keep HB9.out,HBr.out.trans (HB9.out.mono HBr.out.size)⟩
   ·have hsg:=deF (p:=sgn (Zo q)<0) (by unfold sgn;split <;> (try split) <;> omega)
    have HNeg:=lhd hneg
    have HSg:=lhd (fun (W:World) (u v:Value) (h:IC W u v (Zo q))=>UC h HLq.out (by omega))
    clear hneg
    generalize sgn (Zo q)=sg at *
    go_wp2_with fail
    rw[← HW4.out,← HMe.out]
    refine HLq4.out.mono ?_
    rintro e w5 ⟨_,rfl,⟨u5,v5,rfl,h5⟩,hb5⟩
    have HI5:=lhd h5;have HB5:=lhd (HB4.out.trans (hb5.mono HB4.out.size));have HX5:=lhd (HBx.out.keep hb5)
    clear h5 hb5
    go_wp2_with fail
    refine(HSg.out _ _ _ HI5.out).mono ?_
    rintro e w6 ⟨_,rfl,rfl,hb6⟩
    have HB6:=lhd (HB5.out.trans (hb6.mono HB5.out.size));have HX6:=lhd (HX5.out.keep hb6)
    clear hb6
    have hsub:=ZbU HGe.out HL3.out
    go_upto_region 7 with fail
    rw[hsub]
    clear hsub hsg
    obtain⟨d,hd⟩:=nmx (n-m)
    rw[← hd]
    have HD:=lhd hd
    clear hd
    obtain⟨W8,hW8⟩:=nmx (w6)
    subst hW8
    rw[if_neg (by have:=HNeg.out;omega)]at HLess0
    have HX8:=HX6;have HB8:=HB6
    have HEach:=lhd (fun (W:World) (hB:Below W8.heap.size W8 W)=>Zao (v:=.slice A0 n c0) (HVp.out.keep (HB8.out.trans (hB.mono HB8.out.size))) ((HX.out.keep HB8.out).keep hB) HPw.out (Zaa HLq.out) HL2.out)
    have HLess:=lhd (fun (W:World) (a1 a2 a3:Value) (hB:Below W8.heap.size W8 W) (hv:VP (Zj (p2.map (·*Xd (Zo q)))) a1 W) (hi:IC W a2 a3 (Zo p2))=>by
     have:=Zfe hv ((HQ.out.keep HBr.out).keep (HB8.out.trans (hB.mono HB8.out.size))) hi (Za6 HLess0.out H0.out) HLess0.out (HSw.out) (by have:=HD.out;have:=HL3.out;have:=HN.out;have:=HM.out;omega) HSl.out HL'.out
     rw[show p2.length-q.length=d by rw[HD.out,HN.out,HM.out]]at this
     exact this)
    have HPrim:=lhd (fun (W:World) (a1:Value) (hv:VP r1 a1 W)=>XA hv (Yk HLess0.out HSw.out).1 (by omega) (Nat.le_trans (Yk HLess0.out HSw.out).2 HSl.out))
    obtain⟨sM,aM,mM,cM,z0,z1,z2,-,-,z5⟩:=HX8.out
    have HMl:=lhd z0;have HM0:=lhd z1;have HM1:=lhd z2;have HMI:=lhd z5
    clear z0 z1 z2 z5
    refine Zu [(0,29,VC (.slice A0 n c0)),(1,30,VC (.func (.func 176) #[] #[.pointer (some ⟨S,0,none⟩)])),(2,31,VP (Zj (p2.map (·*Xd (Zo q))))),(3,32,VI (Zo p2)),(4,33,VC (.slice A' m c')),(5,34,VC (.int .i64 ((d:Nat):Int))),(6,35,VP r1),(7,36,VP (ZG r1)),(8,0,VP (ZG r1))] (fun _=>True) [29,30,31,32,33,34,35,36,0] (by kernel_rfl) (by kernel_rfl) (by kernel_rfl) ⟨kv,kv,Keeps.vp _,Keeps.vi _,kv,kv,Keeps.vp _,Keeps.vp _,Keeps.vp _,trivial⟩ (fun _ _ _ _ _=>trivial) trivial (Zl ⟨?_,?_,?_,?_,?_,?_,?_,?_,?_,trivial⟩) ?_
    ·exact .of rfl rfl fun _ _ _ _ _ hU=>.move rfl (KA (by kernel_rfl) (hU 0 (by kernel_rfl)) (by kernel_rfl)) rfl
    ·exact .of rfl rfl fun _ _ _ _ _ _=>.makeFunc1 rfl (fou (v:=.pointer (some ⟨S,0,none⟩)))
    ·exact .of rfl rfl fun _ W hB _ hV _=>.call Tryz.func175 (by kernel_rfl) rfl rfl rfl (Zg (fgt hV 0 rfl) (fgt hV 1 rfl)) (HEach.out W hB)
    ·exact .of rfl rfl fun _ _ hB _ _ _=>.loadI' hB HMl.out HM0.out HM1.out HMI.out rfl (fou (v:=.pointer (some ⟨M,0,none⟩)))
    ·exact mvX rfl rfl rfl
    ·exact mvX rfl rfl rfl
    ·exact .of rfl rfl fun _ W hB _ hV _=>by have h2:=hge hV 2 rfl;obtain⟨u3,v3,e3,h3⟩:=hge hV 3 rfl;exact .call Tryz.func177 (by kernel_rfl) rfl rfl rfl (ZeU fri ((fri).trans e3) (fgt hV 4 rfl) (fgt hV 5 rfl)) (HLess.out W _ _ _ hB h2 h3)
    ·exact .of rfl rfl fun _ W _ _ hV _=>by have h6:=hge hV 6 rfl;exact .call Tryz.func134 (by kernel_rfl) rfl rfl rfl (Xf fri) (HPrim.out W _ h6)
    ·exact .of rfl rfl fun _ _ _ _ hV _=>.assign rfl fri (hge hV 7 rfl)
    intro y W hB hE hV
    have hP:=hend hV 8 rfl
    have HP9:=lhd hP;have HB9:=lhd (HB8.out.trans (hB.mono HB8.out.size))
    clear hB hE hV hP
    generalize hact:fr _ _ y=act
    simp only[fr,Zf,fC0,fN0,sA0,sZ0,sS0]at hact
    subst hact
    go_wp2_with fail
    go_roundg g'
    case measure=>have:=HG.out;omega
    case rel=>exact⟨ZG r1,HP9.out,HF'.out,Nat.le_trans (Ka r1) (Nat.le_trans (Yk HLess0.out HSw.out).2 HSl.out),HX.out.keep HB9.out,HBr.out.trans (HB9.out.mono HBr.out.size)⟩
end
end Go.Proofs.YthkklilhjnpedaaGreatDoor
