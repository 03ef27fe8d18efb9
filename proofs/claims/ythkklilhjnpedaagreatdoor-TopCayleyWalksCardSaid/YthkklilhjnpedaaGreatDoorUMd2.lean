/- A matrix of two rows modulo a prime: Hessenberg's form. -/
import Derived.Test.YthkklilhjnpedaaGreatDoorUGch
import Derived.LoopN
import Derived.BigRegion
set_option maxHeartbeats 16000000
set_option maxRecDepth 8000
namespace Go.Proofs.YthkklilhjnpedaaGreatDoor
section
open Go.RowKit FF
def Tag(W:World)(b:Nat)(T:TypeId):Prop:=∃ c,W.heap[b]?=some (.cells c T (0,0))
theorem Tag.lt{W:World}{b:Nat}{T:TypeId}(h:Tag W b T):b<W.heap.size:=by obtain⟨c,h⟩:=h;exact(Array.getElem?_eq_some_iff.1 h).1
theorem Tag.keep{W W':World}{b:Nat}{T:TypeId}(h:Tag W b T)(hb:Below W.heap.size W W'):Tag W' b T:=by
 have:=h.lt
 obtain⟨c,h⟩:=h
 exact⟨c,(hb.block b this).trans h⟩
theorem Tag.set{W:World}{b:Nat}{T:TypeId}(h:Tag W b T)(g i:Nat)(u:Value):Tag (W.setCell ⟨g,i,none⟩ u) b T:=by
 obtain⟨c,h⟩:=h
 by_cases e:b=g
 ·subst e
  exact⟨_,heap_setCell_same W b i c T u h⟩
 ·exact⟨c,((Only.setCell W g i u).block b e).trans h⟩
theorem Tag.own{α:Type}{e:El α}{w W:World}{v:Value}{rs:List (α × List Value)}{X:Nat}{T:TypeId}(h:Tag W X T)(hO:Own e w v rs W)(hT:T≠e.T):v.ownBlock≠some X:=by
 intro e2
 rcases hO.1.2 with⟨rfl,-⟩ | ⟨g,cap,cur,rfl,hb,hg,-⟩
 ·cases e2
 ·obtain⟨c,h⟩:=h
  obtain rfl:g=X:=by simpa[Value.ownBlock] using e2
  rw[hg]at h
  injection h with h
  injection h with h1 h2
  exact hT h2.symm
theorem Tag.ofOwn{α:Type}{e:El α}{w W:World}{g n cap:Nat}{rs:List (α × List Value)}(hO:Own e w (.slice (some ⟨g,0,none⟩) n cap) rs W):Tag W g e.T:=by
 rcases hO.1.2 with⟨h',-⟩ | ⟨g',cap',cur,h',hb,hg,-⟩
 ·cases h'
 ·injection h' with h1
  injection h1 with h1
  injection h1 with h1
  subst h1
  exact⟨_,hg⟩
theorem Tag.fz{W:World}{b:Nat}{T:TypeId}(h:Tag W b T)(i:Nat):W.frozen? ⟨b,i,none⟩=false:=by
 obtain⟨c,h⟩:=h
 simp[World.frozen?,h]
theorem Tag.ne{W:World}{b g:Nat}{T U:TypeId}(h:Tag W b T)(k:Tag W g U)(hT:T≠U):b≠g:=by
 rintro rfl
 obtain⟨c,h⟩:=h
 obtain⟨d,k⟩:=k
 rw[h]at k
 injection k with k
 injection k with k1 k2
 exact hT k2
structure M2(B X G cap r0 r1:Nat)(p a b c d:Int)(W:World):Prop where
 tX:Tag W X 219
 tG:Tag W G 40
 t0:Tag W r0 3
 t1:Tag W r1 3
 ne:r0≠r1
 bX:B≤X
 bG:B≤G
 b0:B≤r0
 b1:B≤r1
 x0:W.cell? ⟨X,0,none⟩=some (.int .i64 p)
 x1:W.cell? ⟨X,1,none⟩=some (.slice (some ⟨G,0,none⟩) 2 cap)
 g0:W.cell? ⟨G,0,none⟩=some (.slice (some ⟨r0,0,none⟩) 2 2)
 g1:W.cell? ⟨G,1,none⟩=some (.slice (some ⟨r1,0,none⟩) 2 2)
 a0:W.cell? ⟨r0,0,none⟩=some (.int .i64 a)
 a1:W.cell? ⟨r0,1,none⟩=some (.int .i64 b)
 c0:W.cell? ⟨r1,0,none⟩=some (.int .i64 c)
 c1:W.cell? ⟨r1,1,none⟩=some (.int .i64 d)
theorem M2.keep{B X G cap r0 r1:Nat}{p a b c d:Int}{W W':World}(h:M2 B X G cap r0 r1 p a b c d W)(hb:Below W.heap.size W W'):M2 B X G cap r0 r1 p a b c d W':=by
 have lX:=h.tX.lt;have lG:=h.tG.lt;have l0:=h.t0.lt;have l1:=h.t1.lt
 exact⟨h.tX.keep hb,h.tG.keep hb,h.t0.keep hb,h.t1.keep hb,h.ne,h.bX,h.bG,h.b0,h.b1,(hb.cell (p:=⟨X,0,none⟩) lX).trans h.x0,(hb.cell (p:=⟨X,1,none⟩) lX).trans h.x1,(hb.cell (p:=⟨G,0,none⟩) lG).trans h.g0,(hb.cell (p:=⟨G,1,none⟩) lG).trans h.g1,(hb.cell (p:=⟨r0,0,none⟩) l0).trans h.a0,(hb.cell (p:=⟨r0,1,none⟩) l0).trans h.a1,(hb.cell (p:=⟨r1,0,none⟩) l1).trans h.c0,(hb.cell (p:=⟨r1,1,none⟩) l1).trans h.c1⟩
def Zb8(W5:World)(R n:Nat)(l:List Int)(k:Nat)(wr:World):Prop:=∃ rr:List (Int × List Value),rr.length=n∧rr.map (·.1)=l.take k++List.replicate (n-k) 0∧Own eNum W5 (.slice (some ⟨R,0,none⟩) n n) rr wr
theorem Zdc{w W:World}{v:Value}{rs:List (List Int × List Value)}{X i:Nat}{u:Value}(h:Own eRow w v rs W)(hX:w.heap.size≤X)(hne:v.ownBlock≠some X)(ho:∀ x∈rs,∀ y,x.2=[y]→Off X y):Own eRow w v rs (W.setCell ⟨X,i,none⟩ u):=by
 refine⟨ownsRow_setCell_other h.1 hne u,h.2.1.setCell hX _,fun x hx=>?_,fun g hg=>(h.2.2.2 g hg).alt (.only (Only.setCell W X i u)) (h.1.lt g hg).2 (fun e=>hne (by rw[hg,e]))⟩
 obtain⟨y,e,hy⟩:=h.2.2.1 x hx
 exact⟨y,e,Sl.other hy (.only (Only.setCell W X i u)) (fun _ _ _ hf=>hf) (ho x hx y e)⟩
theorem UG{α:Type}{e:El α}{w W:World}{v:Value}{rs:List (α × List Value)}{P:Program}{ops:Array Oper}{rest:List Oper}{o:Oper}{a:Act}{Q:Exit→Act→World→Prop}(hgd:o.guard=none)(s x:Operand)(t:TypeId)
  (ho:o.op=.call { callee:=.builtin .append,args:=#[s,x],argTypes:=#[t,t] }) (i:TypeInfo)
  (ht:P.underlying t=some (.slice e.T)) (hi:P.info? e.T=some i) (hz:i.zero=some e.z) (hsize:i.size=e.n) (hby:i.bytes=e.bytes)
  (h:Own e w v rs W) {y:α} {cs:List Value} (hy:e.E y cs W) (ad:Addr) (c:Nat) (hs:a.eval s=v) (hx:a.eval x=.slice (some ad) 1 c)
  (h0:∀ d u,cs[d]?=some u→W.cell? (ad.add d)=some u) (hl:rs.length≤1000000)
  (K:∀ v' W',Own e w v' (rs++[(y,cs)]) W'→W.grownBy W' v.ownBlock→wpList P ops Q rest (a.put o.dst v') W'):wpList P ops Q (o::rest) a W:=by
 refine wpList_plain hgd fun _ hK=>?_
 obtain⟨v',W',hr,k1,k2⟩:=Xy (P:=P) t o.type i ht hi hz hsize hby h hy ad c h0 hl
 unfold Oper.wp execOp
 simp only[ho,resolve,invoke,builtin,Sem.run_bind,Sem.run_pure,Result.andThen_ok,List.map_toArray,List.map_cons,List.map_nil,hs,hx,hr]
 exact hK _ _ (K v' W' k1 k2)
theorem Tag.grown{α:Type}{e:El α}{w W W':World}{v:Value}{rs:List (α × List Value)}{X:Nat}{T:TypeId}(h:Tag W X T)(hO:Own e w v rs W)(hT:T≠e.T)(hg:W.grownBy W' v.ownBlock):Tag W' X T∧∀ i,W'.cell? ⟨X,i,none⟩=W.cell? ⟨X,i,none⟩:=by
 have ne:=h.own hO hT
 refine⟨?_,fun i=>(Alt.grown hg).cell h.lt (fun e=>ne e.symm)⟩
 have h1:=(Alt.grown hg).block X h.lt (fun e=>ne e.symm)
 obtain⟨c,h⟩:=h
 exact⟨c,h1.trans h⟩
theorem Zdd{x y:Int}{R n c:Nat}{W:World}(h:eRow.E [x,y] [.slice (some ⟨R,0,none⟩) n c] W):W.cell? ⟨R,0,none⟩=some (.int .i64 x)∧W.cell? ⟨R,1,none⟩=some (.int .i64 y):=by
 obtain⟨v,e,hv⟩:=h
 injection e with e;subst e
 obtain⟨b0,o0,e0,-,h0⟩:=Zv hv (i:=0) rfl
 obtain⟨b1,o1,e1,-,h1⟩:=Zv hv (i:=1) rfl
 injection e0 with e0;injection e0 with ea eb;subst ea eb
 injection e1 with e1;injection e1 with ea eb;subst ea eb
 exact⟨h0,h1⟩
theorem Ku{x p:Int}(hx:0≤x)(hp:x<p):x.tmod p=x∧(x+p).tmod p=x:=by
 have h1:x.tmod p=x:=by rw[Int.tmod_eq_emod_of_nonneg hx];exact Int.emod_eq_of_lt hx hp
 refine⟨h1,?_⟩
 rw[Int.tmod_eq_emod_of_nonneg (by omega),Int.add_emod_right];exact Int.emod_eq_of_lt hx hp
theorem Zfw{v:Value}{a b c d p:Int}{w:World}(hv:Sl eRow [[a,b],[c,d]] v w)(ha:0≤a∧a<p)(hb:0≤b∧b<p)(hc:0≤c∧c<p)(hd:0≤d∧d<p)(hp:p≤1000000000) :
  Calls Tryz.prog 121 #[v,.int .i64 p] w (Zb (fun r W=>∃ X G cap r0 r1,r=.pointer (some ⟨X,0,none⟩)∧M2 w.heap.size X G cap r0 r1 p a b c d W∧2≤cap∧cap≤maxLen) w):=by
 obtain⟨A,cp,rfl,h1,h2⟩:=hv.len
 have HV:=lhd hv
 go_enter Tryz.func121,Tryz.ntmps121
 obtain⟨i0,hi,hz0,hz1,hz2⟩:=info_parts Yc
 have HI:=lhd hi;have HZ0:=lhd hz0;have HZ1:=lhd hz1;have HZ2:=lhd hz2
 have HMk:=lhd (show ∀ W:World,(Instr.makeSlice 40 (.int .i64 2) (.int .i64 2)).run Tryz.prog W=.ok (.slice (some ⟨W.heap.size,0,none⟩) 2 2) (W.alloc (.cells (madeCells #[.int .i64 0] 2) 3)) from KN 40 Tryz.underlying40 2 (by omega))
 have HA:=lhd ha;have HBb:=lhd hb;have HCc:=lhd hc;have HDd:=lhd hd;have HP:=lhd hp
 have HX0:=lhd (show Tag (w.alloc (.cells #[.int .i64 p,.slice none 0 0] 219)) w.heap.size 219 from⟨_,heap_alloc_new w _⟩)
 have hBX:=(brf w.heap.size w).alloc (nlr _) (.cells #[.int .i64 p,.slice none 0 0] 219)
 have HBX:=lhd hBX
 clear hi hz0 hz1 hz2 ha hb hc hd hp hv hBX h1 h2
 go_wp2_with fail
 have x0:(w.alloc (.cells #[.int .i64 p,.slice none 0 0] 219)).cell? ⟨w.heap.size,0,none⟩=some (.int .i64 p):=by simp[go_sem]
 have x1:(w.alloc (.cells #[.int .i64 p,.slice none 0 0] 219)).cell? ⟨w.heap.size,1,none⟩=some (.slice none 0 0):=by simp[go_sem]
 obtain⟨W1,hW1⟩:=nmx (w.alloc (.cells #[.int .i64 p,.slice none 0 0] 219))
 obtain⟨X,hX⟩:=nmx (w.heap.size)
 rw[← hW1]at HX0 HBX x0 x1
 rw[← hX]at HX0 x0 x1
 rw[← hW1,← hX]
 have HXe:=lhd hX
 clear hW1 hX
 have HOA:=lhd (Own.start eRow HBX.out)
 refine wp_loop_rounds 3 ?_
 rw[rounds_succ]
 obtain⟨b',o',u,rfl,hb',q0,hu⟩:=ZP (HV.out.keep HOA.out.below) (i:=0) (z:=[a,b]) rfl
 obtain⟨Al,cl,rfl,e1,e2⟩:=Sl.len hu
 have HU:=lhd hu
 rw[Nat.add_zero]at q0
 have hmk:=HMk.out
 simp only[List.length_cons,List.length_nil]at *
 clear hu hb'
 go_upto_region 7 with fail
 clear hmk q0
 obtain⟨R,hR⟩:=nmx (W1.heap.size)
 obtain⟨W6,hW6⟩:=nmx (W1.alloc (.cells (madeCells #[.int .i64 0] 2) 3))
 have HO5:=lhd (show Zb8 W1 R 2 [a,b] 0 W6 from⟨_,rfl,rfl,by rw[hR,hW6];exact Own.made_num (w:=W1) (N:=2) (brf _ _) (by omega)⟩)
 rw[← hR,← hW6]
 have HRe:=lhd hR
 clear hR hW6
 go_loopw [25] (fun s25 wr=>∃ k:Nat,s25=.int .i64 k∧k≤2∧Zb8 W1 R 2 [a,b] k wr) (fun s25 _=>(2-(intOf s25).toNat))
 case atStart=>exact⟨0,rfl,Nat.zero_le _,HO5.out⟩
 case round =>
  obtain⟨k,rfl,hkm,rr,hrl,hrr,hOk⟩:=hrel
  have HRr:=lhd hrr;have HOk:=lhd hOk;have HRl:=lhd hrl
  clear hrr hOk hrl
  by_cases hklt:k<2
  ·have hti:=deT (p:=((k:Nat):Int)<2) (by omega)
   obtain⟨z,hz⟩:∃ z,[a,b][k]?=some z:=⟨_,gEe (show k<2 from hklt)⟩
   obtain⟨b2,o2,rfl,hb2,q0⟩:=Zv (Sl.keep HU.out HOk.out.below) hz
   have hzb:0≤z∧z<p:=by
    rcases k with _ | _ | k
    ·injection hz with hz;subst hz;exact HA.out
    ·injection hz with hz;subst hz;exact HBb.out
    ·omega
   obtain⟨m1,m2⟩:=Ku hzb.1 hzb.2
   have m3:wrap64 (z+p)=z+p:=by have:=HP.out;unfold wrap64;omega
   have m4:(p == 0)=false:=by simp;omega
   have m5:wrap64 z=z:=by have:=HP.out;unfold wrap64;omega
   have m7:¬ p=0:=by omega
   obtain⟨u,hu⟩:∃ u,(rr.map (·.1))[k]?=some u:=⟨_,gEe (by rw[List.length_map,HRl.out];exact hklt)⟩
   obtain⟨q1,f1⟩:=YR HOk.out hu
   have HSet:=lhd (Uj HOk.out (i:=k) (by rw[HRl.out];exact hklt) z)
   have HZ:=lhd hz
   clear hz hu hb2 hzb
   go_wp2_with fail
   refine⟨⟨k+1,rfl,hklt,_,by rw[List.length_set];exact HRl.out,?_,HSet.out⟩,?_⟩
   ·rw[List.map_set,HRr.out]
    have hzz:=HZ.out
    rcases k with _ | _ | k
    ·injection hzz with hzz;subst hzz;rfl
    ·injection hzz with hzz;subst hzz;rfl
    ·omega
   ·simp only[intOf];omega
  ·have hti:=deF (p:=((k:Nat):Int)<2) (by omega)
   have hrr:=HRr.out
   rw[show k=2 by omega]at hrr
   have HRr2:=lhd hrr
   clear hrr HRr
   have hB5:=HOk.out.below
   have HOB:=lhd (HOA.out.keep hB5)
   have HE:=lhd (show eRow.E [a,b] [.slice (some ⟨R,0,none⟩) 2 2] wr from⟨_,rfl,by rw[show[a,b]=rr.map (·.1) from HRr2.out.symm];exact HOk.out.sl⟩)
   have HTR:=lhd (Tag.ofOwn HOk.out)
   have HTX:=lhd (HX0.out.keep hB5)
   have HBA:=lhd (show ∀ o,Below wr.heap.size wr (wr.alloc o) from fun o=>(brf wr.heap.size wr).alloc (nlr _) o)
   have HX0c:=lhd ((hB5.cell (p:=⟨X,0,none⟩) HX0.out.lt).trans x0)
   have HX1c:=lhd ((hB5.cell (p:=⟨X,1,none⟩) HX0.out.lt).trans x1)
   have x1':=HX1c.out
   clear hB5 x0 x1
   go_wp2_with (at_builtin;refine UG rfl (.tmp 45) (.tmp 47) 31 rfl i0 Tryz.underlying31 HI.out HZ0.out HZ1.out HZ2.out (HOB.out.keep (HBA.out _)) (y:=[a,b]) (cs:=[.slice (some ⟨R,0,none⟩) 2 2]) (eRow.keep HE.out (HBA.out _)) ⟨wr.heap.size,0,none⟩ 1 rfl rfl (fun d u hd=>by rcases d with _ | d;(injection hd with hd;subst hd;simp[go_sem]);simp at hd) (by simp) ?_;intro v' w2 hg2 hgr;obtain⟨G,cap,rfl,hcap,hcm,hGl,hGh⟩:=hg2.form (by simp);have HGR:=lhd hgr;have HG2:=lhd hg2;have HT2:=lhd ((HTX.out.keep (HBA.out _)).grown (HOB.out.keep (HBA.out _)) (by decide) hgr);have HTR2:=lhd ((HTR.out.keep (HBA.out _)).grown (HOB.out.keep (HBA.out _)) (by decide) hgr);have HRX:=lhd (HTR.out.ne HTX.out (by decide));have hfz:=HT2.out.1.fz 1;have x1'':=(HT2.out.2 1).trans (((HBA.out (.cells #[.slice (some ⟨R,0,none⟩) 2 2] 40)).cell (p:=⟨X,1,none⟩) HTX.out.lt).trans HX1c.out);have x0'':=lhd ((HT2.out.2 0).trans (((HBA.out (.cells #[.slice (some ⟨R,0,none⟩) 2 2] 40)).cell (p:=⟨X,0,none⟩) HTX.out.lt).trans HX0c.out));clear hgr hg2 x1' hcap hcm hGl hGh)
   clear hfz
   obtain⟨Wa,hWn⟩:∃ Wn,Wn=w2.setCell ⟨X,1,none⟩ (.slice (some ⟨G,0,none⟩) 1 cap):=⟨_,rfl⟩
   have HOA0:=lhd (show Own eRow w (.slice (some ⟨G,0,none⟩) 1 cap) ([]++[([a,b],[.slice (some ⟨R,0,none⟩) 2 2])]) Wa from by
    rw[hWn]
    refine Zdc HG2.out (Nat.le_of_eq HXe.out.symm) (HT2.out.1.own HG2.out (by decide)) (fun x hx y e=>?_)
    simp only[List.nil_append,List.mem_cons,List.not_mem_nil,or_false]at hx
    subst hx;injection e with e;subst e
    intro b o n c e2;injection e2 with e2;injection e2 with e2;injection e2 with e2;subst e2;exact HRX.out)
   have HTX2:=lhd (show Tag Wa X 219 from by rw[hWn];exact HT2.out.1.set ..)
   have HTRb:=lhd (show Tag Wa R 3 from by rw[hWn];exact HTR2.out.1.set ..)
   have y0:Wa.cell? ⟨X,0,none⟩=some (.int .i64 p):=by rw[hWn];rw[← x0''.out];simp[go_sem]
   have y1:Wa.cell? ⟨X,1,none⟩=some (.slice (some ⟨G,0,none⟩) 1 cap):=by rw[hWn];exact World.cell?_setCell_same' _ _ _ (by rw[x1''];rfl)
   rw[← hWn]
   clear hWn x1''
   clear x0'' HTX HRr2 HOk HRl hklt hti hkm HOB HE HTR HBA HX0c HX1c HGR HG2 HT2 HTR2 HRX HO5
   obtain⟨Wq,hWq⟩:∃ W:World,W=wr:=⟨_,rfl⟩
   subst hWq
   obtain⟨b9,hb9⟩:∃ b,b=b':=⟨_,rfl⟩
   obtain⟨o9,ho9⟩:∃ b,b=o':=⟨_,rfl⟩
   subst hb9 ho9
   rw[rounds_succ]
   obtain⟨b',o',u,hq,hb',q0,hu⟩:=ZP (HV.out.keep HOA0.out.below) (i:=1) (z:=[c,d]) rfl
   obtain⟨rfl,rfl⟩:b'=b9∧o'=o9:=by injection hq with hq;injection hq with h1 h2;exact⟨h1.symm,h2.symm⟩
   obtain⟨Al,cl,rfl,e1,e2⟩:=Sl.len hu
   have HU1:=lhd hu
   have hmk:=HMk.out
   simp only[List.length_cons,List.length_nil]at *
   clear hu hb'
   go_upto_region 7 with fail
   clear hmk q0
   obtain⟨R1,hR⟩:∃ R,R=Wa.heap.size:=⟨_,rfl⟩
   obtain⟨W6,hW6⟩:=nmx (Wa.alloc (.cells (madeCells #[.int .i64 0] 2) 3))
   have HO5:=lhd (show Zb8 Wa R1 2 [c,d] 0 W6 from⟨_,rfl,rfl,by rw[hR,hW6];exact Own.made_num (w:=Wa) (N:=2) (brf _ _) (by omega)⟩)
   rw[← hR,← hW6]
   have HRe1:=lhd hR
   clear hR hW6
   go_loopw [25] (fun s25 wr=>∃ k:Nat,s25=.int .i64 k∧k≤2∧Zb8 Wa R1 2 [c,d] k wr) (fun s25 _=>(2-(intOf s25).toNat))
   case atStart=>exact⟨0,rfl,Nat.zero_le _,HO5.out⟩
   case round =>
    obtain⟨k,rfl,hkm,rr,hrl,hrr,hOk⟩:=hrel
    have HRr:=lhd hrr;have HOk:=lhd hOk;have HRl:=lhd hrl
    clear hrr hOk hrl
    by_cases hklt:k<2
    ·have hti:=deT (p:=((k:Nat):Int)<2) (by omega)
     obtain⟨z,hz⟩:∃ z,[c,d][k]?=some z:=⟨_,gEe (show k<2 from hklt)⟩
     obtain⟨b2,o2,rfl,hb2,q0⟩:=Zv (Sl.keep HU1.out HOk.out.below) hz
     have hzb:0≤z∧z<p:=by
      rcases k with _ | _ | k
      ·injection hz with hz;subst hz;exact HCc.out
      ·injection hz with hz;subst hz;exact HDd.out
      ·omega
     obtain⟨m1,m2⟩:=Ku hzb.1 hzb.2
     have m3:wrap64 (z+p)=z+p:=by have:=HP.out;unfold wrap64;omega
     have m4:(p == 0)=false:=by simp;omega
     have m5:wrap64 z=z:=by have:=HP.out;unfold wrap64;omega
     have m7:¬ p=0:=by omega
     obtain⟨u,hu⟩:∃ u,(rr.map (·.1))[k]?=some u:=⟨_,gEe (by rw[List.length_map,HRl.out];exact hklt)⟩
     obtain⟨q1,f1⟩:=YR HOk.out hu
     have HSet:=lhd (Uj HOk.out (i:=k) (by rw[HRl.out];exact hklt) z)
     have HZ:=lhd hz
     clear hz hu hb2 hzb
     go_wp2_with fail
     refine⟨⟨k+1,rfl,hklt,_,by rw[List.length_set];exact HRl.out,?_,HSet.out⟩,?_⟩
     ·rw[List.map_set,HRr.out]
      have hzz:=HZ.out
      rcases k with _ | _ | k
      ·injection hzz with hzz;subst hzz;rfl
      ·injection hzz with hzz;subst hzz;rfl
      ·omega
     ·simp only[intOf];omega
    ·have hti:=deF (p:=((k:Nat):Int)<2) (by omega)
     have hrr:=HRr.out
     rw[show k=2 by omega]at hrr
     have HRr2:=lhd hrr
     clear hrr HRr
     have hB5:=HOk.out.below
     have HOB:=lhd (HOA0.out.keep hB5)
     have HE:=lhd (show eRow.E [c,d] [.slice (some ⟨R1,0,none⟩) 2 2] wr from⟨_,rfl,by rw[show[c,d]=rr.map (·.1) from HRr2.out.symm];exact HOk.out.sl⟩)
     have HTR:=lhd (Tag.ofOwn HOk.out)
     have HTX:=lhd (HTX2.out.keep hB5)
     have HBA:=lhd (show ∀ o,Below wr.heap.size wr (wr.alloc o) from fun o=>(brf wr.heap.size wr).alloc (nlr _) o)
     have HX0c:=lhd ((hB5.cell (p:=⟨X,0,none⟩) HTX2.out.lt).trans y0)
     have HX1c:=lhd ((hB5.cell (p:=⟨X,1,none⟩) HTX2.out.lt).trans y1)
     have HTo:=lhd (HTRb.out.keep hB5)
     have x1':=HX1c.out
     clear hB5 y0 y1
     go_wp2_with (at_builtin;refine UG rfl (.tmp 45) (.tmp 47) 31 rfl i0 Tryz.underlying31 HI.out HZ0.out HZ1.out HZ2.out (HOB.out.keep (HBA.out _)) (y:=[c,d]) (cs:=[.slice (some ⟨R1,0,none⟩) 2 2]) (eRow.keep HE.out (HBA.out _)) ⟨wr.heap.size,0,none⟩ 1 rfl rfl (fun d u hd=>by rcases d with _ | d;(injection hd with hd;subst hd;simp[go_sem]);simp at hd) (by simp) ?_;intro v' w2 hg2 hgr;obtain⟨G1,cap1,rfl,hcap,hcm,hGl,hGh⟩:=hg2.form (by simp);have HGR:=lhd hgr;have HG2:=lhd hg2;have HT2:=lhd ((HTX.out.keep (HBA.out _)).grown (HOB.out.keep (HBA.out _)) (by decide) hgr);have HTR2:=lhd ((HTR.out.keep (HBA.out _)).grown (HOB.out.keep (HBA.out _)) (by decide) hgr);have HRX:=lhd (HTR.out.ne HTX.out (by decide));have HTo2:=lhd ((HTo.out.keep (HBA.out _)).grown (HOB.out.keep (HBA.out _)) (by decide) hgr);have HRXo:=lhd (HTo.out.ne HTX.out (by decide));have hfz:=HT2.out.1.fz 1;have x1'':=(HT2.out.2 1).trans (((HBA.out (.cells #[.slice (some ⟨R1,0,none⟩) 2 2] 40)).cell (p:=⟨X,1,none⟩) HTX.out.lt).trans HX1c.out);have x0'':=lhd ((HT2.out.2 0).trans (((HBA.out (.cells #[.slice (some ⟨R1,0,none⟩) 2 2] 40)).cell (p:=⟨X,0,none⟩) HTX.out.lt).trans HX0c.out));clear hgr hg2 x1' hcap hcm hGl hGh)
     clear hfz
     obtain⟨Wb,hWn⟩:∃ Wn,Wn=w2.setCell ⟨X,1,none⟩ (.slice (some ⟨G1,0,none⟩) 2 cap1):=⟨_,rfl⟩
     have HOA01:=lhd (show Own eRow w (.slice (some ⟨G1,0,none⟩) 2 cap1) ([]++[([a,b],[.slice (some ⟨R,0,none⟩) 2 2]),([c,d],[.slice (some ⟨R1,0,none⟩) 2 2])]) Wb from by
      rw[hWn]
      refine Zdc HG2.out (Nat.le_of_eq HXe.out.symm) (HT2.out.1.own HG2.out (by decide)) (fun x hx y e=>?_)
      simp only[List.nil_append,List.mem_cons,List.not_mem_nil,or_false]at hx
      rcases hx with rfl | rfl
      ·injection e with e;subst e
       intro b o n c e2;injection e2 with e2;injection e2 with e2;injection e2 with e2;subst e2;exact HRXo.out
      ·injection e with e;subst e
       intro b o n c e2;injection e2 with e2;injection e2 with e2;injection e2 with e2;subst e2;exact HRX.out)
     have HTX21:=lhd (show Tag Wb X 219 from by rw[hWn];exact HT2.out.1.set ..)
     have HTR1b:=lhd (show Tag Wb R1 3 from by rw[hWn];exact HTR2.out.1.set ..)
     have HTRa:=lhd (show Tag Wb R 3 from by rw[hWn];exact HTo2.out.1.set ..)
     have y01:Wb.cell? ⟨X,0,none⟩=some (.int .i64 p):=by rw[hWn];rw[← x0''.out];simp[go_sem]
     have y11:Wb.cell? ⟨X,1,none⟩=some (.slice (some ⟨G1,0,none⟩) 2 cap1):=by rw[hWn];exact World.cell?_setCell_same' _ _ _ (by rw[x1''];rfl)
     rw[← hWn]
     clear hWn x1''
     rw[rounds_succ]
     go_wp2_with fail
     go_ret
     obtain⟨ca,hca⟩:=HOA01.out.cell (i:=0) rfl
     obtain⟨cb,hcb⟩:=HOA01.out.cell (i:=1) rfl
     obtain⟨k1,k2⟩:=Zdd hca
     obtain⟨k3,k4⟩:=Zdd hcb
     have j1:=HBX.out.size
     have j2:=HOA0.out.below.size
     have j3:=HTRb.out.lt
     have j4:=HRe.out
     have j5:=HRe1.out
     obtain⟨A9,c9,e9,l9,m9⟩:=HOA01.out.len
     injection e9 with e9 e9b e9c
     subst e9c
     exact⟨_,rfl,⟨X,G1,cap1,R,R1,rfl,⟨HTX21.out,Tag.ofOwn HOA01.out,HTRa.out,HTR1b.out,by omega,Nat.le_of_eq HXe.out.symm,HOA01.out.row_ge _ rfl,by omega,by omega,y01,y11,ca 0 _ rfl,cb 0 _ rfl,k1,k2,k3,k4⟩,l9,m9⟩,HOA01.out.below⟩
theorem Xh{W:World}{b i:Nat}{v:Value}(h:W.cell? ⟨b,i,none⟩=some v):W.setCell ⟨b,i,none⟩ v=W:=by
 have h2:(W.setCell ⟨b,i,none⟩ v).heap=W.heap:=by
  apply Array.ext_getElem?
  intro j
  show(W.heap.modify _ _)[j]?=_
  rw[Array.getElem?_modify]
  split
  ·rename_i e
   subst e
   cases hg:W.heap[b]? with
   | none=>rfl
   | some o =>
    cases o with
    | cells c T fz =>
     simp only[World.cell?,hg]at h
     simp only[Option.map_some,Option.isSome_none,Bool.false_eq_true,if_false]at h ⊢
     congr 2
     apply Array.ext_getElem?
     intro k
     rw[Array.getElem?_setIfInBounds]
     split
     ·rename_i e;subst e
      split
      ·exact h.symm
      ·rename_i hk;rw[Array.getElem?_eq_none (by omega)]
     ·rfl
    | _=>rfl
  ·rfl
 show { W with heap:=(W.setCell ⟨b,i,none⟩ v).heap }=W
 rw[h2]
theorem swap_any{B X G cap r0 r1:Nat}{p a b c d:Int}{w:World}(h:M2 B X G cap r0 r1 p a b c d w)(_hm:2≤cap∧cap≤maxLen) :
  Calls Tryz.prog 197 #[.pointer (some ⟨X,0,none⟩),.int .i64 1,.int .i64 1] w (fun e W=>e=.returned (.tuple #[])∧Below w.heap.size w W):=by
 go_enter Tryz.func197,Tryz.ntmps197
 have H:=lhd h
 obtain⟨tX,tG,t0,t1,ne,-,-,-,-,x0,x1,g0,g1,a0,a1,c0,c1⟩:=h
 have fG:=tG.fz 1
 clear tX t0 t1 tG a0 a1 c0 c1 x0
 go_upto_region 0 with fail
 go_region
 rw[Xh g1,Xh g1]
 have HB1:=lhd ((brf w.heap.size w).drew)
 obtain⟨W1,hW1⟩:=nmx (w.drew)
 rw[← hW1]at HB1
 rw[← hW1]
 clear hW1 x1 g0 g1 fG
 obtain⟨tX,tG,t0,t1,-,-,-,-,-,x0,x1,g0,g1,a0,a1,c0,c1⟩:=H.out.keep HB1.out
 have f0:=t0.fz 1
 have f1:=t1.fz 1
 clear tX t0 t1 tG a0 c0 x0 c1 f1 g1
 go_wp2_with fail
 refine wp_loop_rounds 3 ?_
 rw[rounds_succ]
 go_upto_region 4 with fail
 go_region
 rw[Xh a1,Xh a1]
 have HB2:=lhd ((brf W1.heap.size W1).drew)
 obtain⟨W2,hW2⟩:=nmx (W1.drew)
 rw[← hW2]at HB2
 rw[← hW2]
 clear hW2 a1 g0 f0
 go_wp2_with fail
 rw[rounds_succ]
 obtain⟨-,-,-,t1,-,-,-,-,-,-,-,-,g1,-,-,-,c1⟩:=(H.out.keep HB1.out).keep HB2.out
 have f1:=t1.fz 1
 clear t1
 go_upto_region 4 with fail
 go_region
 rw[Xh c1,Xh c1]
 have HB3:=lhd ((brf W2.heap.size W2).drew)
 obtain⟨W3,hW3⟩:=nmx (W2.drew)
 rw[← hW3]at HB3
 rw[← hW3]
 clear hW3 c1 g1 f1
 go_wp2_with fail
 rw[rounds_succ]
 go_wp2_with fail
 go_end0
 exact⟨rfl,HB1.out.trans ((HB2.out.trans (HB3.out.mono HB2.out.size)).mono HB1.out.size)⟩
theorem Yl.nilCheck{P:Program}{a:Act}{W:World}{o:Oper}{x:Operand}{q:Value→World→Prop}{ad:Addr}(ho:o.op=.nilCheck x)(hx:a.eval x=.pointer (some ad))(hq:q (.pointer (some ad)) W):Yl P o a W q:=
 .run (by simp only[execOp,ho,hx,Sem.run_pure]) hq
theorem Yl.extract{P:Program}{a:Act}{W:World}{o:Oper}{x:Operand}{q:Value→World→Prop}{vs:Array Value}{i:Nat}{v:Value}(ho:o.op=.extract x i)(hx:a.eval x=.tuple vs)(hi:vs[i]?=some v)(hq:q v W):Yl P o a W q:=
 .instr (s:=Instr.extract (.tuple vs) i) (by simp only[execOp,ho,hx]) (by simp only[Instr.extract,hi,Sem.run_pure]) hq
theorem YG{w:World}{v:Value}{e:Ending}{w':World}(h:Ret w v e w'):Zb (VC v) w e w':=by
 obtain⟨rfl,n,rfl⟩:=h
 exact⟨_,rfl,rfl,Zi (brf _ _) n⟩
theorem ZcI{B X G cap r0 r1:Nat}{p a b c d:Int}{w:World}(h:M2 B X G cap r0 r1 p a b c d w)(hm:2≤cap∧cap≤maxLen)(hc:c≠0)(hc2:I64 c) :
  Calls Tryz.prog 166 #[.pointer (some ⟨X,0,none⟩)] w (fun e W=>e=.returned (.tuple #[])∧Below w.heap.size w W):=by
 obtain⟨i0,hi,hz0,hz1,hz2⟩:=info_parts Yc
 obtain⟨i1,hi1,-,hi2,-⟩:=info_parts ZM
 have HI:=lhd hi;have HZ1:=lhd hz1
 have HI1:=lhd hi1;have HI2:=lhd hi2
 clear hi hz0 hz1 hz2 hi1 hi2
 go_enter Tryz.func166,Tryz.ntmps166
 have H:=lhd h
 have HSw:=lhd (fun (W:World) (hB:Below w.heap.size w W)=>swap_any (h.keep hB) hm)
 have HIn:=lhd (fun (W:World)=>Kq c p W hc2)
 obtain⟨tX,tG,t0,t1,ne,-,-,-,-,x0,x1,g0,g1,a0,a1,c0,c1⟩:=h
 have HX0:=lhd x0
 have n0:(c == 0)=false:=by simpa using hc
 have n1:decide (c=0)=false:=by simpa using hc
 clear tX tG t0 t1 g0 a0 a1 c1 x0
 go_wp2_with fail
 refine wp_loop_rounds 2 ?_
 rw[rounds_succ]
 go_wp2_with fail
 refine wp_loop_rounds 1 ?_
 rw[rounds_succ]
 go_wp2_with fail
 refine(HSw.out w (brf _ _)).mono ?_
 rintro e w3 ⟨rfl,hb3⟩
 have HB3:=lhd hb3
 have HM:=lhd (fun (W:World) (hB:Below w3.heap.size w3 W)=>(H.out.keep hb3).keep hB)
 clear x1 g1 c0 n0 n1 HX0 hb3
 go_upto_region 8 with fail
 refine Zu [(0,53,VC (.pointer (some ⟨X,0,none⟩))),(1,54,VC (.pointer (some ⟨X,0,none⟩))),(2,55,VC (.pointer (some ⟨X,1,none⟩))),(3,56,VC (.slice (some ⟨G,0,none⟩) 2 cap)),(4,57,VC (.int .i64 0)),(5,58,VC (.int .i64 1)),(6,59,VC (.pointer (some ⟨G,0+1*1,none⟩))),(7,60,VC (.slice (some ⟨r1,0,none⟩) 2 2)),(8,61,VC (.int .i64 0)),(9,62,VC (.pointer (some ⟨r1,0+0*1,none⟩))),(10,63,VC (.int .i64 c)),(11,64,VC (.pointer (some ⟨X,0,none⟩))),(12,65,VC (.pointer (some ⟨X,0,none⟩))),(13,66,VC (.pointer (some ⟨X,0,none⟩))),(14,67,VC (.int .i64 p)),(15,68,VC (.tuple #[.int .i64 (invV c p),.int .i64 (invE c p)])),(16,52,VC (.tuple #[.int .i64 (invV c p),.int .i64 (invE c p)])),(17,69,VC (.int .i64 (invV c p))),(18,70,VC (.int .i64 (invE c p))),(19,4,VC (.int .i64 (invV c p))),(20,5,VC (.int .i64 (invE c p)))] (fun _=>True) [53,54,55,56,57,58,59,60,61,62,63,64,65,66,67,68,52,69,70,4,5] (by kernel_rfl) (by kernel_rfl) (by kernel_rfl) ⟨kv,kv,kv,kv,kv,kv,kv,kv,kv,kv,kv,kv,kv,kv,kv,kv,kv,kv,kv,kv,kv,trivial⟩ (fun _ _ _ _ _=>trivial) trivial (Zl ⟨?_,?_,?_,?_,?_,?_,?_,?_,?_,?_,?_,?_,?_,?_,?_,?_,?_,?_,?_,?_,?_,trivial⟩) ?_
 ·exact mvX rfl rfl rfl
 ·exact .of rfl rfl fun _ _ _ _ hV _=>.nilCheck rfl (fgt hV 0 rfl) rfl
 ·exact .of rfl rfl fun _ _ _ _ hV _=>.fieldAddr rfl (fgt hV 1 rfl) (by kernel_rfl) rfl
 ·exact .of rfl rfl fun _ W hB _ hV _=>.load1 rfl (fgt hV 2 rfl) (Za Tryz.underlying31 rfl (HM.out W hB).x1) rfl
 ·exact mvX rfl rfl rfl
 ·exact .of rfl rfl fun _ _ _ _ hV _=>.binOp rfl (fgt hV 4 rfl) rfl (by kernel_rfl) rfl
 ·exact .of rfl rfl fun _ _ _ _ hV _=>.rowAt Tryz.underlying31 HI.out HZ1.out rfl (fgt hV 3 rfl) (fgt hV 5 rfl) (by decide)
 ·exact .of rfl rfl fun _ W hB _ hV _=>.load1 rfl (fgt hV 6 rfl) (Za Tryz.underlying40 rfl (HM.out W hB).g1) rfl
 ·exact mvX rfl rfl rfl
 ·exact .of rfl rfl fun _ _ _ _ hV _=>.rowAt Tryz.underlying40 HI1.out HI2.out rfl (fgt hV 7 rfl) (fgt hV 8 rfl) (by decide)
 ·exact .of rfl rfl fun _ W hB _ hV _=>.load1 rfl (fgt hV 9 rfl) (Za Tryz.underlying3 rfl (HM.out W hB).c0) rfl
 ·exact mvX rfl rfl rfl
 ·exact .of rfl rfl fun _ _ _ _ hV _=>.nilCheck rfl (fgt hV 11 rfl) rfl
 ·exact .of rfl rfl fun _ _ _ _ hV _=>.fieldAddr rfl (fgt hV 12 rfl) (by kernel_rfl) rfl
 ·exact .of rfl rfl fun _ W hB _ hV _=>.load1 rfl (fgt hV 13 rfl) (Za Tryz.underlying3 rfl (HM.out W hB).x0) rfl
 ·exact .of rfl rfl fun _ W _ _ hV _=>.call Tryz.func60 (by kernel_rfl) rfl rfl rfl (Zg (fgt hV 10 rfl) (fgt hV 14 rfl)) ((HIn.out W).mono (fun _ _ h=>YG h))
 ·exact .of rfl rfl fun _ _ _ _ hV _=>.move rfl (fgt hV 15 rfl) rfl
 ·exact .of rfl rfl fun _ _ _ _ hV _=>.extract rfl (fgt hV 16 rfl) rfl rfl
 ·exact .of rfl rfl fun _ _ _ _ hV _=>.extract rfl (fgt hV 16 rfl) rfl rfl
 ·exact .of rfl rfl fun _ _ _ _ hV _=>.assign rfl (fgt hV 17 rfl) rfl
 ·exact .of rfl rfl fun _ _ _ _ hV _=>.assign rfl (fgt hV 18 rfl) rfl
 intro y w4 hB4 hE hV
 clear hE hV
 simp only[fr,Zf,List.foldl_cons,List.foldl_nil]
 have HB4:=lhd hB4
 obtain⟨-,-,-,-,-,-,-,-,-,x0,x1,g0,g1,a0,a1,c0,c1⟩:=HM.out w4 hB4
 clear hB4 x0 g0 g1 a0 a1 c0 c1
 go_wp2_with fail
 refine wp_loop_rounds 1 ?_
 rw[rounds_succ]
 go_wp2_with fail
 rw[rounds_succ]
 go_wp2_with fail
 go_end0
 exact⟨rfl,HB3.out.trans (HB4.out.mono HB3.out.size)⟩
end
end Go.Proofs.YthkklilhjnpedaaGreatDoor
