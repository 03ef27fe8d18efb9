/- The Cayley graph in the program. -/
import Derived.Test.YthkklilhjnpedaaGreatDoorUGnm
import Derived.Test.YthkklilhjnpedaaGreatDoorUAtn
import Derived.Test.YthkklilhjnpedaaGreatDoorUEci
set_option maxHeartbeats 16000000
set_option maxRecDepth 8000
namespace Go.Proofs.YthkklilhjnpedaaGreatDoor
open Go.RowKit FF
attribute [local go_sem] Oper.semAt_some
theorem gdB_five:gdB 5=true:=by decide +kernel
theorem gdB_p{p:Int}(hp:p=13∨p=17):gdB p=true:=by rcases hp with rfl | rfl <;> decide +kernel
theorem cyl_low{W0 W1 w2 Wc Wd W3:World}{v u:Value}{rs:List (Hw × List Value)}{ob oc:Obj}(_hs:W1.heap.size=W0.heap.size+1+1+1)(h1:w2.heap.size=W0.heap.size+1+1+1)(hd:Wd=Wc.putObj W0.heap.size ob)(h3:Own eCls w2 v rs Wc)(h7:Cells Wc (W0.heap.size+2) #[u])
  (hg:(Wd.alloc oc).grownBy W3 v.ownBlock):Cells W3 (W0.heap.size+1+1) #[u]:=by
 have h9:=h7.1
 subst hd
 have hsz:(Wc.putObj W0.heap.size ob).heap.size=Wc.heap.size:=by simp[World.putObj]
 refine Xm h7 ?_
 rw[hg.block _ (by rw[World.size_alloc,hsz];omega) (fun e=>by have:=h3.row_ge _ e.symm;omega)]
 rw[Below.heap_alloc _ _ _ (by rw[hsz];omega)]
 exact World.putObj_heap_other (by omega)
theorem cyl_body{W0 W1 W w2 Wc Wd W3:World}{x:Hw}{pre:List Hw}{v v':Value}{rs:List (Hw × List Value)}{ob oc:Obj}(hs:W1.heap.size=W0.heap.size+1+1+1)(hB:Below W.heap.size W Wc)(hW:W0.heap.size≤W.heap.size)(h1:w2.heap.size=W0.heap.size+1+1+1)(h2:Below W0.heap.size W0 w2)
  (hob:ob=Obj.map (clsE (pre++[x]) 0).toArray (pre++[x]).length) (hd:Wd=Wc.putObj W0.heap.size ob) (h3:Own eCls w2 v rs Wc) (h4:rs.map (·.1)=pre) (h5:MapC Wc W0.heap.size pre) (h6:Cells Wc (W0.heap.size+1) #[.map (some W0.heap.size)]) (h7:Cells Wc (W0.heap.size+2) #[v])
  (h8:Own eCls (w2.putObj W0.heap.size ob) v' (rs++[(x,hcs x)]) W3) (hg:(Wd.alloc oc).grownBy W3 v.ownBlock) :
  KeepsFrom W1.heap.size W (W3.setCell ⟨W0.heap.size+1+1,0,none⟩ v')∧KpC W0 W (W3.setCell ⟨W0.heap.size+1+1,0,none⟩ v')∧PlI W0 W0.heap.size (W0.heap.size+1+1+1) (pre++[x]) (W3.setCell ⟨W0.heap.size+1+1,0,none⟩ v'):=by
 have hsz:(Wc.putObj W0.heap.size ob).heap.size=Wc.heap.size:=by simp[World.putObj]
 have hcs:=h3.below.size
 subst hd
 have hb3:∀ k,k<Wc.heap.size→k≠W0.heap.size→some k≠v.ownBlock→W3.heap[k]?=Wc.heap[k]?:=fun k hk hne hn=>by
  rw[hg.block k (by rw[World.size_alloc,hsz];omega) hn,Below.heap_alloc _ _ _ (by rw[hsz];exact hk)]
  exact World.putObj_heap_other hne
 have hlt3:Wc.heap.size≤W3.heap.size:=by have:=hg.size;rw[World.size_alloc,hsz]at this;omega
 refine⟨⟨?_,fun k o hk ho hc=>?_⟩,?_,?_⟩
 ·rw[(Only.setCell W3 (W0.heap.size+1+1) 0 v').size];exact Nat.le_trans hB.size hlt3
 ·have hkW:k<W.heap.size:=(Array.getElem?_eq_some_iff.1 ho).1
  have hkc:Wc.heap[k]?=some o:=(hB.block k hkW).trans ho
  rw[(Only.setCell W3 (W0.heap.size+1+1) 0 v').block k (by omega),hb3 k (nLl hkW hB.size) (by omega) (fun e=>?_)]
  ·exact hkc
  ·rcases h3.1.2 with⟨rfl,-⟩ | ⟨g,cap,cur,rfl,hbg,hgg,-⟩
   ·cases e
   ·simp only[Value.ownBlock,Option.some.injEq]at e
    subst e
    rw[hgg]at hkc
    injection hkc with hkc
    rw[← hkc]at hc
    cases hc
 ·refine Below.setCell ?_ (show W0.heap.size≤W0.heap.size+1+1 by omega) v'
  refine⟨?_,?_,?_,Nat.le_trans hB.size hlt3,fun k hk=>?_⟩
  ·exact hg.os.trans hB.os
  ·exact hg.tape.trans hB.tape
  ·exact hg.output.trans hB.output
  ·exact(hb3 k (by omega) (by omega) (fun e=>by have:=h3.row_ge k e.symm;omega)).trans (hB.block k (by omega))
 ·subst hob
  exact PlI.fin (nlr _) (by omega) h1 h2 h3 h4 h5 h6 h7 h8 hg
theorem pre_len{pre:List Hw}{x:Hw}(h:pre++[x] <+: clsL):pre.length≤120:=by
 have:=h.length_le
 rw[XU,List.length_append]at this
 omega
theorem Zfk{pre:List Hw}{x:Hw}(h:pre++[x] <+: clsL):x ∉ pre:=by
 have h1:(pre++[x]).Nodup:=h.sublist.nodup ZiO
 intro hx
 exact(List.nodup_append.1 h1).2.2 x hx x (by simp) rfl
theorem Zd8{p:Int}(hp:p=13∨p=17):(genL p).length≤100:=by rcases hp with rfl | rfl <;> decide +kernel
def hbB(x:Hw):Bool:=decide (-1000000≤x.a∧x.a≤1000000) && decide (-1000000≤x.b∧x.b≤1000000) && decide (-1000000≤x.c∧x.c≤1000000) && decide (-1000000≤x.d∧x.d≤1000000)
theorem hbB_of{x:Hw}(h:hbB x=true):Hb 1000000 x:=by
 simp only[hbB,Bool.and_eq_true,decide_eq_true_eq]at h
 exact⟨h.1.1.1,h.1.1.2,h.1.2,h.2⟩
theorem ZcC{p:Int}(hp:p=13∨p=17):∀ g∈genL p,Hb 1000000 g:=by
 have h:(genL p).all hbB=true:=by rcases hp with rfl | rfl <;> decide +kernel
 exact fun g hg=>hbB_of (List.all_eq_true.1 h g hg)
set_option maxRecDepth 100000 in
theorem ZgK(p:Int)(hp:p=13∨p=17)(w:World):Calls Tryz.prog 6 #[.int .i64 p,.int .i64 5] w (Zb (fun r W=>∃ a b,r=.tuple #[.agg #[a,b],.int .i64 0]∧GV Xl (ZU p) a b W) w):=by
 have HG:=lhd (fun W=>ZbQ p W (gdB_p hp));have HG5:=lhd (fun W=>ZbQ 5 W gdB_five)
 have HVt:=lhd (fun W=>ZeH p W hp);have HPl:=lhd (fun W=>Zfn W)
 have HRt:=lhd (fun (W:World) (X G:Nat) (h:PlV X G W)=>ZiQ W h)
 have HGn:=lhd (fun W=>Ky p W (by omega) (by omega))
 have HSq:=lhd (fun (W:World) (X G:Nat) (h:PlV X G W)=>ZfC p W h hp)
 have t1:(p == 5)=false:=by rcases hp with rfl | rfl <;> decide
 have t2:decide (400≤p)=false:=by rcases hp with rfl | rfl <;> decide
 have HPp:=lhd hp
 clear hp
 refine(callsIn_wide (n:=3)).1 ?_
 refine callsIn_of_wp_marks Tryz.func6 rfl trivial ?_ rfl
 simp only[Tryz.ntmps6,List.size_toArray,List.length_cons,List.length_nil,Nat.reduceAdd,Nat.reduceSub,Array.replicate_succ,Array.replicate_zero,List.push_toArray,List.append_toArray,List.nil_append,List.cons_append]
 refine wpIn_wide.2 ?_
 have hB:=(brf w.heap.size w).alloc (nlr _) (.cells #[.slice none 0 0,.slice none 0 0] 33)
 have hR:=GB.new w (.slice none 0 0) (.slice none 0 0)
 go_upto_region 1 with fail
 obtain⟨W0,hW0⟩:=nmx (w.alloc (.cells #[.slice none 0 0,.slice none 0 0] 33))
 obtain⟨R4,hR4⟩:=nmx (w.heap.size)
 rw[← hW0]at hB hR ⊢
 rw[← hR4]at hR ⊢
 have HRk:=lhd (show w.heap.size≤R4 by omega)
 have HB0:=lhd hB;have HR0:=lhd hR
 clear hB hR hW0 hR4
 go_wp2_with fail
 refine(HG.out _).mono ?_
 rintro e w1 ⟨_,rfl,rfl,hb⟩
 have HB1:=lhd (HB0.out.trans (hb.mono HB0.out.size));have HR1:=lhd (HR0.out.keep hb)
 clear hb
 go_wp2_with fail
 refine(HG5.out _).mono ?_
 rintro e w2 ⟨_,rfl,rfl,hb⟩
 have HB2:=lhd (HB1.out.trans (hb.mono HB1.out.size));have HR2:=lhd (HR1.out.keep hb)
 clear hb
 go_wp2_with fail
 refine(HVt.out _).mono ?_
 rintro e w3 ⟨_,rfl,rfl,hb⟩
 have HB3:=lhd (HB2.out.trans (hb.mono HB2.out.size));have HR3:=lhd (HR2.out.keep hb)
 clear hb
 go_wp2_with fail
 refine(HPl.out _).mono ?_
 rintro e w4 ⟨_,rfl,⟨X,G,rfl,hpl⟩,hb⟩
 have HB4:=lhd (HB3.out.trans (hb.mono HB3.out.size));have HR4:=lhd (HR3.out.keep hb)
 have HX0:=lhd hpl
 clear hpl
 clear hb
 have hA:=(brf w4.heap.size w4).alloc (nlr _) (.cells #[.pointer (some ⟨X,0,none⟩)] 62)
 have h6:=Cells.new w4 #[.pointer (some ⟨X,0,none⟩)] 62 rfl
 go_upto_region 7 with fail
 obtain⟨W5,hW5⟩:=nmx (w4.alloc (.cells #[.pointer (some ⟨X,0,none⟩)] 62))
 obtain⟨R6,hR6⟩:=nmx (w4.heap.size)
 rw[← hW5]at hA h6 ⊢
 rw[← hR6]at h6 ⊢
 have HB5:=lhd (HB4.out.trans (hA.mono HB4.out.size));have HR5:=lhd (HR4.out.keep hA);have HX5:=lhd (HX0.out.keep hA);have H65:=lhd h6
 have HRk6:=lhd (show R4<R6 by have:=GB.lt HR4.out;omega)
 clear hA h6 hW5 hR6 HB0 HB1 HB2 HB3 HB4 HR0 HR1 HR2 HR3 HR4 HX0 HG HG5 HVt HPl
 have q6:=H65.out.one
 go_wp2_with fail
 refine(HRt.out _ X G HX5.out).mono ?_
 rintro e w6 ⟨_,rfl,rfl,hb⟩
 have HB6:=lhd (HB5.out.trans (hb.mono HB5.out.size));have HR6:=lhd (HR5.out.keep hb);have HX6:=lhd (HX5.out.keep hb);have H66:=lhd (H65.out.keep hb)
 clear hb q6 HB5 HR5 HX5 H65
 go_wp2_with fail
 refine(HGn.out _).mono ?_
 rintro e w7 ⟨gv,rfl,hgv,hb⟩
 have HB7:=lhd (HB6.out.trans (hb.mono HB6.out.size));have HR7:=lhd (HR6.out.keep hb);have HX7:=lhd (HX6.out.keep hb);have H67:=lhd (H66.out.keep hb)
 obtain⟨Ag,cg,rfl,hcg,hcgm⟩:=hgv.len
 obtain⟨n,hn⟩:=nmx (((genL p).map g1).length)
 rw[← hn]at hgv hcg ⊢
 have HV:=lhd hgv;have HN:=lhd (show n=(genL p).length by rw[hn,List.length_map])
 have HNb:=lhd (show n≤100 by rw[hn,List.length_map];exact Zd8 HPp.out)
 have HGb:=lhd (ZcC HPp.out)
 clear hb hgv hn hcg hcgm HB6 HR6 HX6 H66
 go_wp2_with fail
 go_loopw [7,53] (fun s7 s53 wr=>∃ (i:Nat) (rs:List (Hw × List Value)),s53=.int .i64 i∧i≤n∧rs.map (·.1)=((genL p).take i).map cmat∧Own eCls w7 s7 rs wr) (fun _ s53 _=>n-(intOf s53).toNat)
 case atStart=>exact⟨0,[],rfl,Nat.zero_le _,rfl,Own.start eCls (brf _ _)⟩
 case round =>
  obtain⟨i,rs,rfl,hi,hrs,hO⟩:=hrel
  have HRs:=lhd hrs;have HO:=lhd hO
  clear hrs hO
  rcases Nat.lt_or_ge i n with hlt | hge
  ·have di:=deT (p:=(i:Int)<(n:Int)) (by omega)
   obtain⟨g,hg⟩:∃ g,(genL p)[i]?=some g:=⟨_,gEe (by rw[← HN.out];exact hlt)⟩
   have HGm:=lhd (HGb.out g (mGe hg))
   have HGi:=lhd hg
   have hgi:((genL p).map g1)[i]?=some (g1 g):=by rw[List.getElem?_map,hg];rfl
   obtain⟨bg,og,rfl,hblt,c0,c1,c2,c3,c4⟩:=qt_at (HV.out.keep HO.out.below) hgi
   have HX8:=lhd (HX7.out.keep HO.out.below)
   have q6:=(H67.out.keep HO.out.below).one
   have HLt:=lhd hlt
   have HLr:=lhd (show rs.length≤1000000 by
    have h1:=congrArg List.length HRs.out
    rw[List.length_map,List.length_map,List.length_take]at h1
    have:=HNb.out;omega)
   clear hg hgi hblt hi hlt
   go_upto_region 11 with fail
   have hA:=(brf wr.heap.size wr).alloc (nlr _) (.cells #[.int .i64 (g1 g).w,.int .i64 (g1 g).x,.int .i64 (g1 g).y,.int .i64 (g1 g).z,.int .i64 (g1 g).d] 37)
   have h10:=Cells.new wr #[.int .i64 (g1 g).w,.int .i64 (g1 g).x,.int .i64 (g1 g).y,.int .i64 (g1 g).z,.int .i64 (g1 g).d] 37 rfl
   obtain⟨W8,hW8⟩:=nmx (wr.alloc (.cells #[.int .i64 (g1 g).w,.int .i64 (g1 g).x,.int .i64 (g1 g).y,.int .i64 (g1 g).z,.int .i64 (g1 g).d] 37))
   rw[← hW8]at hA h10 ⊢
   have HO8:=lhd (HO.out.keep hA);have HX9:=lhd (HX8.out.keep hA)
   have q8:=((H67.out.keep HO.out.below).keep hA).one
   obtain⟨d0,d1,d2,d3,d4⟩:=h10.five
   clear hA h10 hW8 q6 c0 c1 c2 c3 c4
   have HM:=lhd (show Calls Tryz.prog 23 #[.pointer (some ⟨X,0,none⟩),.agg #[.int .i64 (g1 g).w,.int .i64 (g1 g).x,.int .i64 (g1 g).y,.int .i64 (g1 g).z,.int .i64 (g1 g).d],.int .i64 2] W8 (Zb (VC (hv (cmat g))) W8) from ZfB g W8 HX9.out HGm.out)
   go_wp2_with fail
   refine HM.out.mono ?_
   rintro e w9 ⟨_,rfl,rfl,hb⟩
   have HO9:=lhd (HO8.out.keep hb)
   clear hb q8 d0 d1 d2 d3 d4
   unfold hv cv
   go_wp2_with (at_builtin;refine ZgP rfl (.tmp 57) (.tmp 62) 64 rfl Tryz.underlying64 HO9.out (cmat g) _ w9.heap.size 1 rfl rfl rfl HLr.out ?_;intro v1 w10 hg1;have HO10:=lhd hg1;clear hg1)
   exact⟨⟨i+1,_,by rw[Zc HLt.out (by have:=HNb.out;omega)],HLt.out,by rw[List.map_append,HRs.out,List.take_add_one,HGi.out];simp,HO10.out⟩,by rw[Zc HLt.out (by have:=HNb.out;omega)];simp only[intOf];have:=HLt.out;omega⟩
  ·obtain rfl:i=n:=by omega
   have di:=deF (p:=(i:Int)<(i:Int)) (by omega)
   have HRa:=lhd (show rs.map (·.1)=Um p by rw[HRs.out,tOl (by rw[← HN.out];exact nlr _)];rfl)
   obtain⟨W8,hw8⟩:∃ W8:World,W8=wr:=⟨_,rfl⟩
   subst hw8
   have HB8:=lhd (HB7.out.trans (HO.out.below.mono HB7.out.size));have HR8:=lhd (HR7.out.keep HO.out.below);have HX8:=lhd (HX7.out.keep HO.out.below);have H68:=lhd (H67.out.keep HO.out.below)
   have hgs:=HO.out.sl
   rw[HRa.out]at hgs
   have HGs:=lhd hgs
   clear hgs
   clear hi hge
   have q6:=H68.out.one
   go_wp2_with fail
   refine(HSq.out _ X G HX8.out).mono ?_
   rintro e w9 ⟨_,rfl,rfl,hb⟩
   have HB9:=lhd (HB8.out.trans (hb.mono HB8.out.size));have HR9:=lhd (HR8.out.keep hb);have HX9:=lhd (HX8.out.keep hb);have H69:=lhd (H68.out.keep hb);have HG9:=lhd (HGs.out.keep hb)
   clear hb q6 HB8 HR8 HX8 H68 HGs HO HRs HRa
   go_upto_region 14 with fail
   have hA:=(brf w9.heap.size w9).alloc (nlr _) (.cells #[.bool false] 4)
   have h11:=Cells.new w9 #[.bool false] 4 rfl
   obtain⟨W0,hW0⟩:=nmx (w9.alloc (.cells #[.bool false] 4))
   obtain⟨R11,hR11⟩:=nmx (w9.heap.size)
   rw[← hW0]at hA h11 ⊢
   rw[← hR11]at h11 ⊢
   have HB0:=lhd (HB9.out.trans (hA.mono HB9.out.size));have HR0:=lhd (HR9.out.keep hA);have HX0:=lhd (HX9.out.keep hA);have H60:=lhd (H69.out.keep hA);have HG0:=lhd (HG9.out.keep hA);have H11:=lhd h11
   clear hA h11 hW0 hR11 HB9 HR9 HX9 H69 HG9
   have hmm:=@run_makeMap Tryz.prog
   go_upto_region 16 with fail
   clear hmm
   have hA1:=(brf W0.heap.size W0).alloc (nlr _) (.map #[] 0)
   have hA2:=hA1.alloc (by simp) (.cells #[.map (some W0.heap.size)] 69)
   have hA3:=hA2.alloc (by simp;omega) (.cells #[.slice none 0 0] 64)
   have hM:=((MapC.made W0).keep ((brf _ _).alloc (nlr _) (.cells #[.map (some W0.heap.size)] 69))).keep ((brf _ _).alloc (nlr _) (.cells #[.slice none 0 0] 64))
   have h12:=(Cells.new (W0.alloc (.map #[] 0)) #[.map (some W0.heap.size)] 69 (b:=W0.heap.size+1) (by simp)).alloc (.cells #[.slice none 0 0] 64)
   have h13:=Cells.new ((W0.alloc (.map #[] 0)).alloc (.cells #[.map (some W0.heap.size)] 69)) #[.slice none 0 0] 64 (b:=W0.heap.size+1+1) (by simp)
   have hsz:(((W0.alloc (.map #[] 0)).alloc (.cells #[.map (some W0.heap.size)] 69)).alloc (.cells #[.slice none 0 0] 64)).heap.size=W0.heap.size+1+1+1:=by simp
   obtain⟨W1,hW1⟩:=nmx ((((W0.alloc (.map #[] 0)).alloc (.cells #[.map (some W0.heap.size)] 69)).alloc (.cells #[.slice none 0 0] 64)))
   rw[← hW1]at hA3 hM h12 h13 hsz ⊢
   have HA:=lhd hA3;have HM1:=lhd hM;have H12:=lhd h12;have H13:=lhd h13;have HSz:=lhd hsz
   clear hA1 hA2 hA3 hM h12 h13 hsz hW1
   have q6:=(H60.out.keep HA.out).one
   go_wp2_with fail
   refine(wpIn_wide (n:=3)).1 ?_
   refine Zb3 rfl (by omega) (gf:=25) (fb:=#[.pointer (some ⟨X,0,none⟩)]) rfl trivial (enters_of Tryz.func25 (by kernel_rfl) rfl)
    (ZgC HX0.out 2 (by omega)) (fun h k=>Below.trans h k) (fun W l o o' hl ho hc hw=>Zb1 (brf _ _) (by have:=HSz.out;omega)) HA.out (fun _=>rfl)
    (PlI W0 W0.heap.size (W0.heap.size+1+1+1)) (PlI.own (by omega) (by rw[HSz.out];exact nlr _)) (PlI.start HA.out HSz.out HM1.out H12.out H13.out)
    (fun x a' W=>∃ Bx,W0.heap.size+1+1+1≤Bx∧Cells W Bx #[.int .i64 x.a,.int .i64 x.b,.int .i64 x.c,.int .i64 x.d]∧a'={ tmps:=#[.int .i64 p,.int .i64 5,undef,undef,.pointer (some ⟨R4,0,none⟩),.int .i64 0,.pointer (some ⟨R6,0,none⟩),u7,.int .i64 2,undef,u10,.pointer (some ⟨R11,0,none⟩),.pointer (some ⟨W0.heap.size+1,0,none⟩),.pointer (some ⟨W0.heap.size+1+1,0,none⟩),.pointer (some ⟨Bx,0,none⟩),undef,undef,undef,undef,undef,undef,.bool false,.int .i64 p,.bool true,.bool false,.bool false,.int .i64 5,.bool true,.bool false,.bool false,.bool false,.int .i64 p,.int .i64 5,.bool false,.bool false,undef,.bool false,.int .i64 p,.bool false,.bool false,.int .i64 p,.int .i64 5,.int .i64 120,.bool false,.bool false,undef,.int .i64 5,.pointer (some ⟨X,0,none⟩),.pointer (some ⟨X,0,none⟩),.int .i64 2,.int .i64 p,.slice Ag i cg,.int .i64 i,.int .i64 i,.bool false,u55,u56,u57,u58,u59,u60,u61,u62,u63,u64,.pointer (some ⟨X,0,none⟩),.int .i64 p,.bool false,.map (some W0.heap.size),.pointer (some ⟨X,0,none⟩),.func (.func 25) #[.pointer (some ⟨X,0,none⟩)] #[],.agg #[.int .i64 x.a,.int .i64 x.b,.int .i64 x.c,.int .i64 x.d],undef,undef,undef,undef,undef,undef,undef,undef,undef,undef,undef,undef,undef,undef,undef,undef,undef,undef,undef,undef,undef,undef,undef,undef,undef,undef,undef,undef,undef,undef,undef,undef,undef,undef,undef,undef,undef,undef,undef,undef,undef,undef,undef,undef,undef,undef,undef,undef,undef,undef,undef,undef,undef,undef,undef,undef,undef,undef],defers:=[] })
    (fun x a' _ X Y row hs hg hr => by
     obtain⟨Bx,h1,h2,h3⟩:=hs
     refine⟨Bx,h1,Xm h2 (hg.block Bx h2.1 (fun e=>?_)),h3⟩
     obtain⟨-,o,ho,hc⟩:=hr Bx e.symm
     have:=h2.2.1 0 (by simp)
     simp only[World.cell?,ho]at this
     cases o <;> simp_all [Obj.isCells])
    ?assign ?body ?done
   case assign =>
    rintro l pre x W K hI hK
    simp only[encM,hv,cv]
    gi_wp2
    have hA:=(brf W.heap.size W).alloc (nlr _) (.cells #[.int .i64 x.a,.int .i64 x.b,.int .i64 x.c,.int .i64 x.d] 67)
    have hsz:=hI.below (by omega)
    have hge:W0.heap.size+1+1+1≤W.heap.size:=by obtain⟨w2,v,rs,h1,h2,h3,-⟩:=hI;rw[← h1];exact h3.below.size
    exact hK _ _ ((KeepsOthers.alloc _ _).from _) (hA.mono hsz.size) ((PlI.own (B:=W1.heap.size) (by omega) (by rw[HSz.out];exact nlr _)).alloc _ hI) ⟨W.heap.size,hge,Cells.new W _ _ rfl,rfl⟩
   case body =>
    rintro l pre x a' W hl ⟨r,hr⟩ hI ⟨Bx,hBx,hc,rfl⟩ hpre
    have hbW:=hI.below (by omega)
    obtain⟨w2,v,rs,i1,i2,i3,i4,i5,i6,i7⟩:=hI
    obtain⟨Av,cv',rfl,-,-⟩:=i3.len
    have HxN:=lhd (Zfk hpre)
    have HWs:=lhd (show W0.heap.size≤W.heap.size by have:=hbW.size;omega)
    have HpL:=lhd (pre_len hpre)
    have HrL:=lhd (show rs.length=pre.length by rw[← i4,List.length_map])
    have q11:=(H11.out.keep hbW).one
    have q12:=i6.one
    have q13:=i7.one
    obtain⟨z0,z1,z2,z3⟩:=hc.four
    have HL11:=lhd (nLl H11.out.1 hbW.size)
    gi_wp2
    refine U5 8 [(0,72,VC (.bool false)),(1,73,VC (.bool true)),(2,74,VC (.bool true)),(3,75,VC undef),(4,76,VC undef),(5,77,VC undef),(6,78,VC undef),(7,79,VC undef)] (fun _=>True) [72,73,74,75,76,77,78,79] (by kernel_rfl) (by kernel_rfl) (by kernel_rfl) (by kernel_rfl) (by kernel_rfl) ⟨kv,kv,kv,kv,kv,kv,kv,kv,trivial⟩ (fun _ _ _ _ _=>trivial) trivial (by decide) (ZeT (by kernel_rfl)) (Zn _ ⟨?_,?_,?_,?_,?_,?_,?_,?_,trivial⟩) ?_
    ·exact .of rfl rfl fun _ _ hB _ _ _=>.load1 rfl (fou (v:=.pointer (some ⟨R11,0,none⟩))) (Za Tryz.underlying4 rfl ((hB.cell (p:=⟨R11,0,none⟩) HL11.out).trans q11)) rfl
    ·exact .of rfl rfl fun _ _ _ _ hV _=>.unOp rfl (fgt hV 0 rfl) rfl rfl
    ·exact .of rfl rfl fun _ _ _ _ hV _=>.move rfl (fgt hV 1 rfl) rfl
    ·exact .off (b:=true) rfl (by kernel_rfl) rfl rfl
    ·exact .off (b:=true) rfl (by kernel_rfl) rfl rfl
    ·exact .off (b:=true) rfl (by kernel_rfl) rfl rfl
    ·exact .off (b:=true) rfl (by kernel_rfl) rfl rfl
    ·exact .off (b:=true) rfl (by kernel_rfl) rfl rfl
    intro y Wb hB8 hE8 hV8
    have e0:y 72=_:=hend hV8 0 rfl;have e1:y 73=_:=hend hV8 1 rfl;have e2:y 74=_:=hend hV8 2 rfl;have e3:y 75=_:=hend hV8 3 rfl;have e4:y 76=_:=hend hV8 4 rfl;have e5:y 77=_:=hend hV8 5 rfl;have e6:y 78=_:=hend hV8 6 rfl;have e7:y 79=_:=hend hV8 7 rfl
    generalize hact:fr _ _ y=act
    simp only[fr,Zf,fC0,fN0,sA0,sZ0,sS0,e0,e1,e2,e3,e4,e5,e6,e7]at hact
    subst hact
    clear e0 e1 e2 e3 e4 e5 e6 e7 hV8 hE8
    show wpListIn _ _ _ _ _ [_] _ _
    refine wpListIn_plain rfl fun _ hK=>?_
    refine(Yl.pick (v:=.bool true) (q:=fun v _=>v=.bool true) (b:=true) rfl rfl rfl rfl).wpIn (fun c e=>by cases e) (fun v Wc hb3 hv3=>?_)
    subst hv3
    refine hK _ _ ?_
    clear hK
    replace hB8:=hB8.trans (hb3.mono hB8.size)
    clear hb3
    have J3:=lhd (i3.keep hB8);have J5:=lhd (i5.keep hB8);have J6:=lhd (i6.keep hB8);have J7:=lhd (i7.keep hB8);have JC:=lhd (hc.keep hB8)
    have I1:=lhd i1;have I2:=lhd i2;have I4:=lhd i4;have HBx:=lhd hBx;have HB8:=lhd hB8;have HbW:=lhd hbW
    clear q11 q12 q13 z0 z1 z2 z3 i1 i2 i3 i4 i5 i6 i7 hB8 hbW hBx hc
    have q12:=J6.out.one
    have q14:Wc.cell? ⟨W0.heap.size+1+1,0,none⟩=some (.slice Av rs.length cv'):=J7.out.one
    obtain⟨z0,z1,z2,z3⟩:=JC.out.four
    have hup:=ZcF J5.out HxN.out
    have hlt5:=J5.out.lt
    obtain⟨ob,hob⟩:=nmx (Obj.map (clsE (pre++[x]) 0).toArray (pre++[x]).length)
    have HOb:=lhd hob
    rw[← hob]at hup
    clear hob
    obtain⟨Wd,hWd⟩:=nmx (Wc.putObj W0.heap.size ob)
    have HWd:=lhd hWd
    have q13:Wd.cell? ⟨W0.heap.size+1+1,0,none⟩=some (.slice Av rs.length cv'):=by rw[hWd];exact(Xm J7.out (World.putObj_heap_other (by omega))).one
    have hcd:Cells Wd Bx #[.int .i64 x.a,.int .i64 x.b,.int .i64 x.c,.int .i64 x.d]:=by rw[hWd];exact Xm JC.out (World.putObj_heap_other (by have:=HBx.out;omega))
    obtain⟨y0,y1,y2,y3⟩:=hcd.four
    have hO:Own eCls (w2.putObj W0.heap.size ob) (.slice Av rs.length cv') rs Wd:=by rw[hWd];exact J3.out.put_low (by have:=I1.out;omega) (fun z hz=>J3.out.2.2.1 z hz)
    have HO:=lhd hO
    rw[← HrL.out]at hup
    unfold hv cv at hup
    rw[← hWd]at hup
    clear hWd hcd hO
    gi_wp2_with (gi_at_builtin;refine Zd9 rfl (.tmp 85) (.tmp 87) 64 rfl Tryz.underlying64 HO.out x _ Wd.heap.size 1 rfl rfl rfl (by have:=HrL.out;have:=HpL.out;omega) ?_;intro v1 W3 h8 hg8;obtain⟨A1,c1,rfl,-,-⟩:=h8.len;have H8:=lhd h8;have HG8:=lhd hg8;have hc3:Cells W3 (W0.heap.size+1+1) #[.slice Av rs.length cv']:=cyl_low HSz.out I1.out HWd.out J3.out J7.out hg8;have c30:=hc3.one;have f30:=hc3.2.2 0;clear h8 hg8 hc3)
    have hfin:=cyl_body HSz.out HB8.out HWs.out I1.out I2.out HOb.out HWd.out J3.out I4.out J5.out J6.out J7.out H8.out HG8.out
    rw[List.length_append,List.length_singleton]at hfin
    exact hfin
   case done =>
    rintro D Wz hD ⟨w2,v,rs,i1,i2,i3,i4,i5,i6,i7⟩ hdef
    have hbW:Below W0.heap.size W0 Wz:=i2.trans (i3.below.mono (by omega))
    have hcl:=i3.sl
    rw[i4]at hcl
    obtain⟨Av,cv',rfl,-,-⟩:=i3.len
    have hrl:rs.length=120:=by have:=congrArg List.length i4;rw[List.length_map,XU]at this;exact this
    rw[hrl]at i7 hcl
    have HBW:=lhd (HB0.out.trans (hbW.mono HB0.out.size));have HRW:=lhd (HR0.out.keep hbW);have HXW:=lhd (HX0.out.keep hbW);have H6W:=lhd (H60.out.keep hbW);have HGW:=lhd (HG0.out.keep hbW)
    have HCL:=lhd hcl;have HMW:=lhd i5;have H12W:=lhd i6;have H13W:=lhd i7;have HDef:=lhd hdef
    have HDw:=lhd (show w.heap.size≤D by have:=HB0.out.size;have:=HA.out.size;omega)
    obtain⟨M,hM⟩:=nmx (W0.heap.size)
    rw[← hM]at HMW H12W H13W ⊢
    clear HB0 HR0 HX0 H60 HG0 H11 HA HM1 H12 H13 HSz q6 hD i1 i2 i3 i4 i5 i6 i7 hdef hbW hcl hrl hM
    go_upto_region 22 with fail
    have hA:=(brf Wz.heap.size Wz).alloc (nlr _) (.cells #[.slice none 0 0,.slice none 0 0] 33)
    have hgr:=GrI.start Wz p
    obtain⟨WA,hWA⟩:=nmx (Wz.alloc (.cells #[.slice none 0 0,.slice none 0 0] 33))
    obtain⟨R15,hR15⟩:=nmx (Wz.heap.size)
    rw[← hWA]at hA hgr ⊢
    rw[← hR15]at hgr ⊢
    have HBA:=lhd hA;have HGR:=lhd hgr;have HR15:=lhd (show Wz.heap.size≤R15 by omega)
    clear hA hgr hWA hR15
    have q13:=(H13W.out.keep HBA.out).one
    change WA.cell? ⟨M+1+1,0,none⟩=some (.slice Av 120 cv') at q13
    go_wp2_with fail
    go_loopw [91] (fun s91 wr=>∃ k:Nat,s91=.int .i64 k∧k≤120∧GrI Wz R15 p k wr) (fun s91 _=>120-(intOf s91).toNat)
    case atStart=>exact⟨0,rfl,by omega,HGR.out⟩
    case round =>
     obtain⟨k,rfl,hk,hG⟩:=hrel
     have HG:=lhd hG
     clear hG
     rcases Nat.lt_or_ge k 120 with hlt | hge
     ·have dk:=deT (p:=(k:Int)<(120:Int)) (by omega)
      have HKlt:=lhd hlt
      obtain⟨m,hm⟩:∃ m,clsL[k]?=some m:=⟨_,gEe (by rw[XU];exact hlt)⟩
      have HMm:=lhd (mGe hm);have HMi:=lhd hm
      have hbr:=HG.out.below
      have HBr:=lhd hbr
      obtain⟨bA,oA,rfl,hbA,c0,c1,c2,c3⟩:=cls_at (HCL.out.keep hbr) hm
      obtain⟨Wr,hwr⟩:∃ Wr:World,Wr=wr:=⟨_,rfl⟩
      subst hwr
      clear hm hbA hbr hk
      go_upto_region 25 with fail
      clear hlt
      have hA:=(brf Wr.heap.size Wr).alloc (nlr _) (.cells #[.int .i64 m.a,.int .i64 m.b,.int .i64 m.c,.int .i64 m.d] 67)
      have h17:=Cells.new Wr #[.int .i64 m.a,.int .i64 m.b,.int .i64 m.c,.int .i64 m.d] 67 rfl
      obtain⟨WB,hWB⟩:=nmx (Wr.alloc (.cells #[.int .i64 m.a,.int .i64 m.b,.int .i64 m.c,.int .i64 m.d] 67))
      obtain⟨R17,hR17⟩:=nmx (Wr.heap.size)
      rw[← hWB]at hA h17 ⊢
      rw[← hR17]at h17 ⊢
      have HGB:=lhd (HG.out.keep hA);have HBB:=lhd (HBr.out.trans (hA.mono HBr.out.size));have H17:=lhd h17
      clear hA h17 hWB hR17 c0 c1 c2 c3 q13 HG HBr
      have HGs:=lhd (HGW.out.keep HBB.out);have HXB:=lhd (HXW.out.keep HBB.out);have H6B:=lhd (H6W.out.keep HBB.out);have H12B:=lhd (H12W.out.keep HBB.out);have HMB:=lhd (HMW.out.keep HBB.out)
      have hgl:=HGs.out.len
      have hgn:(Um p).length=i:=by rw[HN.out];exact List.length_map ..
      rw[hgn]at hgl
      obtain⟨Ar,cr,rfl,hcr,hcrm⟩:=hgl
      have HGn2:=lhd hgn
      clear hgn hcr hcrm
      go_wp2_with fail
      go_loopw [18,97] (fun s18 s97 wr=>∃ (j:Nat) (rl:List (Int × List Value)),s97=.int .i64 j∧j≤i∧rl.map (·.1)=((Um p).take j).map (fun g=>(cidx (ZS (cmul m g)):Int))∧Own eNum WB s18 rl wr) (fun _ s97 _=>i-(intOf s97).toNat)
      case atStart=>exact⟨0,[],rfl,Nat.zero_le _,rfl,Own.start eNum (brf _ _)⟩
      case round =>
       obtain⟨j,rl,rfl,hj,hrl,hO⟩:=hrel
       have HRl:=lhd hrl;have HO:=lhd hO
       clear hrl hO
       rcases Nat.lt_or_ge j i with hlt | hge
       ·have dj:=deT (p:=(j:Int)<(i:Int)) (by omega)
        have HJlt:=lhd hlt
        obtain⟨g,hg⟩:∃ g,(Um p)[j]?=some g:=⟨_,gEe (by rw[HGn2.out];exact hlt)⟩
        have HGm:=lhd (mGe hg);have HGi:=lhd hg
        have hbx:=HO.out.below
        have HBx:=lhd hbx
        obtain⟨bG,oG,rfl,hbG,c0,c1,c2,c3⟩:=cls_at (HGs.out.keep hbx) hg
        clear hg hbG hbx hj
        go_upto_region 29 with fail
        clear hlt c0 c1 c2 c3
        have hA:=(brf wr.heap.size wr).alloc (nlr _) (.cells #[.int .i64 g.a,.int .i64 g.b,.int .i64 g.c,.int .i64 g.d] 67)
        have h20:=Cells.new wr #[.int .i64 g.a,.int .i64 g.b,.int .i64 g.c,.int .i64 g.d] 67 rfl
        obtain⟨W20,hW20⟩:=nmx (wr.alloc (.cells #[.int .i64 g.a,.int .i64 g.b,.int .i64 g.c,.int .i64 g.d] 67))
        obtain⟨R20,hR20⟩:=nmx (wr.heap.size)
        rw[← hW20]at hA h20 ⊢
        rw[← hR20]at h20 ⊢
        have HO20:=lhd (HO.out.keep hA)
        have hb2:=HBx.out.trans (hA.mono HBx.out.size)
        have HB20:=lhd hb2;have HX20:=lhd (HXB.out.keep hb2);have HM20:=lhd (HMB.out.keep hb2)
        have h6:=H6B.out.keep hb2;have h12:=H12B.out.keep hb2;have h17:=H17.out.keep hb2
        have q6:=h6.one;have q12:=h12.one
        have HL6:=lhd h6.1;have HL12:=lhd h12.1;have HL17:=lhd h17.1;have HL20:=lhd h20.1
        have HC17:=lhd (Cells.hcs h17);have HC20:=lhd (Cells.hcs h20)
        have HHm:=lhd (In5.hb (Zge HMm.out));have HHg:=lhd (In5.hb (gens_in5 HGm.out))
        have HN5:=lhd (Zgd HPp.out HMm.out HGm.out)
        obtain⟨i0,hi0,hz0,hz1,hz2⟩:=info_parts ZM
        clear hA h20 hW20 hR20 hb2 h6 h12 h17
        refine wrt 10 [(0,101,VC u18),(1,102,VC (.map (some M))),(2,103,VC (.pointer (some ⟨X,0,none⟩))),(3,104,VC (.pointer (some ⟨X,0,none⟩))),(4,105,VC (hv m)),(5,106,VC (hv g)),(6,107,VC (hv (cmul m g))),(7,108,VC (hv (ZS (cmul m g)))),(8,109,VC (.int .i64 (cidx (ZS (cmul m g)):Int))),(9,110,OneB W20.heap.size (.int .i64 (cidx (ZS (cmul m g)):Int)))] (fun _=>True) [101,102,103,104,105,106,107,108,109,110] ⟨kv,kv,kv,kv,kv,kv,kv,kv,kv,Keeps.oneB _ _,trivial⟩ (fun _ _ _ _ _=>trivial) trivial (by decide) (Zn _ ⟨?_,?_,?_,?_,?_,?_,?_,?_,?_,?_,trivial⟩) ?_
        ·exact mvX rfl rfl rfl
        ·exact .of rfl rfl fun _ _ hB _ _ _=>.load1 rfl (fou (v:=.pointer (some ⟨M+1,0,none⟩))) (Za Tryz.underlying69 rfl ((hB.cell (p:=⟨M+1,0,none⟩) HL12.out).trans q12)) rfl
        ·exact .of rfl rfl fun _ _ hB _ _ _=>.load1 rfl (fou (v:=.pointer (some ⟨R6,0,none⟩))) (Za Tryz.underlying62 rfl ((hB.cell (p:=⟨R6,0,none⟩) HL6.out).trans q6)) rfl
        ·exact .of rfl rfl fun _ _ hB _ _ _=>.load1 rfl (fou (v:=.pointer (some ⟨R6,0,none⟩))) (Za Tryz.underlying62 rfl ((hB.cell (p:=⟨R6,0,none⟩) HL6.out).trans q6)) rfl
        ·exact .of rfl rfl fun _ _ hB _ _ _=>Yl.loadC hB HL17.out HC17.out rfl (fou (v:=.pointer (some ⟨R17,0,none⟩)))
        ·exact .of rfl rfl fun _ _ hB _ _ _=>Yl.loadC hB HL20.out HC20.out rfl (fou (v:=.pointer (some ⟨R20,0,none⟩)))
        ·exact .of rfl rfl fun _ _ hB _ hV _=>.call Tryz.func28 (by kernel_rfl) rfl rfl rfl (ZcP (fgt hV 3 rfl) (fgt hV 4 rfl) (fgt hV 5 rfl)) (Zhc m g _ (HX20.out.keep hB) HHm.out HHg.out)
        ·exact .of rfl rfl fun _ _ hB _ hV _=>.call Tryz.func27 (by kernel_rfl) rfl rfl rfl (Zg (fgt hV 2 rfl) (fgt hV 6 rfl)) (ZfD _ _ (HX20.out.keep hB) (ZeE m g))
        ·exact .of rfl rfl fun _ _ hB _ hV _=>Yl.lookupC (HM20.out.keep hB) HN5.out rfl (fgt hV 1 rfl) (fgt hV 7 rfl)
        ·exact .of rfl rfl fun _ _ hB _ hV _=>Yl.build1 Tryz.underlying40 hi0 hz0 rfl hz1 rfl hB.size rfl (fgt hV 8 rfl)
        intro y W29 hB29 hE29 hV29
        have e0:y 101=_:=hend hV29 0 rfl;have e1:y 102=_:=hend hV29 1 rfl;have e2:y 103=_:=hend hV29 2 rfl;have e3:y 104=_:=hend hV29 3 rfl;have e4:y 105=_:=hend hV29 4 rfl;have e5:y 106=_:=hend hV29 5 rfl;have e6:y 107=_:=hend hV29 6 rfl;have e7:y 108=_:=hend hV29 7 rfl;have e8:y 109=_:=hend hV29 8 rfl
        obtain⟨b9,e9,-,hlt9,hc9⟩:=hend hV29 9 rfl
        generalize hact:fr _ _ y=act
        simp only[fr,Zf,fC0,fN0,sA0,sZ0,sS0,e0,e1,e2,e3,e4,e5,e6,e7,e8,e9]at hact
        subst hact
        have HO29:=lhd (HO20.out.keep hB29)
        clear e0 e1 e2 e3 e4 e5 e6 e7 e8 e9 hV29 hE29 hB29 q6 q12
        have HRn:=lhd (show rl.length≤1000000 by
         have h1:=congrArg List.length HRl.out
         rw[List.length_map,List.length_map,List.length_take]at h1
         have:=HNb.out;have:=HJlt.out;omega)
        show wpList _ _ _ [_,_] _ _
        refine ZB rfl (.tmp 101) (.tmp 110) 40 rfl i0 Tryz.underlying40 hi0 hz0 hz1 hz2 HO29.out (y:=(cidx (ZS (cmul m g)):Int)) (cs:=[.int .i64 (cidx (ZS (cmul m g)):Int)]) rfl ⟨b9,0,none⟩ 1 rfl rfl (fun d u hd=>?_) HRn.out ?_
        ·have hd0:d=0:=by have:=(List.getElem?_eq_some_iff.1 hd).1;simpa using this
         subst hd0
         have hu:u=.int .i64 (cidx (ZS (cmul m g)):Int):=by simpa using hd.symm
         rw[hu];exact hc9
        intro v' W30 hO30
        obtain⟨A30,c30,rfl,-,-⟩:=hO30.len
        have HO30:=lhd hO30
        clear hO30 hc9 hlt9 hz0 hz1 hz2 hi0
        go_wp2_with fail
        refine⟨⟨j+1,rl++[((cidx (ZS (cmul m g)):Int),[.int .i64 (cidx (ZS (cmul m g)):Int)])],by rw[Zc HJlt.out (by have:=HNb.out;omega)],HJlt.out,by rw[List.map_append,HRl.out,List.take_add_one,HGi.out];simp,?_⟩,by rw[Zc HJlt.out (by have:=HNb.out;omega)];simp only[intOf];have:=HJlt.out;omega⟩
        have hfo:=HO30.out
        rw[List.length_append,List.length_singleton]at hfo
        exact hfo
       ·obtain rfl:j=i:=by omega
        have dj:=deF (p:=(j:Int)<(j:Int)) (by omega)
        have HRa:=lhd (show srtI (rl.map (·.1))=nbrs p m by rw[HRl.out,tOl (by rw[HGn2.out];exact nlr _)];rfl)
        have HRl0:=lhd (show 0<rl.length by
         have h1:=congrArg List.length HRl.out
         rw[List.length_map,List.length_map,List.length_take,HGn2.out]at h1
         have h2:=genL_pos HPp.out
         rw[← HN.out]at h2;omega)
        have HRl1:=lhd (show rl.length=j by
         have h1:=congrArg List.length HRl.out
         rw[List.length_map,List.length_map,List.length_take,HGn2.out]at h1
         omega)
        obtain⟨WC,hwc⟩:∃ WC:World,WC=wr:=⟨_,rfl⟩
        subst hwc
        obtain⟨Al,cl,rfl,-,-⟩:=HO.out.len
        have hso:=sort_num HO.out HRl0.out (by have:=HRl1.out;have:=HNb.out;omega)
        rw[HRa.out,HRl1.out]at hso
        rw[HRl1.out]
        have HSo:=lhd hso
        clear hso hj hge
        go_wp2_with fail
        refine HSo.out.mono ?_
        rintro e WD ⟨rfl,hnp,hb⟩
        have hgd:=HGB.out.keep hb
        have HNP:=lhd hnp;have H17D:=lhd (H17.out.keep hb)
        obtain⟨vN,vE,rsN,rsE,g1,g2,g3,g4,g5⟩:=hgd
        have HgN:=lhd g1;have HgE:=lhd g2;have HgB:=lhd g5;have Hm3:=lhd g3;have Hm4:=lhd g4
        have HRN:=lhd (show rsN.length≤1000000 by have h1:=congrArg List.length g3;rw[List.length_map,List.length_map,List.length_take]at h1;have:=HKlt.out;omega)
        have HRE:=lhd (show rsE.length≤1000000 by have h1:=congrArg List.length g4;rw[List.length_map,List.length_map,List.length_take]at h1;have:=HKlt.out;omega)
        have HvN:=lhd (fun g (hg:vN.ownBlock=some g)=>g1.lt hg);have HvE:=lhd (fun g (hg:vE.ownBlock=some g)=>g2.lt hg)
        have HnN:=lhd g1.noint;have HnE:=lhd g2.noint;have HRlt:=lhd g5.lt
        obtain⟨i1,hi1,hs0,hs1,hs2⟩:=info_parts Zei
        obtain⟨i2,hi2,hr0,hr1,hr2⟩:=info_parts Yc
        clear g1 g2 g3 g4 g5 hnp hb HSo
        go_wp2_with fail
        refine YD [5,10,12,14] [0,0,0,0,0,0,1,1,1,1,0,2,0,3,0] [(0,115,VC (.pointer (some ⟨R15,0,none⟩))),(1,116,VC vN),(2,117,VC (hv m)),(3,118,VC (.string ⟨(ZX m).toArray⟩)),(4,119,OneB WD.heap.size (.string ⟨(ZX m).toArray⟩)),(5,120,(fun x X=>Own Z6 Wz x (rsN++[(ZX m,[.string ⟨(ZX m).toArray⟩])]) X)),(6,121,VC (.pointer (some ⟨R15,1,none⟩))),(7,122,VC vE),(8,123,VC (.slice Al j cl)),(9,124,OneB WD.heap.size (.slice Al j cl)),(10,125,(fun x X=>Own Z7 Wz x (rsE++[(nbrs p m,[.slice Al j cl])]) X)),(11,126,VC (.pointer (some ⟨R15,0,none⟩))),(13,127,VC (.pointer (some ⟨R15,1,none⟩)))] (exG WD.heap.size Wz R15 R17 #[.int .i64 m.a,.int .i64 m.b,.int .i64 m.c,.int .i64 m.d] (.slice Al j cl) (nbrs p m) vN vE rsN (rsN++[(ZX m,[.string ⟨(ZX m).toArray⟩])]) rsE (rsE++[(nbrs p m,[.slice Al j cl])])) [115,116,117,118,119,120,121,122,123,124,125,126,127] (by kernel_rfl) (by kernel_rfl) (by kernel_rfl) (by kernel_rfl) (by kernel_rfl) (by decide) ⟨kv,kv,kv,kv,Keeps.oneB _ _,Keeps.ownE Z6 Wz _,kv,kv,kv,Keeps.oneB _ _,Keeps.ownE Z7 Wz _,kv,kv,trivial⟩ exG.keep ⟨HgN.out,HgE.out,HgB.out,H17D.out,HNP.out,nlr _⟩ (Zl ⟨?_,?_,?_,?_,?_,?_,?_,?_,?_,?_,?_,?_,?_,?_,?_,trivial⟩) (by kernel_rfl) ?_
        ·exact .yld rfl rfl rfl fun y W k hk hE hV hU=>.fieldAddr rfl (fou (v:=.pointer (some ⟨R15,0,none⟩))) (by kernel_rfl) rfl
        ·exact .yld rfl rfl rfl fun y W k hk hE hV hU=>.load1 rfl (fgt hV 0 rfl) (Za Tryz.underlying30 rfl (exG.zero hk hE).2.2.1.c0) rfl
        ·exact .yld rfl rfl rfl fun y W k hk hE hV hU=>Yl.loadC (brf _ _) (exG.zero hk hE).2.2.2.1.1 (Cells.hcs (exG.zero hk hE).2.2.2.1) rfl (fou (v:=.pointer (some ⟨R17,0,none⟩)))
        ·exact .yld rfl rfl rfl fun y W k hk hE hV hU=>.call Tryz.func31 (by kernel_rfl) rfl rfl rfl (Xf (fgt hV 2 rfl)) (Zie m _ (Zge HMm.out))
        ·exact .yld rfl rfl rfl fun y W k hk hE hV hU=>Yl.build1 Tryz.underlying30 hi1 hs0 rfl hs1 rfl (exG.size (Nat.le_trans hk (by decide)) hE) rfl (fgt hV 3 rfl)
        ·exact .chg 0 rfl rfl rfl fun y W hE hV hU=>by obtain⟨b4,e4,hb1,hb2,hb3⟩:=hge hV 4 rfl;exact Ye.append (.tmp 116) (.tmp 119) 30 rfl i1 Tryz.underlying30 hi1 hs0 hs1 hs2 (exG.zero (nlr _) hE).1 (y:=ZX m) (cs:=[.string ⟨(ZX m).toArray⟩]) rfl ⟨b4,0,none⟩ 1 (fgt hV 1 rfl) ((fri).trans e4) (Y6 hb3) HRN.out (fun v3 W3 h1 h2=>⟨(exG.one hE h2 h1).1,h1,⟨.inr fun _ h=>h,.inr fun _ h=>h,.inr fun _ h=>h,.inr fun _ h=>h,.inr (fun x h=>OneB.alt h (.grown h2) HvN.out),.inl rfl,.inr fun _ h=>h,.inr fun _ h=>h,.inr fun _ h=>h,.inr (fun x h=>OneB.alt h (.grown h2) HvN.out),.inr (fun x h=>(exG.one hE h2 h1).2 _ _ h),.inr fun _ h=>h,.inr fun _ h=>h,trivial⟩⟩)
        ·exact .yld rfl rfl rfl fun y W k hk hE hV hU=>.fieldAddr rfl (fou (v:=.pointer (some ⟨R15,0,none⟩))) (by kernel_rfl) rfl
        ·exact .yld rfl rfl rfl fun y W k hk hE hV hU=>.load1 rfl (fgt hV 6 rfl) (Za Tryz.underlying31 rfl (exG.gb1 hk hE).c1) rfl
        ·exact .yld rfl rfl rfl fun y W k hk hE hV hU=>.move rfl (fou (v:=.slice Al j cl)) rfl
        ·exact .yld rfl rfl rfl fun y W k hk hE hV hU=>Yl.build1 Tryz.underlying31 hi2 hr0 rfl hr1 rfl (exG.size hk hE) rfl (fgt hV 8 rfl)
        ·exact .chg 1 rfl rfl rfl fun y W hE hV hU=>by obtain⟨b9,e9,hb1,hb2,hb3⟩:=hge hV 9 rfl;exact Ye.append (.tmp 122) (.tmp 124) 31 rfl i2 Tryz.underlying31 hi2 hr0 hr1 hr2 (exG.ph1 hE).1 (y:=nbrs p m) (cs:=[.slice Al j cl]) ⟨_,rfl,(exG.ph1 hE).2.2.1⟩ ⟨b9,0,none⟩ 1 (fgt hV 7 rfl) ((fri).trans e9) (Y6 hb3) HRE.out (fun v3 W3 h1 h2=>⟨(exG.two hE h2 h1).1,h1,⟨.inr fun _ h=>h,.inr fun _ h=>h,.inr fun _ h=>h,.inr fun _ h=>h,.inr (fun x h=>OneB.alt h (.grown h2) HvE.out),.inr (fun x h=>(exG.two hE h2 h1).2 _ _ h),.inr fun _ h=>h,.inr fun _ h=>h,.inr fun _ h=>h,.inr (fun x h=>OneB.alt h (.grown h2) HvE.out),.inl rfl,.inr fun _ h=>h,.inr fun _ h=>h,trivial⟩⟩)
        ·exact .yld rfl rfl rfl fun y W k hk hE hV hU=>.fieldAddr rfl (fou (v:=.pointer (some ⟨R15,0,none⟩))) (by kernel_rfl) rfl
        ·exact .sto 2 rfl rfl rfl rfl fun y W hE hV hU=>by have h5:=hge hV 5 rfl;obtain⟨A5,c5,e5,-⟩:=h5.len;exact Ye.store (v:=y 120) rfl (fgt hV 11 rfl) fri (by rw[e5];rfl) Tryz.sizeOf30 (GB.c0 (exG.ph2 hE)) (GB.f (exG.ph2 hE) 0) ⟨(exG.three HR15.out HnN.out HnE.out hE h5).1,⟨.inr fun _ h=>h,.inr fun _ h=>h,.inr fun _ h=>h,.inr fun _ h=>h,.inr (fun x h=>OneB.alt h (.only (Only.setCell _ R15 0 _)) (fun g e=>by injection e with e;have:=HRlt.out;omega)),.inr (fun x h=>(exG.three HR15.out HnN.out HnE.out hE h5).2.1 _ _ h),.inr fun _ h=>h,.inr fun _ h=>h,.inr fun _ h=>h,.inr (fun x h=>OneB.alt h (.only (Only.setCell _ R15 0 _)) (fun g e=>by injection e with e;have:=HRlt.out;omega)),.inr (fun x h=>(exG.three HR15.out HnN.out HnE.out hE h5).2.2 _ _ h),.inr fun _ h=>h,.inr fun _ h=>h,trivial⟩⟩
        ·exact .yld rfl rfl rfl fun y W k hk hE hV hU=>.fieldAddr rfl (fou (v:=.pointer (some ⟨R15,0,none⟩))) (by kernel_rfl) rfl
        ·exact .sto 3 rfl rfl rfl rfl fun y W hE hV hU=>by have h10:=hge hV 10 rfl;obtain⟨A5,c5,e5,-⟩:=h10.len;obtain⟨v3,-,hg3⟩:=exG.ph3 hE;exact Ye.store (v:=y 125) rfl (fgt hV 13 rfl) fri (by rw[e5];rfl) Tryz.sizeOf31 hg3.c1 (hg3.f 1) ⟨(exG.four HR15.out HnE.out hE h10).1,⟨.inr fun _ h=>h,.inr fun _ h=>h,.inr fun _ h=>h,.inr fun _ h=>h,.inr (fun x h=>OneB.alt h (.only (Only.setCell _ R15 1 _)) (fun g e=>by injection e with e;have:=HRlt.out;omega)),.inr (fun x h=>(exG.four HR15.out HnE.out hE h10).2.1 _ _ h),.inr fun _ h=>h,.inr fun _ h=>h,.inr fun _ h=>h,.inr (fun x h=>OneB.alt h (.only (Only.setCell _ R15 1 _)) (fun g e=>by injection e with e;have:=HRlt.out;omega)),.inr (fun x h=>(exG.four HR15.out HnE.out hE h10).2.2 _ _ h),.inr fun _ h=>h,.inr fun _ h=>h,trivial⟩⟩
        intro y W32 hE32 hV32
        have hnx:=GrI.next HMi.out Hm3.out Hm4.out (exG.ph4 hE32)
        have HNx:=lhd hnx
        generalize hact:fr _ _ y=act
        simp only[fr,Zf,fC0,fN0,sA0,sZ0,sS0]at hact
        subst hact
        clear hnx hE32 hV32
        go_wp2_with fail
        exact⟨⟨k+1,by rw[Zc HKlt.out (by omega)],HKlt.out,HNx.out⟩,by rw[Zc HKlt.out (by omega)];simp only[intOf];have:=HKlt.out;omega⟩
     ·obtain rfl:k=120:=by omega
      have dk:decide (((120:Nat):Int)<(120:Int))=false:=by decide
      obtain⟨vN,vE,rsN,rsE,g1,g2,g3,g4,g5⟩:=HG.out
      obtain⟨A1,c1,rfl,-,-⟩:=g1.len
      obtain⟨A2,c2,rfl,-,-⟩:=g2.len
      have hbe:=g1.below
      have hD9:wr.heap[D]?=some (.deferred (some [])):=(hbe.block D (Array.getElem?_eq_some_iff.1 HDef.out).1).trans HDef.out
      have hfi:=gr_final (HRW.out.keep hbe) HRW.out.lt g1 g2 hD9
      rw[g3,tOl (by rw[XU];exact nlr _),g4,tOl (by rw[XU];exact nlr _)]at hfi
      have k0:=g5.c0;have k1:=g5.c1
      have hR4:=HRW.out.keep hbe
      have k2:=hR4.c0;have k3:=hR4.c1;have k4:=hR4.f 0;have k5:=hR4.f 1
      have HFi:=lhd hfi;have HB9:=lhd (HBW.out.trans (hbe.mono HBW.out.size));have HD9:=lhd hD9;have HRD:=lhd (show R4≠D from fun e=>by subst e;rw[show wr.heap[R4]?=_ from hR4]at hD9;cases hD9)
      clear g1 g2 g3 g4 g5 hfi hbe hR4 HG hD9
      go_wp2_with fail
      have hD2:((wr.setCell ⟨R4,0,none⟩ (.slice A1 rsN.length c1)).setCell ⟨R4,1,none⟩ (.slice A2 rsE.length c2)).heap[D]?=some (.deferred (some [])):=by
       rw[(Only.setCell _ R4 1 _).block D (Ne.symm HRD.out),(Only.setCell wr R4 0 _).block D (Ne.symm HRD.out)];exact HD9.out
      refine⟨by simp,.inl ⟨_,_,rfl,run_takeDeferred hD2,?_⟩⟩
      have m0:=HFi.out.1.c0;have m1:=HFi.out.1.c1
      refine⟨.tuple #[.agg #[.slice A1 rsN.length c1,.slice A2 rsE.length c2],.int .i64 0],by simp[results,Tryz.results6,go_sem,m0,m1],?_⟩
      exact⟨_,rfl,⟨_,_,rfl,HFi.out.2⟩,((HB9.out.setCell HRk.out _).setCell HRk.out _).trans (belowK_b (w:=w) (nlr _) _ D _ _ HDw.out hD2 rfl rfl)⟩
end Go.Proofs.YthkklilhjnpedaaGreatDoor
