/- Walks in a Cayley graph: forth by generators, back by their conjugates. -/
import Derived.Test.YthkklilhjnpedaaGreatDoorUCyf
import Derived.Test.YthkklilhjnpedaaGreatDoorUJw
set_option maxHeartbeats 16000000
set_option maxRecDepth 8000
namespace Go.Proofs.YthkklilhjnpedaaGreatDoor
open Go.RowKit FF
theorem gd1317{p:Int}(hp:p=13∨p=17):gdB p=true:=by rcases hp with rfl | rfl <;> decide +kernel
theorem Zjr(L:List Int)(A:Option Addr)(c:Nat)(ot:Bool)(w:World)(hin:Sl eU8 L (.slice A L.length c) w)(hx:∀ x∈L,0≤x∧x<256)(hLm:L.length≤maxLen) :
  Calls Tryz.prog 3 #[.slice A L.length c,.bool ot] w (Zb (VC (.bool true)) w):=by
 have HK:=lhd (fun W=>ZgT W)
 have HIn:=lhd hin;have HX:=lhd hx
 obtain⟨n,hn⟩:=nmx (L.length)
 rw[← hn]at hin hLm ⊢
 have HIn:=lhd hin
 have HN:=lhd hn
 have HLm:=lhd hLm
 clear hin hx hn
 go_enter Tryz.func3,Tryz.ntmps3
 rcases Nat.lt_or_ge 4 n with h4 | h4
 ·have d4:=deT (p:=(n:Int)>4) (by omega)
  clear hLm
  go_wp2_with fail
  refine(HK.out _).mono ?_
  rintro e w1 ⟨_,rfl,rfl,hb⟩
  have HB:=lhd hb
  clear hb
  go_wp2_with fail
  go_ret
  exact⟨_,rfl,rfl,HB.out⟩
 have d4:=deF (p:=(n:Int)>4) (by omega)
 have H4:=lhd h4
 clear hLm h4
 go_upto_if 27 with fail
 go_cut [5] (fun s5 wx=>∃ p:Int,s5=.int .i64 p∧(p=13∨p=17)∧wx=w)
 case first =>
  cases ot
  ·go_wp2_with fail
   go_meet
   exact⟨13,rfl,.inl rfl,rfl⟩
  ·go_wp2_with fail
   go_meet
   exact⟨17,rfl,.inr rfl,rfl⟩
 case rest =>
 obtain⟨p,rfl,hp,rfl⟩:=hcut
 have HP:=lhd hp
 have HG:=lhd (fun W=>ZcN p W (gd1317 hp) (by rcases hp with rfl | rfl <;> decide) (by rcases hp with rfl | rfl <;> decide))
 have HC:=lhd (fun W=>ZgK p hp W)
 obtain⟨m,hm⟩:=nmx ((genL p).length)
 have HMg:=lhd (show(genL p).length=m from hm.symm)
 have HMp:=lhd (show(m:Int)=p+1 by rw[hm];exact genL_n hp)
 have HPb:=lhd (show 13≤p∧p≤17 by rcases hp with rfl | rfl <;> omega)
 have HGs:=lhd (gsL_ok (p:=p) (L:=L) (m:=m) hm.symm (by have:=HMp.out;have:=HPb.out;omega) (by rw[← HN.out];exact H4.out))
 rw[← HN.out]at HGs
 obtain⟨gs,hgs⟩:=nmx (gsL p L m)
 rw[← hgs]at HGs
 have HGq:=lhd hgs
 clear hp hm hgs
 have hA:=(brf wc.heap.size wc).alloc (nlr _) (.cells #[.int .i64 (-1),.int .i64 (-1)] 25)
 have h6:=Cells.new wc #[.int .i64 (-1),.int .i64 (-1)] 25 rfl
 go_upto_region 7 with fail
 obtain⟨W6,hW6⟩:=nmx (wc.alloc (.cells #[.int .i64 (-1),.int .i64 (-1)] 25))
 obtain⟨R6,hR6⟩:=nmx (wc.heap.size)
 rw[← hW6]at hA h6 ⊢
 rw[← hR6]at h6 ⊢
 have HB6:=lhd hA;have HC6:=lhd h6;have HI6:=lhd (HIn.out.keep hA)
 clear hA h6 hW6 hR6 HIn
 go_wp2_with fail
 refine(HG.out _).mono ?_
 rintro e w7 ⟨_,rfl,⟨vl,rfl,hvl⟩,hb⟩
 have HB7:=lhd (HB6.out.trans (hb.mono HB6.out.size));have HC7:=lhd (HC6.out.keep hb);have HI7:=lhd (HI6.out.keep hb);have HV7:=lhd hvl
 clear hb hvl HB6 HC6 HI6 HG
 go_wp2_with fail
 refine(HC.out _).mono ?_
 rintro e w8 ⟨_,rfl,⟨a,b,rfl,hgv⟩,hb⟩
 have HB8:=lhd (HB7.out.trans (hb.mono HB7.out.size));have HC8:=lhd (HC7.out.keep hb);have HI8:=lhd (HI7.out.keep hb);have HV8:=lhd (HV7.out.keep hb)
 obtain⟨Aa,ca,rfl,-,-⟩:=hgv.1.len
 obtain⟨Ab,cb,rfl,-,-⟩:=hgv.2.len
 rw[ZbZ,KK]at hgv ⊢
 have hA:=(brf w8.heap.size w8).alloc (nlr _) (.cells #[.slice Aa 120 ca,.slice Ab 120 cb] 33)
 have h9:=GB.new w8 (.slice Aa 120 ca) (.slice Ab 120 cb)
 have HGV:=lhd (hgv.keep hA)
 clear hb hgv HB7 HC7 HI7 HV7 HC
 go_upto_region 9 with fail
 obtain⟨W9,hW9⟩:=nmx (w8.alloc (.cells #[.slice Aa 120 ca,.slice Ab 120 cb] 33))
 obtain⟨R9,hR9⟩:=nmx (w8.heap.size)
 rw[← hW9]at hA h9 HGV ⊢
 rw[← hR9]at h9 ⊢
 have HB9:=lhd (HB8.out.trans (hA.mono HB8.out.size))
 obtain⟨Al,cl,rfl,-,-⟩:=HV8.out.len
 have hV9:=HV8.out.keep hA
 rw[List.length_map,HMg.out]at hV9 ⊢
 obtain⟨a,ha⟩:=nmx (Value.slice Aa 120 ca)
 obtain⟨b,hb⟩:=nmx (Value.slice Ab 120 cb)
 have HT9:=lhd (show TC p L m n (.slice Al m cl) (.slice A n c) a b R6 R9 W9 from⟨HC8.out.keep hA,by rw[ha,hb];exact h9,hV9,by rw[ha,hb];exact HGV.out,HI8.out.keep hA⟩)
 have q9:=h9.c0
 have t1:((m:Int) != p+1)=false:=by have:=HMp.out;simpa using this
 obtain⟨b1,b2⟩:-1000≤p∧p≤1000:=by have:=HPb.out;omega
 clear hA h9 hW9 hR9 HGV hV9 HB8 HC8 HI8 HV8
 go_upto_region 11 with fail
 clear q9 t1 b1 b2 ha hb
 obtain⟨wB,hwB⟩:∃ wB:World,wB=W9:=⟨_,rfl⟩
 subst hwB
 have hA:=(brf wB.heap.size wB).alloc (nlr _) (.cells (q5 oneH) 37)
 have h11:QB wB.heap.size (wv gs n 0) (wB.alloc (.cells (q5 oneH) 37)):=heap_alloc_new wB _
 go_upto_region 12 with fail
 obtain⟨W11,hW11⟩:=nmx (wB.alloc (.cells (q5 oneH) 37))
 obtain⟨R11,hR11⟩:=nmx (wB.heap.size)
 rw[← hW11]at hA h11
 change Code.wp _ _ _ _ (wB.alloc (.cells (q5 oneH) 37))
 rw[← hW11]
 rw[← hR11]at h11 ⊢
 have HR11:=lhd hR11
 have hBw:=hA
 have HBW:=lhd hA;have HQ:=lhd h11;have HT:=lhd (HT9.out.keep hA)
 have HHb:=lhd (KL HP.out HGs.out (t:=0) (Nat.zero_le _))
 have HMem:=lhd (Yr HP.out HGs.out (t:=0) (Nat.zero_le _))
 clear hA h11 hW11 hR11
 refine Zu [(0,59,VC (.agg #[a,b])),(1,60,VC (qv (g1 (wv gs n 0)))),(2,61,VC (.string ⟨(ZX (vtx (wv gs n 0))).toArray⟩)),(3,62,VC (.int .i64 (cidx (vtx (wv gs n 0)):Int))),(4,63,(fun v X=>Own eNum wB v [((cidx (vtx (wv gs n 0)):Int),[.int .i64 (cidx (vtx (wv gs n 0)):Int)])] X)),(5,12,(fun v X=>Own eNum wB v [((cidx (vtx (wv gs n 0)):Int),[.int .i64 (cidx (vtx (wv gs n 0)):Int)])] X))] (fun _=>True) [59,60,61,62,63,12] (by kernel_rfl) (by kernel_rfl) (by kernel_rfl) ⟨kv,kv,kv,kv,Keeps.ownE eNum wB _,Keeps.ownE eNum wB _,trivial⟩ (fun _ _ _ _ _=>trivial) trivial (Zl ⟨?_,?_,?_,?_,?_,?_,trivial⟩) ?_
 ·exact .of rfl rfl fun _ _ hB _ _ _=>.loadGr hB HT.out.gr rfl (fou (v:=.pointer (some ⟨R9,0,none⟩)))
 ·exact .of rfl rfl fun _ _ hB _ _ _=>.loadB hB HQ.out rfl (fou (v:=.pointer (some ⟨R11,0,none⟩)))
 ·exact .of rfl rfl fun _ _ _ _ hV _=>.call Tryz.func8 (by kernel_rfl) rfl rfl rfl (Xf (fgt hV 1 rfl)) (ZbC HHb.out)
 ·exact .of rfl rfl fun _ _ hB _ hV _=>.call Tryz.func7 (by kernel_rfl) rfl rfl rfl (Zg (fgt hV 0 rfl) (fgt hV 2 rfl)) (ZcB HP.out (HT.out.gv.keep hB) HMem.out)
 ·exact .of rfl rfl fun _ _ hB _ hV _=>.buildOwn (hBw.trans (hB.mono hBw.size)) rfl (fgt hV 3 rfl)
 ·exact .of rfl rfl fun _ _ _ _ hV _=>.assign rfl fri (hge hV 4 rfl)
 intro y W12 hB hE hV
 have hO:=hend hV 5 rfl
 have HO12:=lhd hO;have HQ12:=lhd (HQ.out.keep hB)
 generalize hact:fr _ _ y=act
 simp only[fr,Zf,fC0,fN0,sA0,sZ0,sS0]at hact
 subst hact
 clear hE hV hB hO hBw
 go_wp2_with fail
 obtain⟨i0,hi0,hz0,hz1,hz2⟩:=info_parts ZM
 have HI0:=lhd hi0;have HZ0:=lhd hz0;have HZ1:=lhd hz1;have HZ2:=lhd hz2
 obtain⟨iu,hiu,-,hzu,-⟩:=info_parts info_u8
 have HIU:=lhd hiu;have HZU:=lhd hzu
 obtain⟨iq,hiq,-,hzq,-⟩:=info_parts ZcM
 have HIQ:=lhd hiq;have HZQ:=lhd hzq
 clear hi0 hz0 hz1 hz2 hiu hzu hiq hzq
 go_loopw [12,13] (fun s12 s13 wr=>∃ i:Nat,s13=.int .i64 i∧i≤n∧CwR wB R11 gs n i s12 wr) (fun _ s13 _=>n-(intOf s13).toNat)
 case atStart=>exact⟨0,rfl,Nat.zero_le _,_,rfl,HO12.out,HQ12.out⟩
 case round =>
  obtain⟨i,rfl,hi,rs,hrs,hO,hQ⟩:=hrel
  have HRs:=lhd hrs;have HO:=lhd hO;have HQr:=lhd hQ
  have HTr:=lhd (HT9.out.keep hO.below)
  clear hrs hO hQ
  rcases Nat.lt_or_ge i n with hlt | hge
  ·have di:=deT (p:=(i:Int)<(n:Int)) (by omega)
   have HLt:=lhd hlt
   obtain⟨x,hxi⟩:∃ x,L[i]?=some x:=⟨_,gEe (by rw[← HN.out];exact hlt)⟩
   have HXi:=lhd (HX.out x (mGe hxi))
   have HM0:=lhd (show 0<m by have:=HMp.out;have:=HPb.out;omega)
   obtain⟨kx,hkx⟩:=nmx (x.toNat % m)
   have HKx:=lhd hkx.symm
   have HKl:=lhd (show kx<m by rw[hkx];exact Nat.mod_lt _ HM0.out)
   obtain⟨g,hg⟩:=nmx (gs.getD i oneH)
   have hgl:(genL p)[kx]?=some g:=by rw[hg,hkx,HGq.out];exact gsL_at HMg.out HM0.out hxi
   have HHg:=lhd (ZcC HP.out g (mGe hgl))
   obtain⟨bg,og,rfl,hbg,hcg⟩:=qt_cells HTr.out.gens (i:=kx) (z:=g1 g) (by rw[List.getElem?_map,hgl];rfl)
   obtain⟨bi,oi,rfl,hbi,hci⟩:=u8_at HTr.out.inp hxi
   have HBg:=lhd hbg;have HCg:=lhd hcg;have HBi:=lhd hbi
   have HCi:=lhd (show wr.cell? ⟨bi,oi+i*1,none⟩=some (.int .u8 x) by rw[Nat.mul_one];exact hci)
   have HWn:=lhd (show wv gs n (i+1)=qtm (wv gs n i) g by rw[hg];exact wv_go hlt)
   have HHi:=lhd (KL HP.out HGs.out (t:=i) (by omega))
   have HHn:=lhd (show Hb 1000000 (qtm (wv gs n i) g) by rw[← HWn.out];exact KL HP.out HGs.out (by omega))
   clear hxi hkx hg hgl hbg hcg hbi hci hi hlt
   go_upto_region 16 with fail
   refine KB [18] [0,0,0,0,0,0,0,0,0,0,0,0,0,0,0,0,1,0,0,1] (fun k=>if k=0 then [] else [14]) [(0,71,VC (.agg #[.int .i64 (-1),.int .i64 (-1)])),(1,72,VC (qv (g1 (wv gs n i)))),(2,73,VC (.slice (some ⟨bg,og,none⟩) m cl)),(3,74,VC (.slice (some ⟨bi,oi,none⟩) n c)),(4,75,VC (.int .i64 (i:Int))),(5,76,VC (.pointer (some ⟨bi,oi+i*1,none⟩))),(6,77,VC (.int .u8 x)),(7,78,VC (.int .i64 x)),(8,79,VC (.slice (some ⟨bg,og,none⟩) m cl)),(9,80,VC (.int .i64 (m:Int))),(10,81,VC (.int .i64 (kx:Int))),(11,82,VC (.pointer (some ⟨bg,og+kx*5,none⟩))),(12,83,VC (qv (g1 g))),(13,84,VC (.tuple #[qv (g1 (qtm (wv gs n i) g)),.int .i64 0])),(14,70,VC (.tuple #[qv (g1 (qtm (wv gs n i) g)),.int .i64 0])),(15,85,VC (qv (g1 (qtm (wv gs n i) g)))),(16,86,VC (.int .i64 0)),(17,14,BoxQ wr.heap.size),(19,15,VC (.int .i64 0))] (exQ wr 14 (wv gs n (i+1))) [71,72,73,74,75,76,77,78,79,80,81,82,83,84,70,85,86,14,15] (by kernel_rfl) (by kernel_rfl) (by kernel_rfl) (by kernel_rfl) (by kernel_rfl) (by decide) ⟨kv,kv,kv,kv,kv,kv,kv,kv,kv,kv,kv,kv,kv,kv,kv,kv,kv,Keeps.boxQ _,kv,trivial⟩ (exQ.keep _ _ _) (exQ.cg _ _ _) (by kernel_rfl) (fun _=>⟨brf _ _,fun h=>absurd h (Nat.lt_irrefl _)⟩) (by kernel_rfl) (Zl ⟨?_,?_,?_,?_,?_,?_,?_,?_,?_,?_,?_,?_,?_,?_,?_,?_,?_,?_,?_,?_,trivial⟩) ?_
   ·exact .yld rfl rfl rfl fun y W k hk hE hV hU=>.loadAl hE.1 HTr.out.al rfl (fou (v:=.pointer (some ⟨R6,0,none⟩)))
   ·exact .yld rfl rfl rfl fun y W k hk hE hV hU=>.loadB hE.1 HQr.out rfl (fou (v:=.pointer (some ⟨R11,0,none⟩)))
   ·exact .yld rfl rfl rfl fun y W k hk hE hV hU=>.move rfl (fou (v:=.slice (some ⟨bg,og,none⟩) m cl)) rfl
   ·exact .yld rfl rfl rfl fun y W k hk hE hV hU=>.move rfl (fou (v:=.slice (some ⟨bi,oi,none⟩) n c)) rfl
   ·exact .yld rfl rfl rfl fun y W k hk hE hV hU=>.move rfl (fou (v:=.int .i64 (i:Int))) rfl
   ·exact .yld rfl rfl rfl fun y W k hk hE hV hU=>.rowAt Tryz.underlying22 HIU.out HZU.out rfl (fgt hV 3 rfl) (fgt hV 4 rfl) HLt.out
   ·exact .yld rfl rfl rfl fun y W k hk hE hV hU=>.loadU hE.1 HBi.out HCi.out rfl (fgt hV 5 rfl)
   ·exact .yld rfl rfl rfl fun y W k hk hE hV hU=>.convert rfl (fgt hV 6 rfl) (Zgc HXi.out.1 HXi.out.2 _) rfl
   ·exact .yld rfl rfl rfl fun y W k hk hE hV hU=>.move rfl (fou (v:=.slice (some ⟨bg,og,none⟩) m cl)) rfl
   ·exact .yld rfl rfl rfl fun y W k hk hE hV hU=>.lenS Tryz.underlying26 rfl (fgt hV 8 rfl)
   ·exact .yld rfl rfl rfl fun y W k hk hE hV hU=>.remK rfl (fgt hV 7 rfl) (fgt hV 9 rfl) HXi.out HM0.out HKx.out
   ·exact .yld rfl rfl rfl fun y W k hk hE hV hU=>.rowAt Tryz.underlying26 HIQ.out HZQ.out rfl (fgt hV 2 rfl) (fgt hV 10 rfl) HKl.out
   ·exact .yld rfl rfl rfl fun y W k hk hE hV hU=>.loadQ hE.1 HBg.out HCg.out rfl (fgt hV 11 rfl)
   ·exact .yld rfl rfl rfl fun y W k hk hE hV hU=>.call Tryz.func9 (by kernel_rfl) rfl rfl rfl (ZcP (fgt hV 0 rfl) (fgt hV 1 rfl) (fgt hV 12 rfl)) (Zd6 _ HHi.out HHg.out HHn.out)
   ·exact .yld rfl rfl rfl fun y W k hk hE hV hU=>.move rfl (fgt hV 13 rfl) rfl
   ·exact .yld rfl rfl rfl fun y W k hk hE hV hU=>.extract rfl (fgt hV 14 rfl) rfl rfl
   ·exact .yld rfl rfl rfl fun y W k hk hE hV hU=>.extract rfl (fgt hV 14 rfl) rfl rfl
   ·exact .yld rfl rfl rfl fun y W k hk hE hV hU=>.allocQ hE.1.size rfl
   ·exact .sto 0 rfl rfl rfl rfl fun y W hE hV hU=>by obtain⟨Rn,cs,e17,h1,h2,h3⟩:=hge hV 17 rfl;exact .stoQ rfl ((fri).trans e17) (fgt hV 15 rfl) h2 h3 (fun W9 hq9 ho9=>⟨hE.sto e17 h1 ho9 hq9 HWn.out.symm,⟨.inr fun _ h=>h,.inr fun _ h=>h,.inr fun _ h=>h,.inr fun _ h=>h,.inr fun _ h=>h,.inr fun _ h=>h,.inr fun _ h=>h,.inr fun _ h=>h,.inr fun _ h=>h,.inr fun _ h=>h,.inr fun _ h=>h,.inr fun _ h=>h,.inr fun _ h=>h,.inr fun _ h=>h,.inr fun _ h=>h,.inr fun _ h=>h,.inr fun _ h=>h,.inr (fun u h=>h.sto ho9 hq9),.inr fun _ h=>h,trivial⟩⟩)
   ·exact .yld rfl rfl rfl fun y W k hk hE hV hU=>.assign rfl (fgt hV 16 rfl) rfl
   intro y W16 hE hV
   obtain⟨hB16,hE14⟩:=hE
   obtain⟨R14,e14,hR14,hq14⟩:=hE14 (by decide)
   have e15:y 15=_:=hend hV 19 rfl
   generalize hact:fr _ _ y=act
   simp only[fr,Zf,fC0,fN0,sA0,sZ0,sS0,e14,e15]at hact
   subst hact
   have HB16:=lhd hB16;have H14:=lhd hq14
   have HQ16:=lhd (HQr.out.keep hB16);have HO16:=lhd (HO.out.keep hB16)
   clear e14 e15 hV hB16 hE14 hq14
   go_upto_region 19 with fail
   obtain⟨d0,d1,d2,d3,d4,-⟩:=H14.out.five
   obtain⟨f0,f1,f2,f3,f4,ff⟩:=HQ16.out.five
   go_upto_region 20 with fail
   have hqs:=HQ16.out.set (wv gs n (i+1))
   have ho5:=only5 R11 (.int .i64 (wv gs n (i+1)).a) (.int .i64 (wv gs n (i+1)).b) (.int .i64 (wv gs n (i+1)).c) (.int .i64 (wv gs n (i+1)).d) (.int .i64 1) W16
   have hos:=HO16.out.setQ HQ16.out ho5 (below5 HO16.out.below (Nat.le_of_eq HR11.out.symm) _ _ _ _ _)
   obtain⟨WS,hWS⟩:=nmx ((((((W16.setCell ⟨R11,0,none⟩ (.int .i64 (wv gs n (i+1)).a)).setCell ⟨R11,1,none⟩ (.int .i64 (wv gs n (i+1)).b)).setCell ⟨R11,2,none⟩ (.int .i64 (wv gs n (i+1)).c)).setCell ⟨R11,3,none⟩ (.int .i64 (wv gs n (i+1)).d)).setCell ⟨R11,4,none⟩ (.int .i64 1)))
   rw[← hWS]at hqs hos ⊢
   have HQs:=lhd hqs;have HOs:=lhd hos
   have HTs:=lhd (HT9.out.keep hos.below)
   clear d0 d1 d2 d3 d4 f0 f1 f2 f3 f4 ff hqs ho5 hos hWS
   have HHb1:=lhd (KL HP.out HGs.out (t:=i+1) (by have:=HLt.out;have:=H4.out;omega))
   have HMem1:=lhd (Yr HP.out HGs.out (t:=i+1) (by have:=HLt.out;have:=H4.out;omega))
   have HRl:=lhd (show rs.length≤1000000 by
    have h1:=congrArg List.length HRs.out
    rw[List.length_map,XO]at h1
    have:=H4.out;have:=HLt.out;have:=H4.out;omega)
   refine wrt 6 [(0,90,VC u12),(1,91,VC (.agg #[a,b])),(2,92,VC (qv (g1 (wv gs n (i+1))))),(3,93,VC (.string ⟨(ZX (vtx (wv gs n (i+1)))).toArray⟩)),(4,94,VC (.int .i64 (cidx (vtx (wv gs n (i+1))):Int))),(5,95,OneB WS.heap.size (.int .i64 (cidx (vtx (wv gs n (i+1))):Int)))] (fun _=>True) [90,91,92,93,94,95] ⟨kv,kv,kv,kv,kv,Keeps.oneB _ _,trivial⟩ (fun _ _ _ _ _=>trivial) trivial (by decide) (Zn _ ⟨?_,?_,?_,?_,?_,?_,trivial⟩) ?_
   ·exact mvX rfl rfl rfl
   ·exact .of rfl rfl fun _ _ hB _ _ _=>.loadGr hB HTs.out.gr rfl (fou (v:=.pointer (some ⟨R9,0,none⟩)))
   ·exact .of rfl rfl fun _ _ hB _ _ _=>.loadB hB HQs.out rfl (fou (v:=.pointer (some ⟨R11,0,none⟩)))
   ·exact .of rfl rfl fun _ _ _ _ hV _=>.call Tryz.func8 (by kernel_rfl) rfl rfl rfl (Xf (fgt hV 2 rfl)) (ZbC HHb1.out)
   ·exact .of rfl rfl fun _ _ hB _ hV _=>.call Tryz.func7 (by kernel_rfl) rfl rfl rfl (Zg (fgt hV 1 rfl) (fgt hV 3 rfl)) (ZcB HP.out (HTs.out.gv.keep hB) HMem1.out)
   ·exact .of rfl rfl fun _ _ hB _ hV _=>Yl.build1 Tryz.underlying40 HI0.out HZ0.out rfl HZ1.out rfl hB.size rfl (fgt hV 4 rfl)
   intro y W20 hB hE hV
   have e0:y 90=_:=hend hV 0 rfl
   obtain⟨b5,e5,hb51,-,hb53⟩:=hend hV 5 rfl
   generalize hact:fr _ _ y=act
   simp only[fr,Zf,fC0,fN0,sA0,sZ0,sS0,e0,e5]at hact
   subst hact
   have HQ20:=lhd (HQs.out.keep hB);have HO20:=lhd (HOs.out.keep hB)
   have HC5:=lhd (Y6 hb53)
   clear e0 e5 hV hB hb51 hb53 hE
   show wpList _ _ _ [_,_] _ _
   refine YF rfl (.tmp 90) (.tmp 95) 40 rfl i0 Tryz.underlying40 HI0.out HZ0.out HZ1.out HZ2.out HO20.out (y:=(cidx (vtx (wv gs n (i+1))):Int)) (cs:=[.int .i64 (cidx (vtx (wv gs n (i+1))):Int)]) rfl ⟨b5,0,none⟩ 1 rfl rfl HC5.out HRl.out ?_
   intro v2 W21 k1 k2 k3
   have HO21:=lhd k1;have HQ21:=lhd (HQ20.out.alt (.grown k2) (HO20.out.neQ HQ20.out))
   clear k1 k2 k3
   go_wp2_with fail
   refine⟨⟨i+1,by rw[Zc HLt.out (by have:=H4.out;omega)],HLt.out,_,?_,HO21.out,HQ21.out⟩,by rw[Zc HLt.out (by have:=H4.out;omega)];simp only[intOf];have:=HLt.out;omega⟩
   rw[List.map_append,HRs.out,ZbX gs n (i+1)]
   rfl
  ·have hin:n=i:=by omega
   subst hin
   have di:=deF (p:=(n:Int)<(n:Int)) (by omega)
   have HRn:=HRs;have HOn:=HO;have HQn:=HQr;have HTn:=HTr
   clear hi hge
   have wn:IntKind.i64.wrap ((n:Int)-1)=(n:Int)-1:=by have:=H4.out;simp[IntKind.wrap,IntKind.bits,IntKind.signed];omega
   have hL4:=H4.out
   go_wp2_with fail
   clear wn hL4
   go_loopw [12,16] (fun s12 s16 wr=>∃ j:Nat,s16=.int .i64 ((j:Int)-1)∧j≤n∧CwR wB R11 gs n (n+(n-j)) s12 wr) (fun _ s16 _=>(intOf s16+1).toNat)
   case atStart =>
    refine⟨n,?_,nlr _,rs,by rw[Nat.sub_self];exact HRn.out,HOn.out,by rw[Nat.sub_self];exact HQn.out⟩
    first | rfl | (congr 1;omega)
   case round =>
    clear HRs HO HQr HTr HRn HOn HQn HTn
    obtain⟨j,e16,hj,rs,hrs,hO,hQ⟩:=hrel
    rcases j with _ | k
    ·have e1:((0:Nat):Int)-1 = -1:=by omega
     rw[e1]at e16
     subst e16
     rw[show n+(n-0)=2*n by omega]at hrs hQ
     have hnp:=hO.sl
     rw[hrs]at hnp
     have hlr:rs.length=2*n+1:=by
      have h1:=congrArg List.length hrs
      rw[List.length_map,XO]at h1
      exact h1
     obtain⟨Aw,cw,rfl,-,-⟩:=hO.len
     rw[hlr]at hnp ⊢
     obtain⟨bw,ow,rfl,hbw,hc0⟩:=Zv hnp (i:=0) (z:=wf gs n 0) (Kc (by omega))
     obtain⟨b2,o2,e2,-,hc2⟩:=Zv hnp (i:=2*n) (z:=wf gs n (2*n)) (Kc (by omega))
     injection e2 with e2;injection e2 with e2 e3
     subst e2 e3
     obtain⟨b3,o3,e3,-,hcn⟩:=Zv hnp (i:=n) (z:=wf gs n n) (Kc (by omega))
     injection e3 with e3;injection e3 with e3 e4
     subst e3 e4
     rw[wv_home HP.out HGs.out]at hc2
     have HNp:=lhd hnp;have HBw:=lhd hbw
     have HC0:=lhd (show wr.cell? ⟨bw,ow+0*1,none⟩=some (.int .i64 (wf gs n 0)) from hc0)
     have HC2:=lhd (show wr.cell? ⟨bw,ow+2*n*1,none⟩=some (.int .i64 (wf gs n 0)) by rw[Nat.mul_one];exact hc2)
     have HCn:=lhd (show wr.cell? ⟨bw,ow+n*1,none⟩=some (.int .i64 (wf gs n n)) by rw[Nat.mul_one];exact hcn)
     have HTr:=lhd (HT9.out.keep hO.below)
     have HBr:=lhd (HB9.out.trans (hO.below.mono HB9.out.size))
     clear hrs hO hQ hnp hlr hbw hc0 hc2 hcn hj e1
     go_upto_region 30 with fail
     refine Zu [(0,140,VC (.slice (some ⟨bw,ow,none⟩) (2*n+1) cw)),(1,141,VC (.bool false)),(2,142,VC (.bool false)),(3,143,VC (.agg #[a,b])),(4,144,VC (.slice (some ⟨bw,ow,none⟩) (2*n+1) cw)),(5,145,VC (.int .i64 0)),(6,146,VC (.bool false)),(7,147,VC (.bool false)),(8,148,VC (.bool false)),(9,149,VC (.slice (some ⟨bw,ow,none⟩) (2*n+1) cw)),(10,150,VC (.slice (some ⟨bw,ow,none⟩) (2*n+1) cw)),(11,151,VC (.int .i64 ((2*n+1:Nat):Int))),(12,152,VC (.int .i64 ((2*n:Nat):Int))),(13,153,VC (.pointer (some ⟨bw,ow+2*n*1,none⟩))),(14,154,VC (.int .i64 (wf gs n 0))),(15,155,VC (.slice (some ⟨bw,ow,none⟩) (2*n+1) cw)),(16,156,VC (.pointer (some ⟨bw,ow+0*1,none⟩))),(17,157,VC (.int .i64 (wf gs n 0))),(18,158,VC (.bool false)),(19,159,VC (.bool false))] (fun _=>True) [140,141,142,143,144,145,146,147,148,149,150,151,152,153,154,155,156,157,158,159] (by kernel_rfl) (by kernel_rfl) (by kernel_rfl) ⟨kv,kv,kv,kv,kv,kv,kv,kv,kv,kv,kv,kv,kv,kv,kv,kv,kv,kv,kv,kv,trivial⟩ (fun _ _ _ _ _=>trivial) trivial (Zl ⟨?_,?_,?_,?_,?_,?_,?_,?_,?_,?_,?_,?_,?_,?_,?_,?_,?_,?_,?_,?_,trivial⟩) ?_
     ·exact mvX rfl rfl rfl
     ·exact .of rfl rfl fun _ _ hB _ hV _=>.call Tryz.func11 (by kernel_rfl) rfl rfl rfl (Zg (fgt hV 0 rfl) rfl) (hasC HP.out HGs.out (Sl.keep HNp.out hB))
     ·exact .of rfl rfl fun _ _ _ _ hV _=>.move rfl (fgt hV 1 rfl) rfl
     ·exact .on (b:=false) rfl (by kernel_rfl) rfl rfl fun y W hB hE hV hU=>.loadGr hB HTr.out.gr rfl (fou (v:=.pointer (some ⟨R9,0,none⟩)))
     ·exact .on (b:=false) rfl (by kernel_rfl) rfl rfl fun y W hB hE hV hU=>.move rfl (fou (v:=.slice (some ⟨bw,ow,none⟩) (2*n+1) cw)) rfl
     ·exact .on (b:=false) rfl (by kernel_rfl) rfl rfl fun y W hB hE hV hU=>.call Tryz.func12 (by kernel_rfl) rfl rfl rfl (Zg (fgt hV 3 rfl) (fgt hV 4 rfl)) (checkC HP.out HGs.out (HTr.out.gv.keep hB) (Sl.keep HNp.out hB))
     ·exact .on (b:=false) rfl (by kernel_rfl) rfl rfl fun y W hB hE hV hU=>.binOp rfl (fgt hV 5 rfl) rfl (by simp[go_sem,eqGuard]) rfl
     ·exact .of rfl rfl fun _ _ _ _ hV _=>.pick (b:=false) rfl (fgt hV 2 rfl) (fgt hV 6 rfl) rfl
     ·exact .of rfl rfl fun _ _ _ _ hV _=>.move rfl (fgt hV 7 rfl) rfl
     ·exact .on (b:=false) rfl (by kernel_rfl) rfl rfl fun y W hB hE hV hU=>.move rfl (fou (v:=.slice (some ⟨bw,ow,none⟩) (2*n+1) cw)) rfl
     ·exact .on (b:=false) rfl (by kernel_rfl) rfl rfl fun y W hB hE hV hU=>.move rfl (fou (v:=.slice (some ⟨bw,ow,none⟩) (2*n+1) cw)) rfl
     ·exact .on (b:=false) rfl (by kernel_rfl) rfl rfl fun y W hB hE hV hU=>.lenS Tryz.underlying40 rfl (fgt hV 10 rfl)
     ·exact .on (b:=false) rfl (by kernel_rfl) rfl rfl fun y W hB hE hV hU=>.subK (q:=1) rfl (fgt hV 11 rfl) rfl (by have:=H4.out;omega) (by omega)
     ·exact .on (b:=false) rfl (by kernel_rfl) rfl rfl fun y W hB hE hV hU=>.rowAt Tryz.underlying40 HI0.out HZ1.out rfl (fgt hV 9 rfl) (fgt hV 12 rfl) (by omega)
     ·exact .on (b:=false) rfl (by kernel_rfl) rfl rfl fun y W hB hE hV hU=>.load1 rfl (fgt hV 13 rfl) (Za Tryz.underlying3 rfl ((hB.cell (p:=⟨bw,ow+2*n*1,none⟩) HBw.out).trans HC2.out)) rfl
     ·exact .on (b:=false) rfl (by kernel_rfl) rfl rfl fun y W hB hE hV hU=>.move rfl (fou (v:=.slice (some ⟨bw,ow,none⟩) (2*n+1) cw)) rfl
     ·exact .on (b:=false) rfl (by kernel_rfl) rfl rfl fun y W hB hE hV hU=>.rowAt (k:=0) Tryz.underlying40 HI0.out HZ1.out rfl (fgt hV 15 rfl) rfl (by omega)
     ·exact .on (b:=false) rfl (by kernel_rfl) rfl rfl fun y W hB hE hV hU=>.load1 rfl (fgt hV 16 rfl) (Za Tryz.underlying3 rfl ((hB.cell (p:=⟨bw,ow+0*1,none⟩) HBw.out).trans HC0.out)) rfl
     ·exact .on (b:=false) rfl (by kernel_rfl) rfl rfl fun y W hB hE hV hU=>.binOp rfl (fgt hV 14 rfl) (fgt hV 17 rfl) (by simp[go_sem,eqGuard]) rfl
     ·exact .of rfl rfl fun _ _ _ _ hV _=>.pick (b:=false) rfl (fgt hV 8 rfl) (fgt hV 18 rfl) rfl
     intro y Wx hB hE hV
     have e159:y 159=_:=hend hV 19 rfl
     generalize hact:fr _ _ y=act
     simp only[fr,Zf,fC0,fN0,sA0,sZ0,sS0,e159]at hact
     subst hact
     have HTx:=lhd (HTr.out.keep hB);have HBxx:=lhd (HBr.out.trans (hB.mono HBr.out.size))
     have HBx:=lhd (nLl HBw.out hB.size)
     have HX0:=lhd ((hB.cell (p:=⟨bw,ow+0*1,none⟩) HBw.out).trans HC0.out)
     have HXn:=lhd ((hB.cell (p:=⟨bw,ow+n*1,none⟩) HBw.out).trans HCn.out)
     obtain⟨N3,hN1,hN2,hpath⟩:=pathC HP.out HGs.out
     have HPath:=lhd hpath
     have HN1:=lhd hN1;have HN2:=lhd hN2
     clear e159 hV hB hE hpath hN1 hN2
     go_upto_region 32 with fail
     refine Zu [(0,161,VC (.agg #[a,b])),(1,162,VC (.slice (some ⟨bw,ow,none⟩) (2*n+1) cw)),(2,163,VC (.pointer (some ⟨bw,ow+0*1,none⟩))),(3,164,VC (.int .i64 (wf gs n 0))),(4,165,VC (.slice (some ⟨bw,ow,none⟩) (2*n+1) cw)),(5,166,VC (.slice A n c)),(6,167,VC (.int .i64 (n:Int))),(7,168,VC (.pointer (some ⟨bw,ow+n*1,none⟩))),(8,169,VC (.int .i64 (wf gs n n))),(9,170,(fun r _=>∃ A3 c3,r=.tuple #[.slice A3 N3 c3,.int .i64 0])),(10,160,(fun r _=>∃ A3 c3,r=.tuple #[.slice A3 N3 c3,.int .i64 0])),(11,171,(fun r _=>∃ A3 c3,r=.slice A3 N3 c3)),(12,172,VC (.int .i64 0)),(13,21,(fun r _=>∃ A3 c3,r=.slice A3 N3 c3)),(14,22,VC (.int .i64 0))] (fun _=>True) [161,162,163,164,165,166,167,168,169,170,160,171,172,21,22] (by kernel_rfl) (by kernel_rfl) (by kernel_rfl) ⟨kv,kv,kv,kv,kv,kv,kv,kv,kv,(fun _ _ _ h _=>h),(fun _ _ _ h _=>h),(fun _ _ _ h _=>h),kv,(fun _ _ _ h _=>h),kv,trivial⟩ (fun _ _ _ _ _=>trivial) trivial (Zl ⟨?_,?_,?_,?_,?_,?_,?_,?_,?_,?_,?_,?_,?_,?_,?_,trivial⟩) ?_
     ·exact .of rfl rfl fun _ _ hB _ _ _=>.loadGr hB HTx.out.gr rfl (fou (v:=.pointer (some ⟨R9,0,none⟩)))
     ·exact mvX rfl rfl rfl
     ·exact .of rfl rfl fun _ _ _ _ hV _=>.rowAt (k:=0) Tryz.underlying40 HI0.out HZ1.out rfl (fgt hV 1 rfl) rfl (by omega)
     ·exact .of rfl rfl fun _ _ hB _ hV _=>.load1 rfl (fgt hV 2 rfl) (Za Tryz.underlying3 rfl ((hB.cell (p:=⟨bw,ow+0*1,none⟩) HBx.out).trans HX0.out)) rfl
     ·exact mvX rfl rfl rfl
     ·exact mvX rfl rfl rfl
     ·exact .of rfl rfl fun _ _ _ _ hV _=>.lenS Tryz.underlying22 rfl (fgt hV 5 rfl)
     ·exact .of rfl rfl fun _ _ _ _ hV _=>.rowAt Tryz.underlying40 HI0.out HZ1.out rfl (fgt hV 4 rfl) (fgt hV 6 rfl) (by omega)
     ·exact .of rfl rfl fun _ _ hB _ hV _=>.load1 rfl (fgt hV 7 rfl) (Za Tryz.underlying3 rfl ((hB.cell (p:=⟨bw,ow+n*1,none⟩) HBx.out).trans HXn.out)) rfl
     ·exact .of rfl rfl fun _ _ hB _ hV _=>.call Tryz.func13 (by kernel_rfl) rfl rfl rfl (ZcP (fgt hV 0 rfl) (fgt hV 3 rfl) (fgt hV 8 rfl)) (HPath.out _ _ _ (HTx.out.gv.keep hB))
     ·exact .of rfl rfl fun _ _ _ _ hV _=>.move rfl fri (hge hV 9 rfl)
     ·exact .of rfl rfl fun _ _ _ _ hV _=>by obtain⟨A3,c3,e3⟩:=hge hV 10 rfl;exact .extract rfl ((fri).trans e3) rfl ⟨A3,c3,rfl⟩
     ·exact .of rfl rfl fun _ _ _ _ hV _=>by obtain⟨A3,c3,e3⟩:=hge hV 10 rfl;exact .extract rfl ((fri).trans e3) rfl rfl
     ·exact .of rfl rfl fun _ _ _ _ hV _=>.assign rfl fri (hge hV 11 rfl)
     ·exact .of rfl rfl fun _ _ _ _ hV _=>.assign rfl (fgt hV 12 rfl) rfl
     intro y Wz hB hE hV
     obtain⟨A3,c3,e21⟩:=hend hV 13 rfl
     have e22:y 22=_:=hend hV 14 rfl
     generalize hact:fr _ _ y=act
     simp only[fr,Zf,fC0,fN0,sA0,sZ0,sS0,e21,e22]at hact
     subst hact
     have HBz:=lhd (HBxx.out.trans (hB.mono HBxx.out.size))
     clear e21 e22 hV hB hE
     have z1:=deT (p:=(N3:Int)≥1) (by have:=HN1.out;omega)
     have z2:=deT (p:=(N3:Int)≤(n:Int)+1) (by have:=HN2.out;omega)
     have hn4:=H4.out
     go_wp2_with fail
     refine(HK.out _).mono ?_
     rintro e w9 ⟨_,rfl,rfl,hb⟩
     have HBe:=lhd (HBz.out.trans (hb.mono HBz.out.size))
     clear hb
     go_wp2_with fail
     go_ret
     exact⟨_,rfl,rfl,HBe.out⟩
    ·have e1:((k+1:Nat):Int)-1=(k:Int):=by omega
     rw[e1]at e16
     subst e16
     obtain⟨t,ht⟩:=nmx (n+(n-1-k))
     rw[show n+(n-(k+1))=t by omega]at hrs hQ
     have HTt:=lhd ht
     have HRs:=lhd hrs;have HO:=lhd hO;have HQr:=lhd hQ
     have HTr:=lhd (HT9.out.keep hO.below)
     have HLt:=lhd (show k<n by omega)
     clear hrs hO hQ hj ht e1
     have dk:=deT (p:=(k:Int)≥0) (by omega)
     obtain⟨x,hxi⟩:∃ x,L[k]?=some x:=⟨_,gEe (by rw[← HN.out];exact HLt.out)⟩
     have HXi:=lhd (HX.out x (mGe hxi))
     have HM0:=lhd (show 0<m by have:=HMp.out;have:=HPb.out;omega)
     obtain⟨kx,hkx⟩:=nmx (x.toNat % m)
     have HKl:=lhd (show kx<m by rw[hkx];exact Nat.mod_lt _ HM0.out)
     have hmod:Int.tmod x (m:Int)=(kx:Int):=by
      rw[Int.tmod_eq_emod_of_nonneg HXi.out.1,hkx]
      have:((x.toNat:Nat):Int)=x:=by have:=HXi.out;omega
      rw[← this];simp
     obtain⟨g,hg⟩:=nmx (gs.getD k oneH)
     have hgl:(genL p)[kx]?=some g:=by rw[hg,hkx,HGq.out];exact gsL_at HMg.out HM0.out hxi
     have HHg:=lhd (ZcC HP.out g (mGe hgl))
     have HHc:=lhd (show Hb 1000000 (qcj g) by obtain⟨k1,k2,k3,k4⟩:=HHg.out;exact⟨k1,⟨by show -1000000≤-g.b;omega,by show -g.b≤1000000;omega⟩,⟨by show -1000000≤-g.c;omega,by show -g.c≤1000000;omega⟩,⟨by show -1000000≤-g.d;omega,by show -g.d≤1000000;omega⟩⟩)
     obtain⟨bg,og,rfl,hbg,c0,c1,c2,c3,c4⟩:=qt_at HTr.out.gens (i:=kx) (z:=g1 g) (by rw[List.getElem?_map,hgl];rfl)
     obtain⟨bi,oi,rfl,hbi,hci⟩:=u8_at HTr.out.inp hxi
     have HWn:=lhd (show wv gs n (t+1)=qtm (wv gs n t) (qcj g) by rw[hg,HTt.out];exact wv_bk HLt.out)
     have HHi:=lhd (KL HP.out HGs.out (t:=t) (by have:=HTt.out;have:=HLt.out;omega))
     have HHn:=lhd (show Hb 1000000 (qtm (wv gs n t) (qcj g)) by rw[← HWn.out];exact KL HP.out HGs.out (by have:=HTt.out;have:=HLt.out;omega))
     clear hxi hkx hg hgl hbg hbi
     obtain⟨x0,x1⟩:=HXi.out
     have hkn:=HLt.out;have hkm:=HKl.out;have hm0:=HM0.out
     have hm1:((m:Int) == 0)=false:=by simp;omega
     have hcv:=Zgc x0 x1 wr
     go_wp2_with fail
     clear c0 c1 c2 c3 c4 hci hcv hm1 hmod hkn hkm hm0 x0 x1
     obtain⟨g',hg'⟩:∃ g',g'=qcj g:=⟨_,rfl⟩
     refine(ZhY wr HHg.out).mono ?_
     rintro e w17 ⟨_,rfl,rfl,hb⟩
     rw[← hg']at HHc HWn HHn ⊢
     have HO17:=lhd (HO.out.keep hb);have HQ17:=lhd (HQr.out.keep hb);have HT17:=lhd (HTr.out.keep hb)
     rw[show qv (g1 g')=.agg #[.int .i64 g'.a,.int .i64 g'.b,.int .i64 g'.c,.int .i64 g'.d,.int .i64 1] from rfl]
     clear hb hg' HO HQr HTr
     go_upto_region 25 with fail
     have hA:=(brf w17.heap.size w17).alloc (nlr _) (.cells (q5 g') 37)
     have h17:QB w17.heap.size g' (w17.alloc (.cells (q5 g') 37)):=heap_alloc_new w17 _
     obtain⟨W18,hW18⟩:=nmx (w17.alloc (.cells (q5 g') 37))
     obtain⟨R17,hR17⟩:=nmx (w17.heap.size)
     rw[← hW18]at hA h17
     change Code.wp _ _ _ _ (w17.alloc (.cells (q5 g') 37))
     rw[← hW18]
     rw[← hR17]at h17 ⊢
     have HO18:=lhd (HO17.out.keep hA);have HQ18:=lhd (HQ17.out.keep hA);have HT18:=lhd (HT17.out.keep hA)
     clear hA hW18 hR17 HO17 HQ17 HT17
     obtain⟨d0,d1,d2,d3,d4,-⟩:=h17.five
     obtain⟨f0,f1,f2,f3,f4,-⟩:=HQ18.out.five
     have a0:W18.cell? ⟨R6,0,none⟩=some (.int .i64 (-1)):=HT18.out.al.2.1 0 (by show 0<2;decide)
     have a1:W18.cell? ⟨R6,1,none⟩=some (.int .i64 (-1)):=HT18.out.al.2.1 1 (by show 1<2;decide)
     clear h17
     go_wp2_with fail
     refine(Zd6 W18 HHi.out HHc.out HHn.out).mono ?_
     rintro e w19 ⟨_,rfl,rfl,hb⟩
     rw[← HWn.out]
     obtain⟨X1,hX1⟩:=nmx (wv gs n (t+1))
     rw[← hX1]
     have HX1:=lhd hX1
     clear hX1
     have HO19:=lhd (HO18.out.keep hb);have HQ19:=lhd (HQ18.out.keep hb);have HT19:=lhd (HT18.out.keep hb)
     rw[show qv (g1 X1)=.agg #[.int .i64 X1.a,.int .i64 X1.b,.int .i64 X1.c,.int .i64 X1.d,.int .i64 1] from rfl]
     clear hb d0 d1 d2 d3 d4 f0 f1 f2 f3 f4 a0 a1 HO18 HQ18 HT18
     go_upto_region 28 with fail
     have hA:=(brf w19.heap.size w19).alloc (nlr _) (.cells (q5 X1) 37)
     have h19:QB w19.heap.size X1 (w19.alloc (.cells (q5 X1) 37)):=heap_alloc_new w19 _
     obtain⟨W20,hW20⟩:=nmx (w19.alloc (.cells (q5 X1) 37))
     obtain⟨R19,hR19⟩:=nmx (w19.heap.size)
     rw[← hW20]at hA h19
     change Code.wp _ _ _ _ (w19.alloc (.cells (q5 X1) 37))
     rw[← hW20]
     rw[← hR19]at h19 ⊢
     have hX1:=HX1.out
     clear HX1
     subst hX1
     have HO20:=lhd (HO19.out.keep hA);have HQ20:=lhd (HQ19.out.keep hA);have H19:=lhd h19
     clear hA hW20 hR19 HO19 HQ19 HT19 h19
     obtain⟨d0,d1,d2,d3,d4,-⟩:=H19.out.five
     obtain⟨f0,f1,f2,f3,f4,ff⟩:=HQ20.out.five
     go_upto_region 29 with fail
     have hqs:=HQ20.out.set (wv gs n (t+1))
     have ho5:=only5 R11 (.int .i64 (wv gs n (t+1)).a) (.int .i64 (wv gs n (t+1)).b) (.int .i64 (wv gs n (t+1)).c) (.int .i64 (wv gs n (t+1)).d) (.int .i64 1) W20
     have hos:=HO20.out.setQ HQ20.out ho5 (below5 HO20.out.below (Nat.le_of_eq HR11.out.symm) _ _ _ _ _)
     obtain⟨WS,hWS⟩:=nmx ((((((W20.setCell ⟨R11,0,none⟩ (.int .i64 (wv gs n (t+1)).a)).setCell ⟨R11,1,none⟩ (.int .i64 (wv gs n (t+1)).b)).setCell ⟨R11,2,none⟩ (.int .i64 (wv gs n (t+1)).c)).setCell ⟨R11,3,none⟩ (.int .i64 (wv gs n (t+1)).d)).setCell ⟨R11,4,none⟩ (.int .i64 1)))
     rw[← hWS]at hqs hos ⊢
     have HQs:=lhd hqs;have HOs:=lhd hos
     have HTs:=lhd (HT9.out.keep hos.below)
     clear d0 d1 d2 d3 d4 f0 f1 f2 f3 f4 ff hqs ho5 hos hWS
     have HHb1:=lhd (KL HP.out HGs.out (t:=t+1) (by have:=HTt.out;have:=HLt.out;have:=H4.out;omega))
     have HMem1:=lhd (Yr HP.out HGs.out (t:=t+1) (by have:=HTt.out;have:=HLt.out;have:=H4.out;omega))
     have HRl:=lhd (show rs.length≤1000000 by
      have h1:=congrArg List.length HRs.out
      rw[List.length_map,XO]at h1
      have:=H4.out;have:=HTt.out;have:=HLt.out;have:=H4.out;omega)
     refine wrt 6 [(0,133,VC u12),(1,134,VC (.agg #[a,b])),(2,135,VC (qv (g1 (wv gs n (t+1))))),(3,136,VC (.string ⟨(ZX (vtx (wv gs n (t+1)))).toArray⟩)),(4,137,VC (.int .i64 (cidx (vtx (wv gs n (t+1))):Int))),(5,138,OneB WS.heap.size (.int .i64 (cidx (vtx (wv gs n (t+1))):Int)))] (fun _=>True) [133,134,135,136,137,138] ⟨kv,kv,kv,kv,kv,Keeps.oneB _ _,trivial⟩ (fun _ _ _ _ _=>trivial) trivial (by decide) (Zn _ ⟨?_,?_,?_,?_,?_,?_,trivial⟩) ?_
     ·exact mvX rfl rfl rfl
     ·exact .of rfl rfl fun _ _ hB _ _ _=>.loadGr hB HTs.out.gr rfl (fou (v:=.pointer (some ⟨R9,0,none⟩)))
     ·exact .of rfl rfl fun _ _ hB _ _ _=>.loadB hB HQs.out rfl (fou (v:=.pointer (some ⟨R11,0,none⟩)))
     ·exact .of rfl rfl fun _ _ _ _ hV _=>.call Tryz.func8 (by kernel_rfl) rfl rfl rfl (Xf (fgt hV 2 rfl)) (ZbC HHb1.out)
     ·exact .of rfl rfl fun _ _ hB _ hV _=>.call Tryz.func7 (by kernel_rfl) rfl rfl rfl (Zg (fgt hV 1 rfl) (fgt hV 3 rfl)) (ZcB HP.out (HTs.out.gv.keep hB) HMem1.out)
     ·exact .of rfl rfl fun _ _ hB _ hV _=>Yl.build1 Tryz.underlying40 HI0.out HZ0.out rfl HZ1.out rfl hB.size rfl (fgt hV 4 rfl)
     intro y W20 hB hE hV
     have e0:y 133=_:=hend hV 0 rfl
     obtain⟨b5,e5,hb51,-,hb53⟩:=hend hV 5 rfl
     generalize hact:fr _ _ y=act
     simp only[fr,Zf,fC0,fN0,sA0,sZ0,sS0,e0,e5]at hact
     subst hact
     have HQ20:=lhd (HQs.out.keep hB);have HO20:=lhd (HOs.out.keep hB)
     have HC5:=lhd (Y6 hb53)
     clear e0 e5 hV hB hb51 hb53 hE
     show wpList _ _ _ [_,_] _ _
     refine YF rfl (.tmp 133) (.tmp 138) 40 rfl i0 Tryz.underlying40 HI0.out HZ0.out HZ1.out HZ2.out HO20.out (y:=(cidx (vtx (wv gs n (t+1))):Int)) (cs:=[.int .i64 (cidx (vtx (wv gs n (t+1))):Int)]) rfl ⟨b5,0,none⟩ 1 rfl rfl HC5.out HRl.out ?_
     intro v2 W21 k1 k2 k3
     have HO21:=lhd k1;have HQ21:=lhd (HQ20.out.alt (.grown k2) (HO20.out.neQ HQ20.out))
     clear k1 k2 k3
     have w1:IntKind.i64.wrap ((k:Int)-1)=(k:Int)-1:=by have:=HLt.out;have:=H4.out;simp[IntKind.wrap,IntKind.bits,IntKind.signed];omega
     go_wp2_with fail
     refine⟨⟨k,rfl,by have:=HLt.out;omega,_,?_,HO21.out,?_⟩,by simp only[intOf];omega⟩
     ·rw[show n+(n-k)=t+1 by have:=HTt.out;have:=HLt.out;omega,List.map_append,HRs.out,ZbX gs n (t+1)]
      rfl
     ·rw[show n+(n-k)=t+1 by have:=HTt.out;have:=HLt.out;omega]
      exact HQ21.out
theorem ZaW(A:Option Addr)(L:List Int)(c:Nat)(ot:Bool)(w:World)(hin:Sl eU8 L (.slice A L.length c) w)(hx:∀ x∈L,0≤x∧x<256)(hLm:L.length≤maxLen) :
  Calls Tryz.prog 3 #[.slice A L.length c,.bool ot] w fun e w'=>e=.returned (.bool true)∧Below w.heap.size w w':=
 (Zjr L A c ot w hin hx hLm).mono fun _ _ ⟨_,h1,h2,h3⟩=>by subst h1;exact⟨congrArg Ending.returned h2,h3⟩
end Go.Proofs.YthkklilhjnpedaaGreatDoor
