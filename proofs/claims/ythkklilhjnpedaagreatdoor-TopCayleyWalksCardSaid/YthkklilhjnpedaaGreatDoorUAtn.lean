/- The iterator of the classes: it hands out clsL. -/
import Derived.Test.YthkklilhjnpedaaGreatDoorUBck
import Derived.Test.YthkklilhjnpedaaGreatDoorUEci
import Derived.Test.YthkklilhjnpedaaGreatDoorUGnm
set_option maxHeartbeats 16000000
set_option maxRecDepth 8000
namespace Go.Proofs.YthkklilhjnpedaaGreatDoor
section
open Go.RowKit FF
attribute [local go_sem] Oper.semAt_some
theorem ZhN{a b:Value}{names:List (List UInt8)}{edges:List (List Int)}{k:Nat}{s:List UInt8}{w:World}(hg:GV names edges a b w)(hl:names.length≤100000)(hk:names[k]?=some s)(hd:∀ i,i<k→names[i]?≠some s) :
  Calls Tryz.prog 7 #[.agg #[a,b],.string ⟨s.toArray⟩] w (Zb (VC (.int .i64 (k:Int))) w):=by
 obtain⟨A,ca,rfl,-,-⟩:=hg.1.len
 obtain⟨n,hn⟩:=nmx (names.length)
 rw[← hn]at hg hl ⊢
 have HG:=lhd hg;have HL:=lhd hl;have HK:=lhd hk;have HD:=lhd hd;have HN:=lhd hn
 have HKl:=lhd (show k<n by rw[hn];exact(List.getElem?_eq_some_iff.1 hk).1)
 clear hg hl hk hd hn
 go_enter Tryz.func7,Tryz.ntmps7
 obtain⟨Ab,cb,rfl,-,-⟩:=HG.out.2.len
 obtain⟨m,hm⟩:=nmx (edges.length)
 rw[← hm]at HG ⊢
 clear hm
 go_upto_region 1 with fail
 have hgb:=GBox.new (a:=.slice A n ca) (b:=.slice Ab m cb) (W:=w)
 have hA:=(brf w.heap.size w).alloc (nlr _) (.cells #[.slice A n ca,.slice Ab m cb] 33)
 obtain⟨W0,hW0⟩:=nmx (w.alloc (.cells #[.slice A n ca,.slice Ab m cb] 33))
 obtain⟨R,hR⟩:=nmx (w.heap.size)
 rw[← hW0]at hA hgb ⊢
 rw[← hR]at hgb ⊢
 have HA:=lhd hA
 obtain⟨-,q0,q1⟩:=hgb
 have HS:=lhd (HG.out.keep hA).1
 clear hA hW0 hR
 go_wp2_with fail
 go_loopw [5] (fun s5 wr=>∃ i:Nat,s5=.int .i64 i∧i≤k∧wr=W0) (fun s5 _=>n-(intOf s5).toNat)
 case atStart=>exact⟨0,rfl,Nat.zero_le _,rfl⟩
 case round =>
  obtain⟨i,rfl,hi,rfl⟩:=hrel
  have hin:i<n:=by have:=HKl.out;omega
  have HIn:=lhd hin
  have di:=deT (p:=(i:Int)<(n:Int)) (by omega)
  obtain⟨x,hx⟩:∃ x,names[i]?=some x:=⟨_,gEe (by rw[← HN.out];exact hin)⟩
  obtain⟨bS,oS,rfl,hbS,hcS⟩:=Zc3 HS.out hx
  by_cases hik:i=k
  ·subst hik
   obtain rfl:x=s:=by have:=HK.out;rw[hx]at this;exact oSi this
   clear hx hbS
   go_wp2_with fail
   go_ret
   exact⟨_,rfl,rfl,HA.out⟩
  ·have hne:¬ x=s:=fun e=>HD.out i (by omega) (by rw[hx,e])
   have HIk:=lhd (show i<k by omega)
   have hbe:(x == s)=false:=beq_eq_false_iff_ne.2 hne
   clear hx hbS hne hik hi
   go_wp2_with fail
   exact⟨⟨i+1,by rw[Zc HIn.out (by have:=HL.out;omega)],HIk.out,trivial⟩,by rw[Zc HIn.out (by have:=HL.out;omega)];simp only[intOf];have:=HIn.out;omega⟩
attribute [local go_sem] Oper.semAt_some
theorem UH(n:Int)(h:-9223372036854775808≤n∧n≤9223372036854775807):wrap64 n=n:=by unfold wrap64;omega
def rmat(g:Hw):Hw:=⟨g.a+2*g.b,g.c+2*g.d,-g.c+2*g.d,g.a-2*g.b⟩
def ent(m:Hw):Nat→Int
 | 0=>m.a
 | 1=>m.b
 | 2=>m.c
 | _=>m.d
theorem Zf2{g:Hw}{f:Nat}(hf:f≤3)(h0:∀ i,i<f→ent (rmat g) i % 5=0)(h1:f=3∨ent (rmat g) f % 5≠0):cby (cmat g)=inv5 (ent (rmat g) f % 5):=by
 have e0:(cmat g).a=ent (rmat g) 0 % 5:=rfl
 have e1:(cmat g).b=ent (rmat g) 1 % 5:=rfl
 have e2:(cmat g).c=ent (rmat g) 2 % 5:=rfl
 have e3:(cmat g).d=ent (rmat g) 3 % 5:=rfl
 unfold cby
 rw[e0,e1,e2,e3]
 rcases(show f=0∨f=1∨f=2∨f=3 by omega) with rfl | rfl | rfl | rfl
 ·rw[if_pos (h1.resolve_left (by omega))]
 ·rw[if_neg (by rw[h0 0 (by omega)];decide),if_pos (h1.resolve_left (by omega))]
 ·rw[if_neg (by rw[h0 0 (by omega)];decide),if_neg (by rw[h0 1 (by omega)];decide),if_pos (h1.resolve_left (by omega))]
 ·rw[if_neg (by rw[h0 0 (by omega)];decide),if_neg (by rw[h0 1 (by omega)];decide),if_neg (by rw[h0 2 (by omega)];decide)]
def nmL(m:Hw):Nat→List UInt8
 | 0=>[]
 | 1=>dg (ent m 0)
 | i+2=>nmL m (i+1)++[44]++dg (ent m (i+1))
theorem Zcy(m:Hw):∀ i,(nmL m i).length≤2*i
 | 0=>by simp[nmL]
 | 1=>by simp[nmL,dg]
 | i+2=>by
  have:=Zcy m (i+1)
  simp[nmL,dg];omega
theorem ZdY(m:Hw):nmL m 4=ZX m:=rfl
theorem Zar(g:Hw){i:Nat}(hi:i<4):(ent (rmat g) i*cby (cmat g)) % 5=ent (vtx g) i:=by
 have key:∀ x:Int,(x*cby (cmat g)) % 5=(x % 5*cby (cmat g)) % 5:=fun x=>by
  have h:=Int.mul_emod (x % 5) (cby (cmat g)) 5
  rw[Int.emod_emod_of_dvd x (Int.dvd_refl 5)]at h
  rw[Int.mul_emod x,h]
 rw[key]
 rcases(show i=0∨i=1∨i=2∨i=3 by omega) with rfl | rfl | rfl | rfl <;> rfl
theorem Zf3(g:Hw)(i:Nat)(hi:i<4):ent (vtx g) i∈up5:=by rw[← Zar g hi];exact YU _
theorem Zf4{e:Nat}(he:e<5):(#[.int .i64 0,.int .i64 1,.int .i64 3,.int .i64 2,.int .i64 4]:Array Value)[e]?=some (.int .i64 (inv5 (e:Int))):=by
 rcases(show e=0∨e=1∨e=2∨e=3∨e=4 by omega) with rfl | rfl | rfl | rfl | rfl <;> rfl
theorem UW{W:World}{R:Nat}{m:Hw}(h:Cells W R #[.int .i64 m.a,.int .i64 m.b,.int .i64 m.c,.int .i64 m.d]){i:Nat}(hi:i<4):W.cell? ⟨R,i,none⟩=some (.int .i64 (ent m i)):=by
 obtain⟨z0,z1,z2,z3⟩:=h.four
 rcases(show i=0∨i=1∨i=2∨i=3 by omega) with rfl | rfl | rfl | rfl
 ·exact z0
 ·exact z1
 ·exact z2
 ·exact z3
theorem ent_bnd{g:Hw}(hb:Hb 1000000 g)(i:Nat):-3000000≤ent (rmat g) i∧ent (rmat g) i≤3000000:=by
 obtain⟨h0,h1,h2,h3⟩:=hb
 unfold rmat ent
 split <;> simp only <;> omega
theorem YL(a b:List UInt8):(⟨a.toArray⟩:ByteArray)++⟨b.toArray⟩=⟨(a++b).toArray⟩:=by
 apply ByteArray.ext;simp
theorem Za9{x b:Int}(hx:-3000000≤x∧x≤3000000)(hb:0≤b∧b≤4):-12000000≤x*b∧x*b≤12000000:=by
 rcases(show b=0∨b=1∨b=2∨b=3∨b=4 by omega) with rfl | rfl | rfl | rfl | rfl <;> omega
theorem ZbC{h:Hw}{w:World}(hb:Hb 1000000 h):Calls Tryz.prog 8 #[qv (g1 h)] w (Zb (VC (.string ⟨(ZX (vtx h)).toArray⟩)) w):=by
 obtain⟨g,hg⟩:=nmx (h)
 have HB:=lhd (fun i=>ent_bnd hb i);have HG:=lhd hg
 rw[← hg]at HB ⊢
 obtain⟨x0,x1,x2,x3⟩:=h
 obtain⟨hb0,hb1,hb2,hb3⟩:=hb
 simp only at hb0 hb1 hb2 hb3
 rw[show qv (g1 g)=.agg #[.int .i64 x0,.int .i64 x1,.int .i64 x2,.int .i64 x3,.int .i64 1] by rw[hg];rfl]
 go_enter Tryz.func8,Tryz.ntmps8
 have w1:=UH (2*x1) (by omega);have w2:=UH (x0+2*x1) (by omega);have w3:=UH (2*x3) (by omega);have w4:=UH (x2+2*x3) (by omega)
 have w5:=UH (-x2) (by omega);have w6:=UH (-x2+2*x3) (by omega);have w7:=UH (x0-2*x1) (by omega)
 clear hb0 hb1 hb2 hb3 hg
 go_upto_region 2 with fail
 have hA:=((Below.refl w.heap.size w).alloc (Nat.le_refl _) (.cells #[.int .i64 x0,.int .i64 x1,.int .i64 x2,.int .i64 x3,.int .i64 1] 37)).alloc (by simp) (.cells #[.int .i64 (x0+2*x1),.int .i64 (x2+2*x3),.int .i64 (-x2+2*x3),.int .i64 (x0-2*x1)] 66)
 have h3:=Cells.new (w.alloc (.cells #[.int .i64 x0,.int .i64 x1,.int .i64 x2,.int .i64 x3,.int .i64 1] 37)) #[.int .i64 (x0+2*x1),.int .i64 (x2+2*x3),.int .i64 (-x2+2*x3),.int .i64 (x0-2*x1)] 66 rfl
 rw[show(w.alloc (.cells #[.int .i64 x0,.int .i64 x1,.int .i64 x2,.int .i64 x3,.int .i64 1] 37)).heap.size=w.heap.size+1 by simp]at h3
 obtain⟨WA,hWA⟩:=nmx (((w.alloc (.cells #[.int .i64 x0,.int .i64 x1,.int .i64 x2,.int .i64 x3,.int .i64 1] 37)).alloc (.cells #[.int .i64 (x0+2*x1),.int .i64 (x2+2*x3),.int .i64 (-x2+2*x3),.int .i64 (x0-2*x1)] 66)))
 obtain⟨R3,hR3⟩:=nmx (w.heap.size+1)
 rw[← hWA]at hA h3 ⊢
 rw[← hR3]at h3 ⊢
 have HA:=lhd hA
 have H3:=lhd (show Cells WA R3 #[.int .i64 (rmat g).a,.int .i64 (rmat g).b,.int .i64 (rmat g).c,.int .i64 (rmat g).d] by rw[HG.out];exact h3)
 clear hA h3 hWA hR3 w1 w2 w3 w4 w5 w6 w7
 go_wp2_with fail
 go_loopw [4] (fun s4 wr=>∃ f:Nat,s4=.int .i64 f∧f≤3∧(∀ i,i<f→ent (rmat g) i % 5=0)∧Below WA.heap.size WA wr) (fun s4 _=>3-(intOf s4).toNat)
 case atStart=>exact⟨0,rfl,by omega,fun i hi=>absurd hi (by omega),brf _ _⟩
 case round =>
  obtain⟨f,rfl,hf,hz,hB⟩:=hrel
  have HZ:=lhd hz;have HBr:=lhd hB;have HF:=lhd hf
  clear hz hB
  obtain⟨Wr,hwr⟩:∃ Wr:World,Wr=wr:=⟨_,rfl⟩
  subst hwr
  by_cases hf3:f=3
  ·have HBw:=lhd HBr.out
   have df:decide ((f:Int)<(3:Int))=false:=deF (by omega)
   have HX:=lhd (show f=3∨ent (rmat g) f % 5≠0 from .inl hf3)
   clear hf hf3
   have hq5:(Wr.alloc (.cells #[.int .i64 0,.int .i64 1,.int .i64 3,.int .i64 2,.int .i64 4] 3)).cell? ⟨R3,f,none⟩=some (.int .i64 (ent (rmat g) f)):=UW ((H3.out.keep HBw.out).keep ((brf _ _).alloc (nlr _) _)) (by have:=HF.out;omega)
   obtain⟨e,he,he5⟩:∃ e:Nat,ent (rmat g) f % 5=(e:Int)∧e<5:=⟨(ent (rmat g) f % 5).toNat,by omega,by omega⟩
   have HMe:=lhd (fun W=>show Calls Tryz.prog 32 #[.int .i64 (ent (rmat g) f),.int .i64 5] W (Zb (VC (.int .i64 (e:Int))) W) from he ▸ UX (ent (rmat g) f) W ⟨by have:=HB.out f;omega,by have:=HB.out f;omega⟩)
   obtain⟨b0,hb0⟩:∃ b,b=inv5 (e:Int):=⟨_,rfl⟩
   have HB0:=lhd (show cby (cmat g)=b0 by rw[hb0,← he];exact Zf2 HF.out HZ.out HX.out)
   have HB0b:=lhd (show 0≤b0∧b0≤4 by rw[hb0];exact Ub (ZcK (by omega) (by omega)))
   have HE5:=lhd he5;have Hb0:=lhd hb0
   have hfl:f<4:=by have:=HF.out;omega
   clear he hb0
   go_wp2_with fail
   refine(HMe.out _).mono ?_
   rintro e' w6 ⟨_,rfl,rfl,hb6⟩
   have hA6:=((brf Wr.heap.size Wr).alloc (nlr _) (.cells #[.int .i64 0,.int .i64 1,.int .i64 3,.int .i64 2,.int .i64 4] 3))
   have qT:w6.cell? ⟨Wr.heap.size,e,none⟩=some (.int .i64 b0):=by
    rw[Hb0.out,hb6.cell (p:=⟨Wr.heap.size,e,none⟩) (by simp),Xs]
    exact Zf4 HE5.out
   have HB6:=lhd (HBw.out.trans ((hA6.trans (hb6.mono hA6.size)).mono HBw.out.size))
   clear hb6 hA6 hq5 hfl
   go_wp2_with fail
   clear qT he5
   go_loopw [6,7] (fun s6 s7 wr=>∃ i:Nat,s7=.int .i64 i∧i≤4∧s6=.string ⟨(nmL (vtx g) i).toArray⟩∧Below w6.heap.size w6 wr) (fun _ s7 _=>4-(intOf s7).toNat)
   case atStart=>exact⟨0,rfl,by omega,rfl,brf _ _⟩
   case round =>
    obtain⟨i,rfl,hi,rfl,hB2⟩:=hrel
    have HB2:=lhd hB2
    clear hB2
    rcases Nat.lt_or_ge i 4 with hlt | hge
    ·have di:=deT (p:=(i:Int)<(4:Int)) (by omega)
     have HIl:=lhd hlt
     have c0:=UW ((H3.out.keep HB6.out).keep HB2.out) hlt
     have HMi:=lhd (fun W=>show Calls Tryz.prog 32 #[.int .i64 (ent (rmat g) i*b0),.int .i64 5] W (Zb (VC (.int .i64 (ent (vtx g) i))) W) from by
      have h:=UX (ent (rmat g) i*b0) W ⟨by have:=Za9 (HB.out i) HB0b.out;omega,by have:=Za9 (HB.out i) HB0b.out;omega⟩
      rw[← HB0.out,Zar g HIl.out]at h
      rw[← HB0.out];exact h)
     have HDe:=lhd (fun W=>Zbq (Zf3 g i HIl.out) W)
     have wm:=UH (ent (rmat g) i*b0) (by have:=Za9 (HB.out i) HB0b.out;omega)
     have HNl:=lhd (show(nmL (vtx g) i).length≤8 by have:=Zcy (vtx g) i;omega)
     rcases Nat.eq_zero_or_pos i with h0 | h0
     ·subst h0
      clear hi
      go_wp2_with fail
      refine(HMi.out _).mono ?_
      rintro e' w7 ⟨_,rfl,rfl,hb7⟩
      have HB7:=lhd (HB2.out.trans (hb7.mono HB2.out.size))
      clear hb7 c0 wm
      go_wp2_with fail
      refine(HDe.out _).mono ?_
      rintro e' w8 ⟨_,rfl,rfl,hb8⟩
      have HB8:=lhd (HB7.out.trans (hb8.mono HB7.out.size))
      clear hb8
      have qs:¬ (9223372036854775807:Int)<((nmL (vtx g) 0).length:Int)+((dg (ent (vtx g) 0)).length:Int):=by have:=HNl.out;simp[dg];omega
      go_wp2_with fail
      exact⟨⟨1,rfl,by omega,congrArg Value.string (YL [] (dg (ent (vtx g) 0))),HB8.out⟩,by simp only[intOf];omega⟩
     ·obtain⟨k,rfl⟩:∃ k,i=k+1:=⟨i-1,by omega⟩
      have d0:decide ((0:Int)<((k+1:Nat):Int))=true:=deT (by omega)
      have qs:¬ (9223372036854775807:Int)<((nmL (vtx g) (k+1)).length:Int)+1:=by have:=HNl.out;omega
      clear hi
      go_wp2_with fail
      refine(HMi.out _).mono ?_
      rintro e' w7 ⟨_,rfl,rfl,hb7⟩
      have HB7:=lhd (HB2.out.trans (hb7.mono HB2.out.size))
      clear hb7 c0 wm qs
      go_wp2_with fail
      refine(HDe.out _).mono ?_
      rintro e' w8 ⟨_,rfl,rfl,hb8⟩
      have HB8:=lhd (HB7.out.trans (hb8.mono HB7.out.size))
      clear hb8
      rw[YL (nmL (vtx g) (k+1)) [44]]
      have qs2:¬ 9223372036854775807<(nmL (vtx g) (k+1)).length+1+(dg (ent (vtx g) (k+1))).length:=by have:=HNl.out;simp[dg];omega
      go_wp2_with fail
      exact⟨⟨k+2,rfl,by have:=HIl.out;omega,congrArg Value.string (YL (nmL (vtx g) (k+1)++[44]) (dg (ent (vtx g) (k+1)))),HB8.out⟩,by simp only[intOf];have:=HIl.out;omega⟩
    ·obtain rfl:i=4:=by omega
     have di:decide (((4:Nat):Int)<(4:Int))=false:=by decide
     clear hge hi
     go_wp2_with fail
     go_ret
     exact⟨_,rfl,by rw[← ZdY];rfl,HA.out.trans ((HB6.out.trans (HB2.out.mono HB6.out.size)).mono HA.out.size)⟩
  ·have df:=deT (p:=(f:Int)<(3:Int)) (by omega)
   have hfl2:f<4:=by omega
   have c0:=UW (H3.out.keep HBr.out) hfl2
   have HM:=lhd (fun W=>UX (ent (rmat g) f) W ⟨by have:=HB.out f;omega,by have:=HB.out f;omega⟩)
   have HF2:=lhd (show f<3 by omega)
   go_wp2_with fail
   refine(HM.out _).mono ?_
   rintro e' w5 ⟨_,rfl,rfl,hb5⟩
   have HBw:=lhd (HBr.out.trans (hb5.mono HBr.out.size))
   clear hb5 c0 hfl2
   by_cases hz:ent (rmat g) f % 5=0
   ·have dz:((ent (rmat g) f % 5) == 0)=true:=by rw[hz];rfl
    have HZ2:=lhd hz
    clear hz hf3
    go_wp2_with fail
    refine⟨⟨f+1,rfl,HF2.out,fun i hi=>?_,HBw.out⟩,by simp only[intOf];have:=HF2.out;omega⟩
    by_cases hif:i=f
    ·rw[hif];exact HZ2.out
    ·exact HZ.out i (by omega)
   ·have dz:((ent (rmat g) f % 5) == 0)=false:=beq_eq_false_iff_ne.2 hz
    have HX:=lhd (show f=3∨ent (rmat g) f % 5≠0 from .inr hz)
    clear hz hf hf3
    have hq5:(w5.alloc (.cells #[.int .i64 0,.int .i64 1,.int .i64 3,.int .i64 2,.int .i64 4] 3)).cell? ⟨R3,f,none⟩=some (.int .i64 (ent (rmat g) f)):=UW ((H3.out.keep HBw.out).keep ((brf _ _).alloc (nlr _) _)) (by have:=HF.out;omega)
    obtain⟨e,he,he5⟩:∃ e:Nat,ent (rmat g) f % 5=(e:Int)∧e<5:=⟨(ent (rmat g) f % 5).toNat,by omega,by omega⟩
    have HMe:=lhd (fun W=>show Calls Tryz.prog 32 #[.int .i64 (ent (rmat g) f),.int .i64 5] W (Zb (VC (.int .i64 (e:Int))) W) from he ▸ UX (ent (rmat g) f) W ⟨by have:=HB.out f;omega,by have:=HB.out f;omega⟩)
    obtain⟨b0,hb0⟩:∃ b,b=inv5 (e:Int):=⟨_,rfl⟩
    have HB0:=lhd (show cby (cmat g)=b0 by rw[hb0,← he];exact Zf2 HF.out HZ.out HX.out)
    have HB0b:=lhd (show 0≤b0∧b0≤4 by rw[hb0];exact Ub (ZcK (by omega) (by omega)))
    have HE5:=lhd he5;have Hb0:=lhd hb0
    have hfl:f<4:=by have:=HF.out;omega
    clear he hb0
    go_wp2_with fail
    refine(HMe.out _).mono ?_
    rintro e' w6 ⟨_,rfl,rfl,hb6⟩
    have hA6:=((brf w5.heap.size w5).alloc (nlr _) (.cells #[.int .i64 0,.int .i64 1,.int .i64 3,.int .i64 2,.int .i64 4] 3))
    have qT:w6.cell? ⟨w5.heap.size,e,none⟩=some (.int .i64 b0):=by
     rw[Hb0.out,hb6.cell (p:=⟨w5.heap.size,e,none⟩) (by simp),Xs]
     exact Zf4 HE5.out
    have HB6:=lhd (HBw.out.trans ((hA6.trans (hb6.mono hA6.size)).mono HBw.out.size))
    clear hb6 hA6 hq5 hfl
    go_wp2_with fail
    clear qT he5
    go_loopw [6,7] (fun s6 s7 wr=>∃ i:Nat,s7=.int .i64 i∧i≤4∧s6=.string ⟨(nmL (vtx g) i).toArray⟩∧Below w6.heap.size w6 wr) (fun _ s7 _=>4-(intOf s7).toNat)
    case atStart=>exact⟨0,rfl,by omega,rfl,brf _ _⟩
    case round =>
     obtain⟨i,rfl,hi,rfl,hB2⟩:=hrel
     have HB2:=lhd hB2
     clear hB2
     rcases Nat.lt_or_ge i 4 with hlt | hge
     ·have di:=deT (p:=(i:Int)<(4:Int)) (by omega)
      have HIl:=lhd hlt
      have c0:=UW ((H3.out.keep HB6.out).keep HB2.out) hlt
      have HMi:=lhd (fun W=>show Calls Tryz.prog 32 #[.int .i64 (ent (rmat g) i*b0),.int .i64 5] W (Zb (VC (.int .i64 (ent (vtx g) i))) W) from by
       have h:=UX (ent (rmat g) i*b0) W ⟨by have:=Za9 (HB.out i) HB0b.out;omega,by have:=Za9 (HB.out i) HB0b.out;omega⟩
       rw[← HB0.out,Zar g HIl.out]at h
       rw[← HB0.out];exact h)
      have HDe:=lhd (fun W=>Zbq (Zf3 g i HIl.out) W)
      have wm:=UH (ent (rmat g) i*b0) (by have:=Za9 (HB.out i) HB0b.out;omega)
      have HNl:=lhd (show(nmL (vtx g) i).length≤8 by have:=Zcy (vtx g) i;omega)
      rcases Nat.eq_zero_or_pos i with h0 | h0
      ·subst h0
       clear hi
       go_wp2_with fail
       refine(HMi.out _).mono ?_
       rintro e' w7 ⟨_,rfl,rfl,hb7⟩
       have HB7:=lhd (HB2.out.trans (hb7.mono HB2.out.size))
       clear hb7 c0 wm
       go_wp2_with fail
       refine(HDe.out _).mono ?_
       rintro e' w8 ⟨_,rfl,rfl,hb8⟩
       have HB8:=lhd (HB7.out.trans (hb8.mono HB7.out.size))
       clear hb8
       have qs:¬ (9223372036854775807:Int)<((nmL (vtx g) 0).length:Int)+((dg (ent (vtx g) 0)).length:Int):=by have:=HNl.out;simp[dg];omega
       go_wp2_with fail
       exact⟨⟨1,rfl,by omega,congrArg Value.string (YL [] (dg (ent (vtx g) 0))),HB8.out⟩,by simp only[intOf];omega⟩
      ·obtain⟨k,rfl⟩:∃ k,i=k+1:=⟨i-1,by omega⟩
       have d0:decide ((0:Int)<((k+1:Nat):Int))=true:=deT (by omega)
       have qs:¬ (9223372036854775807:Int)<((nmL (vtx g) (k+1)).length:Int)+1:=by have:=HNl.out;omega
       clear hi
       go_wp2_with fail
       refine(HMi.out _).mono ?_
       rintro e' w7 ⟨_,rfl,rfl,hb7⟩
       have HB7:=lhd (HB2.out.trans (hb7.mono HB2.out.size))
       clear hb7 c0 wm qs
       go_wp2_with fail
       refine(HDe.out _).mono ?_
       rintro e' w8 ⟨_,rfl,rfl,hb8⟩
       have HB8:=lhd (HB7.out.trans (hb8.mono HB7.out.size))
       clear hb8
       rw[YL (nmL (vtx g) (k+1)) [44]]
       have qs2:¬ 9223372036854775807<(nmL (vtx g) (k+1)).length+1+(dg (ent (vtx g) (k+1))).length:=by have:=HNl.out;simp[dg];omega
       go_wp2_with fail
       exact⟨⟨k+2,rfl,by have:=HIl.out;omega,congrArg Value.string (YL (nmL (vtx g) (k+1)++[44]) (dg (ent (vtx g) (k+1)))),HB8.out⟩,by simp only[intOf];have:=HIl.out;omega⟩
     ·obtain rfl:i=4:=by omega
      have di:decide (((4:Nat):Int)<(4:Int))=false:=by decide
      clear hge hi
      go_wp2_with fail
      go_ret
      exact⟨_,rfl,by rw[← ZdY];rfl,HA.out.trans ((HB6.out.trans (HB2.out.mono HB6.out.size)).mono HA.out.size)⟩
end
end Go.Proofs.YthkklilhjnpedaaGreatDoor
section
namespace FF
def oneH:Hw:=⟨1,0,0,0⟩
def stg(gs:List Hw)(n t:Nat):Hw:=if t<n then gs.getD t oneH else qcj (gs.getD (2*n-1-t) oneH)
def wv(gs:List Hw)(n:Nat):Nat→Hw
 | 0=>oneH
 | t+1=>qtm (wv gs n t) (stg gs n t)
def wf(gs:List Hw)(n t:Nat):Int:=(cidx (vtx (wv gs n t)):Int)
def Ym(gs:List Hw)(n k:Nat):List Int:=(List.range k).map (wf gs n)
theorem XO(gs:List Hw)(n k:Nat):(Ym gs n k).length=k:=by simp[Ym]
theorem ZbX(gs:List Hw)(n k:Nat):Ym gs n (k+1)=Ym gs n k++[wf gs n k]:=by simp[Ym,List.range_succ]
theorem Kc{gs:List Hw}{n k t:Nat}(h:t<k):(Ym gs n k)[t]?=some (wf gs n t):=by
 unfold Ym
 rw[List.getElem?_map,List.getElem?_range h];rfl
structure GsOk(p:Int)(gs:List Hw)(n:Nat):Prop where
 len:gs.length=n
 n4:n≤4
 mem:∀ g∈gs,g∈genL p
theorem GsOk.at{p:Int}{gs:List Hw}{n t:Nat}(h:GsOk p gs n)(ht:t<n):gs.getD t oneH∈genL p:=by
 rw[gDg,gEe (by rw[h.len];exact ht)]
 exact h.mem _ (List.getElem_mem _)
theorem ZbD{p:Int}(hp:p=13∨p=17){g:Hw}(hg:g∈genL p):qcj g∈genL p∧hsum g=p:=by
 rcases hp with rfl | rfl
 ·exact conj13 g hg
 ·exact conj17 g hg
theorem Zf5{p:Int}(hp:p=13∨p=17){gs:List Hw}{n t:Nat}(h:GsOk p gs n)(ht:t<2*n):stg gs n t∈genL p:=by
 unfold stg
 by_cases hn:t<n
 ·rw[if_pos hn];exact h.at hn
 ·rw[if_neg hn];exact(ZbD hp (h.at (by omega))).1
theorem ZdZ{p:Int}(hp:p=13∨p=17){gs:List Hw}{n:Nat}(h:GsOk p gs n):∀ t,t≤2*n→hsum (wv gs n t)=p ^ t
 | 0,_=>by rw[wv,Int.pow_zero];decide
 | t+1,ht=>by
  rw[wv,hsum_qtm,ZdZ hp h t (by omega),(ZbD hp (Zf5 hp h (by omega))).2,Int.pow_succ]
theorem p5{p:Int}(hp:p=13∨p=17):∀ t,p ^ t % 5≠0
 | 0=>by simp
 | t+1=>by
  have h:=p5 hp t
  rw[Int.pow_succ,Int.mul_emod]
  have h0:0≤p ^ t % 5:=Int.emod_nonneg _ (by decide)
  have h1:p ^ t % 5<5:=Int.emod_lt_of_pos _ (by decide)
  generalize p ^ t % 5=r at *
  rcases hp with rfl | rfl <;> rcases(show r=1∨r=2∨r=3∨r=4 by omega) with rfl | rfl | rfl | rfl <;> decide
theorem wv_ne{p:Int}(hp:p=13∨p=17){gs:List Hw}{n t:Nat}(h:GsOk p gs n)(ht:t≤2*n):hsum (wv gs n t) % 5≠0:=by rw[ZdZ hp h t ht];exact p5 hp t
theorem Yr{p:Int}(hp:p=13∨p=17){gs:List Hw}{n t:Nat}(h:GsOk p gs n)(ht:t≤2*n):vtx (wv gs n t)∈clsL:=vtx_mem (wv_ne hp h ht)
theorem ZbY{c s:Int}(h:c*c≤s)(hs:s≤1000000000000):-1000000≤c∧c≤1000000:=by
 constructor
 ·apply bCo
  intro hn
  have h1:(1000001:Int)*1000001≤(-c)*(-c):=Int.mul_le_mul (by omega) (by omega) (by omega) (by omega)
  rw[Int.neg_mul_neg]at h1
  omega
 ·apply bCo
  intro hn
  have h1:(1000001:Int)*1000001≤c*c:=Int.mul_le_mul (by omega) (by omega) (by omega) (by omega)
  omega
theorem hsum_bnd{x:Hw}(h:hsum x≤1000000000000):(-1000000≤x.a∧x.a≤1000000)∧(-1000000≤x.b∧x.b≤1000000)∧(-1000000≤x.c∧x.c≤1000000)∧(-1000000≤x.d∧x.d≤1000000):=by
 unfold hsum at h
 have n0:0≤x.a*x.a:=by rcases Int.le_total 0 x.a with k | k;exact Int.mul_nonneg k k;exact Int.mul_nonneg_of_nonpos_of_nonpos k k
 have n1:0≤x.b*x.b:=by rcases Int.le_total 0 x.b with k | k;exact Int.mul_nonneg k k;exact Int.mul_nonneg_of_nonpos_of_nonpos k k
 have n2:0≤x.c*x.c:=by rcases Int.le_total 0 x.c with k | k;exact Int.mul_nonneg k k;exact Int.mul_nonneg_of_nonpos_of_nonpos k k
 have n3:0≤x.d*x.d:=by rcases Int.le_total 0 x.d with k | k;exact Int.mul_nonneg k k;exact Int.mul_nonneg_of_nonpos_of_nonpos k k
 exact⟨ZbY (s:=x.a*x.a) (Int.le_refl _) (by omega),ZbY (s:=x.b*x.b) (Int.le_refl _) (by omega),ZbY (s:=x.c*x.c) (Int.le_refl _) (by omega),ZbY (s:=x.d*x.d) (Int.le_refl _) (by omega)⟩
theorem pow_le8{p:Int}(hp:p=13∨p=17){t:Nat}(ht:t≤8):p ^ t≤1000000000000:=by
 rcases hp with rfl | rfl <;> rcases(show t=0∨t=1∨t=2∨t=3∨t=4∨t=5∨t=6∨t=7∨t=8 by omega) with rfl | rfl | rfl | rfl | rfl | rfl | rfl | rfl | rfl <;> decide
theorem wv_bnd{p:Int}(hp:p=13∨p=17){gs:List Hw}{n t:Nat}(h:GsOk p gs n)(ht:t≤2*n):(-1000000≤(wv gs n t).a∧(wv gs n t).a≤1000000)∧(-1000000≤(wv gs n t).b∧(wv gs n t).b≤1000000)∧(-1000000≤(wv gs n t).c∧(wv gs n t).c≤1000000)∧(-1000000≤(wv gs n t).d∧(wv gs n t).d≤1000000):=
 hsum_bnd (by rw[ZdZ hp h t ht];exact pow_le8 hp (by have:=h.n4;omega))
theorem Zf6{p:Int}(hp:p=13∨p=17){gs:List Hw}{n t:Nat}(h:GsOk p gs n)(ht:t<2*n):wf gs n (t+1)∈nbrs p (vtx (wv gs n t)):=by
 unfold wf
 rw[wv]
 exact vtx_edge (wv_ne hp h (by omega)) (Zf5 hp h ht)
theorem Zd0{m:Hw}(h:m∈clsL):clsL[cidx m]?=some m:=by
 have hl:cidx m<clsL.length:=List.idxOf_lt_length_iff.2 h
 rw[gEe hl]
 exact congrArg some (List.getElem_idxOf hl)
theorem UQ{m:Hw}(h:m∈clsL):cidx m<120:=by
 have:cidx m<clsL.length:=List.idxOf_lt_length_iff.2 h
 rwa [XU]at this
theorem ZcX{p:Int}{m:Hw}(h:m∈clsL):(ZU p)[cidx m]?=some (nbrs p m):=by
 unfold ZU
 rw[List.getElem?_map,Zd0 h];rfl
theorem qscl_one(x:Hw):qscl 1 x=x:=by simp[qscl]
theorem ZhO(k l:Int)(x:Hw):qscl k (qscl l x)=qscl (k*l) x:=by simp[qscl,Int.mul_assoc]
theorem Zf7{p:Int}(hp:p=13∨p=17){gs:List Hw}{n:Nat}(h:GsOk p gs n):∀ j,j≤n→wv gs n (n+j)=qscl (p ^ j) (wv gs n (n-j))
 | 0,_=>by simp[qscl_one]
 | j+1,hj=>by
  have ih:=Zf7 hp h j (by omega)
  have e1:wv gs n (n+(j+1))=qtm (wv gs n (n+j)) (stg gs n (n+j)):=rfl
  have e2:n-j=(n-(j+1))+1:=by omega
  have e3:stg gs n (n+j)=qcj (gs.getD (n-(j+1)) oneH):=by
   unfold stg
   rw[if_neg (by omega)]
   congr 2;omega
  have e4:stg gs n (n-(j+1))=gs.getD (n-(j+1)) oneH:=by
   unfold stg
   rw[if_pos (by omega)]
  rw[e1,ih,e2,wv,e3,e4,qtm_qscl,qtm_conj,(ZbD hp (h.at (by omega))).2,ZhO,Int.pow_succ]
theorem wv_home{p:Int}(hp:p=13∨p=17){gs:List Hw}{n:Nat}(h:GsOk p gs n):wf gs n (2*n)=wf gs n 0:=by
 unfold wf
 have:=Zf7 hp h n (nlr _)
 rw[← Nat.two_mul,Nat.sub_self]at this
 rw[this,vtx_qscl (p5 hp n)]
theorem ZhP{p:Int}(hp:p=13∨p=17){gs:List Hw}{n:Nat}(h:GsOk p gs n){edges:List (List Nat)}{tgt:Nat}{D:List Int}(hd:Dst edges tgt D)(he:edges=(ZU p).map fun l=>l.map Int.toNat)(ht:tgt=cidx (vtx (wv gs n n))) :
  0≤D.getD (cidx (vtx (wv gs n 0))) (-1)∧D.getD (cidx (vtx (wv gs n 0))) (-1)≤n:=by
 have hel:edges.length=120:=by rw[he,List.length_map,ZU,List.length_map,XU]
 have hw:=hd.walk ((List.range n).map fun t=>cidx (vtx (wv gs n (t+1)))) (cidx (vtx (wv gs n 0))) ?_ ?_ ?_
 ·rw[List.length_map,List.length_range]at hw;exact hw
 ·intro x hx
  rw[hel]
  rcases List.mem_cons.1 hx with rfl | hx
  ·exact UQ (Yr hp h (by omega))
  ·obtain⟨t,ht',rfl⟩:=List.mem_map.1 hx
   have:=List.mem_range.1 ht'
   exact UQ (Yr hp h (by omega))
 ·intro i x y hx hy
  have key:∀ {i z:Nat},(cidx (vtx (wv gs n 0))::(List.range n).map fun t=>cidx (vtx (wv gs n (t+1))))[i]?=some z→i≤n∧z=cidx (vtx (wv gs n i)):=by
   intro i z hz
   rcases i with _ | i
   ·exact⟨Nat.zero_le _,(oSi hz).symm⟩
   ·rw[List.getElem?_cons_succ,List.getElem?_map]at hz
    have hi:i<n:=by
     apply bCo
     intro hn
     rw[List.getElem?_eq_none (by simpa using hn)]at hz
     cases hz
    rw[List.getElem?_range hi]at hz
    exact⟨hi,(oSi hz).symm⟩
  obtain⟨h1,rfl⟩:=key hx
  obtain⟨h2,rfl⟩:=key hy
  have hm:=Yr hp h (t:=i) (by omega)
  rw[gDg,he,List.getElem?_map,ZcX hm]
  have:=Zf6 hp h (t:=i) (by omega)
  exact List.mem_map.2 ⟨_,this,by unfold wf;simp⟩
 ·rw[List.getLast?_cons,ht]
  rcases n with _ | n
  ·simp
  ·rw[List.range_succ,List.map_append]
   simp
theorem nbrs_len(p:Int)(m:Hw):(nbrs p m).length=(genL p).length:=by
 unfold nbrs
 rw[(Uv _).length_eq,List.length_map,Um,List.length_map]
theorem nbrs_in{p:Int}(hp:p=13∨p=17){m:Hw}(hm:m∈clsL):∀ x∈nbrs p m,0≤x∧x<120:=fun x hx=>by
 unfold nbrs at hx
 rw[(Uv _).mem_iff]at hx
 obtain⟨g,hg,rfl⟩:=List.mem_map.1 hx
 have:=UQ (Zgd hp hm hg)
 omega
end FF
end
namespace Go.Proofs.YthkklilhjnpedaaGreatDoor
section
open Go.RowKit FF
def KpC(w0:World)(W W':World):Prop:=Below w0.heap.size W W'
def encM(m:Hw):Array Value:=#[hv m]
theorem hb_of{i k j:Nat}(hi:i<5)(hk:k<5)(hj:j<5):Hb 1000000 ⟨1,(i:Int),(k:Int),(j:Int)⟩:=by
 refine⟨?_,?_,?_,?_⟩ <;> simp only <;> omega
set_option maxRecDepth 100000 in
theorem ZgC{w0:World}{X G:Nat}(hp:PlV X G w0)(n:Nat)(hn:1≤n):Zgh Fence.wide n Tryz.prog 25 #[.pointer (some ⟨X,0,none⟩)] encM (KpC w0) clsL w0:=by
 intro l J W0 hW hJ hY h0
 have HP:=lhd hp;have HY:=lhd hY;have HJ:=lhd hJ
 have HX:=lhd hp.1.1
 clear hp hY hJ
 refine callsIn_of_wp Tryz.func25 rfl trivial ?_ rfl
 simp only[Tryz.ntmps25,List.size_toArray,List.length_cons,List.length_nil,Nat.reduceAdd,Nat.reduceSub,Array.replicate_succ,Array.replicate_zero,List.push_toArray,List.append_toArray,List.nil_append,List.cons_append]
 have HB0:=lhd hW;have HJ0:=lhd h0
 clear hW h0
 gi_wp2
 refine wpIn_loop_rounds 4 ?_
 rw[roundsIn_succ]
 have q0:=(HP.out.keep HB0.out).1.two.1
 gi_wp2
 clear q0
 gi_loopw [17] (fun s17 wr=>∃ i:Nat,i≤5∧s17=.int .i64 i∧J (pre0 (5*i)) wr∧Below w0.heap.size w0 wr) (fun s17 _=>5-(intOf s17).toNat)
 case atStart=>exact⟨0,by omega,rfl,HJ0.out,HB0.out⟩
 case round =>
  obtain⟨i,hi,rfl,hj,hB⟩:=hrel
  have HJ1:=lhd hj;have HB1:=lhd hB;have HI:=lhd hi
  clear hj hB
  obtain⟨W1,hw1⟩:∃ W1:World,W1=wr:=⟨_,rfl⟩
  subst hw1
  rcases Nat.lt_or_ge i 5 with hlt | hge
  ·have di:=deT (p:=(i:Int)<(5:Int)) (by omega)
   have q1:=(HP.out.keep HB1.out).1.two.1
   have HLi:=lhd hlt
   clear hi hlt
   gi_wp2
   clear q1 di
   gi_loopw [24] (fun s24 wr=>∃ k:Nat,k≤5∧s24=.int .i64 k∧J (pre0 (5*i+k)) wr∧Below w0.heap.size w0 wr) (fun s24 _=>5-(intOf s24).toNat)
   case atStart=>exact⟨0,by omega,rfl,HJ1.out,HB1.out⟩
   case round =>
    obtain⟨k,hk,rfl,hj,hB⟩:=hrel
    have HJ2:=lhd hj;have HB2:=lhd hB
    clear hj hB
    rcases Nat.lt_or_ge k 5 with hlt | hge
    ·have dk:=deT (p:=(k:Int)<(5:Int)) (by omega)
     have HLk:=lhd hlt
     clear hk hlt
     rcases Decidable.em ((i:Int)=0) with h0 | h0
     ·have b0:((i:Int) != 0)=false:=by simp[h0]
      have hpre:=pre0_off HLi.out HLk.out h0
      have HPr:=lhd hpre
      clear hpre h0
      have HA:=lhd ((brf wr.heap.size wr).alloc (nlr _) (.cells #[.int .i64 0,.int .i64 1,.int .i64 i,.int .i64 k] 67))
      have HJ3:=lhd (HJ.out _ _ _ HJ2.out HA.out)
      gi_wp2
      refine⟨fun f h=>(by cases h),?_⟩
      gi_wp2
      exact⟨⟨k+1,HLk.out,by rw[Zc HLk.out (by omega)],by rw[show 5*i+(k+1)=5*i+k+1 from rfl,HPr.out];exact HJ3.out,HB2.out.trans (HA.out.mono HB2.out.size)⟩,by rw[Zc HLk.out (by omega)];simp only[intOf];have:=HLk.out;omega⟩
     ·have b0:((i:Int) != 0)=true:=bne_iff_ne.2 h0
      have hpre:=pre0_on HLi.out HLk.out h0
      have HPr:=lhd hpre
      clear hpre h0
      have HA:=lhd ((brf wr.heap.size wr).alloc (nlr _) (.cells #[.int .i64 0,.int .i64 1,.int .i64 i,.int .i64 k] 67))
      have HJ3:=lhd (HJ.out _ _ _ HJ2.out HA.out)
      obtain⟨fn,tmps,assign,body,hyl,hR⟩:=HY.out (pre0 (5*i+k)) ⟨0,1,i,k⟩ _ HJ3.out (by rw[← HPr.out];exact pre0_pre _)
      have HR:=lhd hR
      clear hR
      rw[show encM ⟨0,1,i,k⟩=#[.agg #[.int .i64 0,.int .i64 1,.int .i64 i,.int .i64 k]] from rfl]at hyl
      gi_wp2
      refine HR.out.mono ?_
      rintro e7 w7 ⟨rfl,hj7,hb7⟩
      rw[← HPr.out]at hj7
      have HJ7:=lhd hj7
      have HB7:=lhd ((HB2.out.trans (HA.out.mono HB2.out.size)).trans hb7)
      clear hj7 hb7 hyl HR
      gi_wp2
      exact⟨⟨k+1,HLk.out,by rw[Zc HLk.out (by omega)],HJ7.out,HB7.out⟩,by rw[Zc HLk.out (by omega)];simp only[intOf];have:=HLk.out;omega⟩
    ·obtain rfl:k=5:=by omega
     clear hk hge
     rw[show((5:Nat):Int)=5 from rfl]
     gi_wp2
     exact⟨⟨i+1,HLi.out,by rw[Zc HLi.out (by omega)],by rw[show 5*(i+1)=5*i+5 by omega];exact HJ2.out,HB2.out⟩,by rw[Zc HLi.out (by omega)];simp only[intOf];have:=HLi.out;omega⟩
  ·obtain rfl:i=5:=by omega
   clear hi hge
   rw[show((5:Nat):Int)=5 from rfl]
   have q2:=(HP.out.keep HB1.out).1.two.1
   gi_wp2
   rw[roundsIn_succ]
   gi_wp2
   clear q2
   have HJ8:=lhd (show J (pre1 0) W1 by rw[Zh5,← Zh4];exact HJ1.out)
   clear HI HJ1
   gi_loopw [17] (fun s17 wr=>∃ i:Nat,i≤5∧s17=.int .i64 i∧J (pre1 (25*i)) wr∧Below w0.heap.size w0 wr) (fun s17 _=>5-(intOf s17).toNat)
   case atStart=>exact⟨0,by omega,rfl,HJ8.out,HB1.out⟩
   case round =>
    obtain⟨i,hi,rfl,hj,hB⟩:=hrel
    have HJ1:=lhd hj;have HB1:=lhd hB
    clear hj hB HJ8
    obtain⟨W2,hw1⟩:∃ W2:World,W2=wr:=⟨_,rfl⟩
    subst hw1
    rcases Nat.lt_or_ge i 5 with hlt | hge
    ·have di:=deT (p:=(i:Int)<(5:Int)) (by omega)
     have q1:=(HP.out.keep HB1.out).1.two.1
     have HLi:=lhd hlt
     clear hi hlt
     gi_wp2
     clear q1 di
     gi_loopw [24] (fun s24 wr=>∃ k:Nat,k≤5∧s24=.int .i64 k∧J (pre1 (25*i+5*k)) wr∧Below w0.heap.size w0 wr) (fun s24 _=>5-(intOf s24).toNat)
     case atStart=>exact⟨0,by omega,rfl,HJ1.out,HB1.out⟩
     case round =>
      obtain⟨k,hk,rfl,hj,hB⟩:=hrel
      have HJ2:=lhd hj;have HB2:=lhd hB
      clear hj hB
      obtain⟨W3,hw1⟩:∃ W3:World,W3=wr:=⟨_,rfl⟩
      subst hw1
      rcases Nat.lt_or_ge k 5 with hlt | hge
      ·have dk:=deT (p:=(k:Int)<(5:Int)) (by omega)
       have q1:=(HP.out.keep HB2.out).1.two.1
       have HLk:=lhd hlt
       clear hk hlt
       gi_wp2
       clear q1 dk
       gi_loopw [44] (fun s44 wr=>∃ j:Nat,j≤5∧s44=.int .i64 j∧J (pre1 (25*i+5*k+j)) wr∧Below w0.heap.size w0 wr) (fun s44 _=>5-(intOf s44).toNat)
       case atStart=>exact⟨0,by omega,rfl,HJ2.out,HB2.out⟩
       case round =>
        obtain⟨j,hj5,rfl,hj,hB⟩:=hrel
        have HJ3:=lhd hj;have HB3:=lhd hB
        clear hj hB
        rcases Nat.lt_or_ge j 5 with hlt | hge
        ·have dj:=deT (p:=(j:Int)<(5:Int)) (by omega)
         have HLj:=lhd hlt
         clear hj5 hlt
         have HA:=lhd ((brf wr.heap.size wr).alloc (nlr _) (.cells #[.int .i64 1,.int .i64 i,.int .i64 k,.int .i64 j] 67))
         have HP4:=lhd ((HP.out.keep HB3.out).keep HA.out)
         have hdet:=pdet_any ⟨1,i,k,j⟩ _ HP4.out (hb_of HLi.out HLk.out HLj.out)
         have HD:=lhd hdet
         have HJ4:=lhd (HJ.out _ _ _ HJ3.out HA.out)
         clear hdet
         gi_wp2
         refine⟨trivial,(callsIn_wide.2 HD.out).mono ?_⟩
         rintro e8 w8 ⟨_,rfl,rfl,hb8⟩
         have HB8:=lhd ((HB3.out.trans (HA.out.mono HB3.out.size)).trans (hb8.mono (by have:=HB3.out.size;simp only[World.size_alloc];omega)))
         have HJ8:=lhd (HJ.out _ _ _ HJ4.out hb8)
         obtain⟨z0,z1,z2,z3⟩:=((Cells.new wr #[.int .i64 1,.int .i64 i,.int .i64 k,.int .i64 j] 67 rfl).keep hb8).four
         clear hb8 HD HJ4 HP4
         rcases Decidable.em (cdet ⟨1,(i:Int),(k:Int),(j:Int)⟩=0) with h0 | h0
         ·have HPr:=lhd (pre1_off HLi.out HLk.out HLj.out h0)
          have b0:(cdet ⟨1,(i:Int),(k:Int),(j:Int)⟩ != 0)=false:=by simp[h0]
          generalize cdet ⟨1,(i:Int),(k:Int),(j:Int)⟩=dd at *
          clear h0
          gi_wp2
          refine⟨fun f h=>(by cases h),?_⟩
          gi_wp2
          exact⟨⟨j+1,HLj.out,by rw[Zc HLj.out (by omega)],by rw[show 25*i+5*k+(j+1)=25*i+5*k+j+1 from rfl,HPr.out];exact HJ8.out,HB8.out⟩,by rw[Zc HLj.out (by omega)];simp only[intOf];have:=HLj.out;omega⟩
         ·have HPr:=lhd (pre1_on HLi.out HLk.out HLj.out h0)
          have b0:(cdet ⟨1,(i:Int),(k:Int),(j:Int)⟩ != 0)=true:=bne_iff_ne.2 h0
          generalize cdet ⟨1,(i:Int),(k:Int),(j:Int)⟩=dd at *
          clear h0
          obtain⟨fn,tmps,assign,body,hyl,hR⟩:=HY.out (pre1 (25*i+5*k+j)) ⟨1,i,k,j⟩ _ HJ8.out (by rw[← HPr.out];exact pre1_pre _)
          have HR:=lhd hR
          clear hR
          rw[show encM ⟨1,i,k,j⟩=#[.agg #[.int .i64 1,.int .i64 i,.int .i64 k,.int .i64 j]] from rfl]at hyl
          gi_wp2
          refine HR.out.mono ?_
          rintro e7 w7 ⟨rfl,hj7,hb7⟩
          rw[← HPr.out]at hj7
          have HJ7:=lhd hj7
          have HB7:=lhd (HB8.out.trans hb7)
          clear hj7 hb7 hyl HR z0 z1 z2 z3
          gi_wp2
          exact⟨⟨j+1,HLj.out,by rw[Zc HLj.out (by omega)],HJ7.out,HB7.out⟩,by rw[Zc HLj.out (by omega)];simp only[intOf];have:=HLj.out;omega⟩
        ·obtain rfl:j=5:=by omega
         clear hj5 hge
         rw[show((5:Nat):Int)=5 from rfl]
         gi_wp2
         exact⟨⟨k+1,HLk.out,by rw[Zc HLk.out (by omega)],by rw[show 25*i+5*(k+1)=25*i+5*k+5 by omega];exact HJ3.out,HB3.out⟩,by rw[Zc HLk.out (by omega)];simp only[intOf];have:=HLk.out;omega⟩
      ·obtain rfl:k=5:=by omega
       clear hk hge
       rw[show((5:Nat):Int)=5 from rfl]
       gi_wp2
       exact⟨⟨i+1,HLi.out,by rw[Zc HLi.out (by omega)],by rw[show 25*(i+1)=25*i+5*5 by omega];exact HJ2.out,HB2.out⟩,by rw[Zc HLi.out (by omega)];simp only[intOf];have:=HLi.out;omega⟩
    ·obtain rfl:i=5:=by omega
     clear hi hge
     rw[show((5:Nat):Int)=5 from rfl]
     gi_wp2
     rw[roundsIn_succ]
     gi_wp2
     go_end0
     exact⟨⟨_,rfl⟩,by rw[← Zh6];exact HJ1.out⟩
end
end Go.Proofs.YthkklilhjnpedaaGreatDoor
