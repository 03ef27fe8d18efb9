/- Words: the long division; divide at every divisor other than 0. -/
import Derived.Test.YthkklilhjnpedaaGreatDoorUKn
import Derived.Test.YthkklilhjnpedaaGreatDoorUQn0
import Derived.Test.YthkklilhjnpedaaGreatDoorUBase
set_option maxHeartbeats 16000000
set_option maxRecDepth 8000
namespace Go.Proofs.YthkklilhjnpedaaGreatDoor
section
open Go.RowKit FF
theorem step_any(G j n N c c' D:Nat)(f:Nat→Nat)(A':Option Addr)(w:World)(hr:rowP w G 135 N (rowN f))(hj:j+(n+3)≤N)(hN:N≤3000000)(hf:∀ k,f k<WB)
  (hy:Shows .u32 w A' (digs WB D)) (hD:wl D=n+2) (hne:∀ a,A'=some a→a.block≠G) (hlt:val WB (seg f j (n+3))<D*WB) :
  Calls Tryz.prog 208 #[.slice (some ⟨G,j,none⟩) (n+3) c,.slice A' (n+2) c'] w fun e w' =>
   ∃ R:List Nat,e=.returned (.int .u32 (val WB (seg f j (n+3)) / D:Nat))∧R.length=n+3∧Dig WB R∧val WB R=val WB (seg f j (n+3)) % D∧rowP w' G 135 N (rowN (put f j R))∧w.grownBy w' (some G):=by
 have hvs:(digs WB D).length=n+2:=hD
 have hD0:0<D:=by
  apply Nat.pos_of_ne_zero
  intro e
  rw[e,ZgB]at hD
  omega
 obtain⟨t1,et1⟩:∃ t1,f (j+(n+2))=t1:=⟨_,rfl⟩
 obtain⟨t0,et0⟩:∃ t0,f (j+(n+1))=t0:=⟨_,rfl⟩
 obtain⟨r2,er2⟩:∃ r2,f (j+n)=r2:=⟨_,rfl⟩
 obtain⟨d1,ed1⟩:∃ d1,(digs WB D).getD (n+1) 0=d1:=⟨_,rfl⟩
 obtain⟨d2,ed2⟩:∃ d2,(digs WB D).getD n 0=d2:=⟨_,rfl⟩
 have hd1:0<d1:=by
  apply Nat.pos_of_ne_zero
  intro e
  rw[e]at ed1
  have h1:=Yw (B:=WB) (xs:=digs WB D) (k:=n+1) (by omega) ed1 (by rw[tOl (by omega)])
  have h2:=Ys (B:=WB) (xs:=digs WB D) (n:=n+1) (Zh WB2 _) (by omega)
  rw[h1,Ze WB2]at h2
  have:=Zm WB2 h2
  omega
 have SN:StepNums n (seg f j (n+3)) (digs WB D) t1 t0 r2 d1 d2:=
  ⟨ZE _ _ _, hvs, Zbe hf _ _, Zh WB2 _, by rw [Y7 (by omega)]; exact et1, by rw [Y7 (by omega)]; exact et0, by rw [Y7 (by omega)]; exact er2, ed1, ed2, hd1, by
   have:val 4294967296 (digs WB D)=D:=Ze WB2 D
   rw[this];exact hlt⟩
 have hb1:t1<4294967296:=et1 ▸ hf _
 have hb0:t0<4294967296:=et0 ▸ hf _
 have hbr:r2<4294967296:=er2 ▸ hf _
 have hbd1:d1<4294967296:=ed1 ▸ (Zh WB2 D).getD (by decide) _
 have hbd2:d2<4294967296:=ed2 ▸ (Zh WB2 D).getD (by decide) _
 have hGs:G<w.heap.size:=hr.lt
 have hfro:=hr.frozen
 have k1:w.cell? ⟨G,j+(n+2),none⟩=some (.int .u32 (t1:Nat)):=by rw[← et1];exact hr.cell (by omega)
 have k0:w.cell? ⟨G,j+(n+1),none⟩=some (.int .u32 (t0:Nat)):=by rw[← et0];exact hr.cell (by omega)
 have kr:w.cell? ⟨G,j+n,none⟩=some (.int .u32 (r2:Nat)):=by rw[← er2];exact hr.cell (by omega)
 obtain⟨b,o,rfl,hb,hcell⟩:=hy (by omega)
 have q1:w.cell? ⟨b,o+(n+1),none⟩=some (.int .u32 (d1:Nat)):=by rw[← ed1];exact hcell _ (by omega)
 have q2:w.cell? ⟨b,o+n,none⟩=some (.int .u32 (d2:Nat)):=by rw[← ed2];exact hcell _ (by omega)
 have HST:=lhd SN.start
 have HNX:=lhd (fun g hg hc=>SN.next (g:=g) hg hc)
 have HSP:=lhd (fun g hg hc=>SN.stop (g:=g) hg hc)
 have HFR:=lhd (fun g hg hc=>SN.far (g:=g) hg hc)
 have hval:val WB (digs WB D)=D:=Ze WB2 D
 have HTk:=lhd (fun (k g:Nat) (h3:g<WB)=>by
  have:=take_any G j (n+3) N c c' g f (some ⟨b,o,none⟩) (digs WB D) (w.drewN k) (show rowP (w.drewN k) G 135 N (rowN f) from hr) hj hN hf (hy.drewN k) (Zh WB2 D) hne h3
  rw[hvs,tOl (by omega),hval]at this
  exact this)
 have hat:=lhd (fun (i:Nat) (W:World) (hi:i≤N) (h:Shows .u32 W (some ⟨b,o,none⟩) (digs WB D))=>by
  have:=Kb (some ⟨b,o,none⟩) (digs WB D) c' i W h (by omega) (Zh WB2 D)
  rw[hvs]at this
  exact this)
 have hyb:=lhd (fun i=>(Zh WB2 D).getD (show 0<WB by decide) i)
 have hDM:=lhd (show D≤WB ^ (n+3) from Nat.le_trans (Nat.le_of_lt (Z3 WB2 D)) (Nat.pow_le_pow_right (by decide) (by omega)))
 have hEnd:=lhd (fun (g cy:Nat) (R:List Nat) (h1:val WB (seg f j (n+3)) / D≤g) (h2:g≤val WB (seg f j (n+3)) / D+1) (hl:R.length=n+3) (hd:Dig WB R) (h:val WB R+g*D=val WB (seg f j (n+3))+WB ^ (n+3)*cy) =>
  take_end hD0 h1 h2 h (hl ▸ ZT hd) hDM.out)
 have hAll:=lhd (show(digs WB D).take (n+3)=digs WB D from tOl (by omega))
 have HVL:=lhd hval
 have hv2:val 4294967296 (digs WB D)=D:=hval
 rw[hv2]at HST HNX HSP HFR
 change Hid (∀ g,GuessRel _ _ _ _ (val WB (seg f j (n+3))) D g→_) at HNX HSP HFR
 change Hid (GuessRel _ _ _ _ (val WB (seg f j (n+3))) D _) at HST
 clear hval hv2
 have HR:=lhd hr;have HF:=lhd hf;have HY:=lhd hy;have HNE:=lhd hne;have HD:=lhd hD;have HLT:=lhd hlt
 clear SN hr hf hy hne hD hlt hcell hfro hvs et1 et0 er2 ed1 ed2
 have e1:IntKind.i64.wrap ((n:Int)+2-1)=(n:Int)+1:=by rw[IntWalk.i64_in _ (by omega)];omega
 have e2:(0:Int)≤(n:Int)+2-1:=by omega
 have e3:((n:Int)+1).toNat=n+1:=by omega
 have e4:((n:Int)+2).toNat=n+2:=by omega
 have e5:IntKind.i64.wrap (n:Int)=(n:Int):=IntWalk.i64_in _ (by omega)
 have e6:(n:Int)<(n:Int)+2:=by omega
 have e7:(n:Int)<(n:Int)+3:=by omega
 have e8:(n:Int)+1<(n:Int)+2:=by omega
 have e9:(0:Int)≤(n:Int)+1:=by omega
 have u1:IntKind.u64.wrap (d1:Int)=(d1:Int):=by simp only[IntKind.wrap,IntKind.bits,IntKind.signed];simp;omega
 have u2:IntKind.u64.wrap (d2:Int)=(d2:Int):=by simp only[IntKind.wrap,IntKind.bits,IntKind.signed];simp;omega
 have u3:IntKind.u64.wrap (r2:Int)=(r2:Int):=by simp only[IntKind.wrap,IntKind.bits,IntKind.signed];simp;omega
 obtain⟨T,hT⟩:∃ T,t1*4294967296+t0=T:=⟨_,rfl⟩
 have hTb:T<18446744073709551616:=by omega
 have hTc:bits .or .u64 ((t1:Int)*4294967296) (t0:Int)=(T:Int):=by rw[Zac hb1 hb0,hT]
 obtain⟨q,hq⟩:∃ q,T / d1=q:=⟨_,rfl⟩
 have hqT:q≤T:=hq ▸ Nat.div_le_self _ _
 have hqc:IntKind.u64.wrap ((T:Int) / d1)=(q:Int):=by
  rw[← Int.natCast_ediv,hq]
  simp only[IntKind.wrap,IntKind.bits,IntKind.signed];simp;omega
 rw[hT]at HST HNX HSP HFR
 rw[hq]at HST
 clear hT hq
 rcases(show(q:Int)≤4294967295∨(4294967295:Int)<q by omega) with hql | hql
 all_goals
  first
  | rw[Nat.min_eq_left (show q≤4294967295 by omega)]at HST
  | rw[Nat.min_eq_right (show 4294967295≤q by omega)]at HST
  go_enter Tryz.func208,Tryz.ntmps208
  go_wp2
  go_quiet (fail)
  go_wp2
  have HTB:=lhd hTb
  clear hTc hqc k1 k0 hTb hqT hql
  go_loopw [7] (fun s7 wr=>∃ g:Nat,s7=.int .u64 g∧GuessRel T r2 d1 d2 (val WB (seg f j (n+3))) D g∧∃ m,wr=w.drewN m) (fun s _=>(intOf s).toNat)
  case atStart=>exact⟨_,rfl,HST.out,_,rfl⟩
  case round =>
   clear HST
   obtain⟨g,rfl,hg,m,rfl⟩:=hrel
   obtain⟨R0,hR0⟩:∃ R0,T=g*d1+R0:=⟨T-g*d1,by have:=hg.top;omega⟩
   have hglt:=hg.lt
   have N1:=HNX.out g hg;have N2:=HSP.out g hg;have N3:=HFR.out g hg
   have NL:=lhd hg.le
   clear hg HNX HSP HFR
   have hsub:T-g*d1=R0:=by omega
   rw[hsub]at N1 N2 N3
   obtain⟨P1,hP1⟩:∃ P,g*d1=P:=⟨_,rfl⟩
   obtain⟨P2,hP2⟩:∃ P,g*d2=P:=⟨_,rfl⟩
   have b1:P1≤4294967295*4294967295:=hP1 ▸ Nat.mul_le_mul (by omega) (by omega)
   have b2:P2≤4294967295*4294967295:=hP2 ▸ Nat.mul_le_mul (by omega) (by omega)
   have x1:IntKind.u64.wrap ((g:Int)*d1)=(P1:Int):=by rw[← Int.natCast_mul,hP1];simp only[IntKind.wrap,IntKind.bits,IntKind.signed];simp;omega
   have x2:IntKind.u64.wrap ((g:Int)*d2)=(P2:Int):=by rw[← Int.natCast_mul,hP2];simp only[IntKind.wrap,IntKind.bits,IntKind.signed];simp;omega
   rw[hP1]at hR0
   rw[hP2]at N1 N2
   clear hsub hP1 hP2
   have x3:IntKind.u64.wrap ((T:Int)-P1)=(R0:Int):=by have:=HTB.out;simp only[IntKind.wrap,IntKind.bits,IntKind.signed];simp;omega
   clear hR0
   obtain⟨Z,hZ⟩:∃ Z:Int,bits .or .u64 (IntKind.u64.wrap ((R0:Int)*4294967296)) (r2:Int)=Z:=⟨_,rfl⟩
   have key:(decide (Z<P2)=true∧decide ((R0:Int)<4294967296)=true∧Hid (0<g∧GuessRel T r2 d1 d2 (val WB (seg f j (n+3))) D (g-1))) ∨
     (decide (Z<P2)=true∧decide ((R0:Int)<4294967296)=false∧Hid (g≤val WB (seg f j (n+3)) / D+1)) ∨
     (decide (Z<P2)=false∧decide ((R0:Int)<4294967296)=decide ((R0:Int)<4294967296)∧Hid (g≤val WB (seg f j (n+3)) / D+1)):=by
    by_cases hfar:R0<4294967296
    ·have s1:IntKind.u64.wrap ((R0:Int)*4294967296)=(R0:Int)*4294967296:=by simp only[IntKind.wrap,IntKind.bits,IntKind.signed];simp;omega
     rw[s1,Zac hfar hbr]at hZ
     subst hZ
     by_cases hc:R0*4294967296+r2<P2
     ·exact .inl ⟨deT (by omega),deT (by omega),N1 hc⟩
     ·exact .inr (.inr ⟨deF (by omega),rfl,N2 (by omega)⟩)
    ·have N4:=N3 (by omega)
     by_cases hc:Z<P2
     ·exact .inr (.inl ⟨deT hc,deF (by omega),N4⟩)
     ·exact .inr (.inr ⟨deF hc,rfl,N4⟩)
   clear N1 N2 N3 b1 b2
   rcases key with⟨B1,B2,N4⟩ | key
   ·go_wp2
    go_quiet (fail)
    go_wp2
    have hg0:=N4.out.1
    have e10:IntKind.u64.wrap ((g:Int)-1)=((g-1:Nat):Int):=by simp only[IntKind.wrap,IntKind.bits,IntKind.signed];simp;omega
    rw[e10]
    exact⟨⟨g-1,rfl,N4.out.2,_,rfl⟩,by simp[intOf];omega⟩
   ·rcases key with⟨B1,B2,N4⟩ | ⟨B1,-,N4⟩
    all_goals
     go_wp2
     go_quiet (fail)
     go_wp2_with fail
     have hy2:=fun k=>HY.out.drewN k
     refine(HTk.out _ g hglt).mono ?_
     clear x1 x2 x3 hZ B1 kr q1 q2 u1 u2 u3 e1 e2 e3 e4 e5 e6 e7 e8 e9 hb1 hb0 hbr hbd1 hbd2
     rintro e w2 ⟨R,cy,rfl,hRl,hRd,hRv,hRr,hRg⟩
     obtain⟨f1,f2⟩:=hEnd.out g cy R NL.out N4.out hRl hRd hRv
     by_cases hcy:cy=0
     ·obtain⟨r1,r2⟩:=f1 hcy
      have hb0:((cy:Int) == 0)=true:=by rw[hcy];rfl
      rw[hb0]
      have H1:=lhd hRl;have H2:=lhd hRd;have H3:=lhd r1;have H4:=lhd r2;have H5:=lhd hRr;have H6:=lhd hRg
      clear f1 f2 hRl hRd hRv hRr hRg r1 r2 hcy hb0 NL N4 hEnd HTk hat
      go_wp2
      go_ret
      refine⟨R,Zp (by rw[H3.out]),H1.out,H2.out,H4.out,H5.out,?_⟩
      exact⟨H6.out.os,H6.out.tape,H6.out.output,H6.out.size,H6.out.block⟩
     ·obtain⟨r1,r2⟩:=f2 hcy
      have hb0:((cy:Int) == 0)=false:=Xx (by omega)
      rw[hb0]
      have HYr:=lhd (Shows.grown (hy2 _) hRg HNE.out)
      have HRg:=lhd (World.grownBy.mk hRg.os hRg.tape hRg.output hRg.size hRg.block:w.grownBy w2 (some G))
      have HRr:=lhd (show rowP w2 G 135 N (rowN (put (put f j R) j [])) from hRr.congr fun i _=>by unfold rowN;rw[Zgj])
      have H1:=lhd hRl;have H2:=lhd hRd;have H3:=lhd r1;have H4:=lhd r2
      have hRt:=lhd (show R.take (n+3)=R from tOl (by omega))
      have bR:=lhd (fun i=>hRd.getD (show 0<WB by decide) i)
      clear f1 f2 hRl hRd hRv hRr hRg r1 r2 hcy hb0 NL N4 hEnd HTk hy2 HY
      go_wp2
      go_loopw [8,85] (fun s8 s85 wr=>∃ (i cz:Nat) (S:List Nat),s8=.int .u64 cz∧s85=.int .i64 i∧i≤n+3∧cz≤1∧S.length=i∧Dig WB S∧val WB S+WB ^ i*cz=val WB (R.take i)+val WB ((digs WB D).take i)∧rowP wr G 135 N (rowN (put (put f j R) j S))∧w.grownBy wr (some G)∧Shows .u32 wr (some ⟨b,o,none⟩) (digs WB D)) (fun _ s _=>n+3-(intOf s).toNat)
      case atStart=>exact⟨0,0,[],rfl,rfl,Nat.zero_le _,Nat.zero_le _,rfl,fun x hx=>absurd hx (by simp),by simp[val],HRr.out,HRg.out,HYr.out⟩
      case round =>
       clear HRr HRg HYr
       obtain⟨i,cz,S,rfl,rfl,hi,hcz,hSl,hSd,hSv,hSr,hSg,hSy⟩:=hrel
       by_cases hin:i<n+3
       ·have bx:R.getD i 0<4294967296:=bR.out i
        have bY:(digs WB D).getD i 0<4294967296:=hyb.out i
        have hcell:wr.cell? ⟨G,j+i,none⟩=some (.int .u32 (R.getD i 0:Nat)):=by
         have:=hSr.cell (show j+i<N by omega)
         unfold rowN at this
         rw[Zen (by omega)]at this
         rw[this]
         unfold put
         rw[if_pos (by rw[H1.out];omega),Nat.add_sub_cancel_left]
        have hfro:=hSr.frozen (j+i)
        have hGs2:G<wr.heap.size:=hSr.lt
        have hC:=lhd (fun k=>hat.out i (wr.drewN k) (by omega) (hSy.drewN k))
        have hstep:=lhd (Zas (B:=WB) (xs:=R) (ys:=digs WB D) (c:=cz) hSl hSv rfl)
        have HSl:=lhd hSl;have HSd:=lhd hSd;have HSr:=lhd hSr;have HSg:=lhd hSg;have HSy:=lhd hSy
        clear hSl hSd hSv hSr hSg hSy hat hyb bR hGs
        generalize R.getD i 0=x at *
        generalize (digs WB D).getD i 0=y at *
        have v1:IntKind.u64.wrap (x:Int)=(x:Int):=by simp only[IntKind.wrap,IntKind.bits,IntKind.signed];simp;omega
        have v2:IntKind.u64.wrap ((x:Int)+y)=((x+y:Nat):Int):=by simp only[IntKind.wrap,IntKind.bits,IntKind.signed];simp;omega
        have v3:IntKind.u64.wrap ((x:Int)+y+cz)=((x+y+cz:Nat):Int):=by simp only[IntKind.wrap,IntKind.bits,IntKind.signed];simp;omega
        have hin':(i:Int)<(n:Int)+3:=by omega
        go_wp2
        go_quiet ((go_at_call 182;exact Calls.quiet_of (hC.out _)))
        go_wp2
        refine⟨⟨i+1,(x+y+cz) / 4294967296,S++[(x+y+cz) % 4294967296],?_,by go_num,by omega,by omega,by simp[HSl.out],XS HSd.out (Nat.mod_lt _ (by decide)),hstep.out,?_,Yd (UL HSg.out _) (.inl rfl) _,?_⟩,by simp[intOf];omega⟩
        ·rfl
        ·exact ZbG HSl.out HSr.out
        ·exact HSy.out.grown (Yd (UL (World.grownBy.refl wr (some G)) _) (.inl rfl) _) HNE.out
       ·obtain rfl:i=n+3:=by omega
        rw[hRt.out,hAll.out,HVL.out]at hSv
        have hlt:=ZT hSd
        rw[hSl]at hlt
        have h4:=H4.out
        have h5:=Nat.mod_lt (val WB (seg f j (n+3))) hD0
        have h6:val WB S=val WB (seg f j (n+3)) % D:=by
         generalize WB ^ (n+3)=M at *
         generalize val WB (seg f j (n+3)) % D=V at *
         have h7:=hDM.out
         rcases(show cz=0∨cz=1 by omega) with rfl | rfl <;> omega
        have hv:=h6
        have hrow:rowP wr G 135 N (rowN (put f j S)):=by rw[← put_put (f:=f) (R:=R) (by rw[H1.out,hSl])];exact hSr
        have HSl:=lhd hSl;have HSd:=lhd hSd;have HSr:=lhd hrow;have HSg:=lhd hSg;have HSv:=lhd hv
        clear hSl hSd hSr hSg hSy hv hrow hSv hlt hat hyb bR h4 h5 h6
        have h3:g=val WB (seg f j (n+3)) / D+1:=H3.out
        have hg0:1≤g:=by rw[h3];exact Nat.succ_le_succ (Nat.zero_le _)
        have HE:=lhd (show g-1=val WB (seg f j (n+3)) / D by rw[h3];rfl)
        have e10:IntKind.u64.wrap ((g:Int)-1)=((g-1:Nat):Int):=by simp only[IntKind.wrap,IntKind.bits,IntKind.signed];simp;omega
        clear h3
        go_wp2
        go_ret
        refine⟨S,Zp ?_,HSl.out,HSd.out,HSv.out,HSr.out,HSg.out⟩
        rw[← HE.out]
section
variable {P:Program}(w:World)
theorem ZaV(t ty e:TypeId)(i:TypeInfo)(ht:P.underlying t=some (.slice e))(hi:P.info? e=some i)(B A:Option Addr)(n cap c:Nat)(hn:n≤cap) :
  (Builtin.append_ #[t,t] ty #[.slice B n cap,.slice A 0 c]).run P w=.ok (.slice B n cap) w:=by
 cases A <;> cases B <;> simp[Builtin.append_,run_underlying ht,sizeOf,typeInfo,hi,Builtin.lenOf,Builtin.firstCells,hn,storeCells,loadCells,loadCellsFrom]
theorem KD{ops:Array Oper}{rest:List Oper}{o:Oper}{a:Act}{Q:Exit→Act→World→Prop}(hgd:o.guard=none)(s x:Operand)(t:TypeId)
  (ho:o.op=.call { callee:=.builtin .append,args:=#[s,x],argTypes:=#[t,t] })
  (e:TypeId) (i:TypeInfo) (ht:P.underlying t=some (.slice e)) (hi:P.info? e=some i)
  (B A:Option Addr) (n cap c:Nat) (hs:a.eval s=.slice B n cap) (hx:a.eval x=.slice A 0 c) (hn:n≤cap)
  (h:wpList P ops Q rest (a.put o.dst (.slice B n cap)) w):wpList P ops Q (o::rest) a w:=by
 refine wpList_plain hgd fun K hK=>?_
 have hr:=ZaV (P:=P) w t o.type e i ht hi B A n cap c hn
 unfold Oper.wp execOp
 simp only[ho,resolve,invoke,builtin,Sem.run_bind,Sem.run_pure,Result.andThen_ok,List.map_toArray,List.map_cons,List.map_nil,hs,hx,hr]
 exact hK _ _ h
end
theorem UA{k:IntKind}{w:World}{B T:Nat}{v:Value}{xs:List Nat}(h:w.ownsRow B T 1 v xs.length (cells k xs)) :
  ∃ A c,v=.slice A xs.length c∧Shows k w A xs∧xs.length≤c∧c≤maxLen∧Fresh B A:=by
 rcases h.2 with⟨rfl,hn⟩ | ⟨g,cap,cur,rfl,hb,hg,hnc,hcm,hcs,ht⟩
 ·have:xs=[]:=List.eq_nil_of_length_eq_zero hn
  subst this
  exact⟨none,0,rfl,Shows.nil,Nat.le_refl _,by simp[maxLen],Fresh.none⟩
 ·refine⟨some ⟨g,0,none⟩,cap,rfl,fun h0=>⟨g,0,rfl,(Array.getElem?_eq_some_iff.1 hg).1,fun i hi=>?_⟩,hnc,hcm,Fresh.mk hb⟩
  have:=h.cellAt i (by omega)
  rw[Nat.zero_add,this,Kj hi]
theorem K5(k:IntKind)(xs:List Nat)(x:Nat):cells k xs++[.int k x]=cells k (xs++[x]):=by simp[cells]
theorem K6{w:World}{B T:Nat}{v:Value}{n:Nat}{xs:List Value}(h:w.ownsRow B T 1 v n xs):∀ k,v.ownBlock=some k→B≤k:=fun k hk=>(h.lt k hk).1
end
section
open Go.RowKit FF
def Ze1:Value→Nat
 | .slice _ n _=>n
 | _=>0
theorem own_rowP{w:World}{B T n:Nat}{v:Value}{ds:List Nat}(h:w.ownsRow B T 1 v n (cells .u32 ds))(hn:0<n) :
  ∃ g cap,v=.slice (some ⟨g,0,none⟩) n cap∧B≤g∧n≤cap∧cap≤maxLen∧rowP w g T n (rowN fun k=>ds.getD k 0):=by
 obtain⟨h1,h2⟩:=h
 rcases h2 with⟨_,h0⟩ | ⟨g,cap,cur,rfl,hb,hg,hnc,hcm,hs,ht⟩
 ·omega
 ·rw[XN,Nat.mul_one]at h1
  rw[Nat.mul_one]at ht hs
  refine⟨g,cap,rfl,hb,hnc,hcm,cur,hg,by omega,fun i hi=>?_⟩
  have e:(cur.toList.take n)[i]?=(cells .u32 ds)[i]?:=by rw[ht]
  rw[List.getElem?_take,if_pos hi,Kj (by omega)]at e
  rw[← Array.getElem?_toList]
  exact e
theorem own_form{w:World}{B T:Nat}{v:Value}{n:Nat}{xs:List Value}(h:w.ownsRow B T 1 v n xs):∃ A c,v=.slice A n c:=by
 rcases h.2 with⟨rfl,rfl⟩ | ⟨g,cap,cur,rfl,_⟩
 ·exact⟨none,0,rfl⟩
 ·exact⟨_,_,rfl⟩
set_option maxRecDepth 100000 in
theorem ZfQ(A A':Option Addr)(a b n c c':Nat)(w:World)(ha:Shows .u32 w A (digs WB a))(hb:Shows .u32 w A' (digs WB b))(hal:wl a≤1000000)(hbn:wl b=n+2)(hle:b≤a) :
  Calls Tryz.prog 199 #[.slice A (wl a) c,.slice A' (wl b) c'] w (YQ w a b):=by
 obtain⟨i0,hi,hz0,hz1,hz2⟩:=info_parts Uh
 have HI:=lhd hi;have HZ0:=lhd hz0;have HZ1:=lhd hz1;have HZ2:=lhd hz2
 clear hi hz0 hz1 hz2
 unfold YQ
 have hcmp2:¬ cmpN a b<0:=by unfold cmpN;rw[if_neg (by omega)];split <;> simp
 have HC:=lhd (Us A A' a b c c' w ha hb hal)
 obtain⟨t,ht⟩:∃ t,(digs WB b).getD (n+1) 0=t:=⟨_,rfl⟩
 obtain⟨t0,-,-⟩:=Zep WB2 (show(digs WB b).length=n+1+1 from hbn)
 rw[ht]at t0
 have tb:t<4294967296:=ht ▸ (Zh WB2 b).getD (by decide) _
 have HLS:=lhd (fun k (h1:k≤31) (h2:t*2 ^ k<4294967296)=>(ZgY (a:=a) (b:=b) (n:=n) (k:=k) hbn h1 (by rw[← ht]at h2;exact h2):LongStart a b n k))
 have hba:wl b≤wl a:=ZV WB2 hle
 have HSa:=lhd (fun k (W:World) (h:Shows .u32 W A (digs WB a)) (hk:k≤31)=>by
  have:=Zbu A (digs WB a) c k W h (Zh WB2 a) hal hk
  rw[Ze WB2]at this;exact this)
 have HSb:=lhd (fun k (W:World) (h:Shows .u32 W A' (digs WB b)) (hk:k≤31)=>by
  have:=Zbu A' (digs WB b) c' k W h (Zh WB2 b) (show wl b≤1000000 by omega) hk
  rw[Ze WB2]at this;exact this)
 change Hid (∀ k (W:World),_→_→Calls _ _ #[.slice A (wl a) c,_] _ _) at HSa
 change Hid (∀ k (W:World),_→_→Calls _ _ #[.slice A' (wl b) c',_] _ _) at HSb
 have HA:=lhd ha;have HB:=lhd hb
 obtain⟨bb,oo,rfl,hbb,hcell⟩:=hb (by show 0<wl b;omega)
 have hx:w.cell? ⟨bb,oo+(n+1),none⟩=some (.int .u32 (t:Nat)):=by rw[← ht];exact hcell _ (by show n+1<wl b;omega)
 obtain⟨na,hna⟩:∃ na,wl a=na:=⟨_,rfl⟩
 have HNA:=lhd hna;have HNB:=lhd hbn
 rw[hbn]at HC HSb hba ⊢
 rw[hna]at HC HSa hal hba ⊢
 clear ha hb hcell hle ht hbn hna
 generalize cmpN a b=cm at *
 have d1:((((n+2:Nat)):Int) == 1)=false:=Xx (by omega)
 have d2:((n:Int)+2 == 1)=false:=Xx (by omega)
 have e2:(0:Int)≤(n:Int)+1:=by omega
 have e3:((n:Int)+1).toNat=n+1:=by omega
 go_enter Tryz.func199,Tryz.ntmps199
 go_wp2_with fail
 refine HC.out.mono ?_
 rintro e w' ⟨rfl,n1,rfl⟩
 clear HC
 go_wp2_with fail
 go_loop [8] (fun s8=>∃ k:Nat,s8=.int .u64 k∧k≤31∧t*2 ^ k<4294967296) (fun s=>31-(intOf s).toNat)
 case atStart=>exact⟨0,rfl,by omega,by simpa using tb⟩
 case round =>
  obtain⟨k,rfl,hk,htk⟩:=hrel
  have hcc:(t:Int)*2 ^ k % 4294967296=((t*2 ^ k:Nat):Int):=by
   rw[Int.natCast_mul,Int.natCast_pow]
   have:((t*2 ^ k:Nat):Int)=(t:Int)*2 ^ k:=by rw[Int.natCast_mul,Int.natCast_pow];rfl
   have h2:((t*2 ^ k:Nat):Int)<4294967296:=by omega
   rw[this]at h2
   have h3:0≤(t:Int)*2 ^ k:=by rw[← this];omega
   exact Int.emod_eq_of_lt h3 h2
  by_cases hlt:t*2 ^ k<2147483648
  ·obtain⟨g1,g2⟩:=Ziy t0 hlt
   generalize t*2 ^ k=P at *
   clear htk
   have hlt':(P:Int)<2147483648:=by omega
   go_wp2_with fail
   exact⟨⟨k+1,by go_num,g2,g1⟩,by simp[intOf];omega⟩
  ·have HLS2:=lhd (HLS.out k hk htk)
   generalize t*2 ^ k=P at *
   have hlt':¬ (P:Int)<2147483648:=by omega
   clear HLS htk hlt
   go_wp2_with fail
   refine(HSb.out k _ (HB.out.drewN _) hk).mono ?_
   rintro e w2 ⟨A2,rfl,s2,f2,b2⟩
   have hDl:wl (b*2 ^ k)=n+2:=HLS2.out.dlen
   have hAl:wl (a*2 ^ k)≤na+1:=by have:wl (a*2 ^ k)≤wl a+1:=HLS2.out.alen;rw[HNA.out]at this;exact this
   have hAg:na≤wl (a*2 ^ k):=by have:wl a≤wl (a*2 ^ k):=HLS2.out.age;rw[HNA.out]at this;exact this
   have hz2:w.heap.size≤w2.heap.size:=b2.size
   obtain⟨b4,o4,rfl,hb4,-⟩:=s2 (show 0<wl (b*2 ^ k) by omega)
   rw[hDl]
   have HDl:=lhd hDl
   have S2:=lhd s2
   have B2:=lhd ((Zi (Below.refl w.heap.size w) n1).trans b2:Below w.heap.size w w2)
   have HA2:=lhd ((HA.out.drewN n1).below (b2:Below (w.drewN n1).heap.size (w.drewN n1) w2))
   clear s2 f2 b2 hDl HSb HB hcc hx hlt' HA
   go_wp2_with fail
   have hC:=HSa.out k _ (HA2.out.alloc (.cells #[] 135)) hk
   rw[World.size_alloc]at hC
   refine hC.mono ?_
   clear hC HSa
   rintro e w3 ⟨A3,rfl,s3,f3,b3⟩
   have hown:=World.ownsRow_made (base:=w2.heap.size) (size:=1) (e:=135) w2 #[] 0 (Nat.le_refl _) (by simp[maxLen]) rfl
   have b3':Below (w2.alloc (.cells #[] 135)).heap.size (w2.alloc (.cells #[] 135)) w3:=by rw[World.size_alloc];exact b3
   have Hown:=lhd (hown.kept (ZdH b3' none) (.inr (by simp[Value.ownBlock])))
   have hz3:w2.heap.size<w3.heap.size:=by have:=b3.size;rw[World.size_alloc]at this;omega
   have S3:=lhd s3
   have S2':=lhd ((S2.out.alloc (.cells #[] 135)).below b3')
   have B3:=lhd (B2.out.trans (((Below.refl w2.heap.size w2).alloc (nlr _) _).trans (b3.mono (by omega)) |>.mono hz2))
   obtain⟨b5,o5,rfl,hb5,-⟩:=s3 (show 0<wl (a*2 ^ k) by omega)
   obtain⟨LA,hLA⟩:∃ LA,wl (a*2 ^ k)=LA:=⟨_,rfl⟩
   rw[hLA]at hAl hAg ⊢
   have HLA:=lhd hLA
   clear hLA s3 f3 b3 hown b3' HA2 S2 B2
   go_wp2_with (at_builtin;refine wpList_append_own _ rfl (.tmp 50) (.tmp 53) 183 rfl w2.heap.size 135 i0 (.int .u32 0) 1 4 Tryz.underlying183 HI.out HZ0.out HZ1.out HZ2.out rfl (by decide) _ 0 [] rfl Hown.out ⟨b5,o5,none⟩ LA LA (cells .u32 (digs WB (a*2 ^ k))) rfl (by rw[XN,Nat.mul_one];exact HLA.out) (Ui S3.out) (Za7 _ _) (by unfold maxLen;omega) (by omega) (by omega) ?_;intro v4 w4 hown4 hgrow4 _)
   have hgrow:w3.grownBy w4 (some w2.heap.size):=hgrow4
   rw[Nat.zero_add,List.nil_append]at hown4
   have S4:=lhd (S2'.out.grown hgrow (fun a e=>by injection e with e;subst e;simp;omega))
   have B4:=lhd (B3.out.grown hgrow (by omega) (fun k hk=>by injection hk with hk;omega))
   have hz4:w2.heap.size<w4.heap.size:=by have:=hgrow.size;omega
   have hown4':w4.ownsRow w2.heap.size 135 1 v4 (digs WB (a*2 ^ k)).length (cells .u32 (digs WB (a*2 ^ k))):=by rw[show(digs WB (a*2 ^ k)).length=LA from HLA.out];exact hown4
   have Hown4:=lhd hown4'
   have HLA':=lhd (show(digs WB (a*2 ^ k)).length=LA from HLA.out)
   clear hgrow hgrow4 hown4 hown4' S2' B3 S3 Hown HLA hz3 hb5 e2 e3
   go_loopw [10] (fun s10 wr=>∃ ds:List Nat,wr.ownsRow w2.heap.size 135 1 s10 ds.length (cells .u32 ds)∧na≤ds.length∧ds.length≤na+1∧Dig WB ds∧val WB ds=a*2 ^ k∧Shows .u32 wr (some ⟨b4,o4,none⟩) (digs WB (b*2 ^ k))∧Below w.heap.size w wr∧w2.heap.size<wr.heap.size) (fun s10 _=>na+1-Ze1 s10)
   case atStart=>exact⟨_,Hown4.out,by rw[HLA'.out];exact hAg,by rw[HLA'.out];exact hAl,Zh WB2 _,Ze WB2 _,S4.out,B4.out,hz4⟩
   case round =>
    clear Hown4 HLA' S4 B4 hz4 hAl hAg
    obtain⟨ds,hown,hl1,hl2,hdd,hdv,hS,hB,hz⟩:=hrel
    obtain⟨L,hL⟩:∃ L,ds.length=L:=⟨_,rfl⟩
    have HL:=lhd hL
    rw[hL]at hown hl1 hl2
    clear hL
    obtain⟨g,cap,rfl,hg,hcap,hcm,hrow⟩:=own_rowP hown (by omega)
    have Hown:=lhd hown
    have HD:=lhd hdd;have HV:=lhd hdv;have HS:=lhd hS;have HB:=lhd hB;have HR:=lhd hrow
    clear hown hdd hdv hS hB hrow
    by_cases hlt:L≤na
    ·obtain rfl:L=na:=by omega
     go_wp2_with (at_builtin;refine wpList_append_own _ rfl (.tmp 60) (.tmp 61) 183 rfl w2.heap.size 135 i0 (.int .u32 0) 1 4 Tryz.underlying183 HI.out HZ0.out HZ1.out HZ2.out rfl (by decide) (.slice (some ⟨g,0,none⟩) L cap) L (cells .u32 ds) rfl (Hown.out.alloc _) ⟨wr.heap.size,0,none⟩ 1 1 [.int .u32 0] rfl rfl (fun j u hj=>by match j,hj with | 0,hj=>simp at hj;subst hj;simp[Addr.add,go_sem]) (fun u hu=>by simp at hu;subst hu;rfl) (by unfold maxLen;omega) (by omega) (by simp;omega) ?_;intro v5 w5 hown5 hgrow5 _)
     have hg5:(wr.alloc (Obj.cells #[Value.int IntKind.u32 0] 135)).grownBy w5 (some g):=hgrow5
     obtain⟨A5,c5,rfl⟩:=own_form hown5
     refine⟨⟨ds++[0],?_,by simp[HL.out],by simp[HL.out],XS HD.out (by decide),by rw[Zaf];exact HV.out,(HS.out.alloc _).grown hg5 (fun a e=>by injection e with e;subst e;simp;omega),(HB.out.alloc (by omega) _).grown hg5 (by simp;omega) (fun k hk=>by injection hk with hk;omega),by have:=hg5.size;simp at this;omega⟩,by simp only[Ze1];omega⟩
     rw[List.length_append,HL.out,← K5]
     exact hown5
    ·obtain rfl:L=na+1:=by omega
     have HS0:=lhd (show seg (fun i=>ds.getD i 0) 0 (na+1)=ds by rw[← HL.out];exact seg_list ds)
     obtain⟨Q,hQ⟩:∃ Q,Q+(n+2)=na+1:=⟨na+1-(n+2),by omega⟩
     have hdf:∀ i,ds.getD i 0<WB:=fun i=>HD.out.getD (by decide) i
     have HDF:=lhd hdf
     clear hdf Hown HL HD hl1 hl2 hlt
     have hmk:∀ W:World,(Instr.makeSlice 183 (.int .i64 ((na:Int)+1-((n:Int)+2))) (.int .i64 ((na:Int)+1-((n:Int)+2)))).run Tryz.prog W=.ok (.slice (some ⟨W.heap.size,0,none⟩) Q Q) (W.alloc (.cells (madeCells #[.int .u32 0] Q) 135)):=fun W=>by
      have:=Zab Q (by omega) W
      rw[show(Q:Int)=(na:Int)+1-((n:Int)+2) by omega]at this
      exact this
     obtain⟨W7,h7⟩:∃ W7:World,W7=wr:=⟨_,rfl⟩
     subst h7
     have hgW:g<W7.heap.size:=HR.out.lt
     have hQb:Q≤1000000:=by omega
     have HQ:=lhd hQ
     clear hQ
     go_wp2_with fail
     clear hmk
     go_loopw [13] (fun s13 wr=>∃ (j:Nat) (f:Nat→Nat) (qs:List Nat),s13=.int .i64 ((j:Int)-1)∧j≤Q∧qs.length+j=Q∧Dig WB qs∧(∀ i,f i<WB)∧a*2 ^ k=b*2 ^ k*(WB ^ j*val WB qs)+val WB (seg f 0 (j+(n+2)))∧val WB (seg f 0 (j+(n+2)))<b*2 ^ k*WB ^ j ∧
      rowP wr g 135 (na+1) (rowN f)∧wr.rowIs W7.heap.size 135 Q (rowH j qs)∧Shows .u32 wr (some ⟨b4,o4,none⟩) (digs WB (b*2 ^ k))∧Below w.heap.size w wr) (fun s _=>(intOf s+1).toNat)
     case atStart =>
      have hv:val WB (seg (fun i=>ds.getD i 0) 0 (Q+(n+2)))=a*2 ^ k:=by rw[HQ.out,HS0.out];exact HV.out
      have hlt:a*2 ^ k<b*2 ^ k*WB ^ Q:=HLS2.out.lt Q (by have:=HNA.out;have:=HQ.out;show Q+(n+2)=wl a+1;omega)
      refine⟨Q,fun i=>ds.getD i 0,[],rfl,Nat.le_refl _,by simp,fun x hx=>absurd hx (by simp),HDF.out,?_,?_,HR.out.of_block (Below.heap_alloc _ _ _ hgW),(World.rowIs_made W7 _ Q _).congr (fun i hi=>Zcv Q i hi),HS.out.alloc _,HB.out.alloc (by omega) _⟩
      ·rw[hv];simp[val]
      ·rw[hv];exact hlt
     case round =>
      obtain⟨j,f,qs,rfl,hj,hql,hqd,hf,hA,hlt,hr,hq,hS,hB⟩:=hrel
      clear HS0 HV HR HS HB HDF
      by_cases h0:0<j
      ·obtain⟨i,rfl⟩:∃ i,j=i+1:=⟨j-1,by omega⟩
       rw[show((i+1:Nat):Int)-1=(i:Int) by omega]
       have hbnd:i+(n+2)+1≤na+1:=by have:=HQ.out;omega
       have hD0:=HLS2.out.dpos
       have hDn:b*2 ^ k≤WB ^ (n+2):=by have:=Z3 WB2 (b*2 ^ k);rw[show(digs WB (b*2 ^ k)).length=n+2 from HDl.out]at this;omega
       have hST:=lhd (step_any g i n (na+1) (cap-i) (n+2) (b*2 ^ k) f (some ⟨b4,o4,none⟩) wr hr (by omega) (by omega) hf hS HDl.out (fun a e=>by injection e with e;subst e;simp;omega) (Zgk (by decide) hlt))
       have hLS:=lhd (fun (R:List Nat) (hl:R.length=n+3) (hv:val WB R=val WB (seg f i (n+3)) % (b*2 ^ k)) =>
        Zit (B:=WB) (f':=put f i R) (by decide) hD0 hDn hf rfl hlt hA rfl (ZcH f i R) (by have h5:=seg_put f i R;rw[hl]at h5;show val WB (seg (put f i R) i (n+3))=_;rw[h5];exact hv))
       have hub:val WB (seg f i (n+3)) / (b*2 ^ k)<WB:=Nat.div_lt_of_lt_mul (Zgk (by decide) hlt)
       have HQL:=lhd hql;have HQD:=lhd hqd;have HF:=lhd hf;have HR:=lhd hr;have HQR:=lhd hq;have HS:=lhd hS;have HB:=lhd hB
       clear hql hqd hf hA hlt hr hq hS hB hDn hD0
       go_wp2_with fail
       rw[show i+(n+2)+1-i=n+3 by omega]
       refine hST.out.mono ?_
       clear hST
       rintro e w8 ⟨R,rfl,r1,r2,r3,r4,r5⟩
       have hq8:=HQR.out.of_block (r5.block W7.heap.size HQR.out.lt (by simp;omega))
       have hcq:=hq8.cell (show i<Q by omega)
       have hfq:=hq8.frozen i
       have hzq:=hq8.lt
       have S8:=lhd (HS.out.grown r5 (fun a e=>by injection e with e;subst e;simp;omega))
       have B8:=lhd (HB.out.grown r5 HB.out.size (fun k hk=>by injection hk with hk;omega))
       have HQ8:=lhd hq8
       have R1:=lhd r1;have R2:=lhd r2;have R3:=lhd r3;have R4:=lhd r4
       clear r1 r2 r3 r4 r5 HR HQR HS HB hq8
       generalize hu:val WB (seg f i (n+3)) / (b*2 ^ k)=u at *
       have HU:=lhd hu
       clear hu
       go_wp2_with fail
       obtain⟨-,l1,l2⟩:=hLS.out R R1.out R3.out
       refine⟨⟨i,put f i R,u::qs,rfl,by omega,by have:=HQL.out;simp only[List.length_cons];omega,?_,put_lt HF.out R2.out,l1,l2,R4.out.of_block (Below.heap_setCell _ _ _ _ (by simp;omega)),Zcw HQ8.out,S8.out.grown (Yd (World.grownBy.refl w8 (some W7.heap.size)) (.inl rfl) _) (fun a e=>by injection e with e;subst e;simp;omega),B8.out.setCell (by simp;omega) _⟩,by simp[intOf]⟩
       intro z hz
       rcases List.mem_cons.1 hz with rfl | hz
       ·exact hub
       ·exact HQD.out z hz
      ·obtain rfl:j=0:=by omega
       have hD0:=HLS2.out.dpos
       have hql':qs.length=Q:=by omega
       rw[Nat.pow_zero,Nat.mul_one]at hlt
       rw[Nat.pow_zero,Nat.one_mul,Nat.zero_add]at hA
       rw[Nat.zero_add]at hlt
       obtain⟨v1,v2,v3⟩:=long_end hD0 hA hlt
       have sq:=Zcx hq hql'
       have sr:=Zg0 (j:=0) (m:=n+2) hr (by have:=HQ.out;omega)
       have drr:=Zbe hf 0 (n+2)
       have Tr:=lhd (fun (W:World) (h:Shows .u32 W (some ⟨g,0,none⟩) (seg f 0 (n+2)))=>by
        have:=Z4 (some ⟨g,0,none⟩) (seg f 0 (n+2)) cap W h drr (by rw[ZE];have:=HQ.out;omega) hcm
        rw[ZE]at this;exact this)
       have hVb:val WB (seg f 0 (n+2))<WB ^ (n+2):=by have:=ZT drr;rwa [ZE]at this
       have hVl:wl (val WB (seg f 0 (n+2)))≤n+2:=Zm WB2 hVb
       have h2k:2 ^ k<4294967296:=Nat.lt_of_le_of_lt (Nat.pow_le_pow_right (by decide) hk) (by decide)
       have h2p:0<2 ^ k:=Nat.pow_pos (by decide)
       have Sr:=lhd (fun (W:World) (h:Shows .u32 W (some ⟨g,0,none⟩) (digs WB (val WB (seg f 0 (n+2)))))=>by
        have:=ZdC (some ⟨g,0,none⟩) (digs WB (val WB (seg f 0 (n+2)))) (2 ^ k) (wl (val WB (seg f 0 (n+2)))) W h (Zh WB2 _) (show wl (val WB (seg f 0 (n+2)))≤1000000 by omega) h2p h2k
        rw[Ze WB2,v2]at this;exact this)
       have Tq:=lhd (fun (W:World) (h:Shows .u32 W (some ⟨W7.heap.size,0,none⟩) qs)=>by
        have:=Z4 (some ⟨W7.heap.size,0,none⟩) qs Q W h hqd (by omega) (by unfold maxLen;omega)
        rw[hql',v1]at this;exact this)
       have SQ:=lhd sq;have SQT:=lhd (v1 ▸ sq.trim hqd:Shows .u32 wr (some ⟨W7.heap.size,0,none⟩) (digs WB (a / b)))
       have SR:=lhd sr;have SRT:=lhd (sr.trim drr)
       have hqw:wl (a / b)≤Q:=by rw[← v1];exact Nat.le_trans (Zm WB2 (ZT hqd)) (by omega)
       have hrw:wl (a % b)≤n+2:=by rw[← v2];exact Nat.le_trans (ZV WB2 (Nat.div_le_self _ _)) hVl
       have HB:=lhd hB
       have hpc:(2:Int) ^ k % 4294967296=((2 ^ k:Nat):Int):=by
        have:((2 ^ k:Nat):Int)=(2:Int) ^ k:=by simp
        rw[← this];omega
       clear hql hqd hf hA hlt hr hq hS hB hD0 v1 v2 v3 sq sr drr hVb hql'
       generalize 2 ^ k=pk at *
       have hzr:w.heap.size≤wr.heap.size:=HB.out.size
       go_wp2_with fail
       refine(Tr.out _ SR.out).mono ?_
       rintro e w' ⟨rfl,rfl⟩
       clear Tr
       go_wp2_with fail
       refine(Sr.out _ SRT.out).mono ?_
       rintro e w9 ⟨A9,rfl,s9,f9,b9⟩
       have S9:=lhd s9;have B9:=lhd b9
       have SQ9:=lhd (SQ.out.below b9)
       clear s9 f9 b9 Sr
       go_wp2_with fail
       refine(Tq.out _ SQ9.out).mono ?_
       rintro e w' ⟨rfl,rfl⟩
       clear Tq
       go_wp2_with fail
       go_ret2
       exact⟨some ⟨W7.heap.size,0,none⟩,wl (a / b),A9,wl (a % b),rfl,nlr _,by unfold maxLen;omega,nlr _,by unfold maxLen;omega,SQT.out.below B9.out,S9.out,HB.out.trans (B9.out.mono hzr)⟩
theorem Ze2{b:Nat}(h:0<b):Zad b:=by
 intro A A' a c c' w ha hb hal hca hc
 by_cases hlt:a<b
 ·exact Zf0 A A' a b c c' w ha hb hal hca hc hlt
 ·have h0:wl b≠0:=fun e=>by have:=XE.1 e;omega
  by_cases h1:wl b=1
  ·exact ZhK A A' a b c c' w ha hb hal h1 (by omega)
  ·exact ZfQ A A' a b (wl b-2) c c' w ha hb hal (by omega) (by omega)
end
end Go.Proofs.YthkklilhjnpedaaGreatDoor
