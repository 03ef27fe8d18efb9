/- Words: minus. Words: short. Words: divide by one word; DivMod out of divide. Words: DivMod where nothing is to be put right. Words: DivMod. -/
import Derived.Test.YthkklilhjnpedaaGreatDoorUWordA
import Derived.Laws.Bits64b
set_option maxHeartbeats 16000000
set_option maxRecDepth 8000
namespace Go.Proofs.YthkklilhjnpedaaGreatDoor
open Go.RowKit FF
theorem Zab(N:Nat)(hl:N≤1000000000):∀ W:World,(Instr.makeSlice 183 (.int .i64 (N:Int)) (.int .i64 (N:Int))).run Tryz.prog W =
  .ok (.slice (some ⟨W.heap.size,0,none⟩) N N) (W.alloc (.cells (madeCells #[.int .u32 0] N) 135)):=
 fun W=>run_make_row' (P:=Tryz.prog) 183 135 (.int .u32 0) 4 Tryz.underlying183 Uh rfl .i64 .i64 N (by omega) (by omega) W
theorem sub_lo{x y cy:Nat}(hy:y<4294967296)(hc:cy≤1)(h:x<y+cy) :
  IntKind.u64.wrap (IntKind.u64.wrap ((x:Int)-y)-cy) % 4294967296=((x+4294967296-y-cy:Nat):Int):=by
 simp only[IntKind.wrap,IntKind.bits,IntKind.signed];simp;omega
theorem sub_hi{x y cy:Nat}(hy:y<4294967296)(hc:cy≤1)(h:x<y+cy) :
  IntKind.u64.wrap (IntKind.u64.wrap ((x:Int)-y)-cy) / 9223372036854775808=((1:Nat):Int):=by
 simp only[IntKind.wrap,IntKind.bits,IntKind.signed];simp;omega
theorem int_eq{k:IntKind}{a b:Int}(h:a=b):Value.int k a=Value.int k b:=by rw[h]
theorem Za8(A A':Option Addr)(xs ys:List Nat)(c c':Nat)(w:World)(hx:Shows .u32 w A xs)(hy:Shows .u32 w A' ys)(dx:Dig WB xs)(dy:Dig WB ys)(hxl:xs.length≤1000000)
  (hyl:ys.length≤xs.length) (hle:val WB ys≤val WB xs) :
  Calls Tryz.prog 142 #[.slice A xs.length c,.slice A' ys.length c'] w fun e w' =>
   ∃ A2,e=.returned (.slice A2 (wl (val WB xs-val WB ys)) (wl (val WB xs-val WB ys)))∧Shows .u32 w' A2 (digs WB (val WB xs-val WB ys))∧Fresh w.heap.size A2∧Below w.heap.size w w':=by
 generalize hN:xs.length=N at *
 have hmk:=Zab N (by omega)
 have haty:=lhd (fun (i:Nat) (w':World) (hi:i≤N) (h:Shows .u32 w' A' ys)=>Kb A' ys c' i w' h (by omega) dy)
 have bx:=lhd (fun i=>dx.getD (show 0<WB by decide) i)
 have by':=lhd (fun i=>dy.getD (show 0<WB by decide) i)
 have HX:=lhd hx;have HY:=lhd hy
 have fin1:=lhd (show xs.take N=xs from tOl (by omega))
 have fin2:=lhd (show ys.take N=ys from tOl (by omega))
 have hXN:Hid (xs.length=N):=lhd hN
 have HLE:=lhd hle
 clear hx hy dx dy hN hle
 generalize hn2:ys.length=n2 at *
 clear hn2
 go_enter Tryz.func142,Tryz.ntmps142
 go_wp2
 go_loopw [6,7,8,14] (fun s6 _ _ s14 wr=>∃ (i cy:Nat) (ds:List Nat),s6=.int .u64 cy∧s14=.int .i64 i∧i≤N∧cy≤1∧ds.length=i∧Dig WB ds∧val WB ds+val WB (ys.take i)=val WB (xs.take i)+WB ^ i*cy∧wr.rowIs w.heap.size 135 N (rowF ds)∧Below w.heap.size w wr) (fun _ _ _ s _=>N-(intOf s).toNat)
 case atStart=>exact⟨0,0,[],rfl,rfl,Nat.zero_le _,Nat.zero_le _,rfl,fun x hx=>absurd hx (by simp),by simp[val],(World.rowIs_made w _ N _).congr (fun i _=>by rw[← ZbV]),(Below.refl _ _).alloc (Nat.le_refl _) _⟩
 case round =>
  obtain⟨i,cy,ds,rfl,rfl,hi,hcy,hdl,hdd,hv,hr,hb⟩:=hrel
  by_cases hiN:i<N
  ·have sx:=HX.out.below hb
   have sy:=HY.out.below hb
   have bxi:=bx.out i
   have byi:=by'.out i
   have cyy:=lhd (fun W (h:Shows .u32 W A' ys)=>haty.out i W (by omega) h)
   have hstep:=lhd (fun c' d hh=>ZgE (B:=WB) (xs:=xs) (ys:=ys) (c:=cy) (c':=c') (d:=d) hdl hv hh)
   unfold WB at bxi byi
   have hcell:=hr.cell hiN
   have hfro:=hr.frozen i
   have hGs:w.heap.size<wr.heap.size:=hr.lt
   obtain⟨b1,o1,rfl,hb1,hc1⟩:=sx (by rw[hXN.out];omega)
   have hx1:=hc1 i (by rw[hXN.out];exact hiN)
   have HR:=lhd hr;have HB:=lhd hb;have HD:=lhd hdd;have HL:=lhd hdl
   have SY:=lhd sy
   clear hv hr hb hdd hdl sx sy haty bx by' fin1 fin2 hmk HLE hc1
   generalize xs.getD i 0=x at *
   generalize ys.getD i 0=y at *
   have hiN':(i:Int)<N:=by omega
   by_cases hc:y+cy≤x
   ·go_wp2_with fail
    go_quiet ((go_at_call 182;exact Calls.quiet_of (cyy.out _ (SY.out.drewN _))))
    go_wp2_with fail
    have hs:=hstep.out 0 (x-y-cy) (by unfold WB;omega)
    refine⟨⟨i+1,0,ds++[x-y-cy],int_eq (by omega),by go_num,by omega,by omega,by simp[HL.out],XS HD.out (by unfold WB;omega),hs,?_,?_⟩,by simp[intOf];omega⟩
    ·have:=UP (d:=x-y-cy) (w:=wr.drewN nq) (HR.out:(wr.drewN nq).rowIs w.heap.size 135 N (rowF ds))
     rw[HL.out]at this
     rw[show((x:Int)-y-cy)=((x-y-cy:Nat):Int) by omega]
     exact this
    ·exact(Zi HB.out _).setCell (nlr _) _
   ·go_wp2_with fail
    go_quiet ((go_at_call 182;exact Calls.quiet_of (cyy.out _ (SY.out.drewN _))))
    go_wp2_with fail
    have hs:=hstep.out 1 (x+4294967296-y-cy) (by unfold WB;omega)
    refine⟨⟨i+1,1,ds++[x+4294967296-y-cy],int_eq (sub_hi byi hcy (by omega)),by go_num,by omega,by omega,by simp[HL.out],XS HD.out (by unfold WB;omega),hs,?_,?_⟩,by simp[intOf];omega⟩
    ·have:=UP (d:=x+4294967296-y-cy) (w:=wr.drewN nq) (HR.out:(wr.drewN nq).rowIs w.heap.size 135 N (rowF ds))
     rw[HL.out]at this
     rw[sub_lo byi hcy (by omega)]
     exact this
    ·exact(Zi HB.out _).setCell (nlr _) _
  ·obtain rfl:N=i:=by omega
   rw[fin1.out,fin2.out]at hv
   have hz:cy=0:=by
    apply bCo;intro hc
    have h1:=HLE.out
    have h2:WB ^ N*1≤WB ^ N*cy:=Nat.mul_le_mul_left _ (by omega)
    have h3:=ZT hdd
    rw[hdl]at h3
    omega
   rw[hz,Nat.mul_zero,Nat.add_zero]at hv
   have hv2:val WB ds=val WB xs-val WB ys:=by omega
   have sh:=Kr hr hdl
   have T1:=Z4 (some ⟨w.heap.size,0,none⟩) ds N wr sh hdd (by omega) (by unfold maxLen;omega)
   have S1:=sh.trim hdd
   rw[hdl,hv2]at T1
   rw[hv2]at S1
   have HT:=lhd T1;have HS:=lhd S1;have HB:=lhd hb
   clear T1 S1 hv hv2 hr hb hdd hdl sh haty bx by' fin1 fin2 hmk hz
   go_wp2_with fail
   refine HT.out.mono ?_
   rintro e w' ⟨rfl,rfl⟩
   go_wp2_with fail
   go_ret
   exact⟨_,rfl,HS.out,Fresh.mk (nlr _),HB.out⟩
open Go.RowKit FF
def rowH(k:Nat)(qs:List Nat):Nat→Value:=fun j=>.int .u32 (if j<k then 0 else qs.getD (j-k) 0:Nat)
theorem Zcv(n:Nat)(i:Nat)(h:i<n):Value.int .u32 0=rowH n [] i:=by simp[rowH,h]
theorem Zcw{w:World}{G T n k:Nat}{qs:List Nat}{d:Nat}(h:w.rowIs G T n (rowH (k+1) qs)):(w.setCell ⟨G,k,none⟩ (.int .u32 (d:Nat))).rowIs G T n (rowH k (d::qs)):=by
 refine(h.set k (.int .u32 (d:Nat))).congr fun i _=>?_
 unfold rowH
 by_cases h1:i=k
 ·subst h1;simp
 ·rw[if_neg h1]
  by_cases h2:i<k
  ·rw[if_pos h2,if_pos (by omega)]
  ·rw[if_neg h2,if_neg (by omega)]
   obtain⟨m,hm⟩:∃ m,i-k=m+1:=⟨i-k-1,by omega⟩
   rw[hm,show i-(k+1)=m by omega];simp
theorem Zcx{w:World}{G T n:Nat}{qs:List Nat}(h:w.rowIs G T n (rowH 0 qs))(hl:qs.length=n):Shows .u32 w (some ⟨G,0,none⟩) qs:=by
 intro _
 refine⟨G,0,rfl,h.lt,fun i hi=>?_⟩
 rw[Nat.zero_add,h.cell (by omega)]
 unfold rowH
 rw[if_neg (by omega),Nat.sub_zero]
theorem ZhJ{v:Value}{k:IntKind}{a b:Nat}(h:a=b):Ending.returned (.tuple #[v,.int k (a:Int)])=.returned (.tuple #[v,.int k (b:Int)]):=by rw[h]
theorem Zac{r x:Nat}(hr:r<4294967296)(hx:x<4294967296):bits .or .u64 ((r:Int)*4294967296) (x:Int)=((r*4294967296+x:Nat):Int):=by
 have h:=bits_or_u64_nat (r*4294967296) x (by omega) (by omega)
 rw[show((r*4294967296:Nat):Int)=(r:Int)*4294967296 by omega]at h
 rw[h]
 have e:r*4294967296 ||| x=r*4294967296+x:=by
  have:=Nat.shiftLeft_add_eq_or_of_lt (b:=x) (i:=32) (by omega) r
  rw[Nat.shiftLeft_eq,show 2 ^ 32=4294967296 by decide]at this
  exact this.symm
 omega
theorem ZdC(A:Option Addr)(xs:List Nat)(d c:Nat)(w:World)(hx:Shows .u32 w A xs)(dx:Dig WB xs)(hxl:xs.length≤1000000)(hd0:0<d)(hd:d<4294967296) :
  Calls Tryz.prog 206 #[.slice A xs.length c,.int .u32 d] w fun e w' =>
   ∃ A2,e=.returned (.tuple #[.slice A2 (wl (val WB xs / d)) (wl (val WB xs / d)),.int .u32 (val WB xs % d:Nat)])∧Shows .u32 w' A2 (digs WB (val WB xs / d))∧Fresh w.heap.size A2∧Below w.heap.size w w':=by
 generalize hN:xs.length=N at *
 have hmk:=Zab N (by omega)
 have bx:=lhd (fun i=>dx.getD (show 0<WB by decide) i)
 have HX:=lhd hx
 have hXN:Hid (xs.length=N):=lhd hN
 have st:=lhd (show val WB (xs.drop N)=d*val WB []+0 by rw[← hXN.out,List.drop_length];simp[val])
 clear hx dx hN
 go_enter Tryz.func206,Tryz.ntmps206
 go_wp2
 go_loopw [7,8] (fun s7 s8 wr=>∃ (k r:Nat) (qs:List Nat),s7=.int .u64 r∧s8=.int .i64 ((k:Int)-1)∧k≤N∧r<d∧qs.length+k=N∧Dig WB qs∧val WB (xs.drop k)=d*val WB qs+r∧wr.rowIs w.heap.size 135 N (rowH k qs)∧Below w.heap.size w wr) (fun _ s _=>(intOf s+1).toNat)
 case atStart=>exact⟨N,0,[],rfl,rfl,Nat.le_refl _,hd0,by simp,fun x hx=>absurd hx (by simp),st.out,(World.rowIs_made w _ N _).congr (fun i hi=>Zcv N i hi),(Below.refl _ _).alloc (Nat.le_refl _) _⟩
 case round =>
  clear st
  obtain⟨k,r,qs,rfl,rfl,hk,hrd,hql,hqd,hv,hr,hb⟩:=hrel
  by_cases h0:0<k
  ·obtain⟨i,rfl⟩:∃ i,k=i+1:=⟨k-1,by omega⟩
   rw[show((i+1:Nat):Int)-1=(i:Int) by omega]
   have sx:=HX.out.below hb
   have bxi:=bx.out i
   unfold WB at bxi
   have hstep:=lhd (fun x hx=>ZgF (B:=WB) (i:=i) (x:=x) (by rw[hXN.out];omega) hx hv)
   have hstep2:=lhd (hstep.out _ rfl)
   have hcell:=hr.cell (show i<N by omega)
   have hfro:=hr.frozen i
   have hGs:w.heap.size<wr.heap.size:=hr.lt
   obtain⟨b1,o1,rfl,hb1,hc1⟩:=sx (by rw[hXN.out];omega)
   have hx1:=hc1 i (by rw[hXN.out];omega)
   have HR:=lhd hr;have HB:=lhd hb;have HD:=lhd hqd;have HL:=lhd hql
   clear hv hr hb hqd hql sx bx hmk hc1 hstep
   generalize xs.getD i 0=x at *
   have hiN':(i:Int)<N:=by omega
   have hor:=Zac (show r<4294967296 by omega) bxi
   go_wp2_with fail
   have hq:(r*4294967296+x) / d<4294967296:=by
    rw[Nat.div_lt_iff_lt_mul hd0]
    have:(r+1)*4294967296≤4294967296*d:=by rw[Nat.mul_comm];exact Nat.mul_le_mul_left _ hrd
    omega
   have e1:(((r:Int)*4294967296+x) / d % 4294967296)=(((r*4294967296+x) / d:Nat):Int):=by
    rw[show((r:Int)*4294967296+x)=((r*4294967296+x:Nat):Int) by omega,← Int.natCast_ediv]
    generalize (r*4294967296+x) / d=q at *
    omega
   have e2:(((r:Int)*4294967296+x) % d)=(((r*4294967296+x) % d:Nat):Int):=by
    rw[show((r:Int)*4294967296+x)=((r*4294967296+x:Nat):Int) by omega,← Int.natCast_emod]
   rw[e1,e2]
   refine⟨⟨i,(r*4294967296+x) % d,(r*4294967296+x) / d::qs,rfl,rfl,by omega,Nat.mod_lt _ hd0,by have:=HL.out;simp only[List.length_cons];omega,?_,hstep2.out,Zcw HR.out,HB.out.setCell (Nat.le_refl _) _⟩,by simp[intOf]⟩
   intro z hz
   rcases List.mem_cons.1 hz with rfl | hz
   ·exact hq
   ·exact HD.out z hz
  ·obtain rfl:k=0:=by omega
   rw[List.drop_zero]at hv
   have hql':qs.length=N:=by omega
   have sh:=Zcx hr hql'
   have T1:=Z4 (some ⟨w.heap.size,0,none⟩) qs N wr sh hqd (by omega) (by unfold maxLen;omega)
   have S1:=sh.trim hqd
   have v1:val WB qs=val WB xs / d:=by rw[hv,Nat.mul_add_div hd0,Nat.div_eq_of_lt hrd,Nat.add_zero]
   have v2:r=val WB xs % d:=by rw[hv,Nat.mul_add_mod,Nat.mod_eq_of_lt hrd]
   rw[hql',v1]at T1
   rw[v1]at S1
   have HT:=lhd T1;have HS:=lhd S1;have HB:=lhd hb;have V2:=lhd v2
   clear T1 S1 v1 v2 hv hr hb hqd hql hql' sh bx hmk
   go_wp2_with fail
   refine HT.out.mono ?_
   rintro e w' ⟨rfl,rfl⟩
   go_wp2_with fail
   go_ret2
   exact⟨_,ZhJ V2.out,HS.out,Fresh.mk (nlr _),HB.out⟩
open Go.RowKit FF
def YQ(w:World)(a b:Nat)(e:Ending)(w':World):Prop:=
 ∃ A2 c2 A3 c3,e=.returned (.tuple #[.slice A2 (wl (a / b)) c2,.slice A3 (wl (a % b)) c3])∧wl (a / b)≤c2∧c2≤maxLen∧wl (a % b)≤c3∧c3≤maxLen ∧
  Shows .u32 w' A2 (digs WB (a / b))∧Shows .u32 w' A3 (digs WB (a % b))∧Below w.heap.size w w'
theorem one_word{b:Nat}(h:wl b=1):0<b∧b<4294967296∧digs WB b=[b]:=by
 have h0:b≠0:=by rintro rfl;simp[wl,digs,digF]at h
 have h1:=Z3 WB2 b
 have h2:(digs WB b).length=1:=h
 rw[h2,Nat.pow_one]at h1
 have h3:=XF WB2 h0
 rw[Nat.mod_eq_of_lt h1,Nat.div_eq_of_lt h1,XC]at h3
 exact⟨by omega,h1,h3⟩
theorem Zf0(A A':Option Addr)(a b c c':Nat)(w:World)(ha:Shows .u32 w A (digs WB a))(hb:Shows .u32 w A' (digs WB b))(hal:wl a≤1000000)(hca:wl a≤c)(hc:c≤maxLen)(hlt:a<b) :
  Calls Tryz.prog 199 #[.slice A (wl a) c,.slice A' (wl b) c'] w (YQ w a b):=by
 have HC:=lhd (Zcz hlt ▸ Us A A' a b c c' w ha hb hal)
 have HA:=lhd ha
 have e1:=lhd (Nat.div_eq_of_lt hlt)
 have e2:=lhd (Nat.mod_eq_of_lt hlt)
 clear ha hb hlt
 go_enter Tryz.func199,Tryz.ntmps199
 go_wp2_with fail
 refine HC.out.mono ?_
 rintro e w' ⟨rfl,n1,rfl⟩
 clear HC
 go_wp2_with fail
 go_ret2
 refine⟨none,0,A,c,?_,?_,by simp[maxLen],?_,hc,?_,?_,Zi (Below.refl _ _) _⟩
 ·rw[e1.out,e2.out];rfl
 ·rw[e1.out];exact nlr _
 ·rw[e2.out];exact hca
 ·rw[e1.out];exact Shows.nil
 ·rw[e2.out];exact HA.out
theorem ZhK(A A':Option Addr)(a b c c':Nat)(w:World)(ha:Shows .u32 w A (digs WB a))(hb:Shows .u32 w A' (digs WB b))(hal:wl a≤1000000)(hb1:wl b=1)(hle:b≤a) :
  Calls Tryz.prog 199 #[.slice A (wl a) c,.slice A' (wl b) c'] w (YQ w a b):=by
 unfold YQ
 obtain⟨b0,b1,b2⟩:=one_word hb1
 have hcmp:((cmpN a b)<0)=False:=by
  unfold cmpN;rw[if_neg (by omega)];split <;> simp
 have hcmp2:¬ cmpN a b<0:=by rw[hcmp];exact id
 have HC:=lhd (Us A A' a b c c' w ha hb hal)
 have HS:=lhd (fun (w':World) (h:Shows .u32 w' A (digs WB a))=>by
  have:=ZdC A (digs WB a) b c w' h (Zh WB2 a) hal b0 b1
  rw[Ze WB2]at this;exact this)
 have HO:=lhd (fun w'=>of_any (a % b) w' (nLl (Nat.mod_lt _ b0) (by omega)))
 have hml:a % b<4294967296:=Nat.lt_trans (Nat.mod_lt _ b0) b1
 have HA:=lhd ha
 obtain⟨bb,oo,rfl,hbb,hcell⟩:=hb (by rw[b2];simp)
 have hx:=hcell 0 (by rw[b2];simp)
 rw[b2]at hx
 simp only[Nat.add_zero,List.getD_cons_zero]at hx
 rw[hb1]at HC ⊢
 clear ha hb hcell hb1 b2 hcmp hle
 generalize a % b=r at *
 generalize hq:a / b=q at *
 have HQ:=lhd hq;clear hq
 generalize cmpN a b=cm at *
 go_enter Tryz.func199,Tryz.ntmps199
 go_wp2_with fail
 refine HC.out.mono ?_
 rintro e w' ⟨rfl,n1,rfl⟩
 clear HC
 go_wp2_with fail
 refine(HS.out _ (HA.out.drewN _)).mono ?_
 rintro e w2 ⟨A2,rfl,hs2,hf2,hbl2⟩
 have HS2:=lhd hs2;have HB2:=lhd hbl2;clear hs2 hf2 hbl2
 go_wp2_with fail
 refine(HO.out _).mono ?_
 rintro e w3 ⟨A3,rfl,hs3,hf3,hbl3⟩
 have HS3:=lhd hs3;have HB3:=lhd hbl3;clear hs3 hf3 hbl3
 go_wp2_with fail
 go_ret2
 have hz:w.heap.size≤w2.heap.size:=HB2.out.size
 have hrl:wl r≤2:=Zfh (by omega)
 have hql:wl q≤wl a:=ZV WB2 (by rw[← HQ.out];exact Nat.div_le_self _ _)
 exact⟨A2,wl q,A3,wl r,rfl,nlr _,by unfold maxLen;omega,nlr _,by unfold maxLen;omega,HS2.out.below HB3.out,HS3.out,(Zi (Below.refl _ _) n1).trans (HB2.out.trans (HB3.out.mono hz))⟩
def Zad(b:Nat):Prop:=∀ (A A':Option Addr) (a c c':Nat) (w:World),Shows .u32 w A (digs WB a)→Shows .u32 w A' (digs WB b)→wl a≤1000000→wl a≤c→c≤maxLen →
 Calls Tryz.prog 199 #[.slice A (wl a) c,.slice A' (wl b) c'] w (YQ w a b)
theorem Xc{w W:World}{c0 c1 c2 c3:Array Value}{T:TypeId}(hb:Below (w.heap.size+1+1+1+1) ((((w.alloc (.cells c0 T)).alloc (.cells c1 T)).alloc (.cells c2 T)).alloc (.cells c3 T)) W) :
  (∀ i,W.cell? ⟨w.heap.size,i,none⟩=c0[i]?)∧(∀ i,W.cell? ⟨w.heap.size+1,i,none⟩=c1[i]?)∧(∀ i,W.cell? ⟨w.heap.size+1+1,i,none⟩=c2[i]?)∧(∀ i,W.cell? ⟨w.heap.size+1+1+1,i,none⟩=c3[i]?) ∧
  (∀ i,W.frozen? ⟨w.heap.size+1+1,i,none⟩=false)∧(∀ i,W.frozen? ⟨w.heap.size+1+1+1,i,none⟩=false)∧w.heap.size+1+1+1<W.heap.size:=by
 refine⟨fun i=>?_,fun i=>?_,fun i=>?_,fun i=>?_,fun i=>?_,fun i=>?_,?_⟩
 ·rw[hb.cell (p:=⟨w.heap.size,i,none⟩) (by simp;omega)];simp[go_sem]
 ·rw[hb.cell (p:=⟨w.heap.size+1,i,none⟩) (by simp)];simp[go_sem]
 ·rw[hb.cell (p:=⟨w.heap.size+1+1,i,none⟩) (by simp)];simp[go_sem]
 ·rw[hb.cell (p:=⟨w.heap.size+1+1+1,i,none⟩) (by simp)];simp[go_sem]
 ·rw[hb.frozen (p:=⟨w.heap.size+1+1,i,none⟩) (by simp)];simp[go_sem]
 ·rw[hb.frozen (p:=⟨w.heap.size+1+1+1,i,none⟩) (by simp)];simp[go_sem]
 ·have:=hb.size;simp at this;omega
theorem Zae{w W:World}{c0 c1 c2 c3:Array Value}{T:TypeId}(hb:Below (w.heap.size+1+1+1+1) ((((w.alloc (.cells c0 T)).alloc (.cells c1 T)).alloc (.cells c2 T)).alloc (.cells c3 T)) W):Below w.heap.size w W:=by
 refine Below.trans ?_ (hb.mono (by omega))
 exact((((Below.refl _ _).alloc (Nat.le_refl _) _).alloc (by simp) _).alloc (by simp;omega) _).alloc (by simp;omega) _
theorem Zf1(bx by':Bool)(A A':Option Addr)(xs ys:List Nat)(c c':Nat)(w:World)(hy:Shows .u32 w A' ys)(dy:Dig WB ys)(hcy:ys.length≤c')(hcy2:c'≤maxLen)(h0:val WB ys=0) :
  Calls Tryz.prog 168 #[.agg #[.bool bx,.slice A xs.length c],.agg #[.bool by',.slice A' ys.length c']] w fun e w' =>
   e=.returned (.tuple #[.agg #[.bool false,.slice none 0 0],.agg #[.bool false,.slice none 0 0],.int .i64 10])∧Below w.heap.size w w':=by
 have HS:=lhd (fun w' (h:Shows .u32 w' A' ys)=>h0 ▸ Xg by' A' ys c' w' h dy hcy hcy2)
 have HY:=lhd hy
 clear hy dy hcy hcy2 h0
 go_enter Tryz.func168,Tryz.ntmps168
 go_wp2_with fail
 refine(HS.out _ ((((HY.out.alloc _).alloc _).alloc _).alloc _)).mono ?_
 rintro e W1 ⟨rfl,hb1⟩
 simp only[World.size_alloc]at hb1
 obtain⟨k0,k1,k2,k3,f2,f3,hz⟩:=Xc hb1
 have HB:=lhd (Zae hb1)
 clear hb1
 go_wp2_with fail
 refine bodyPost_ret (v:=.tuple #[.agg #[.bool false,.slice none 0 0],.agg #[.bool false,.slice none 0 0],.int .i64 10]) (by simp[results,Tryz.results168,go_sem,k2,k3]) rfl ?_
 exact⟨rfl,((((HB.out.setCell (p:=⟨w.heap.size+1+1,0,none⟩) (by simp;omega) _).setCell (p:=⟨w.heap.size+1+1,1,none⟩) (by simp;omega) _).setCell (p:=⟨w.heap.size+1+1+1,0,none⟩) (by simp;omega) _).setCell (p:=⟨w.heap.size+1+1+1,1,none⟩) (by simp;omega) _)⟩
open Go.RowKit FF
set_option maxRecDepth 100000 in
theorem Zfj(bx by':Bool)(A A':Option Addr)(xs ys:List Nat)(c c':Nat)(w:World)(hx:Shows .u32 w A xs)(dx:Dig WB xs)(hcx:xs.length≤c)(hcx2:c≤maxLen)
  (hy:Shows .u32 w A' ys) (dy:Dig WB ys) (hcy:ys.length≤c') (hcy2:c'≤maxLen) (hal:wl (val WB xs)≤900000) (hbl:wl (val WB ys)≤900000) (hb0:0<val WB ys) (HD:Zad (val WB ys))
  (hadj:bx=true→val WB xs % val WB ys=0) (nn rr:Nat) (hnn:nn=val WB xs / val WB ys) (hrr:rr=val WB xs % val WB ys) (dq:Bool) (hdq:((bx != by') && decide (nn≠0))=dq) :
  Calls Tryz.prog 168 #[.agg #[.bool bx,.slice A xs.length c],.agg #[.bool by',.slice A' ys.length c']] w fun e w' =>
   ∃ A2 c2 A3 c3,e=.returned (.tuple #[.agg #[.bool dq,.slice A2 (wl nn) c2],.agg #[.bool false,.slice A3 (wl rr) c3],.int .i64 0]) ∧
    Shows .u32 w' A2 (digs WB nn)∧Shows .u32 w' A3 (digs WB rr)∧wl nn≤c2∧c2≤maxLen∧wl rr≤c3∧c3≤maxLen∧Below w.heap.size w w':=by
 have HSx:=lhd (fun w' (h:Shows .u32 w' A xs)=>Xg bx A xs c w' h dx hcx hcx2)
 have HSy:=lhd (fun w' (h:Shows .u32 w' A' ys)=>Xg by' A' ys c' w' h dy hcy hcy2)
 have HX:=lhd hx;have HY:=lhd hy
 have TX:=lhd (hx.trim dx);have TY:=lhd (hy.trim dy)
 clear hx hy dx dy hcx hcx2 hcy hcy2
 generalize val WB xs=a at *
 generalize val WB ys=b at *
 have hqa:wl (a / b)≤wl a:=ZV WB2 (Nat.div_le_self _ _)
 have hrb:a % b<b:=Nat.mod_lt _ hb0
 have hrl:wl (a % b)≤wl b:=ZV WB2 (by omega)
 have hDv:=fun A A' (w':World) ha hb=>HD A A' a (wl a) (wl b) w' ha hb (by omega) (nlr _) (by unfold maxLen;omega)
 unfold YQ at hDv
 have d0:(((wl b:Nat):Int) == 0)=false:=Xx (by have:wl b≠0:=fun h=>absurd (XE.1 h) (by omega);omega)
 have HB0:=lhd hb0
 clear HD hb0
 generalize a / b=q at *
 generalize a % b=r at *
 have HDv:=lhd hDv;clear hDv
 have hM1:=fun (A:Option Addr) (c:Nat) (w':World) (hc:wl nn≤c∧c≤maxLen) (h:Shows .u32 w' A (digs WB nn))=>by
  have:=XX (bx != by') A (digs WB nn) c w' h (Zh WB2 nn) hc.1 hc.2 (by rw[Ze WB2];rw[hnn];omega)
  rw[Ze WB2,hdq]at this;exact this
 have hM2:=fun (A:Option Addr) (c:Nat) (w':World) (hc:wl rr≤c∧c≤maxLen) (h:Shows .u32 w' A (digs WB rr))=>by
  have:=XX false A (digs WB rr) c w' h (Zh WB2 rr) hc.1 hc.2 (by rw[Ze WB2];rw[hrr];omega)
  rw[Ze WB2]at this;exact this
 change ∀ A c w',_→_→Calls _ _ #[.bool (bx != by'),.slice A (wl nn) c] w' _ at hM1
 change ∀ A c w',_→_→Calls _ _ #[.bool false,.slice A (wl rr) c] w' _ at hM2
 have HM2:=lhd hM2;clear hM2
 have hnr:bx=true→¬ ((0:Int)<(wl r:Nat)):=fun h=>by
  rw[hadj h];simp[ZgB]
 subst hnn hrr
 clear hadj
 cases bx <;> cases by'
 all_goals
  have HM1:=lhd hM1
  clear hM1 hdq
  have HNR:=lhd hnr;clear hnr
  try have hnt:=HNR.out rfl
  go_enter Tryz.func168,Tryz.ntmps168
  go_wp2_with fail
  refine(HSy.out _ ((((HY.out.alloc _).alloc _).alloc _).alloc _)).mono ?_
  rintro e W1 ⟨rfl,hb1⟩
  simp only[World.size_alloc]at hb1
  obtain⟨k0,k1,k2,k3,f2,f3,hz⟩:=Xc hb1
  have B1:=lhd hb1
  have X1:=lhd ((((HX.out.alloc _).alloc _).alloc _).alloc _ |>.below (by simpa only[World.size_alloc] using hb1))
  have TX1:=lhd ((((TX.out.alloc _).alloc _).alloc _).alloc _ |>.below (by simpa only[World.size_alloc] using hb1))
  have TY1:=lhd ((((TY.out.alloc _).alloc _).alloc _).alloc _ |>.below (by simpa only[World.size_alloc] using hb1))
  have z1:w.heap.size+1+1+1+1≤W1.heap.size:=hz
  clear hb1
  go_wp2_with fail
  refine(HSx.out _ X1.out).mono ?_
  rintro e W2 ⟨rfl,hb2⟩
  have hB2:=B1.out.trans (hb2.mono z1)
  have TX2:=lhd (TX1.out.below hb2)
  have TY2:=lhd (TY1.out.below hb2)
  have z2:w.heap.size+1+1+1+1≤W2.heap.size:=Nat.le_trans z1 hb2.size
  clear k0 k1 k2 k3 f2 f3 hz
  obtain⟨k0,k1,k2,k3,f2,f3,hz⟩:=Xc hB2
  have B2:=lhd hB2
  clear hb2 hB2 B1 X1 TX1 TY1 z1
  go_wp2_with fail
  refine(HDv.out _ _ _ TX2.out TY2.out).mono ?_
  rintro e W3 ⟨A2,c2,A3,c3,rfl,hc2,hc2m,hc3,hc3m,hs2,hs3,hb3⟩
  have hB3:=B2.out.trans (hb3.mono z2)
  have z3:w.heap.size+1+1+1+1≤W3.heap.size:=Nat.le_trans z2 hb3.size
  clear k0 k1 k2 k3 f2 f3 hz
  obtain⟨k0,k1,k2,k3,f2,f3,hz⟩:=Xc hB3
  have B3:=lhd hB3
  have TY3:=lhd (TY2.out.below hb3)
  have S2:=lhd hs2;have S3:=lhd hs3
  clear hb3 hB3 hs2 hs3 B2 TX2 TY2 z2
  go_wp2_with fail
  have WN:=lhd (And.intro hc2 hc2m)
  have WR:=lhd (And.intro hc3 hc3m)
  have BN:=B3;have zN:=z3;have SN:=S2;have SR:=S3
  refine(HM1.out _ _ _ WN.out SN.out).mono ?_
  rintro e W5 ⟨Aq,cq,rfl,hsq,hcq1,hcq2,hfq,hbq⟩
  have B5:=BN.out.trans (hbq.mono zN)
  have z5:w.heap.size+1+1+1+1≤W5.heap.size:=Nat.le_trans zN hbq.size
  have SQ:=lhd hsq;have FQ:=lhd (hfq.mono zN)
  have SR5:=lhd (SR.out.below hbq)
  have B5':=lhd B5
  obtain⟨k0,k1,k2,k3,f2,f3,hz⟩:=Xc B5
  clear hsq hfq hbq B5
  go_wp2_with fail
  refine(HM2.out _ _ _ WR.out SR5.out).mono ?_
  rintro e W6 ⟨Ar,cr,rfl,hsr,hcr1,hcr2,hfr,hbr⟩
  have B6:=B5'.out.trans (hbr.mono z5)
  clear k0 k1 k2 k3 f2 f3 hz
  obtain⟨k0,k1,k2,k3,f2,f3,hz⟩:=Xc B6
  have SQ6:=lhd (SQ.out.below hbr)
  have SRR:=lhd hsr;have FR:=lhd (hfr.mono z5)
  have HB:=lhd (Zae B6)
  clear hsr hfr hbr SQ SR5 B6 B5'
  go_wp2_with fail
  refine bodyPost_ret (v:=.tuple #[.agg #[.bool dq,.slice Aq (wl nn) cq],.agg #[.bool false,.slice Ar (wl rr) cr],.int .i64 0]) (by simp[results,Tryz.results168,go_sem,k2,k3]) rfl ?_
  exact⟨Aq,cq,Ar,cr,rfl,((((SQ6.out.setCell FQ.out (p:=⟨w.heap.size+1+1,0,none⟩) (by simp) _).setCell FQ.out (p:=⟨w.heap.size+1+1,1,none⟩) (by simp) _).setCell FQ.out (p:=⟨w.heap.size+1+1+1,0,none⟩) (by simp) _).setCell FQ.out (p:=⟨w.heap.size+1+1+1,1,none⟩) (by simp) _),((((SRR.out.setCell FR.out (p:=⟨w.heap.size+1+1,0,none⟩) (by simp) _).setCell FR.out (p:=⟨w.heap.size+1+1,1,none⟩) (by simp) _).setCell FR.out (p:=⟨w.heap.size+1+1+1,0,none⟩) (by simp) _).setCell FR.out (p:=⟨w.heap.size+1+1+1,1,none⟩) (by simp) _),hcq1,hcq2,hcr1,hcr2,((((HB.out.setCell (p:=⟨w.heap.size+1+1,0,none⟩) (by simp;omega) _).setCell (p:=⟨w.heap.size+1+1,1,none⟩) (by simp;omega) _).setCell (p:=⟨w.heap.size+1+1+1,0,none⟩) (by simp;omega) _).setCell (p:=⟨w.heap.size+1+1+1,1,none⟩) (by simp;omega) _)⟩
open Go.RowKit FF
set_option maxRecDepth 100000 in
theorem ZhL(bx by':Bool)(A A':Option Addr)(xs ys:List Nat)(c c':Nat)(w:World)(hx:Shows .u32 w A xs)(dx:Dig WB xs)(hcx:xs.length≤c)(hcx2:c≤maxLen)
  (hy:Shows .u32 w A' ys) (dy:Dig WB ys) (hcy:ys.length≤c') (hcy2:c'≤maxLen) (hal:wl (val WB xs)≤900000) (hbl:wl (val WB ys)≤900000) (hb0:0<val WB ys) (HD:Zad (val WB ys))
  (hadj:bx=true∧0<val WB xs % val WB ys) (nn rr:Nat) (hnn:nn=val WB xs / val WB ys+1) (hrr:rr=val WB ys-val WB xs % val WB ys) (dq:Bool) (hdq:((bx != by') && decide (nn≠0))=dq) :
  Calls Tryz.prog 168 #[.agg #[.bool bx,.slice A xs.length c],.agg #[.bool by',.slice A' ys.length c']] w fun e w' =>
   ∃ A2 c2 A3 c3,e=.returned (.tuple #[.agg #[.bool dq,.slice A2 (wl nn) c2],.agg #[.bool false,.slice A3 (wl rr) c3],.int .i64 0]) ∧
    Shows .u32 w' A2 (digs WB nn)∧Shows .u32 w' A3 (digs WB rr)∧wl nn≤c2∧c2≤maxLen∧wl rr≤c3∧c3≤maxLen∧Below w.heap.size w w':=by
 have HSx:=lhd (fun w' (h:Shows .u32 w' A xs)=>Xg bx A xs c w' h dx hcx hcx2)
 have HSy:=lhd (fun w' (h:Shows .u32 w' A' ys)=>Xg by' A' ys c' w' h dy hcy hcy2)
 have HX:=lhd hx;have HY:=lhd hy
 have TX:=lhd (hx.trim dx);have TY:=lhd (hy.trim dy)
 clear hx hy dx dy hcx hcx2 hcy hcy2
 generalize val WB xs=a at *
 generalize val WB ys=b at *
 have hqa:wl (a / b)≤wl a:=ZV WB2 (Nat.div_le_self _ _)
 have hrb:a % b<b:=Nat.mod_lt _ hb0
 have hrl:wl (a % b)≤wl b:=ZV WB2 (by omega)
 have hnl:wl nn≤wl a+1:=by
  refine Zm WB2 ?_
  have h1:=Z3 WB2 a
  have h2:a / b≤a:=Nat.div_le_self _ _
  change a<WB ^ wl a at h1
  have h3:WB ^ wl a*2≤WB ^ wl a*WB:=Nat.mul_le_mul_left _ WB2
  rw[Nat.pow_succ];omega
 have hrrl:wl rr≤wl b:=ZV WB2 (by omega)
 have hDv:=fun A A' (w':World) ha hb=>HD A A' a (wl a) (wl b) w' ha hb (by omega) (nlr _) (by unfold maxLen;omega)
 unfold YQ at hDv
 have d0:(((wl b:Nat):Int) == 0)=false:=Xx (by have:wl b≠0:=fun h=>absurd (XE.1 h) (by omega);omega)
 have HB0:=lhd hb0
 clear HD hb0
 generalize a / b=q at *
 generalize a % b=r at *
 have HDv:=lhd hDv;clear hDv
 have hM1:=fun (A:Option Addr) (c:Nat) (w':World) (hc:wl nn≤c∧c≤maxLen) (h:Shows .u32 w' A (digs WB nn))=>by
  have:=XX (bx != by') A (digs WB nn) c w' h (Zh WB2 nn) hc.1 hc.2 (by rw[Ze WB2];omega)
  rw[Ze WB2,hdq]at this;exact this
 have hM2:=fun (A:Option Addr) (c:Nat) (w':World) (hc:wl rr≤c∧c≤maxLen) (h:Shows .u32 w' A (digs WB rr))=>by
  have:=XX false A (digs WB rr) c w' h (Zh WB2 rr) hc.1 hc.2 (by rw[Ze WB2];omega)
  rw[Ze WB2]at this;exact this
 change ∀ A c w',_→_→Calls _ _ #[.bool (bx != by'),.slice A (wl nn) c] w' _ at hM1
 change ∀ A c w',_→_→Calls _ _ #[.bool false,.slice A (wl rr) c] w' _ at hM2
 have HM2:=lhd hM2;clear hM2
 have hr0:(0:Int)<(wl r:Nat):=by
  have:wl r≠0:=fun h=>absurd (XE.1 h) (by omega)
  omega
 have HP:=lhd (fun (A A':Option Addr) (c:Nat) (W:World) (h:Shows .u32 W A (digs WB q)) (h':Shows .u32 W A' [1])=>by
  have:=Zfi A A' (digs WB q) [1] c 1 W h h' (Zh WB2 q) (fun x hx=>by rw[List.mem_singleton.1 hx];decide) (by show wl q≤_;omega) (by simp)
  rw[Ze WB2,show val WB [1]=1 from rfl,← hnn]at this;exact this)
 have HMi:=lhd (fun (A A':Option Addr) (c c':Nat) (W:World) (h:Shows .u32 W A (digs WB b)) (h':Shows .u32 W A' (digs WB r))=>by
  have:=Za8 A A' (digs WB b) (digs WB r) c c' W h h' (Zh WB2 b) (Zh WB2 r) (by show wl b≤_;omega) hrl (by rw[Ze WB2,Ze WB2];omega)
  rw[Ze WB2,Ze WB2,← hrr]at this;exact this)
 change Hid (∀ A A' c W,_→_→Calls _ _ #[.slice A (wl q) c,.slice A' 1 1] W _) at HP
 change Hid (∀ A A' c c' W,_→_→Calls _ _ #[.slice A (wl b) c,.slice A' (wl r) c'] W _) at HMi
 obtain⟨rfl,_⟩:=hadj
 clear hnn hrr
 cases by'
 all_goals
  have HM1:=lhd hM1
  clear hM1 hdq
  go_enter Tryz.func168,Tryz.ntmps168
  go_wp2_with fail
  refine(HSy.out _ ((((HY.out.alloc _).alloc _).alloc _).alloc _)).mono ?_
  rintro e W1 ⟨rfl,hb1⟩
  simp only[World.size_alloc]at hb1
  obtain⟨k0,k1,k2,k3,f2,f3,hz⟩:=Xc hb1
  have B1:=lhd hb1
  have X1:=lhd ((((HX.out.alloc _).alloc _).alloc _).alloc _ |>.below (by simpa only[World.size_alloc] using hb1))
  have TX1:=lhd ((((TX.out.alloc _).alloc _).alloc _).alloc _ |>.below (by simpa only[World.size_alloc] using hb1))
  have TY1:=lhd ((((TY.out.alloc _).alloc _).alloc _).alloc _ |>.below (by simpa only[World.size_alloc] using hb1))
  have z1:w.heap.size+1+1+1+1≤W1.heap.size:=hz
  clear hb1
  go_wp2_with fail
  refine(HSx.out _ X1.out).mono ?_
  rintro e W2 ⟨rfl,hb2⟩
  have hB2:=B1.out.trans (hb2.mono z1)
  have TX2:=lhd (TX1.out.below hb2)
  have TY2:=lhd (TY1.out.below hb2)
  have z2:w.heap.size+1+1+1+1≤W2.heap.size:=Nat.le_trans z1 hb2.size
  clear k0 k1 k2 k3 f2 f3 hz
  obtain⟨k0,k1,k2,k3,f2,f3,hz⟩:=Xc hB2
  have B2:=lhd hB2
  clear hb2 hB2 B1 X1 TX1 TY1 z1
  go_wp2_with fail
  refine(HDv.out _ _ _ TX2.out TY2.out).mono ?_
  rintro e W3 ⟨A2,c2,A3,c3,rfl,hc2,hc2m,hc3,hc3m,hs2,hs3,hb3⟩
  have hB3:=B2.out.trans (hb3.mono z2)
  have z3:w.heap.size+1+1+1+1≤W3.heap.size:=Nat.le_trans z2 hb3.size
  clear k0 k1 k2 k3 f2 f3 hz
  obtain⟨k0,k1,k2,k3,f2,f3,hz⟩:=Xc hB3
  have B3:=lhd hB3
  have TY3:=lhd (TY2.out.below hb3)
  have S2:=lhd hs2;have S3:=lhd hs3
  clear hb3 hB3 hs2 hs3 B2 TX2 TY2 z2
  go_wp2_with fail
  have S1:=lhd (show Shows .u32 (W3.alloc (Obj.cells #[Value.int IntKind.u32 1] 135)) (some ⟨W3.heap.size,0,none⟩) [1] from Shows.new (fun i hi=>by
   match i,hi with
   | 0,_=>rfl))
  refine(HP.out _ _ _ _ (S2.out.alloc _) S1.out).mono ?_
  rintro e W4 ⟨A4,rfl,hs4,hf4,hb4⟩
  rw[World.size_alloc]at hb4
  have hB4:=lhd ((B3.out.alloc z3 (.cells #[.int .u32 1] 135)).trans (hb4.mono (Nat.le_succ_of_le z3)))
  have z4:w.heap.size+1+1+1+1≤W4.heap.size:=Nat.le_trans z3 (by have:=hb4.size;rw[World.size_alloc]at this;omega)
  have hb4':=(Below.refl W3.heap.size W3).alloc (nlr _) (.cells #[.int .u32 1] 135) |>.trans (hb4.mono (Nat.le_succ _))
  have S4:=lhd hs4
  have TY4:=lhd (TY3.out.below hb4')
  have S34:=lhd (S3.out.below hb4')
  clear k0 k1 k2 k3 f2 f3 hz hs4 hf4 hb4 hb4' S1
  go_wp2_with fail
  refine(HMi.out _ _ _ _ _ TY4.out S34.out).mono ?_
  rintro e W45 ⟨A5,rfl,hs5,hf5,hb5⟩
  have BN:=lhd (hB4.out.trans (hb5.mono z4))
  have zN:w.heap.size+1+1+1+1≤W45.heap.size:=Nat.le_trans z4 hb5.size
  have SN:=lhd (S4.out.below hb5)
  have SR:=lhd hs5
  obtain⟨k0,k1,k2,k3,f2,f3,hz⟩:=Xc BN.out
  have WN:=lhd (And.intro (nlr (wl nn)) (show wl nn≤maxLen by unfold maxLen;omega))
  have WR:=lhd (And.intro (nlr (wl rr)) (show wl rr≤maxLen by unfold maxLen;omega))
  clear hs5 hf5 hb5 S4 TY4 S34 hB4
  go_wp2_with fail
  refine(HM1.out _ _ _ WN.out SN.out).mono ?_
  rintro e W5 ⟨Aq,cq,rfl,hsq,hcq1,hcq2,hfq,hbq⟩
  have B5:=BN.out.trans (hbq.mono zN)
  have z5:w.heap.size+1+1+1+1≤W5.heap.size:=Nat.le_trans zN hbq.size
  have SQ:=lhd hsq;have FQ:=lhd (hfq.mono zN)
  have SR5:=lhd (SR.out.below hbq)
  have B5':=lhd B5
  obtain⟨k0,k1,k2,k3,f2,f3,hz⟩:=Xc B5
  clear hsq hfq hbq B5
  go_wp2_with fail
  refine(HM2.out _ _ _ WR.out SR5.out).mono ?_
  rintro e W6 ⟨Ar,cr,rfl,hsr,hcr1,hcr2,hfr,hbr⟩
  have B6:=B5'.out.trans (hbr.mono z5)
  clear k0 k1 k2 k3 f2 f3 hz
  obtain⟨k0,k1,k2,k3,f2,f3,hz⟩:=Xc B6
  have SQ6:=lhd (SQ.out.below hbr)
  have SRR:=lhd hsr;have FR:=lhd (hfr.mono z5)
  have HB:=lhd (Zae B6)
  clear hsr hfr hbr SQ SR5 B6 B5'
  go_wp2_with fail
  refine bodyPost_ret (v:=.tuple #[.agg #[.bool dq,.slice Aq (wl nn) cq],.agg #[.bool false,.slice Ar (wl rr) cr],.int .i64 0]) (by simp[results,Tryz.results168,go_sem,k2,k3]) rfl ?_
  exact⟨Aq,cq,Ar,cr,rfl,((((SQ6.out.setCell FQ.out (p:=⟨w.heap.size+1+1,0,none⟩) (by simp) _).setCell FQ.out (p:=⟨w.heap.size+1+1,1,none⟩) (by simp) _).setCell FQ.out (p:=⟨w.heap.size+1+1+1,0,none⟩) (by simp) _).setCell FQ.out (p:=⟨w.heap.size+1+1+1,1,none⟩) (by simp) _),((((SRR.out.setCell FR.out (p:=⟨w.heap.size+1+1,0,none⟩) (by simp) _).setCell FR.out (p:=⟨w.heap.size+1+1,1,none⟩) (by simp) _).setCell FR.out (p:=⟨w.heap.size+1+1+1,0,none⟩) (by simp) _).setCell FR.out (p:=⟨w.heap.size+1+1+1,1,none⟩) (by simp) _),hcq1,hcq2,hcr1,hcr2,((((HB.out.setCell (p:=⟨w.heap.size+1+1,0,none⟩) (by simp;omega) _).setCell (p:=⟨w.heap.size+1+1,1,none⟩) (by simp;omega) _).setCell (p:=⟨w.heap.size+1+1+1,0,none⟩) (by simp;omega) _).setCell (p:=⟨w.heap.size+1+1+1,1,none⟩) (by simp;omega) _)⟩
theorem Z5(s:Bool)(n:Nat):(sval s n).natAbs=n:=by unfold sval;split <;> omega
theorem ZbW(s:Bool)(n:Nat):(s && decide (n≠0))=decide (sval s n<0):=by
 unfold sval
 cases s
 ·rw[Bool.false_and,if_neg (by decide)];exact(deF (by omega)).symm
 ·rw[Bool.true_and,if_pos rfl,decide_eq_decide];omega
theorem ZhM(bx by':Bool)(A A':Option Addr)(xs ys:List Nat)(c c':Nat)(w:World)(hx:Shows .u32 w A xs)(dx:Dig WB xs)(hcx:xs.length≤c)(hcx2:c≤maxLen)
  (hy:Shows .u32 w A' ys) (dy:Dig WB ys) (hcy:ys.length≤c') (hcy2:c'≤maxLen) (hal:wl (val WB xs)≤900000) (hbl:wl (val WB ys)≤900000) (hb0:0<val WB ys) (HD:Zad (val WB ys)) :
  Calls Tryz.prog 168 #[.agg #[.bool bx,.slice A xs.length c],.agg #[.bool by',.slice A' ys.length c']] w fun e w' =>
   ∃ (Q R:Int) (A2:Option Addr) (c2:Nat) (A3:Option Addr) (c3:Nat),Q=sval bx (val WB xs) / sval by' (val WB ys)∧R=sval bx (val WB xs) % sval by' (val WB ys) ∧
    e=.returned (.tuple #[.agg #[.bool (decide (Q<0)),.slice A2 (wl Q.natAbs) c2],.agg #[.bool (decide (R<0)),.slice A3 (wl R.natAbs) c3],.int .i64 0]) ∧
    Shows .u32 w' A2 (digs WB Q.natAbs)∧Shows .u32 w' A3 (digs WB R.natAbs)∧wl Q.natAbs≤c2∧c2≤maxLen∧wl R.natAbs≤c3∧c3≤maxLen∧Below w.heap.size w w':=by
 obtain⟨d1,d2⟩:=ZhS hb0 (rfl:val WB xs / val WB ys=_) (rfl:val WB xs % val WB ys=_) bx by'
 by_cases hadj:bx=true∧0<val WB xs % val WB ys
 ·obtain⟨q1,q2⟩:=d1 hadj.1 hadj.2
  refine(ZhL bx by' A A' xs ys c c' w hx dx hcx hcx2 hy dy hcy hcy2 hal hbl hb0 HD hadj _ _ rfl rfl _ rfl).mono ?_
  rintro e w' ⟨A2,c2,A3,c3,rfl,s1,s2,h1,h2,h3,h4,h5⟩
  refine⟨_,_,A2,c2,A3,c3,rfl,rfl,?_⟩
  rw[← q1,← q2,Z5,ZbW,Int.natAbs_natCast,show decide (((val WB ys-val WB xs % val WB ys:Nat):Int)<0)=false from deF (by omega)]
  exact⟨rfl,s1,s2,h1,h2,h3,h4,h5⟩
 ·obtain⟨q1,q2⟩:=d2 (fun h=>by apply bCo;intro hc;exact hadj ⟨h,by omega⟩)
  refine(Zfj bx by' A A' xs ys c c' w hx dx hcx hcx2 hy dy hcy hcy2 hal hbl hb0 HD (fun h=>by apply bCo;intro hc;exact hadj ⟨h,by omega⟩) _ _ rfl rfl _ rfl).mono ?_
  rintro e w' ⟨A2,c2,A3,c3,rfl,s1,s2,h1,h2,h3,h4,h5⟩
  refine⟨_,_,A2,c2,A3,c3,rfl,rfl,?_⟩
  rw[← q1,← q2,Z5,ZbW,Int.natAbs_natCast,show decide (((val WB xs % val WB ys:Nat):Int)<0)=false from deF (by omega)]
  exact⟨rfl,s1,s2,h1,h2,h3,h4,h5⟩
end Go.Proofs.YthkklilhjnpedaaGreatDoor
