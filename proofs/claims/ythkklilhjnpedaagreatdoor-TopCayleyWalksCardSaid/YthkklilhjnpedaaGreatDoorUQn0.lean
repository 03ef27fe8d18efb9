/- The verifier's comparisons: SameInt, Ints. -/
import Derived.Test.YthkklilhjnpedaaGreatDoorUNt
import Derived.Test.YthkklilhjnpedaaGreatDoorUWordA
set_option maxHeartbeats 16000000
set_option maxRecDepth 8000
section
namespace FF
structure Qt where
 w:Int
 x:Int
 y:Int
 z:Int
 d:Int
def Qt.zero:Qt:=⟨0,0,0,0,0⟩
def cB(n:Int):Bool:=decide (-1000000≤n∧n≤1000000)
def dB(n:Int):Bool:=decide (1≤n∧n≤1000000)
def qB(q:Qt):Bool:=cB q.w && cB q.x && cB q.y && cB q.z && dB q.d
def qE(q:Qt):Int:=if qB q then 0 else 3
def gq(q:Qt):Nat:=Int.gcd (Int.gcd (Int.gcd q.w q.x) (Int.gcd q.y q.z)) q.d
def gs(q:Qt):Int:=if q.d<0 then -(gq q:Int) else gq q
def nrm(q:Qt):Qt:=⟨q.w.tdiv (gs q),q.x.tdiv (gs q),q.y.tdiv (gs q),q.z.tdiv (gs q),q.d.tdiv (gs q)⟩
def fitE(q:Qt):Int:=if qB (nrm q) then 0 else 8
def fitQ(q:Qt):Qt:=if qB (nrm q) then nrm q else Qt.zero
theorem cB_iff{n:Int}:cB n=true↔-1000000≤n∧n≤1000000:=by unfold cB;rw[decide_eq_true_iff]
theorem dB_iff{n:Int}:dB n=true↔1≤n∧n≤1000000:=by unfold dB;rw[decide_eq_true_iff]
theorem Yh{q:Qt}:qB q=true↔((-1000000≤q.w∧q.w≤1000000)∧(-1000000≤q.x∧q.x≤1000000)∧(-1000000≤q.y∧q.y≤1000000)∧(-1000000≤q.z∧q.z≤1000000)∧(1≤q.d∧q.d≤1000000)):=by
 unfold qB;simp only[Bool.and_eq_true,cB_iff,dB_iff,and_assoc]
theorem Zgt{q:Qt}:qE q=0↔qB q=true:=by unfold qE;split <;> simp_all
theorem gq_pos{q:Qt}(h:q.d≠0):0<gq q:=by
 unfold gq;exact Int.gcd_pos_of_ne_zero_right _ h
theorem gs_ne{q:Qt}(h:q.d≠0):gs q≠0:=by
 have:=gq_pos h
 unfold gs;split <;> omega
theorem gq_dvd(q:Qt):(gq q:Int) ∣ q.w∧(gq q:Int) ∣ q.x∧(gq q:Int) ∣ q.y∧(gq q:Int) ∣ q.z∧(gq q:Int) ∣ q.d:=by
 have h1:(gq q:Int) ∣ (Int.gcd (Int.gcd q.w q.x) (Int.gcd q.y q.z):Int):=Int.gcd_dvd_left ..
 have h2:(gq q:Int) ∣ (Int.gcd q.w q.x:Int):=Int.dvd_trans h1 (Int.gcd_dvd_left ..)
 have h3:(gq q:Int) ∣ (Int.gcd q.y q.z:Int):=Int.dvd_trans h1 (Int.gcd_dvd_right ..)
 exact⟨Int.dvd_trans h2 (Int.gcd_dvd_left ..),Int.dvd_trans h2 (Int.gcd_dvd_right ..),Int.dvd_trans h3 (Int.gcd_dvd_left ..),Int.dvd_trans h3 (Int.gcd_dvd_right ..),Int.gcd_dvd_right ..⟩
theorem Kx{a g:Int}{m:Int}(ha:-m≤a∧a≤m):-m≤a.tdiv g∧a.tdiv g≤m:=by
 have h:=Int.natAbs_tdiv_le_natAbs a g
 omega
def gcdL(l:List Int):Nat:=l.foldl (fun g n=>Int.gcd g n) 0
theorem ZiW(a b c d e:Int):gcdL [a,b,c,d,e]=gq ⟨a,b,c,d,e⟩:=by
 simp only[gcdL,gq,List.foldl_cons,List.foldl_nil,Int.gcd,Int.natAbs_natCast,Nat.gcd_zero_left]
 simp only[Nat.gcd_assoc]
theorem ZiX(l:List Int)(n:Int):gcdL (l++[n])=Int.gcd (gcdL l) n:=by
 simp only[gcdL,List.foldl_append,List.foldl_cons,List.foldl_nil]
def aB(a b:Int):Bool:=decide ((-1000≤a∧a≤1000)∧(-1000≤b∧b≤1000))
def aE(a b:Int):Int:=if a=0∨b=0 then 10 else if aB a b then 0 else 2
theorem Zgu{a b:Int}:aE a b=0↔(a≠0∧b≠0∧(-1000≤a∧a≤1000)∧(-1000≤b∧b≤1000)):=by
 unfold aE aB
 split
 ·omega
 ·simp only[decide_eq_true_iff]
  split <;> omega
def mulQ(a b:Int)(p q:Qt):Qt:=
  ⟨p.w * q.w + a * p.x * q.x + b * p.y * q.y - a * b * p.z * q.z,
   p.w*q.x+p.x*q.w-b*p.y*q.z+b*p.z*q.y,
   p.w*q.y+p.y*q.w+a*p.x*q.z-a*p.z*q.x,
   p.w*q.z+p.z*q.w+p.x*q.y-p.y*q.x,
   p.d*q.d⟩
def XH(q:Qt):Qt:=⟨q.w,-q.x,-q.y,-q.z,q.d⟩
theorem mulb{x y m n:Int}(hx:-m≤x∧x≤m)(hy:-n≤y∧y≤n):-(m*n)≤x*y∧x*y≤m*n:=by
 have h1:x.natAbs≤m.toNat:=by omega
 have h2:y.natAbs≤n.toNat:=by omega
 have h3:=Nat.mul_le_mul h1 h2
 rw[← Int.natAbs_mul]at h3
 have h4:((m.toNat*n.toNat:Nat):Int)=m*n:=by rw[Int.natCast_mul,Int.toNat_of_nonneg (by omega),Int.toNat_of_nonneg (by omega)]
 omega
end FF
namespace FF
def X9(l:List Qt):List Int:=l.flatMap fun q=>[q.w,q.x,q.y,q.z,q.d]
theorem YN(l:List Qt):(X9 l).length=5*l.length:=by
 induction l with
 | nil=>rfl
 | cons q l ih=>unfold X9 at *;simp only[List.flatMap_cons,List.length_append,List.length_cons,List.length_nil,ih];omega
theorem ZiY{l:List Qt}{i:Nat}(h:i<l.length):(X9 l).getD (5*i) 0=(l.getD i Qt.zero).w∧(X9 l).getD (5*i+1) 0=(l.getD i Qt.zero).x ∧
  (X9 l).getD (5*i+2) 0=(l.getD i Qt.zero).y∧(X9 l).getD (5*i+3) 0=(l.getD i Qt.zero).z∧(X9 l).getD (5*i+4) 0=(l.getD i Qt.zero).d:=by
 induction l generalizing i with
 | nil=>simp at h
 | cons q l ih =>
  cases i with
  | zero=>simp[X9]
  | succ i =>
   have h':i<l.length:=by simpa using h
   have:=ih h'
   have e:∀ j,(X9 (q::l)).getD (5*(i+1)+j) 0=(X9 l).getD (5*i+j) 0:=fun j=>by
    rw[show 5*(i+1)+j=(5*i+j)+1+1+1+1+1 by omega]
    simp[X9]
   rw[e 1,e 2,e 3,e 4,show 5*(i+1)=5*(i+1)+0 from rfl,e 0]
   simpa using this
def qsE(l:List Qt):Int:=if l.all qB then 0 else 3
def allE(a b:Int)(l:List Qt):Int:=if aE a b=0 then qsE l else aE a b
theorem ZeK{l:List Qt}:qsE l=0↔∀ q∈l,qB q=true:=by unfold qsE;split <;> simp_all
theorem qsE_take{l:List Qt}{k:Nat}(hk:k<l.length)(_:∀ j,j<k→qB (l.getD j Qt.zero)=true)(hq:qB (l.getD k Qt.zero)=false):qsE l=3:=by
 unfold qsE
 rw[if_neg]
 intro hn
 have:=List.all_eq_true.1 hn (l[k]) (List.getElem_mem hk)
 rw[gDg,gEe hk]at hq
 simp only[Option.getD_some]at hq
 rw[hq]at this
 exact Bool.false_ne_true this
theorem qsE_done{l:List Qt}(h:∀ j,j<l.length→qB (l.getD j Qt.zero)=true):qsE l=0:=by
 refine ZeK.2 fun q hq=>?_
 obtain⟨j,hj,rfl⟩:=List.mem_iff_getElem.1 hq
 have:=h j hj
 rwa [gDg,gEe hj]at this
theorem Zdo{a b:Int}{l:List Qt}:allE a b l=0↔aE a b=0∧∀ q∈l,qB q=true:=by
 unfold allE;split
 ·rename_i h;rw[ZeK];simp[h]
 ·rename_i h;simp[h]
theorem qE_cases(q:Qt):(qB q=true∧qE q=0)∨(qB q=false∧qE q=3):=by unfold qE;cases qB q <;> simp
end FF
end
namespace Go.Proofs.YthkklilhjnpedaaGreatDoor
section
open Go.RowKit FF
theorem Zhg{α:Type}{xs ys:List α}{i:Nat}{d:α}(hl:xs.length=ys.length)(hi:i<xs.length)(h:xs.take i=ys.take i)(he:xs.getD i d=ys.getD i d):xs.take (i+1)=ys.take (i+1):=by
 simp only[List.getD_eq_getElem?_getD]at he
 rw[gEe hi,gEe (hl ▸ hi)]at he
 simp only[Option.getD_some]at he
 rw[List.take_add_one,List.take_add_one,h,gEe hi,gEe (hl ▸ hi),he]
theorem ZiZ{α:Type}{xs ys:List α}{i:Nat}{d:α}(he:xs.getD i d≠ys.getD i d):xs≠ys:=fun h=>he (by rw[h])
theorem Uw{w:World}{o1 o2:Obj}(m:Nat):Below w.heap.size w (((w.alloc o1).alloc o2).drewN m):=
 Zi (((Below.refl _ _).alloc (Nat.le_refl _) _).alloc (by simp) _) m
theorem Zhh(bx by':Bool)(A A':Option Addr)(xs ys:List Nat)(c c':Nat)(w:World)(hx:Shows .u32 w A xs)(hy:Shows .u32 w A' ys)(hb:bx=by')(hl:xs.length=ys.length)(hn:xs.length≤maxLen) :
  Calls Tryz.prog 56 #[.agg #[.bool bx,.slice A xs.length c],.agg #[.bool by',.slice A' ys.length c']] w fun e w' =>
   e=.returned (.bool (decide (bx=by'∧xs=ys)))∧Below w.heap.size w w':=by
 have f1:=lhd (fun (i:Nat) (h1:i<xs.length) h2 h3=>Zhg (d:=0) hl h1 h2 h3)
 have f2:=lhd (fun (i:Nat) (h:xs.getD i 0≠ys.getD i 0)=>(show decide (bx=by'∧xs=ys)=false from deF (fun h3=>ZiZ h h3.2)))
 have f3:=lhd (fun h:xs.take xs.length=ys.take xs.length=>(show decide (bx=by'∧xs=ys)=true from deT ⟨hb,by rw[tOl (nlr _),tOl (by omega)]at h;exact h⟩))
 have HX:=lhd (show 0<xs.length→∃ b o,A=some ⟨b,o,none⟩∧b<w.heap.size∧∀ i,i<xs.length→w.cell? ⟨b,o+i,none⟩=some (.int .u32 (xs.getD i 0:Nat)) from hx)
 have HY:=lhd (show 0<xs.length→∃ b o,A'=some ⟨b,o,none⟩∧b<w.heap.size∧∀ i,i<xs.length→w.cell? ⟨b,o+i,none⟩=some (.int .u32 (ys.getD i 0:Nat)) from by rw[hl];exact hy)
 rw[← hl]
 clear hx hy hl
 subst hb
 unfold maxLen at hn
 generalize decide (bx=bx∧xs=ys)=R at *
 generalize xs.length=n at *
 have hbb:(bx != bx)=false:=by simp
 go_enter Tryz.func56,Tryz.ntmps56
 go_wp2_with fail
 go_loopw [5] (fun s wr=>∃ k:Nat,s=.int .i64 k∧k≤n∧xs.take k=ys.take k∧∃ m,wr=((w.alloc (.cells #[.bool bx,.slice A n c] 57)).alloc (.cells #[.bool bx,.slice A' n c'] 57)).drewN m) (fun s _=>n-(intOf s).toNat)
 case atStart=>exact⟨0,rfl,by omega,rfl,0,rfl⟩
 case round =>
  obtain⟨k,rfl,hk,hd,m,rfl⟩:=hrel
  have HD:=lhd hd;clear hd
  by_cases h0:k<n
  ·obtain⟨b1,o1,rfl,hb1,hc1⟩:=HX.out (by omega)
   obtain⟨b2,o2,rfl,hb2,hc2⟩:=HY.out (by omega)
   have x1:=hc1 k h0
   have x2:=hc2 k h0
   have q1:=f1.out k h0 HD.out
   have q2:=f2.out k
   clear hc1 hc2 f1 f2 f3 HX HY HD
   generalize xs.getD k 0=x at *
   generalize ys.getD k 0=y at *
   by_cases hxy:x=y
   ·have hQ:=lhd (q1 hxy)
    clear q1 q2
    subst hxy
    go_wp2
    go_big_quiet (fail)
    go_wp2
    exact⟨⟨k+1,by go_num,by omega,hQ.out,_,rfl⟩,by simp[intOf];omega⟩
   ·have hQ:=lhd (q2 hxy)
    clear q1 q2
    have d1:((x:Int) != y)=true:=bne_iff_ne.2 (by omega)
    go_wp2
    go_big_quiet (fail)
    go_wp2
    go_ret
    exact⟨by rw[hQ.out];rfl,by rw[World.drewN_drewN];exact Uw _⟩
  ·obtain rfl:k=n:=by omega
   have hQ:=lhd (f3.out HD.out)
   clear f1 f2 f3 HX HY HD
   go_wp2
   go_ret
   exact⟨by rw[hQ.out];rfl,Uw _⟩
theorem Zhi(bx by':Bool)(A A':Option Addr)(n m:Nat)(c c':Nat)(w:World)(h:bx≠by'∨n≠m) :
  Calls Tryz.prog 56 #[.agg #[.bool bx,.slice A n c],.agg #[.bool by',.slice A' m c']] w fun e w' =>
   e=.returned (.bool false)∧Below w.heap.size w w':=by
 by_cases hb:bx=by'
 ·have h2:((n:Int) != (m:Int))=true:=by
   rw[bne_iff_ne];intro e;have:n=m:=by omega
   rcases h with h | h <;> contradiction
  subst hb
  have hbb:(bx != bx)=false:=by simp
  clear h
  go_enter Tryz.func56,Tryz.ntmps56
  go_wp2_with fail
  go_ret
  exact⟨rfl,Uw 0⟩
 ·clear h
  cases bx <;> cases by'
  ·exact absurd rfl hb
  ·go_enter Tryz.func56,Tryz.ntmps56
   go_wp2_with fail
   go_ret
   exact⟨rfl,Uw 0⟩
  ·go_enter Tryz.func56,Tryz.ntmps56
   go_wp2_with fail
   go_ret
   exact⟨rfl,Uw 0⟩
  ·exact absurd rfl hb
theorem ZfG(bx by':Bool)(A A':Option Addr)(xs ys:List Nat)(c c':Nat)(w:World)(hx:Shows .u32 w A xs)(hy:Shows .u32 w A' ys)(hn:xs.length≤maxLen) :
  Calls Tryz.prog 56 #[.agg #[.bool bx,.slice A xs.length c],.agg #[.bool by',.slice A' ys.length c']] w fun e w' =>
   e=.returned (.bool (decide (bx=by'∧xs=ys)))∧Below w.heap.size w w':=by
 by_cases h:bx=by'∧xs.length=ys.length
 ·exact Zhh bx by' A A' xs ys c c' w hx hy h.1 h.2 hn
 ·have hd:decide (bx=by'∧xs=ys)=false:=deF (fun h2=>h ⟨h2.1,by rw[h2.2]⟩)
  rw[hd]
  refine Zhi bx by' A A' _ _ c c' w ?_
  by_cases hb:bx=by'
  ·exact .inr (fun e=>h ⟨hb,e⟩)
  ·exact .inl hb
def ShowsI(w:World)(A:Option Addr)(xs:List Int):Prop:=
 0<xs.length→∃ b o,A=some ⟨b,o,none⟩∧b<w.heap.size∧∀ i,i<xs.length→w.cell? ⟨b,o+i,none⟩=some (.int .i64 (xs.getD i 0))
section
variable {w w':World}{A:Option Addr}{xs:List Int}
theorem ShowsI.keep(h:ShowsI w A xs)(hs:w.heap.size≤w'.heap.size)(hk:∀ p:Addr,p.block<w.heap.size→w'.cell? p=w.cell? p):ShowsI w' A xs:=by
 intro hn
 obtain⟨b,o,e,hb,hc⟩:=h hn
 exact⟨b,o,e,by omega,fun i hi=>(hk ⟨b,o+i,none⟩ hb).trans (hc i hi)⟩
theorem ShowsI.below(h:ShowsI w A xs)(hb:Below w.heap.size w w'):ShowsI w' A xs:=h.keep hb.size fun _ hp=>hb.cell hp
theorem ShowsI.new{w:World}{cs:Array Value}{T:TypeId}{xs:List Int}(h:∀ i,i<xs.length→cs[i]?=some (.int .i64 (xs.getD i 0))) :
  ShowsI (w.alloc (.cells cs T)) (some ⟨w.heap.size,0,none⟩) xs:=by
 intro _
 refine⟨w.heap.size,0,rfl,by simp,fun i hi=>?_⟩
 rw[Nat.zero_add]
 exact(World.cell?_alloc_at (w:=w) cs T w.heap.size i rfl).trans (h i hi)
end
end
end Go.Proofs.YthkklilhjnpedaaGreatDoor
