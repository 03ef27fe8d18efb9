/- Words: a number times a power of 2; what is taken from a row. -/
import Derived.Test.YthkklilhjnpedaaGreatDoorUBase
import Derived.Test.YthkklilhjnpedaaGreatDoorUWordB
set_option maxHeartbeats 16000000
set_option maxRecDepth 8000
section
namespace FF
def seg(f:Nat→Nat)(j m:Nat):List Nat:=(List.range m).map fun i=>f (j+i)
theorem ZE(f:Nat→Nat)(j m:Nat):(seg f j m).length=m:=by simp[seg]
theorem Y7{f:Nat→Nat}{j m i:Nat}(h:i<m):(seg f j m).getD i 0=f (j+i):=by
 simp[seg,List.getD_eq_getElem?_getD,h]
theorem Y8(f:Nat→Nat)(j m:Nat):seg f j (m+1)=seg f j m++[f (j+m)]:=by
 simp[seg,List.range_succ]
theorem UK(f:Nat→Nat)(j m n:Nat):seg f j (m+n)=seg f j m++seg f (j+m) n:=by
 induction n with
 | zero=>simp[seg]
 | succ n ih=>rw[← Nat.add_assoc,Y8,ih,Y8,List.append_assoc,Nat.add_assoc]
theorem seg_take{f:Nat→Nat}{j m i:Nat}(h:i≤m):(seg f j m).take i=seg f j i:=by
 obtain⟨k,rfl⟩:∃ k,m=i+k:=⟨m-i,by omega⟩
 rw[UK,List.take_left' (ZE f j i)]
theorem Zc9{f g:Nat→Nat}{j m:Nat}(h:∀ i,i<m→f (j+i)=g (j+i)):seg f j m=seg g j m:=by
 unfold seg
 exact List.map_congr_left fun i hi=>h i (List.mem_range.1 hi)
theorem Zbe{B:Nat}{f:Nat→Nat}(h:∀ k,f k<B)(j m:Nat):Dig B (seg f j m):=by
 intro x hx
 obtain⟨i,_,rfl⟩:=List.mem_map.1 hx
 exact h _
def put(f:Nat→Nat)(j:Nat)(R:List Nat)(k:Nat):Nat:=if j≤k∧k<j+R.length then R.getD (k-j) 0 else f k
theorem Zgj(f:Nat→Nat)(j k:Nat):put f j [] k=f k:=by unfold put;rw[if_neg (by simp)]
theorem put_snoc(f:Nat→Nat)(j:Nat)(R:List Nat)(d k:Nat):put f j (R++[d]) k=if k=j+R.length then d else put f j R k:=by
 unfold put
 rw[List.length_append,List.length_singleton,Zc0]
 by_cases h:k=j+R.length
 ·rw[if_pos h,if_pos (by omega),if_pos (by omega)]
 ·rw[if_neg h]
  by_cases h2:j≤k∧k<j+R.length
  ·rw[if_pos (by omega),if_neg (by omega),if_pos h2]
  ·rw[if_neg (by omega),if_neg h2]
theorem Zen{f:Nat→Nat}{j:Nat}{R:List Nat}{k:Nat}(h:j+R.length≤k):put f j R k=f k:=by unfold put;rw[if_neg (by omega)]
theorem ZgU{f:Nat→Nat}{j:Nat}{R:List Nat}{k:Nat}(h:k<j):put f j R k=f k:=by unfold put;rw[if_neg (by omega)]
theorem put_lt{B:Nat}{f:Nat→Nat}{j:Nat}{R:List Nat}(hf:∀ k,f k<B)(hR:Dig B R)(k:Nat):put f j R k<B:=by
 unfold put
 split
 ·exact hR.getD (Nat.lt_of_le_of_lt (Nat.zero_le _) (hf 0)) _
 ·exact hf k
theorem seg_put(f:Nat→Nat)(j:Nat)(R:List Nat):seg (put f j R) j R.length=R:=by
 apply List.ext_getElem (ZE _ _ _)
 intro i h1 h2
 simp only[seg,List.getElem_map,List.getElem_range,put]
 rw[if_pos (by omega),Nat.add_sub_cancel_left,gDg,gEe h2];rfl
theorem ZcH(f:Nat→Nat)(j:Nat)(R:List Nat):seg (put f j R) 0 j=seg f 0 j:=
 Zc9 fun i hi=>ZgU (by omega)
theorem guess_le{B P t r2 d1 d2 lo vl:Nat}(hr:r2<B)(hd1:0<d1)(hlo:lo<P)
  (hu:(t*B+r2)*P+lo<((d1*B+d2)*P+vl)*B) :
  ((t*B+r2)*P+lo) / ((d1*B+d2)*P+vl)≤min (t / d1) (B-1):=by
 have hB:0<B:=by omega
 have hq:=Nat.div_mul_le_self ((t*B+r2)*P+lo) ((d1*B+d2)*P+vl)
 have hlt:((t*B+r2)*P+lo) / ((d1*B+d2)*P+vl)<B:=Nat.div_lt_of_lt_mul hu
 generalize ((t*B+r2)*P+lo) / ((d1*B+d2)*P+vl)=q at *
 have h1:q*d1*(B*P)≤q*((d1*B+d2)*P+vl):=by
  rw[Nat.mul_assoc]
  apply Nat.mul_le_mul_left
  rw[Nat.add_mul,← Nat.mul_assoc];omega
 have h2:(t*B+r2)*P+lo<(t+1)*(B*P):=by
  have:(t*B+r2+1)*P≤(t+1)*B*P:=Nat.mul_le_mul_right _ (by rw[Nat.succ_mul];omega)
  rw[Nat.succ_mul,Nat.mul_assoc (t+1)]at this
  omega
 have h3:q*d1<t+1:=Nat.lt_of_mul_lt_mul_right (Nat.lt_of_le_of_lt h1 (Nat.lt_of_le_of_lt hq h2))
 have h4:q≤t / d1:=(Nat.le_div_iff_mul_le hd1).2 (by omega)
 omega
theorem ZgV{B P t r2 d1 d2 lo vl g:Nat}(hlo:lo<P)(hg:g*d1≤t)(h:(t-g*d1)*B+r2<g*d2) :
  ((t*B+r2)*P+lo) / ((d1*B+d2)*P+vl)<g:=by
 rw[Nat.div_lt_iff_lt_mul (by
  apply Nat.pos_of_ne_zero
  intro e
  have h1:(d1*B+d2)*P=0:=by omega
  rcases Nat.mul_eq_zero.1 h1 with h2 | h2
  ·have:d2=0:=by omega
   subst this;omega
  ·omega)]
 have e:(t-g*d1)*B+g*d1*B=t*B:=by rw[← Nat.add_mul];congr 1;omega
 have h1:(t*B+r2+1)*P≤(g*(d1*B+d2))*P:=Nat.mul_le_mul_right _ (by rw[Nat.mul_add,← Nat.mul_assoc];omega)
 have h2:g*((d1*B+d2)*P+vl)=g*(d1*B+d2)*P+g*vl:=by rw[Nat.mul_add,Nat.mul_assoc]
 rw[Nat.succ_mul]at h1
 omega
theorem guess_ok{B P t r2 d1 d2 lo vl g:Nat}(hd1:0<d1)(hvl:vl<P)(hgB:g<B)(hg:g*d1≤t)(h:g*d2≤(t-g*d1)*B+r2) :
  g≤((t*B+r2)*P+lo) / ((d1*B+d2)*P+vl)+1:=by
 have hv:B*P≤(d1*B+d2)*P:=Nat.mul_le_mul_right _ (by have:=Nat.mul_le_mul_right B hd1;omega)
 have hBP:0<B*P:=Nat.mul_pos (by omega) (by omega)
 have e:(t-g*d1)*B+g*d1*B=t*B:=by rw[← Nat.add_mul];congr 1;omega
 have h1:(g*(d1*B+d2))*P≤(t*B+r2)*P:=Nat.mul_le_mul_right _ (by rw[Nat.mul_add,← Nat.mul_assoc];omega)
 have h2:g*((d1*B+d2)*P+vl)=g*(d1*B+d2)*P+g*vl:=by rw[Nat.mul_add,Nat.mul_assoc]
 have h3:g*vl≤B*P:=Nat.mul_le_mul (by omega) (by omega)
 have h4:(g-1)*((d1*B+d2)*P+vl)≤(t*B+r2)*P+lo:=by
  rw[Nat.sub_mul,Nat.one_mul];omega
 have:=(Nat.le_div_iff_mul_le (by omega)).2 h4
 omega
theorem Zir{B t r2 d1 d2 g:Nat}(hgB:g<B)(hd2:d2<B)(h:B≤t-g*d1):g*d2≤(t-g*d1)*B+r2:=by
 have:g*d2≤B*B:=Nat.mul_le_mul (by omega) (by omega)
 have:=Nat.mul_le_mul_right B h
 omega
theorem Zis{B i c c' d n:Nat}{ds xs ys:List Nat}(hl:ds.length=i)(h:val B ds+n*val B (ys.take i)=val B (xs.take i)+B ^ i*c)
  (hs:xs.getD i 0+B*c'=d+n*ys.getD i 0+c):val B (ds++[d])+n*val B (ys.take (i+1))=val B (xs.take (i+1))+B ^ (i+1)*c':=by
 rw[ZQ,Zy,Zy,hl]
 simp only[val,Nat.mul_zero,Nat.add_zero]
 have e:B ^ i*xs.getD i 0+B ^ (i+1)*c'=B ^ i*d+B ^ i*(n*ys.getD i 0)+B ^ i*c:=by
  have:=congrArg (B ^ i*·) hs
  simp only[Nat.mul_add]at this
  rw[Nat.pow_succ]
  rw[← Nat.mul_assoc]at this
  exact this
 have e2:n*(B ^ i*ys.getD i 0)=B ^ i*(n*ys.getD i 0):=by rw[Nat.mul_left_comm]
 rw[Nat.mul_add,e2]
 omega
theorem Zb6{B x p:Nat}(hB:0<B):(x<p % B→x+B*(p / B+1)=(x+B-p % B)+p)∧(p % B≤x→x+B*(p / B)=(x-p % B)+p):=by
 have:=Nat.mod_add_div p B
 have:=Nat.mod_lt p hB
 constructor
 ·intro h;rw[Nat.mul_add];omega
 ·intro h;omega
theorem Zft{B n y c:Nat}(hn:n<B)(hy:y<B)(hc:c<B):(n*y+c) / B<B∧(0<(n*y+c) % B→(n*y+c) / B+1<B):=by
 have h1:n*y≤(B-1)*(B-1):=Nat.mul_le_mul (by omega) (by omega)
 have h2:(B-1)*(B-1)+(B-1)=(B-1)*B:=by rw[← Nat.mul_succ];congr 1;omega
 have h3:n*y+c≤(B-1)*B:=by omega
 have h4:=Nat.div_add_mod (n*y+c) B
 generalize n*y+c=p at *
 constructor
 ·have:p / B≤B-1:=by
   rw[Nat.div_le_iff_le_mul (by omega)];omega
  omega
 ·intro h
  have:p / B<B-1:=by
   rw[Nat.div_lt_iff_lt_mul (by omega)]
   apply Nat.lt_of_le_of_ne h3
   intro e
   rw[e,Nat.mul_mod_left]at h
   omega
  omega
theorem take_end{M u v g n' c:Nat}(hv:0<v)(h1:u / v≤g)(h2:g≤u / v+1)(h:n'+g*v=u+M*c)(hn:n'<M)(hM:v≤M) :
  (c=0→g=u / v∧n'=u % v)∧(c≠0→g=u / v+1∧n'+v=M+u % v):=by
 have e:=Nat.div_add_mod u v
 have hm:=Nat.mod_lt u hv
 rw[Nat.mul_comm]at e
 have h3:g=u / v∨g=u / v+1:=by omega
 rcases h3 with rfl | h3
 ·have hc:c=0:=by
   apply bCo
   intro hc
   have:M*1≤M*c:=Nat.mul_le_mul_left _ (by omega)
   omega
  subst hc
  exact⟨fun _=>⟨rfl,by omega⟩,fun h=>absurd rfl h⟩
 ·have e2:g*v=u / v*v+v:=by rw[h3,Nat.succ_mul]
  constructor
  ·intro hc
   subst hc
   omega
  ·intro hc
   have hc1:c=1:=by
    apply bCo
    intro hc2
    have:M*2≤M*c:=Nat.mul_le_mul_left _ (by omega)
    omega
   subst hc1
   exact⟨h3,by omega⟩
theorem Zit{B j n D V A u:Nat}{qs:List Nat}{f f':Nat→Nat}(hB:0<B)(hD:0<D)(hDn:D≤B ^ n)(hf:∀ k,f k<B)(hV:val B (seg f 0 (j+1+n))=V)(hlt:V<D*B ^ (j+1))
  (hA:A=D*(B ^ (j+1)*val B qs)+V) (hu:val B (seg f j (n+1))=u) (h1:seg f' 0 j=seg f 0 j) (h2:val B (seg f' j (n+1))=u % D) :
  u<D*B∧A=D*(B ^ j*val B (u / D::qs))+val B (seg f' 0 (j+n))∧val B (seg f' 0 (j+n))<D*B ^ j:=by
 have e1:val B (seg f 0 (j+1+n))=val B (seg f 0 j)+B ^ j*u:=by
  rw[show j+1+n=j+(n+1) by omega,UK,ZQ,ZE,Nat.zero_add,hu]
 have l0:=ZT (Zbe hf 0 j)
 rw[ZE]at l0
 have hpos:0<B ^ j:=Nat.pow_pos hB
 have e3:D*B ^ (j+1)=B ^ j*(D*B):=by rw[Nat.pow_succ,Nat.mul_left_comm]
 have hub:u<D*B:=by
  apply Nat.lt_of_mul_lt_mul_left (a:=B ^ j)
  rw[← e3];omega
 have hm:=Nat.mod_lt u hD
 have e2:val B (seg f' j n)=u % D:=by
  rw[Y8,ZQ,ZE]at h2
  simp only[val,Nat.mul_zero,Nat.add_zero]at h2
  have:f' (j+n)=0:=by
   apply bCo
   intro h0
   have:B ^ n*1≤B ^ n*f' (j+n):=Nat.mul_le_mul_left _ (by omega)
   omega
  rw[this,Nat.mul_zero,Nat.add_zero]at h2
  exact h2
 have e4:val B (seg f' 0 (j+n))=val B (seg f 0 j)+B ^ j*(u % D):=by
  rw[UK,ZQ,ZE,Nat.zero_add,e2,h1]
 refine⟨hub,?_,?_⟩
 ·rw[e4,hA,← hV,e1]
  simp only[val]
  have e5:=Nat.div_add_mod u D
  have e6:B ^ j*u=D*(B ^ j*(u / D))+B ^ j*(u % D):=by
   rw[Nat.mul_left_comm,← Nat.mul_add,e5]
  rw[e6,Nat.mul_add (B ^ j),Nat.mul_add D,Nat.pow_succ,Nat.mul_assoc (B ^ j) B]
  omega
 ·rw[e4]
  have:B ^ j*(u % D)+B ^ j≤B ^ j*D:=by rw[← Nat.mul_succ];exact Nat.mul_le_mul_left _ hm
  rw[Nat.mul_comm D]
  omega
theorem ZgW{B n b t k:Nat}(hb:b<(t+1)*B ^ n)(hk:t*2 ^ k<B)(hB:2 ^ k ∣ B):b*2 ^ k<B ^ (n+1):=by
 obtain⟨m,rfl⟩:=hB
 have h0:0<2 ^ k:=Nat.pow_pos (by decide)
 have h1:t<m:=by
  rw[Nat.mul_comm t]at hk
  exact Nat.lt_of_mul_lt_mul_left hk
 have h2:b*2 ^ k<(t+1)*(2 ^ k*m) ^ n*2 ^ k:=(Nat.mul_lt_mul_right h0).2 hb
 have h3:(t+1)*(2 ^ k*m) ^ n*2 ^ k≤m*(2 ^ k*m) ^ n*2 ^ k:=Nat.mul_le_mul_right _ (Nat.mul_le_mul_right _ h1)
 have h4:m*(2 ^ k*m) ^ n*2 ^ k=(2 ^ k*m) ^ (n+1):=by rw[Nat.pow_succ];grind
 omega
theorem Ziu(a b k:Nat):a*2 ^ k % (b*2 ^ k) / 2 ^ k=a % b:=by
 rw[Nat.mul_mod_mul_right,Nat.mul_div_cancel _ (Nat.pow_pos (by decide))]
theorem Ziv(a b k:Nat):a*2 ^ k / (b*2 ^ k)=a / b:=Nat.mul_div_mul_right _ _ (Nat.pow_pos (by decide))
end FF
namespace FF
def upd(f:Nat→Nat)(p x:Nat)(k:Nat):Nat:=if k=p then x else f k
theorem upd_at(f:Nat→Nat)(p x:Nat):upd f p x p=x:=if_pos rfl
theorem Zb7{f:Nat→Nat}{p x k:Nat}(h:k≠p):upd f p x k=f k:=if_neg h
theorem upd_lt{B:Nat}{f:Nat→Nat}{p x:Nat}(hf:∀ k,f k<B)(hx:x<B)(k:Nat):upd f p x k<B:=by
 unfold upd
 split
 ·exact hx
 ·exact hf k
theorem Zbs(B:Nat)(f:Nat→Nat){p N:Nat}(x:Nat)(h:p<N):val B (seg (upd f p x) 0 N)+B ^ p*f p=val B (seg f 0 N)+B ^ p*x:=by
 induction N with
 | zero=>omega
 | succ N ih =>
  rw[Y8,Y8,ZQ,ZQ,ZE,ZE,Nat.zero_add]
  simp only[val,Nat.mul_zero,Nat.add_zero]
  by_cases e:p=N
  ·subst e
   rw[upd_at,Zc9 (f:=upd f p x) (g:=f) (fun i hi=>Zb7 (by omega))]
   omega
  ·rw[Zb7 (Ne.symm e)]
   have:=ih (by omega)
   omega
theorem Zeo(B:Nat){f:Nat→Nat}{N:Nat}(h:∀ k,k<N→f k=0):val B (seg f 0 N)=0:=by
 induction N with
 | zero=>rfl
 | succ N ih =>
  rw[Y8,ZQ,ih (fun k hk=>h k (by omega)),Nat.zero_add,Nat.zero_add,h N (by omega)]
  simp[val]
theorem ZgX{B i k c x V0 N:Nat}{f:Nat→Nat}{ys:List Nat}(hp:i+k<N)
  (h:val B (seg f 0 N)+B ^ (i+k)*c=V0+B ^ i*(x*val B (ys.take k))) {s:Nat} (hs:s=x*ys.getD k 0+f (i+k)+c) :
  val B (seg (upd f (i+k) (s % B)) 0 N)+B ^ (i+(k+1))*(s / B)=V0+B ^ i*(x*val B (ys.take (k+1))):=by
 have h1:=Zbs B f (s % B) hp
 rw[Zy,Nat.mul_add,Nat.mul_add]
 have e:B ^ (i+k)*s=B ^ (i+k)*(s % B)+B ^ (i+(k+1))*(s / B):=by
  have:=Nat.mod_add_div s B
  calc B ^ (i+k)*s=B ^ (i+k)*(s % B+B*(s / B)):=by rw[this]
   _=_:=by rw[← Nat.add_assoc,Nat.pow_succ];grind
 have e2:B ^ (i+k)*s=B ^ i*(x*(B ^ k*ys.getD k 0))+B ^ (i+k)*f (i+k)+B ^ (i+k)*c:=by rw[hs,Nat.pow_add];grind
 omega
theorem Zfu{B x y z c:Nat}(hx:x<B)(hy:y<B)(hz:z<B)(hc:c<B):(x*y+z+c) / B<B∧x*y+z+c<B*B:=by
 have h1:x*y≤(B-1)*(B-1):=Nat.mul_le_mul (by omega) (by omega)
 have h2:(B-1)*(B-1)+(B-1)=(B-1)*B:=by rw[← Nat.mul_succ];congr 1;omega
 have h3:(B-1)*B+B=B*B:=by rw[← Nat.succ_mul];congr 1;omega
 have h4:x*y+z+c<B*B:=by omega
 exact⟨by rw[Nat.div_lt_iff_lt_mul (by omega)];exact h4,h4⟩
theorem Zix{B i c x N m V0:Nat}{f:Nat→Nat}{ys:List Nat}(hp:i+m<N)(hm:ys.length=m)(h0:f (i+m)=0)
  (h:val B (seg f 0 N)+B ^ (i+m)*c=V0+B ^ i*(x*val B (ys.take m))):val B (seg (upd f (i+m) c) 0 N)=V0+B ^ i*(x*val B ys):=by
 have h1:=Zbs B f c hp
 rw[h0,Nat.mul_zero,Nat.add_zero]at h1
 rw[← hm,List.take_length,hm]at h
 omega
end FF
namespace FF
theorem Zbt{B:Nat}{xs:List Nat}{n:Nat}(hl:xs.length=n+2):val B xs=(xs.getD (n+1) 0*B+xs.getD n 0)*B ^ n+val B (xs.take n):=by
 have h1:=Zy (B:=B) xs (n+1)
 have h2:=Zy (B:=B) xs n
 rw[tOl (by omega)]at h1
 rw[h1,h2,Nat.pow_succ,Nat.add_mul]
 grind
theorem Ys{B:Nat}{xs:List Nat}{n:Nat}(h:Dig B xs)(hl:n≤xs.length):val B (xs.take n)<B ^ n:=by
 have:=ZT (B:=B) (xs:=xs.take n) (fun x hx=>h x (List.mem_of_mem_take hx))
 rwa [List.length_take,Nat.min_eq_left hl]at this
theorem put_put{f:Nat→Nat}{j:Nat}{R S:List Nat}(h:R.length=S.length):put (put f j R) j S=put f j S:=by
 funext k
 unfold put
 by_cases e:j≤k∧k<j+S.length
 ·rw[if_pos e,if_pos e]
 ·rw[if_neg e,if_neg (by rw[h];exact e),if_neg e]
structure GuessRel(t r2 d1 d2 u v g:Nat):Prop where
 le:u / v≤g
 top:g*d1≤t
 lt:g<4294967296
structure StepNums(n:Nat)(us vs:List Nat)(t1 t0 r2 d1 d2:Nat):Prop where
 ul:us.length=n+3
 vl:vs.length=n+2
 ud:Dig 4294967296 us
 vd:Dig 4294967296 vs
 et1:us.getD (n+2) 0=t1
 et0:us.getD (n+1) 0=t0
 er2:us.getD n 0=r2
 ed1:vs.getD (n+1) 0=d1
 ed2:vs.getD n 0=d2
 d1pos:0<d1
 lt:val 4294967296 us<val 4294967296 vs*4294967296
theorem StepNums.u_eq{n:Nat}{us vs:List Nat}{t1 t0 r2 d1 d2:Nat}(h:StepNums n us vs t1 t0 r2 d1 d2) :
  val 4294967296 us=((t1*4294967296+t0)*4294967296+r2)*4294967296 ^ n+val 4294967296 (us.take n):=by
 have h1:=Zbt (B:=4294967296) (xs:=us) (n:=n+1) h.ul
 have h2:=Zy (B:=4294967296) us n
 rw[h1,h2,h.et1,h.et0,h.er2,Nat.pow_succ]
 grind
theorem StepNums.v_eq{n:Nat}{us vs:List Nat}{t1 t0 r2 d1 d2:Nat}(h:StepNums n us vs t1 t0 r2 d1 d2) :
  val 4294967296 vs=(d1*4294967296+d2)*4294967296 ^ n+val 4294967296 (vs.take n):=by
 rw[Zbt (B:=4294967296) (xs:=vs) (n:=n) h.vl,h.ed1,h.ed2]
theorem StepNums.start{n:Nat}{us vs:List Nat}{t1 t0 r2 d1 d2:Nat}(h:StepNums n us vs t1 t0 r2 d1 d2) :
  GuessRel (t1*4294967296+t0) r2 d1 d2 (val 4294967296 us) (val 4294967296 vs) (min ((t1*4294967296+t0) / d1) 4294967295):=by
 have hr:r2<4294967296:=by rw[← h.er2];exact h.ud.getD (by decide) _
 have hlo:=Ys (n:=n) h.ud (by rw[h.ul];omega)
 have hlt:=h.lt
 have hd:=h.d1pos
 refine⟨?_,?_,by omega⟩
 ·rw[h.u_eq,h.v_eq]at hlt ⊢
  exact guess_le hr hd hlo hlt
 ·have:=Nat.div_mul_le_self (t1*4294967296+t0) d1
  exact Nat.le_trans (Nat.mul_le_mul_right _ (Nat.min_le_left _ _)) this
theorem StepNums.next{n:Nat}{us vs:List Nat}{t1 t0 r2 d1 d2 g:Nat}(h:StepNums n us vs t1 t0 r2 d1 d2)(hg:GuessRel (t1*4294967296+t0) r2 d1 d2 (val 4294967296 us) (val 4294967296 vs) g)
  (hc:(t1*4294967296+t0-g*d1)*4294967296+r2<g*d2):0<g∧GuessRel (t1*4294967296+t0) r2 d1 d2 (val 4294967296 us) (val 4294967296 vs) (g-1):=by
 have hlo:=Ys (n:=n) h.ud (by rw[h.ul];omega)
 have h1:=ZgV (B:=4294967296) (vl:=val 4294967296 (vs.take n)) hlo hg.top hc
 rw[← h.u_eq,← h.v_eq]at h1
 have h2:=hg.top
 have h3:=hg.lt
 exact⟨Nat.lt_of_le_of_lt (Nat.zero_le _) h1,Nat.le_sub_one_of_lt h1,Nat.le_trans (Nat.mul_le_mul_right _ (Nat.sub_le _ _)) h2,by omega⟩
theorem StepNums.stop{n:Nat}{us vs:List Nat}{t1 t0 r2 d1 d2 g:Nat}(h:StepNums n us vs t1 t0 r2 d1 d2)(hg:GuessRel (t1*4294967296+t0) r2 d1 d2 (val 4294967296 us) (val 4294967296 vs) g)
  (hc:g*d2≤(t1*4294967296+t0-g*d1)*4294967296+r2):g≤val 4294967296 us / val 4294967296 vs+1:=by
 have hvl:=Ys (n:=n) h.vd (by rw[h.vl];omega)
 rw[h.u_eq,h.v_eq]
 exact guess_ok h.d1pos hvl hg.lt hg.top hc
theorem StepNums.far{n:Nat}{us vs:List Nat}{t1 t0 r2 d1 d2 g:Nat}(h:StepNums n us vs t1 t0 r2 d1 d2)(hg:GuessRel (t1*4294967296+t0) r2 d1 d2 (val 4294967296 us) (val 4294967296 vs) g)
  (hc:4294967296≤t1*4294967296+t0-g*d1):g≤val 4294967296 us / val 4294967296 vs+1:=
 h.stop hg (Zir hg.lt (by rw[← h.ed2];exact h.vd.getD (by decide) _) hc)
end FF
namespace FF
theorem seg_list(ds:List Nat):seg (fun i=>ds.getD i 0) 0 ds.length=ds:=by
 apply List.ext_getElem (ZE _ _ _)
 intro i h1 h2
 simp only[seg,List.getElem_map,List.getElem_range,Nat.zero_add]
 rw[gDg,gEe h2];rfl
theorem Zfv{B n k:Nat}(hB:2≤B)(h1:B ^ k≤n)(h2:n<B ^ (k+1)):(digs B n).length=k+1:=by
 have a:=Zm hB h2
 have b:=Z3 hB n
 apply Nat.le_antisymm a
 apply bCo
 intro hc
 have:B ^ (digs B n).length≤B ^ k:=Nat.pow_le_pow_right (by omega) (by omega)
 omega
theorem Zep{B b n:Nat}(hB:2≤B)(h:(digs B b).length=n+1):0<(digs B b).getD n 0∧b<((digs B b).getD n 0+1)*B ^ n∧B ^ n≤b:=by
 have h1:=Zy (B:=B) (digs B b) n
 rw[tOl (by omega),Ze hB]at h1
 have h2:=Ys (B:=B) (n:=n) (Zh hB b) (by omega)
 have h3:=Zbo hB (n:=b) (by rintro rfl;simp[XC]at h)
 rw[h,Nat.add_sub_cancel]at h3
 refine⟨?_,?_,h3⟩
 ·apply Nat.pos_of_ne_zero
  intro e
  rw[e,Nat.mul_zero]at h1
  omega
 ·rw[Nat.add_mul,Nat.mul_comm _ (B ^ n),Nat.one_mul]
  omega
theorem Ziy{t k:Nat}(ht:0<t)(h:t*2 ^ k<2147483648):t*2 ^ (k+1)<4294967296∧k+1≤31:=by
 have h1:t*2 ^ (k+1)<4294967296:=by rw[Nat.pow_succ,← Nat.mul_assoc];omega
 refine⟨h1,?_⟩
 apply bCo
 intro hc
 have h2:2 ^ 32≤2 ^ (k+1):=Nat.pow_le_pow_right (by decide) (by omega)
 have h3:1*2 ^ (k+1)≤t*2 ^ (k+1):=Nat.mul_le_mul_right _ ht
 omega
structure LongStart(a b n k:Nat):Prop where
 dpos:0<b*2 ^ k
 dlen:(digs 4294967296 (b*2 ^ k)).length=n+2
 alen:(digs 4294967296 (a*2 ^ k)).length≤(digs 4294967296 a).length+1
 age:(digs 4294967296 a).length≤(digs 4294967296 (a*2 ^ k)).length
 lt:∀ Q,Q+(n+2)=(digs 4294967296 a).length+1→a*2 ^ k<b*2 ^ k*4294967296 ^ Q
theorem ZgY{a b n k:Nat}(hb:(digs 4294967296 b).length=n+2)(hk:k≤31)(ht:(digs 4294967296 b).getD (n+1) 0*2 ^ k<4294967296):LongStart a b n k:=by
 have hB:2≤4294967296:=by decide
 obtain⟨_,t2,t3⟩:=Zep hB hb
 have h0:0<2 ^ k:=Nat.pow_pos (by decide)
 have hd:2 ^ k ∣ 4294967296:=by
  rw[show 4294967296=2 ^ 32 by decide]
  exact Nat.pow_dvd_pow 2 (by omega)
 have h1:=ZgW t2 ht hd
 have hbp:0<b:=nLl (Nat.pow_pos (by decide)) t3
 have h2:b*1≤b*2 ^ k:=Nat.mul_le_mul_left _ h0
 have hlt:=Z3 hB a
 have hk2:2 ^ k<4294967296:=Nat.lt_of_le_of_lt (Nat.pow_le_pow_right (by decide) hk) (by decide)
 refine⟨Nat.mul_pos hbp h0,Zfv hB (by omega) h1,?_,?_,fun Q hQ=>?_⟩
 ·apply Zm hB
  rw[Nat.pow_succ]
  exact nLl ((Nat.mul_lt_mul_right h0).2 hlt) (Nat.mul_le_mul_left _ (Nat.le_of_lt hk2))
 ·apply ZV hB
  have:a*1≤a*2 ^ k:=Nat.mul_le_mul_left _ h0
  omega
 ·have e1:(4294967296:Nat) ^ (digs 4294967296 a).length=4294967296 ^ (n+1)*4294967296 ^ Q:=by
   rw[← Nat.pow_add];congr 1;omega
  rw[e1]at hlt
  have e2:a<b*4294967296 ^ Q:=nLl hlt (Nat.mul_le_mul_right _ t3)
  rw[Nat.mul_right_comm]
  exact(Nat.mul_lt_mul_right h0).2 e2
theorem long_end{a b k v V:Nat}(hb:0<b*2 ^ k)(h:a*2 ^ k=b*2 ^ k*v+V)(hV:V<b*2 ^ k):v=a / b∧V / 2 ^ k=a % b∧V=a*2 ^ k % (b*2 ^ k):=by
 have h1:a*2 ^ k / (b*2 ^ k)=v:=by rw[h,Nat.mul_add_div hb,Nat.div_eq_of_lt hV,Nat.add_zero]
 have h2:a*2 ^ k % (b*2 ^ k)=V:=by rw[h,Nat.mul_add_mod,Nat.mod_eq_of_lt hV]
 rw[Ziv]at h1
 refine⟨h1.symm,?_,h2.symm⟩
 rw[← h2,Ziu]
end FF
namespace FF
theorem Zgk{B j n D:Nat}{f:Nat→Nat}(hB:0<B)(hlt:val B (seg f 0 (j+1+n))<D*B ^ (j+1)):val B (seg f j (n+1))<D*B:=by
 have e1:val B (seg f 0 (j+1+n))=val B (seg f 0 j)+B ^ j*val B (seg f j (n+1)):=by
  rw[show j+1+n=j+(n+1) by omega,UK,ZQ,ZE,Nat.zero_add]
 have hpos:0<B ^ j:=Nat.pow_pos hB
 have e3:D*B ^ (j+1)=B ^ j*(D*B):=by rw[Nat.pow_succ,Nat.mul_left_comm]
 apply Nat.lt_of_mul_lt_mul_left (a:=B ^ j)
 rw[← e3];omega
end FF
end
namespace Go.Proofs.YthkklilhjnpedaaGreatDoor
section
open Go.RowKit FF
def rowN(f:Nat→Nat):Nat→Value:=fun k=>.int .u32 (f k:Nat)
theorem Zda{w:World}{G T n p x:Nat}{f:Nat→Nat}(h:w.rowIs G T n (rowN f)):(w.setCell ⟨G,p,none⟩ (.int .u32 (x:Nat))).rowIs G T n (rowN (upd f p x)):=by
 refine(h.set p (.int .u32 (x:Nat))).congr fun i _=>?_
 unfold rowN upd
 split <;> rfl
theorem ZgZ{w:World}{G T n:Nat}{f:Nat→Nat}(h:w.rowIs G T n (rowN f)):Shows .u32 w (some ⟨G,0,none⟩) (seg f 0 n):=by
 intro _
 refine⟨G,0,rfl,h.lt,fun i hi=>?_⟩
 rw[ZE]at hi
 rw[Y7 hi,Nat.zero_add]
 exact h.cell hi
theorem Ziz(n:Nat)(i:Nat)(_:i<n):Value.int .u32 0=rowN (fun _=>0) i:=rfl
theorem Zdb(A A':Option Addr)(xs ys:List Nat)(c c':Nat)(w:World)(hx:Shows .u32 w A xs)(hy:Shows .u32 w A' ys)(dx:Dig WB xs)(dy:Dig WB ys)(hxl:xs.length≤1000000)(hyl:ys.length≤1000000) :
  Calls Tryz.prog 137 #[.slice A xs.length c,.slice A' ys.length c'] w fun e w' =>
   ∃ A2,e=.returned (.slice A2 (wl (val WB xs*val WB ys)) (wl (val WB xs*val WB ys)))∧Shows .u32 w' A2 (digs WB (val WB xs*val WB ys))∧Fresh w.heap.size A2∧Below w.heap.size w w':=by
 obtain⟨n,hn⟩:∃ n,xs.length=n:=⟨_,rfl⟩
 obtain⟨m,hm⟩:∃ m,ys.length=m:=⟨_,rfl⟩
 obtain⟨N,hN⟩:=nmx (n+m)
 have hmk:=Zab N (by omega)
 have hNc:(N:Int)=(n:Int)+m:=by omega
 rw[hNc]at hmk
 clear hNc
 have bx:=lhd (fun i=>dx.getD (show 0<WB by decide) i)
 have by':=lhd (fun i=>dy.getD (show 0<WB by decide) i)
 have HX:=lhd hx;have HY:=lhd hy
 have HDX:=lhd dx;have HDY:=lhd dy
 have Hn:=lhd hn;have Hm:=lhd hm;have HN:=lhd hN
 rw[hn,hm]
 rw[hn]at hxl
 rw[hm]at hyl
 clear hx hy dx dy hn hm hN
 go_enter Tryz.func137,Tryz.ntmps137
 go_wp2
 go_loopw [19] (fun s19 wr=>∃ (i:Nat) (f:Nat→Nat),s19=.int .i64 i∧i≤n∧(∀ k,f k<WB)∧(∀ k,i+m≤k→k<N→f k=0)∧val WB (seg f 0 N)=val WB (xs.take i)*val WB ys∧wr.rowIs w.heap.size 135 N (rowN f)∧Below w.heap.size w wr) (fun s _=>n-(intOf s).toNat)
 case atStart=>exact⟨0,fun _=>0,rfl,Nat.zero_le _,fun _=>show 0<WB by decide,fun _ _ _=>rfl,by rw[Zeo _ (fun _ _=>rfl)];simp[val],(World.rowIs_made w _ N _).congr (Ziz N),(Below.refl _ _).alloc (Nat.le_refl _) _⟩
 case round =>
  obtain⟨i,f,rfl,hi,hf,hz,hv,hr,hb⟩:=hrel
  by_cases hiN:i<n
  ·obtain⟨b1,o1,rfl,hb1,hc1⟩:=HX.out.below hb (by rw[Hn.out];omega)
   have hx1:=hc1 i (by rw[Hn.out];exact hiN)
   have bxi:=bx.out i
   unfold WB at bxi
   have HV:=lhd hv;have HR:=lhd hr;have HB:=lhd hb;have HF:=lhd hf;have HZ:=lhd hz
   have HXi0:xs.getD i 0=xs.getD i 0:=rfl
   clear hv hr hb hf hz hc1
   obtain⟨x,hxi⟩:∃ x,xs.getD i 0=x:=⟨_,rfl⟩
   have HXi:=lhd hxi
   rw[hxi]at hx1 bxi
   clear hxi HXi0
   obtain⟨W6,h6⟩:∃ W6:World,W6=wr:=⟨_,rfl⟩
   subst h6
   go_wp2
   go_loopw [8,26] (fun s8 s26 wr2=>∃ (k cy:Nat) (g:Nat→Nat),s8=.int .u64 cy∧s26=.int .i64 k∧k≤m∧cy<4294967296∧(∀ t,g t<WB)∧(∀ t,i+m≤t→t<N→g t=0)∧val WB (seg g 0 N)+WB ^ (i+k)*cy=val WB (seg f 0 N)+WB ^ i*(x*val WB (ys.take k))∧wr2.rowIs w.heap.size 135 N (rowN g)∧Below w.heap.size w wr2) (fun _ s _=>m-(intOf s).toNat)
   case atStart=>exact⟨0,0,f,rfl,rfl,Nat.zero_le _,by decide,HF.out,HZ.out,by simp[val],HR.out,HB.out⟩
   case round =>
    obtain⟨k,cy,g,rfl,rfl,hk,hcy,hg,hgz,hgv,hgr,hgb⟩:=hrel
    by_cases hkm:k<m
    ·obtain⟨b2,o2,rfl,hb2,hc2⟩:=HY.out.below hgb (by rw[Hm.out];omega)
     have hy1:=hc2 k (by rw[Hm.out];exact hkm)
     have byk:=by'.out k
     unfold WB at byk
     have hp:i+k<N:=by rw[HN.out];omega
     have hgk:=hg (i+k)
     unfold WB at hgk
     have hcell:wr.cell? ⟨w.heap.size,i+k,none⟩=some (.int .u32 (g (i+k):Nat)):=hgr.cell hp
     have hfro:=hgr.frozen (i+k)
     have hst:=lhd (fun s hs=>ZgX (B:=WB) (i:=i) (k:=k) (c:=cy) (x:=x) (ys:=ys) hp hgv (s:=s) hs)
     have hbd:=Zfu (B:=4294967296) bxi byk hgk hcy
     have HG:=lhd hg;have HGZ:=lhd hgz;have HGR:=lhd hgr;have HGB:=lhd hgb
     clear hg hgz hgv hgr hgb hc2
     generalize ys.getD k 0=y at *
     generalize g (i+k)=z at *
     obtain⟨P,hP⟩:∃ P,x*y=P:=⟨_,rfl⟩
     have hPc:(x:Int)*y=(P:Int):=by rw[← hP];exact(Int.natCast_mul x y).symm
     have HP:=lhd hP
     rw[hP]at hbd hst
     clear hP
     have e1:IntKind.i64.wrap ((i:Int)+k)=(i:Int)+k:=IntWalk.i64_in _ (by omega)
     have e2:(0:Int)≤(i:Int)+k:=by omega
     have e3:((i:Int)+k).toNat=i+k:=by omega
     have e4:IntKind.u64.wrap ((x:Int)*y)=(P:Int):=by rw[hPc];simp only[IntKind.wrap,IntKind.bits,IntKind.signed];simp;omega
     have e5:IntKind.u64.wrap ((P:Int)+z)=((P+z:Nat):Int):=by simp only[IntKind.wrap,IntKind.bits,IntKind.signed];simp;omega
     have e6:IntKind.u64.wrap (((P+z:Nat):Int)+cy)=((P+z+cy:Nat):Int):=by simp only[IntKind.wrap,IntKind.bits,IntKind.signed];simp;omega
     clear hPc
     go_wp2
     go_quiet (fail)
     go_wp2
     refine⟨⟨k+1,(P+z+cy) / 4294967296,upd g (i+k) ((P+z+cy) % 4294967296),?_,by go_num,by omega,hbd.1,upd_lt HG.out (Nat.mod_lt _ (by decide)),fun t h1 h2=>?_,?_,?_,?_⟩,by simp[intOf];omega⟩
     ·rfl
     ·rw[Zb7 (by omega)];exact HGZ.out t h1 h2
     ·exact hst.out _ rfl
     ·exact Zda HGR.out
     ·exact(Zi HGB.out _).setCell (nlr _) _
    ·obtain rfl:k=m:=by omega
     have hp:i+k<N:=by rw[HN.out];omega
     have hcell:wr.cell? ⟨w.heap.size,i+k,none⟩=some (.int .u32 (g (i+k):Nat)):=hgr.cell hp
     have hfro:=hgr.frozen (i+k)
     have hrow:=Zix (B:=WB) hp Hm.out (hgz _ (nlr _) hp) hgv
     have htk:val WB (xs.take (i+1))*val WB ys=val WB (xs.take i)*val WB ys+WB ^ i*(x*val WB ys):=by
      rw[Zy,HXi.out,Nat.add_mul,Nat.mul_assoc]
     rw[HV.out,← htk]at hrow
     have HROW:=lhd hrow
     have HG:=lhd hg;have HGZ:=lhd hgz;have HGR:=lhd hgr;have HGB:=lhd hgb
     clear hg hgz hgv hgr hgb hrow htk
     have e0:(cy:Int) % 4294967296=(cy:Int):=by omega
     go_wp2
     refine⟨⟨i+1,upd g (i+k) cy,by go_num,by omega,upd_lt HG.out (show cy<WB from hcy),fun t h1 h2=>?_,HROW.out,?_,HGB.out.setCell (Nat.le_refl _) _⟩,by simp[intOf];omega⟩
     ·rw[Zb7 (by omega)];exact HGZ.out t (by omega) h2
     ·exact Zda HGR.out
  ·obtain rfl:i=n:=by omega
   have hlt:=ZT HDX.out
   rw[tOl (by rw[Hn.out];exact nlr _)]at hv
   have hdd:=Zbe hf 0 N
   have sh:=ZgZ hr
   have T1:=Z4 (some ⟨w.heap.size,0,none⟩) (seg f 0 N) N wr sh hdd (by rw[ZE];exact nlr _) (by rw[HN.out];unfold maxLen;omega)
   have S1:=sh.trim hdd
   rw[ZE,hv]at T1
   rw[hv]at S1
   have HT:=lhd T1;have HS:=lhd S1;have HB:=lhd hb
   clear T1 S1 hv hr hb hf hz hdd sh hmk hlt
   go_wp2_with fail
   refine HT.out.mono ?_
   rintro e w' ⟨rfl,rfl⟩
   go_wp2_with fail
   go_ret
   exact⟨_,rfl,HS.out,Fresh.mk (nlr _),HB.out⟩
theorem Zbu(A:Option Addr)(xs:List Nat)(c k:Nat)(w:World)(hx:Shows .u32 w A xs)(dx:Dig WB xs)(hxl:xs.length≤1000000)(hk:k≤31) :
  Calls Tryz.prog 207 #[.slice A xs.length c,.int .u64 k] w fun e w' =>
   ∃ A2,e=.returned (.slice A2 (wl (val WB xs*2 ^ k)) (wl (val WB xs*2 ^ k)))∧Shows .u32 w' A2 (digs WB (val WB xs*2 ^ k))∧Fresh w.heap.size A2∧Below w.heap.size w w':=by
 have hT:=lhd (fun (w':World) (x:Nat) (A':Option Addr) (h:Shows .u32 w' A xs) (h':Shows .u32 w' A' [x]) (hd:x<WB)=>Zdb A A' xs [x] c 1 w' h h' dx (fun y hy=>by rw[List.mem_singleton.1 hy];exact hd) hxl (by simp))
 have HX:=lhd hx
 clear hx dx
 generalize hn:xs.length=n at *
 clear hn
 have hq0:2 ^ k<4294967296:=Nat.lt_of_le_of_lt (Nat.pow_le_pow_right (by decide) hk) (by decide)
 obtain⟨q,hq⟩:∃ q:Nat,2 ^ k=q:=⟨_,rfl⟩
 have hqc:(2:Int) ^ k % 4294967296=(q:Int):=by
  have:((2 ^ k:Nat):Int)=(2:Int) ^ k:=by simp
  rw[← this,hq];omega
 rw[hq]at hq0 ⊢
 clear hq
 go_enter Tryz.func207,Tryz.ntmps207
 go_wp2_with fail
 have hs:Shows .u32 (w.alloc (.cells #[.int .u32 (q:Int)] 135)) (some ⟨w.heap.size,0,none⟩) [q]:=
  Shows.new (fun i hi=>by
   match i,hi with
   | 0,_=>rfl)
 have hC:=hT.out _ q _ (HX.out.alloc (.cells #[.int .u32 (q:Int)] 135)) hs hq0
 have hv1:val WB [q]=q:=by simp[val]
 rw[hv1]at hC
 have HC:=lhd hC
 clear hC hv1 hs hT HX
 refine HC.out.mono ?_
 rintro e w' ⟨A2,rfl,h1,h2,h3⟩
 have H1:=lhd h1;have H2:=lhd h2;have H3:=lhd h3
 clear h1 h2 h3 HC
 go_wp2_with fail
 go_ret
 exact⟨_,rfl,H1.out,H2.out.mono (by simp),((Below.refl w.heap.size w).alloc (Nat.le_refl _) _).trans (H3.out.mono (by simp))⟩
def rowP(w:World)(b:Nat)(t:TypeId)(n:Nat)(f:Nat→Value):Prop:=
 ∃ c:Array Value,w.heap[b]?=some (.cells c t (0,0))∧n≤c.size∧∀ i,i<n→c[i]?=some (f i)
section
variable {w w':World}{b:Nat}{t:TypeId}{n:Nat}{f g:Nat→Value}
theorem rowP.cell(h:rowP w b t n f){i:Nat}(hi:i<n):w.cell? ⟨b,i,none⟩=some (f i):=by
 obtain⟨c,hb,_,hc⟩:=h
 simp[World.cell?,hb,hc i hi]
theorem rowP.frozen(h:rowP w b t n f)(i:Nat):w.frozen? ⟨b,i,none⟩=false:=by
 obtain⟨c,hb,_,_⟩:=h
 simp[World.frozen?,hb]
theorem rowP.lt(h:rowP w b t n f):b<w.heap.size:=by
 obtain⟨c,hb,_,_⟩:=h
 obtain⟨hlt,_⟩:=Array.getElem?_eq_some_iff.1 hb
 exact hlt
theorem rowP.congr(h:rowP w b t n f)(e:∀ i,i<n→f i=g i):rowP w b t n g:=by
 obtain⟨c,hb,hn,hc⟩:=h
 exact⟨c,hb,hn,fun i hi=>by rw[hc i hi,e i hi]⟩
theorem rowP.of_block(h:rowP w b t n f)(e:w'.heap[b]?=w.heap[b]?):rowP w' b t n f:=by
 obtain⟨c,hb,hn,hc⟩:=h
 exact⟨c,e.trans hb,hn,hc⟩
theorem rowP.set(h:rowP w b t n f)(i:Nat)(v:Value):rowP (w.setCell ⟨b,i,none⟩ v) b t n (fun j=>if j=i then v else f j):=by
 obtain⟨c,hb,hn,hc⟩:=h
 refine⟨c.setIfInBounds i v,?_,by simpa using hn,fun j hj=>?_⟩
 ·simp[World.setCell,Array.getElem?_modify,hb]
 ·rw[Array.getElem?_setIfInBounds]
  by_cases e:j=i
  ·subst e
   simp[Nat.lt_of_lt_of_le hj hn]
  ·rw[if_neg (fun h=>e h.symm)]
   show c[j]?=some (if j=i then v else f j)
   rw[if_neg e]
   exact hc j hj
end
theorem Zg0{w:World}{G T n:Nat}{f:Nat→Nat}{j m:Nat}(h:rowP w G T n (rowN f))(hj:j+m≤n):Shows .u32 w (some ⟨G,j,none⟩) (seg f j m):=by
 intro _
 refine⟨G,j,rfl,h.lt,fun i hi=>?_⟩
 rw[ZE]at hi
 rw[Y7 hi]
 exact h.cell (by omega)
theorem Yd{a w:World}{g:Nat}(h:a.grownBy w (some g)){p:Addr}(hp:p.block=g∨a.heap.size≤p.block)(u:Value):a.grownBy (w.setCell p u) (some g):=
 ⟨h.os, h.tape, h.output, by simpa [World.setCell] using h.size, fun i hi hne => (Below.heap_setCell w p u i (by
  rintro rfl
  rcases hp with hp | hp
  ·exact hne (by rw[hp])
  ·omega)).trans (h.block i hi hne)⟩
theorem ZdH{a w:World}(h:Below a.heap.size a w)(row:Option Nat):a.grownBy w row:=⟨h.os,h.tape,h.output,h.size,fun i hi _=>h.block i hi⟩
theorem UL{a w:World}{row:Option Nat}(h:a.grownBy w row)(n:Nat):a.grownBy (w.drewN n) row:=⟨h.os,h.tape,h.output,h.size,h.block⟩
theorem ZbG{w:World}{G T n j i d:Nat}{f:Nat→Nat}{R:List Nat}(hl:R.length=i)(h:rowP w G T n (rowN (put f j R))) :
  rowP (w.setCell ⟨G,j+i,none⟩ (.int .u32 (d:Nat))) G T n (rowN (put f j (R++[d]))):=by
 refine(h.set (j+i) (.int .u32 (d:Nat))).congr fun t _=>?_
 unfold rowN
 rw[put_snoc,hl]
 split <;> rfl
theorem Shows.grown{k:IntKind}{w w':World}{A:Option Addr}{xs:List Nat}{G:Nat}(h:Shows k w A xs)(hg:w.grownBy w' (some G))(hne:∀ a,A=some a→a.block≠G):Shows k w' A xs:=by
 intro hn
 obtain⟨b,o,e,hb,hc⟩:=h hn
 have hbl:=hg.block b hb (fun e2=>hne _ e (by injection e2))
 exact⟨b,o,e,nLl hb hg.size,fun i hi=>by rw[World.cell?_of_block (a:=⟨b,o+i,none⟩) hbl];exact hc i hi⟩
theorem take_any(G j m N c c' g:Nat)(f:Nat→Nat)(A':Option Addr)(ys:List Nat)(w:World)(hr:rowP w G 135 N (rowN f))(hj:j+m≤N)(hN:N≤3000000)(hf:∀ k,f k<WB)
  (hy:Shows .u32 w A' ys) (dy:Dig WB ys) (hne:∀ a,A'=some a→a.block≠G) (hg:g<WB) :
  Calls Tryz.prog 212 #[.slice (some ⟨G,j,none⟩) m c,.slice A' ys.length c',.int .u64 g] w fun e w' =>
   ∃ (R:List Nat) (cy:Nat),e=.returned (.bool ((cy:Int) == 0))∧R.length=m∧Dig WB R∧val WB R+g*val WB (ys.take m)=val WB (seg f j m)+WB ^ m*cy∧rowP w' G 135 N (rowN (put f j R))∧w.grownBy w' (some G):=by
 have hat:=lhd (fun (i:Nat) (w':World) (hi:i≤N) (h:Shows .u32 w' A' ys)=>Kb A' ys c' i w' h (by omega) dy)
 have by':=lhd (fun i=>dy.getD (show 0<WB by decide) i)
 have HY:=lhd hy;have HNE:=lhd hne;have HF:=lhd hf
 have H0:=lhd (show rowP w G 135 N (rowN (put f j [])) from hr.congr fun i _=>by unfold rowN;rw[Zgj])
 clear hy dy hne hf hr
 generalize ys.length=n2 at *
 unfold WB at hg
 go_enter Tryz.func212,Tryz.ntmps212
 go_wp2
 go_loopw [7,13] (fun s7 s13 wr=>∃ (i cy:Nat) (R:List Nat),s7=.int .u64 cy∧s13=.int .i64 i∧i≤m∧cy<4294967296∧R.length=i∧Dig WB R∧val WB R+g*val WB (ys.take i)=val WB ((seg f j m).take i)+WB ^ i*cy∧rowP wr G 135 N (rowN (put f j R))∧w.grownBy wr (some G)) (fun _ s _=>m-(intOf s).toNat)
 case atStart=>exact⟨0,0,[],rfl,rfl,Nat.zero_le _,by decide,rfl,fun x hx=>absurd hx (by simp),by simp[val],H0.out,World.grownBy.refl w _⟩
 case round =>
  obtain⟨i,cy,R,rfl,rfl,hi,hcy,hRl,hRd,hv,hr,hb⟩:=hrel
  by_cases him:i<m
  ·have sy:=HY.out.grown hb HNE.out
   have byi:=by'.out i
   unfold WB at byi
   have hC:=lhd (fun W (h:Shows .u32 W A' ys)=>hat.out i W (by omega) h)
   have hfi:=HF.out (j+i)
   unfold WB at hfi
   have hcell:wr.cell? ⟨G,j+i,none⟩=some (.int .u32 (f (j+i):Nat)):=by
    have:=hr.cell (show j+i<N by omega)
    unfold rowN at this
    rwa [Zen (by omega)]at this
   have hfro:=hr.frozen (j+i)
   have hGs:G<wr.heap.size:=hr.lt
   have hst:=lhd (fun c' d hs=>Zis (B:=WB) (xs:=seg f j m) (ys:=ys) (n:=g) (c:=cy) (c':=c') (d:=d) hRl hv hs)
   rw[Y7 him]at hst
   have hbd:=Zft (B:=4294967296) hg byi hcy
   have HR:=lhd hr;have HB:=lhd hb;have HRD:=lhd hRd;have HRL:=lhd hRl;have SY:=lhd sy
   clear hr hb hRd hRl hv sy hat by'
   generalize f (j+i)=x at *
   generalize ys.getD i 0=y at *
   obtain⟨P,hP⟩:∃ P,g*y=P:=⟨_,rfl⟩
   have hPc:(g:Int)*y=(P:Int):=by rw[← hP];exact(Int.natCast_mul g y).symm
   have hPb:P+cy≤18446744069414584320:=by
    have h1:g*y≤4294967295*4294967295:=Nat.mul_le_mul (by omega) (by omega)
    omega
   rw[hP]at hbd hst
   clear hP
   have e4:IntKind.u64.wrap ((g:Int)*y)=(P:Int):=by rw[hPc];simp only[IntKind.wrap,IntKind.bits,IntKind.signed];simp;omega
   clear hPc
   by_cases hlo:x<(P+cy) % 4294967296
   ·have hlo':(x:Int)<((P:Int)+cy) % 4294967296:=by omega
    have hb2:=hbd.2 (by omega)
    have hs2:=lhd (hst.out _ _ (by have:=(Zb6 (B:=WB) (x:=x) (p:=P+cy) (by decide)).1 hlo;unfold WB at *;omega:x+WB*((P+cy) / WB+1)=(x+WB-(P+cy) % WB)+P+cy))
    clear hst hbd hlo
    go_wp2_with fail
    refine(hC.out _ SY.out).mono ?_
    rintro e w' ⟨rfl,n3,rfl⟩
    go_wp2_with fail
    have e5:((x:Int)-((P:Int)+cy)) % 4294967296=((x+WB-(P+cy) % WB:Nat):Int):=by unfold WB;omega
    rw[e5]
    refine⟨⟨i+1,(P+cy) / 4294967296+1,R++[x+WB-(P+cy) % WB],by go_num,by go_num,by omega,hb2,by simp[HRL.out],XS HRD.out (by unfold WB;omega),hs2.out,?_,Yd (UL HB.out _) (.inl rfl) _⟩,by simp[intOf];omega⟩
    exact ZbG HRL.out HR.out
   ·have hlo':((P:Int)+cy) % 4294967296≤(x:Int):=by omega
    have hb2:=hbd.1
    have hs2:=lhd (hst.out _ _ (by have:=(Zb6 (B:=WB) (x:=x) (p:=P+cy) (by decide)).2 (by unfold WB;omega);unfold WB at *;omega:x+WB*((P+cy) / WB)=(x-(P+cy) % WB)+P+cy))
    clear hst hbd hlo
    go_wp2_with fail
    refine(hC.out _ SY.out).mono ?_
    rintro e w' ⟨rfl,n3,rfl⟩
    go_wp2_with fail
    have e5:(x:Int)-((P:Int)+cy) % 4294967296=((x-(P+cy) % WB:Nat):Int):=by unfold WB;omega
    rw[e5]
    refine⟨⟨i+1,(P+cy) / 4294967296,R++[x-(P+cy) % WB],by go_num,by go_num,by omega,hb2,by simp[HRL.out],XS HRD.out (by unfold WB;omega),hs2.out,?_,Yd (UL HB.out _) (.inl rfl) _⟩,by simp[intOf];omega⟩
    exact ZbG HRL.out HR.out
  ·obtain rfl:i=m:=by omega
   have HR:=lhd hr;have HB:=lhd hb
   rw[seg_take (nlr _)]at hv
   have HV:=lhd hv
   have HRD:=lhd hRd;have HRL:=lhd hRl
   clear hr hb hRd hRl hv hat by'
   go_wp2_with fail
   go_ret
   exact⟨R,cy,rfl,HRL.out,HRD.out,HV.out,HR.out,HB.out⟩
end
end Go.Proofs.YthkklilhjnpedaaGreatDoor
