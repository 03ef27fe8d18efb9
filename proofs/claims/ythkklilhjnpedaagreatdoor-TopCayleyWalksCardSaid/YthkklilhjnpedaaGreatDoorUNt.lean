set_option maxHeartbeats 16000000
set_option maxRecDepth 8000
/- Plain number theory, part A: primes, prime divisors, congruences of integers. No program in sight. Plain number theory, part B: products over permuted lists, Fermat's theorem, orders, Gauss's lemma. Plain number theory, part C: the Legendre symbol, Gauss's lemma, Eisenstein's count, quadratic reciprocity for primes. Plain number theory, part E: exponents of a prime in a number, inverses modulo a number. Plain number theory, part F: Euclid's pairs. Plain number theory, part G: the Jacobi symbol: multiplicative in both arguments; reciprocity. Plain number theory, part H: the Hilbert symbol by exponents and rests. -/
namespace FF
def IsP(p:Nat):Prop:=2≤p∧∀ d,d ∣ p→d=1∨d=p
theorem IsP.pos{p:Nat}(h:IsP p):0<p:=by have:=h.1;omega
theorem IsP.coprime{p a:Nat}(h:IsP p)(ha:¬ p ∣ a):Nat.Coprime p a:=by
 rcases h.2 (Nat.gcd p a) (Nat.gcd_dvd_left p a) with e | e
 ·exact e
 ·exact absurd (e ▸ Nat.gcd_dvd_right p a) ha
theorem IsP.dvd_mul{p a b:Nat}(h:IsP p)(hd:p ∣ a*b):p ∣ a∨p ∣ b:=by
 by_cases ha:p ∣ a
 ·exact Or.inl ha
 ·exact Or.inr ((h.coprime ha).dvd_of_dvd_mul_left hd)
theorem IsP.dvd_pow{p a n:Nat}(h:IsP p)(hd:p ∣ a ^ n):p ∣ a:=by
  induction n with
  | zero=>rw[Nat.pow_zero]at hd;have:=Nat.le_of_dvd (by omega) hd;have:=h.1;omega
  | succ n ih => rw [Nat.pow_succ] at hd; rcases h.dvd_mul hd with h1 | h1
                 · exact ih h1
                 · exact h1
theorem IsP.not_dvd_one{p:Nat}(h:IsP p):¬ p ∣ 1:=by
 intro hd;have:=Nat.le_of_dvd (by omega) hd;have:=h.1;omega
theorem IsP.eq_of_dvd{p q:Nat}(hp:IsP p)(hq:IsP q)(hd:p ∣ q):p=q:=by
 rcases hq.2 p hd with e | e
 ·have:=hp.1;omega
 ·exact e
theorem Z1(n:Nat):2≤n→∃ p,IsP p∧p ∣ n:=by
 induction n using Nat.strongRecOn with
 | ind n ih =>
  intro hn
  by_cases hp:IsP n
  ·exact⟨n,hp,Nat.dvd_refl n⟩
  ·have:∃ d,d ∣ n∧d≠1∧d≠n:=by
    apply Classical.byContradiction
    intro hc
    exact hp ⟨hn,fun d hd=>by
     apply Classical.byContradiction;intro hx
     exact hc ⟨d,hd,fun e=>hx (Or.inl e),fun e=>hx (Or.inr e)⟩⟩
   obtain⟨d,hd,h1,h2⟩:=this
   have hle:=Nat.le_of_dvd (by omega) hd
   have h0:d≠0:=by rintro rfl;have:=Nat.eq_zero_of_zero_dvd hd;omega
   obtain⟨p,hp,hpd⟩:=ih d (by omega) (by omega)
   exact⟨p,hp,Nat.dvd_trans hpd hd⟩
theorem Yt{n:Nat}(hn:2≤n)(hc:¬ IsP n):∃ p,IsP p∧p ∣ n∧p*p≤n:=by
 have:∃ d,d ∣ n∧d≠1∧d≠n:=by
  apply Classical.byContradiction
  intro hx
  exact hc ⟨hn,fun d hd=>by
   apply Classical.byContradiction;intro hy
   exact hx ⟨d,hd,fun e=>hy (Or.inl e),fun e=>hy (Or.inr e)⟩⟩
 obtain⟨d,⟨e,rfl⟩,h1,h2⟩:=this
 have hd0:d≠0:=by rintro rfl;simp at hn
 have he0:e≠0:=by rintro rfl;simp at hn
 have he1:e≠1:=by rintro rfl;simp at h2
 by_cases hle:d≤e
 ·obtain⟨p,hp,hpd⟩:=Z1 d (by omega)
  have:=Nat.le_of_dvd (by omega) hpd
  exact⟨p,hp,Nat.dvd_trans hpd ⟨e,rfl⟩,Nat.mul_le_mul this (by omega)⟩
 ·obtain⟨p,hp,hpd⟩:=Z1 e (by omega)
  have:=Nat.le_of_dvd (by omega) hpd
  exact⟨p,hp,Nat.dvd_trans hpd ⟨d,Nat.mul_comm d e⟩,Nat.mul_le_mul (by omega) this⟩
theorem Yf{n:Nat}(hn:2≤n)(h:∀ d,2≤d→d*d≤n→¬ d ∣ n):IsP n:=by
 apply Classical.byContradiction;intro hc
 obtain⟨p,hp,hd,hl⟩:=Yt hn hc
 exact h p hp.1 hl hd
theorem IsP.not_dvd_of_lt{p d:Nat}(h:IsP p)(h2:2≤d)(hl:d<p):¬ d ∣ p:=by
 intro hd;rcases h.2 d hd with e | e <;> omega
theorem IsP.odd{p:Nat}(h:IsP p)(h2:p≠2):p % 2=1:=by
 have:=h.1
 have h3:¬ 2 ∣ p:=fun hd=>by rcases h.2 2 hd with e | e <;> omega
 omega
theorem UR:IsP 2:=⟨by omega,fun d hd=>by have:=Nat.le_of_dvd (by omega) hd;have:d≠0:=(by rintro rfl;simp at hd);omega⟩
theorem ZaD:IsP 3:=Yf (by omega) (fun d h1 h2=>by have:=Nat.mul_le_mul h1 h1;omega)
theorem ZbI:IsP 5:=Yf (by omega) (fun d h1 h2=>by
 have:d<3:=by rcases Nat.lt_or_ge d 3 with h | h;exact h;have:=Nat.mul_le_mul h h;omega
 have:d=2:=by omega
 subst this;omega)
theorem ZaE:IsP 7:=Yf (by omega) (fun d h1 h2=>by
 have:d<3:=by rcases Nat.lt_or_ge d 3 with h | h;exact h;have:=Nat.mul_le_mul h h;omega
 have:d=2:=by omega
 subst this;omega)
def Cg(n a b:Int):Prop:=n ∣ a-b
namespace Cg
variable {n a b c d:Int}
theorem refl(n a:Int):Cg n a a:=by unfold Cg;rw[Int.sub_self];exact Int.dvd_zero n
theorem symm(h:Cg n a b):Cg n b a:=by
 obtain⟨k,hk⟩:=h;exact⟨-k,by rw[Int.mul_neg,← hk];omega⟩
theorem trans(h:Cg n a b)(g:Cg n b c):Cg n a c:=by
 obtain⟨k,hk⟩:=h;obtain⟨l,hl⟩:=g;exact⟨k+l,by rw[Int.mul_add,← hk,← hl];omega⟩
theorem neg(h:Cg n a b):Cg n (-a) (-b):=by
 obtain⟨k,hk⟩:=h;exact⟨-k,by rw[Int.mul_neg,← hk];omega⟩
theorem sub(h:Cg n a b)(g:Cg n c d):Cg n (a-c) (b-d):=by
 obtain⟨k,hk⟩:=h;obtain⟨l,hl⟩:=g;exact⟨k-l,by rw[Int.mul_sub,← hk,← hl];omega⟩
theorem mul(h:Cg n a b)(g:Cg n c d):Cg n (a*c) (b*d):=by
 obtain⟨k,hk⟩:=h;obtain⟨l,hl⟩:=g
 exact⟨k*c+b*l,by
  have e1:a=b+n*k:=by omega
  have e2:c=d+n*l:=by omega
  subst e1;subst e2;grind⟩
theorem mul_left(c:Int)(h:Cg n a b):Cg n (c*a) (c*b):=(refl n c).mul h
theorem mul_right(c:Int)(h:Cg n a b):Cg n (a*c) (b*c):=h.mul (refl n c)
theorem pow(k:Nat)(h:Cg n a b):Cg n (a ^ k) (b ^ k):=by
 induction k with
 | zero=>simpa using refl n 1
 | succ k ih=>rw[Int.pow_succ,Int.pow_succ];exact ih.mul h
theorem emod(n a:Int):Cg n (a % n) a:=⟨-(a / n),by have:=Int.mul_ediv_add_emod a n;rw[Int.mul_neg];omega⟩
theorem iff_emod:Cg n a b↔a % n=b % n:=(Int.emod_eq_emod_iff_emod_sub_eq_zero.trans Int.dvd_iff_emod_eq_zero.symm).symm
theorem emod_eq(h:Cg n a b):a % n=b % n:=iff_emod.1 h
theorem of_emod(h:a % n=b % n):Cg n a b:=iff_emod.2 h
theorem zero_iff:Cg n a 0↔n ∣ a:=by unfold Cg;rw[Int.sub_zero]
theorem of_dvd{m:Int}(hm:m ∣ n)(h:Cg n a b):Cg m a b:=Int.dvd_trans hm h
theorem eq_of_bounds(h:Cg n a b)(ha:0≤a)(ha':a<n)(hb:0≤b)(hb':b<n):a=b:=by
 have:=h.emod_eq;rwa [Int.emod_eq_of_lt ha ha',Int.emod_eq_of_lt hb hb']at this
end Cg
theorem IsP.idvd_mul{p:Nat}{a b:Int}(h:IsP p)(hd:(p:Int) ∣ a*b):(p:Int) ∣ a∨(p:Int) ∣ b:=by
 rw[← Int.natAbs_dvd_natAbs,Int.natAbs_mul,Int.natAbs_natCast]at hd
 rcases h.dvd_mul hd with e | e
 ·left;rwa [← Int.natAbs_dvd_natAbs,Int.natAbs_natCast]
 ·right;rwa [← Int.natAbs_dvd_natAbs,Int.natAbs_natCast]
theorem Cg.cancel{p:Nat}{a b c:Int}(hp:IsP p)(hc:¬ (p:Int) ∣ c)(h:Cg p (c*a) (c*b)):Cg p a b:=by
 have h':(p:Int) ∣ c*(a-b):=by rw[Int.mul_sub];exact h
 rcases hp.idvd_mul h' with e | e
 ·exact absurd e hc
 ·exact e
theorem Cg.cancel_right{p:Nat}{a b c:Int}(hp:IsP p)(hc:¬ (p:Int) ∣ c)(h:Cg p (a*c) (b*c)):Cg p a b:=by
 rw[Int.mul_comm a c,Int.mul_comm b c]at h;exact h.cancel hp hc
theorem Cg.sq_one{p:Nat}{x:Int}(hp:IsP p)(h:Cg p (x*x) 1):Cg p x 1∨Cg p x (-1):=by
 have h':(p:Int) ∣ (x-1)*(x+1):=by
  have e:(x-1)*(x+1)=x*x-1:=by grind
  rw[e];exact h
 rcases hp.idvd_mul h' with e | e
 ·exact Or.inl e
 ·exact Or.inr (by unfold Cg;rw[show x - -1=x+1 by omega];exact e)
end FF
namespace FF
theorem UZ{l:List Nat}(hn:l.Nodup)(f:Nat→Nat)(hm:∀ k,k∈l→f k∈l)
  (hi:∀ i,i∈l→∀ j,j∈l→f i=f j→i=j):(l.map f).Perm l:=by
 have hnod:(l.map f).Nodup:=by
  unfold List.Nodup at *
  rw[List.pairwise_map]
  exact hn.imp_of_mem (fun {a b} ha hb hab he=>hab (hi a ha b hb he))
 have hsub:l.map f ⊆ l:=by
  intro x hx
  obtain⟨k,hk,rfl⟩:=List.mem_map.1 hx
  exact hm k hk
 refine(List.perm_ext_iff_of_nodup hnod hn).2 (fun x=>⟨fun h=>hsub h,fun h=>?_⟩)
 apply Classical.byContradiction
 intro hx
 have h1:(x::l.map f).Nodup:=List.nodup_cons.2 ⟨hx,hnod⟩
 have h2:(x::l.map f) ⊆ l:=by
  intro y hy
  rcases List.mem_cons.1 hy with rfl | hy
  ·exact h
  ·exact hsub hy
 have:=h1.length_le_of_subset h2
 simp at this;omega
def ZO(f:Nat→Int):List Nat→Int
 | []=>1
 | k::l=>f k*ZO f l
theorem Zb9(f:Nat→Int){l m:List Nat}(h:l.Perm m):ZO f l=ZO f m:=by
 induction h with
 | nil=>rfl
 | cons x _ ih=>simp only[ZO,ih]
 | swap x y l=>simp only[ZO];grind
 | trans _ _ ih1 ih2=>exact ih1.trans ih2
theorem Zdf(f:Nat→Int)(g:Nat→Nat)(l:List Nat):ZO f (l.map g)=ZO (fun k=>f (g k)) l:=by
 induction l with
 | nil=>rfl
 | cons k l ih=>simp only[List.map,ZO,ih]
theorem ZaF(f g:Nat→Int)(l:List Nat):ZO (fun k=>f k*g k) l=ZO f l*ZO g l:=by
 induction l with
 | nil=>rfl
 | cons k l ih=>simp only[ZO,ih];grind
theorem Zbv(c:Int)(l:List Nat):ZO (fun _=>c) l=c ^ l.length:=by
 induction l with
 | nil=>simp[ZO]
 | cons k l ih=>simp only[ZO,ih,List.length_cons,Int.pow_succ];grind
theorem Zbw(n:Int)(f g:Nat→Int)(l:List Nat)(h:∀ k,k∈l→Cg n (f k) (g k)):Cg n (ZO f l) (ZO g l):=by
 induction l with
 | nil=>exact Cg.refl _ _
 | cons k l ih=>exact(h k (by simp)).mul (ih fun j hj=>h j (by simp[hj]))
theorem Zak{p:Nat}(hp:IsP p)(f:Nat→Int)(l:List Nat)(h:∀ k,k∈l→¬ (p:Int) ∣ f k):¬ (p:Int) ∣ ZO f l:=by
 induction l with
 | nil=>intro hd;exact hp.not_dvd_one (by have:(p:Int) ∣ ((1:Nat):Int):=hd;exact Int.natCast_dvd_natCast.1 this)
 | cons k l ih =>
  intro hd
  rcases hp.idvd_mul hd with e | e
  ·exact h k (by simp) e
  ·exact ih (fun j hj=>h j (by simp[hj])) e
def upTo(n:Nat):List Nat:=List.range' 1 n
theorem Xe{n k:Nat}:k∈upTo n↔1≤k∧k≤n:=by
 unfold upTo;rw[List.mem_range'_1];omega
theorem Zca(n:Nat):(upTo n).Nodup:=List.nodup_range'
theorem Ul(n:Nat):(upTo n).length=n:=by simp[upTo]
theorem XJ{p k:Nat}(h1:1≤k)(h2:k<p):¬ (p:Int) ∣ (k:Int):=by
 intro hd;have:=Nat.le_of_dvd (by omega) (Int.natCast_dvd_natCast.1 hd);omega
theorem Zcb{p:Nat}(hp:IsP p){a:Int}(ha:¬ (p:Int) ∣ a):Cg p (a ^ (p-1)) 1:=by
 have hp2:=hp.1
 have hp0:(p:Int)≠0:=by omega
 have hpp:(0:Int)<p:=by omega
 let f:Nat→Nat:=fun k=>((a*(k:Int)) % (p:Int)).toNat
 have hf:∀ k,((f k:Nat):Int)=(a*(k:Int)) % (p:Int):=fun k=>Int.toNat_of_nonneg (Int.emod_nonneg _ hp0)
 have hperm:((upTo (p-1)).map f).Perm (upTo (p-1)):=by
  refine UZ (Zca _) f ?_ ?_
  ·intro k hk
   rw[Xe]at *
   have h1:=hf k
   have h2:=Int.emod_lt_of_pos (a*(k:Int)) hpp
   have h3:¬ (p:Int) ∣ a*(k:Int):=fun hd=>by
    rcases hp.idvd_mul hd with e | e
    ·exact ha e
    ·exact XJ hk.1 (by omega) e
   have h4:(a*(k:Int)) % (p:Int)≠0:=fun e=>h3 (Int.dvd_of_emod_eq_zero e)
   have h5:=Int.emod_nonneg (a*(k:Int)) hp0
   omega
  ·intro i hi j hj he
   rw[Xe]at *
   have h1:=hf i;rw[he,hf j]at h1
   have h2:Cg p (a*(i:Int)) (a*(j:Int)):=(Cg.of_emod h1).symm
   have h3:=h2.cancel hp ha
   have:=h3.eq_of_bounds (by omega) (by omega) (by omega) (by omega)
   omega
 have e1:=Zb9 (fun k=>(k:Int)) hperm
 rw[Zdf]at e1
 have e2:Cg p (ZO (fun k=>((f k:Nat):Int)) (upTo (p-1))) (ZO (fun k=>a*(k:Int)) (upTo (p-1))):=
  Zbw _ _ _ _ (fun k _=>by rw[hf k];exact Cg.emod _ _)
 rw[ZaF,Zbv,Ul,e1]at e2
 have hnd:¬ (p:Int) ∣ ZO (fun k=>(k:Int)) (upTo (p-1)):=
  Zak hp _ _ (fun k hk=>by rw[Xe]at hk;exact XJ hk.1 (by omega))
 refine(Cg.cancel_right hp hnd ?_).symm
 rw[Int.one_mul];exact e2
theorem X3{n a:Int}(i j:Nat):Cg n (a ^ i) 1→Cg n (a ^ j) 1→Cg n (a ^ (Nat.gcd i j)) 1:=by
 induction i,j using Nat.gcd.induction with
 | H0 j=>intro _ h;simpa using h
 | H1 i j hi ih =>
  intro h1 h2
  rw[Nat.gcd_rec]
  refine ih ?_ h1
  have e:a ^ j=(a ^ i) ^ (j / i)*a ^ (j % i):=by
   rw[← Int.pow_mul,← Int.pow_add,Nat.div_add_mod]
  rw[e]at h2
  have h3:Cg n ((a ^ i) ^ (j / i)*a ^ (j % i)) (1 ^ (j / i)*a ^ (j % i)):=(h1.pow _).mul_right _
  rw[Int.one_pow,Int.one_mul]at h3
  exact h3.symm.trans h2
theorem Zfy{n a:Int}{i:Nat}(j:Nat)(h:Cg n (a ^ i) 1):Cg n (a ^ (i*j)) 1:=by
 rw[Int.pow_mul];have:=h.pow j;rwa [Int.one_pow]at this
theorem XG{n a:Int}{i j:Nat}(hd:i ∣ j)(h:Cg n (a ^ i) 1):Cg n (a ^ j) 1:=by
 obtain⟨k,rfl⟩:=hd;exact Zfy k h
end FF
namespace FF
def sg(n:Nat):Int:=if n % 2=0 then 1 else -1
theorem Zcc(m n:Nat):sg (m+n)=sg m*sg n:=by
 unfold sg;split <;> split <;> split <;> first | rfl | omega
theorem ZbJ(n:Nat):sg n=1∨sg n = -1:=by unfold sg;split <;> simp
theorem U0{m n:Nat}(h:m % 2=n % 2):sg m=sg n:=by unfold sg;rw[h]
theorem Zg2{m n:Nat}(h:m % 2=1):sg (m*n)=sg n:=by
 apply U0;rw[Nat.mul_mod,h];omega
theorem US{n:Nat}(h:n % 2=0):sg n=1:=by unfold sg;rw[if_pos h]
theorem ZaG{n:Nat}(h:n % 2=1):sg n = -1:=by unfold sg;rw[if_neg (by omega)]
def sumL(f:Nat→Int):List Nat→Int
 | []=>0
 | k::l=>f k+sumL f l
theorem ZiC(f:Nat→Int){l m:List Nat}(h:l.Perm m):sumL f l=sumL f m:=by
 induction h with
 | nil=>rfl
 | cons x _ ih=>simp only[sumL,ih]
 | swap x y l=>simp only[sumL];omega
 | trans _ _ ih1 ih2=>exact ih1.trans ih2
theorem sumL_map(f:Nat→Int)(g:Nat→Nat)(l:List Nat):sumL f (l.map g)=sumL (fun k=>f (g k)) l:=by
 induction l with
 | nil=>rfl
 | cons k l ih=>simp only[List.map,sumL,ih]
theorem ZbK(f g:Nat→Int)(l:List Nat):sumL (fun k=>f k+g k) l=sumL f l+sumL g l:=by
 induction l with
 | nil=>rfl
 | cons k l ih=>simp only[sumL,ih];omega
theorem Yn(f g:Nat→Int)(l:List Nat)(h:∀ k,k∈l→f k=g k):sumL f l=sumL g l:=by
 induction l with
 | nil=>rfl
 | cons k l ih=>simp only[sumL];rw[h k (by simp),ih fun j hj=>h j (by simp[hj])]
theorem Zdg(l:List Nat):sumL (fun _=>0) l=0:=by
 induction l with
 | nil=>rfl
 | cons k l ih=>simp only[sumL,ih];omega
theorem Zcd(c:Int)(l:List Nat):sumL (fun _=>c) l=c*l.length:=by
 induction l with
 | nil=>simp[sumL]
 | cons k l ih=>simp only[sumL,ih,List.length_cons];push_cast;grind
theorem Zbx(f:Nat→Int)(l m:List Nat):sumL f (l++m)=sumL f l+sumL f m:=by
 induction l with
 | nil=>simp[sumL]
 | cons k l ih=>simp only[List.cons_append,sumL,ih];omega
theorem ZiD(f:Nat→Nat→Int)(l m:List Nat):sumL (fun k=>sumL (fun j=>f k j) m) l=sumL (fun j=>sumL (fun k=>f k j) l) m:=by
 induction l with
 | nil=>simp only[sumL];rw[Zdg]
 | cons k l ih=>simp only[sumL];rw[ih,← ZbK]
theorem X4(f:Nat→Int)(l:List Nat)(h:∀ k,k∈l→0≤f k):0≤sumL f l:=by
 induction l with
 | nil=>simp[sumL]
 | cons k l ih=>simp only[sumL];have:=h k (by simp);have:=ih fun j hj=>h j (by simp[hj]);omega
theorem Zdh(n:Nat):upTo (n+1)=upTo n++[n+1]:=by
 unfold upTo;rw[List.range'_concat];simp[Nat.add_comm]
def leg(a:Int)(p:Nat):Int:=if a % (p:Int)=0 then 0 else if a ^ ((p-1) / 2) % (p:Int)=1 then 1 else -1
theorem Zes{a:Int}{p:Nat}(h:(p:Int) ∣ a):leg a p=0:=by
 unfold leg;rw[if_pos (Int.emod_eq_zero_of_dvd h)]
theorem leg_ne{a:Int}{p:Nat}(h:¬ (p:Int) ∣ a):leg a p=1∨leg a p = -1:=by
 unfold leg;rw[if_neg (fun e=>h (Int.dvd_of_emod_eq_zero e))];split <;> simp
theorem half_pow{p:Nat}(hp:IsP p)(h2:p≠2){a:Int}(ha:¬ (p:Int) ∣ a) :
  Cg p (a ^ ((p-1) / 2)) 1∨Cg p (a ^ ((p-1) / 2)) (-1):=by
 have ho:=hp.odd h2
 have e:a ^ (p-1)=a ^ ((p-1) / 2)*a ^ ((p-1) / 2):=by rw[← Int.pow_add];congr 1;omega
 have hf:=Zcb hp ha
 rw[e]at hf
 exact hf.sq_one hp
theorem Zce{p:Nat}(hp:IsP p)(h2:p≠2)(a:Int):Cg p (leg a p) (a ^ ((p-1) / 2)):=by
 have ho:=hp.odd h2
 have hp2:=hp.1
 have hpp:(1:Int)<p:=by omega
 by_cases ha:(p:Int) ∣ a
 ·rw[Zes ha]
  have hh:1≤(p-1) / 2:=by omega
  obtain⟨n,hn⟩:∃ n,(p-1) / 2=n+1:=⟨(p-1) / 2-1,by omega⟩
  rw[hn,Int.pow_succ]
  exact(Cg.zero_iff.2 (Int.dvd_mul_of_dvd_right ha)).symm
 ·rcases half_pow hp h2 ha with h | h
  ·have:leg a p=1:=by
    unfold leg;rw[if_neg (fun e=>ha (Int.dvd_of_emod_eq_zero e)),if_pos]
    rw[h.emod_eq];exact Int.emod_eq_of_lt (by omega) hpp
   rw[this];exact h.symm
  ·have:leg a p = -1:=by
    unfold leg;rw[if_neg (fun e=>ha (Int.dvd_of_emod_eq_zero e)),if_neg]
    rw[h.emod_eq]
    intro e
    have e2:Cg p (-1) 1:=Cg.of_emod (by rw[e];exact(Int.emod_eq_of_lt (by omega) hpp).symm)
    have e3:(p:Int) ∣ 2:=by have:=e2.symm;unfold Cg at this;exact this
    have:=Int.le_of_dvd (by omega) e3
    omega
   rw[this];exact h.symm
theorem Zet{p:Nat}(hp:IsP p)(h2:p≠2){x y:Int}(hx:-1≤x∧x≤1)(hy:-1≤y∧y≤1)(h:Cg p x y):x=y:=by
 have ho:=hp.odd h2
 have hp2:=hp.1
 obtain⟨k,hk⟩:=h
 have:k=0:=by
  rcases Int.lt_trichotomy k 0 with h | h | h
  ·have:(p:Int)*k≤(p:Int)*(-1):=Int.mul_le_mul_of_nonneg_left (by omega) (by omega)
   omega
  ·exact h
  ·have:(p:Int)*1≤(p:Int)*k:=Int.mul_le_mul_of_nonneg_left (by omega) (by omega)
   omega
 subst this;omega
theorem Ke(a:Int)(p:Nat):-1≤leg a p∧leg a p≤1:=by
 unfold leg;split
 ·omega
 ·split <;> omega
theorem Zgl{p:Nat}(hp:IsP p)(h2:p≠2)(a b:Int):leg (a*b) p=leg a p*leg b p:=by
 refine Zet hp h2 (Ke _ _) ?_ ?_
 ·have:=Ke a p;have:=Ke b p
  have h1:leg a p = -1∨leg a p=0∨leg a p=1:=by omega
  rcases h1 with e | e | e <;> rw[e] <;> omega
 ·have:=Zce hp h2 (a*b)
  rw[Int.mul_pow]at this
  exact this.trans ((Zce hp h2 a).mul (Zce hp h2 b)).symm
theorem ZiE{p:Nat}{a b:Int}(h:Cg p a b):leg a p=leg b p:=by
 unfold leg;rw[h.emod_eq,(h.pow _).emod_eq]
theorem Zgm{p:Nat}(hp:IsP p):leg 1 p=1:=by
 have:=hp.1
 unfold leg;rw[Int.one_pow,Int.emod_eq_of_lt (by omega) (by omega)];simp
section gauss
variable {p:Nat}(a:Int)
def gres(p:Nat)(a:Int)(k:Nat):Int:=(a*(k:Int)) % (p:Int)
def YT(p:Nat)(a:Int)(k:Nat):Nat:=if gres p a k≤(((p-1) / 2:Nat):Int) then (gres p a k).toNat else ((p:Int)-gres p a k).toNat
def gup(p:Nat)(a:Int)(k:Nat):Nat:=if gres p a k≤(((p-1) / 2:Nat):Int) then 0 else 1
theorem ZbL(hp:IsP p)(ha:¬ (p:Int) ∣ a){k:Nat}(h1:1≤k)(h2:k<p):0<gres p a k∧gres p a k<p:=by
 have hp2:=hp.1
 have h3:¬ (p:Int) ∣ a*(k:Int):=fun hd=>by
  rcases hp.idvd_mul hd with e | e
  ·exact ha e
  ·exact XJ h1 h2 e
 have h4:(a*(k:Int)) % (p:Int)≠0:=fun e=>h3 (Int.dvd_of_emod_eq_zero e)
 have h5:=Int.emod_nonneg (a*(k:Int)) (b:=(p:Int)) (by omega)
 have h6:=Int.emod_lt_of_pos (a*(k:Int)) (b:=(p:Int)) (by omega)
 unfold gres;omega
theorem ZbM(hp:IsP p)(ha:¬ (p:Int) ∣ a){k:Nat}(h1:1≤k)(h2:k<p) :
  Cg p (sg (gup p a k)*(YT p a k:Int)) (a*(k:Int)):=by
 have h:=ZbL a hp ha h1 h2
 have h3:Cg p (gres p a k) (a*(k:Int)):=Cg.emod _ _
 unfold gup YT
 split
 ·rw[Int.toNat_of_nonneg (by omega)];simpa[sg] using h3
 ·rw[Int.toNat_of_nonneg (by omega)]
  have:Cg p (-((p:Int)-gres p a k)) (gres p a k):=⟨-1,by omega⟩
  simpa[sg] using this.trans h3
theorem Zeu(hp:IsP p)(ho:p % 2=1)(ha:¬ (p:Int) ∣ a){k:Nat}(h1:1≤k)(h2:k<p) :
  1≤YT p a k∧YT p a k≤(p-1) / 2:=by
 have h:=ZbL a hp ha h1 h2
 unfold YT;split <;> omega
theorem Zcf(hp:IsP p)(h2:p≠2)(ha:¬ (p:Int) ∣ a) :
  ((upTo ((p-1) / 2)).map (YT p a)).Perm (upTo ((p-1) / 2)):=by
 have ho:=hp.odd h2
 refine UZ (Zca _) _ ?_ ?_
 ·intro k hk
  rw[Xe]at *
  exact Zeu a hp ho ha hk.1 (by omega)
 ·intro i hi j hj he
  rw[Xe]at *
  have g1:=ZbM a hp ha hi.1 (by omega)
  have g2:=ZbM a hp ha hj.1 (by omega)
  rw[he]at g1
  generalize (YT p a j:Int)=d at g1 g2
  have key:Cg p (i:Int) (j:Int)∨Cg p (i:Int) (-(j:Int)):=by
   rcases ZbJ (gup p a i) with e1 | e1 <;> rcases ZbJ (gup p a j) with e2 | e2 <;> rw[e1]at g1 <;> rw[e2]at g2
   ·exact Or.inl ((g1.symm.trans g2).cancel hp ha)
   ·have g3:=g2.neg
    rw[show -(-1*d)=1*d by omega,show -(a*(j:Int))=a*(-(j:Int)) by grind]at g3
    exact Or.inr ((g1.symm.trans g3).cancel hp ha)
   ·have g3:=g2.neg
    rw[show -(1*d) = -1*d by omega,show -(a*(j:Int))=a*(-(j:Int)) by grind]at g3
    exact Or.inr ((g1.symm.trans g3).cancel hp ha)
   ·exact Or.inl ((g1.symm.trans g2).cancel hp ha)
  rcases key with h | h
  ·have:=h.eq_of_bounds (by omega) (by omega) (by omega) (by omega);omega
  ·exfalso
   have h':(p:Int) ∣ ((i+j:Nat):Int):=by
    unfold Cg at h;rw[show((i+j:Nat):Int)=(i:Int) - -(j:Int) by omega];exact h
   exact XJ (by omega) (by omega) h'
theorem gauss(hp:IsP p)(h2:p≠2)(ha:¬ (p:Int) ∣ a) :
  leg a p=ZO (fun k=>sg (gup p a k)) (upTo ((p-1) / 2)):=by
 have ho:=hp.odd h2
 have e1:=Zb9 (fun k=>(k:Int)) (Zcf a hp h2 ha)
 rw[Zdf]at e1
 have e2:Cg p (ZO (fun k=>sg (gup p a k)*(YT p a k:Int)) (upTo ((p-1) / 2))) (ZO (fun k=>a*(k:Int)) (upTo ((p-1) / 2))):=
  Zbw _ _ _ _ (fun k hk=>by rw[Xe]at hk;exact ZbM a hp ha hk.1 (by omega))
 rw[ZaF,ZaF,e1,Zbv,Ul]at e2
 have hnd:¬ (p:Int) ∣ ZO (fun k=>(k:Int)) (upTo ((p-1) / 2)):=
  Zak hp _ _ (fun k hk=>by rw[Xe]at hk;exact XJ hk.1 (by omega))
 have e3:=e2.cancel_right hp hnd
 refine Zet hp h2 (Ke _ _) ?_ ((Zce hp h2 a).trans e3.symm)
 have:∀ l:List Nat,ZO (fun k=>sg (gup p a k)) l=1∨ZO (fun k=>sg (gup p a k)) l = -1:=by
  intro l;induction l with
  | nil=>left;rfl
  | cons k l ih =>
   simp only[ZO]
   rcases ZbJ (gup p a k) with e | e <;> rcases ih with f | f <;> rw[e,f] <;> simp
 rcases this (upTo ((p-1) / 2)) with e | e <;> rw[e] <;> omega
theorem Zgn(f:Nat→Nat)(l:List Nat):ZO (fun k=>sg (f k)) l=sg ((sumL (fun k=>(f k:Int)) l).toNat):=by
 induction l with
 | nil=>rfl
 | cons k l ih =>
  simp only[ZO,sumL]
  have:=X4 (fun k=>(f k:Int)) l (fun k _=>by omega)
  rw[ih,show((f k:Int)+sumL (fun k=>(f k:Int)) l).toNat=f k+(sumL (fun k=>(f k:Int)) l).toNat by omega,Zcc]
theorem Zcg(hp:IsP p)(h2:p≠2)(ha:¬ (p:Int) ∣ a) :
  sumL (fun k=>(gup p a k:Int)) (upTo ((p-1) / 2)) % 2 =
   ((a-1)*sumL (fun k=>(k:Int)) (upTo ((p-1) / 2))+sumL (fun k=>(a*(k:Int)) / (p:Int)) (upTo ((p-1) / 2))) % 2:=by
 have ho:=hp.odd h2
 have e1:=ZiC (fun k=>(k:Int)) (Zcf a hp h2 ha)
 rw[sumL_map]at e1
 have row:∀ k,k∈upTo ((p-1) / 2)→∃ z:Int,a*(k:Int)=(p:Int)*((a*(k:Int)) / (p:Int))+(YT p a k:Int)+(gup p a k:Int)+2*z:=by
  intro k hk
  rw[Xe]at hk
  have h:=ZbL a hp ha hk.1 (by omega)
  have h3:(p:Int)*((a*(k:Int)) / (p:Int))+gres p a k=a*(k:Int):=Int.mul_ediv_add_emod _ _
  unfold YT gup
  split
  ·exact⟨0,by omega⟩
  ·exact⟨gres p a k-(p+1) / 2,by omega⟩
 have hsum:∀ l:List Nat,(∀ k,k∈l→k∈upTo ((p-1) / 2))→∃ z:Int,a*sumL (fun k=>(k:Int)) l =
   (p:Int)*sumL (fun k=>(a*(k:Int)) / (p:Int)) l+sumL (fun k=>(YT p a k:Int)) l+sumL (fun k=>(gup p a k:Int)) l+2*z:=by
  intro l
  induction l with
  | nil=>intro _;exact⟨0,by simp[sumL]⟩
  | cons k l ih =>
   intro hl
   obtain⟨z1,h1⟩:=row k (hl k (by simp))
   obtain⟨z2,h2⟩:=ih (fun j hj=>hl j (by simp[hj]))
   refine⟨z1+z2,?_⟩
   simp only[sumL]
   rw[Int.mul_add,Int.mul_add,h2]
   generalize (p:Int)*(a*(k:Int) / (p:Int))=u at *
   omega
 obtain⟨z,hz⟩:=hsum (upTo ((p-1) / 2)) (fun _ h=>h)
 rw[e1]at hz
 generalize sumL (fun k=>(k:Int)) (upTo ((p-1) / 2))=S at *
 generalize sumL (fun k=>(a*(k:Int)) / (p:Int)) (upTo ((p-1) / 2))=F at *
 generalize sumL (fun k=>(gup p a k:Int)) (upTo ((p-1) / 2))=G at *
 obtain⟨t,ht⟩:∃ t:Int,(p:Int)=2*t+1:=⟨(p:Int) / 2,by omega⟩
 rw[ht]at hz
 have e2:(a-1)*S=a*S-S:=by rw[Int.sub_mul];omega
 have e3:(2*t+1)*F=2*(t*F)+F:=by grind
 rw[e2,hz,e3]
 omega
theorem sum_upTo(n:Nat):2*sumL (fun k=>(k:Int)) (upTo n)=n*(n+1):=by
 induction n with
 | zero=>rfl
 | succ n ih =>
  rw[Zdh,Zbx]
  simp only[sumL]
  rw[Int.mul_add,ih];push_cast;grind
theorem leg_two(hp:IsP p)(h2:p≠2):leg 2 p=sg ((p*p-1) / 8):=by
 have ho:=hp.odd h2
 have hp2:=hp.1
 have ha:¬ (p:Int) ∣ 2:=fun hd=>by have:=Int.le_of_dvd (by omega) hd;omega
 rw[gauss 2 hp h2 ha,Zgn]
 have hpar:=Zcg 2 hp h2 ha
 have hz:sumL (fun k=>(2*(k:Int)) / (p:Int)) (upTo ((p-1) / 2))=0:=by
  rw[Yn _ (fun _=>0) _ (fun k hk=>by rw[Xe]at hk;exact Int.ediv_eq_zero_of_lt (by omega) (by omega)),Zdg]
 rw[hz]at hpar
 have hs:=sum_upTo ((p-1) / 2)
 have hn:=X4 (fun k=>(gup p 2 k:Int)) (upTo ((p-1) / 2)) (fun k _=>by omega)
 obtain⟨t,ht⟩:∃ t,p=2*t+1:=⟨p / 2,by omega⟩
 have ht2:(p-1) / 2=t:=by omega
 rw[ht2]at hpar hs hn ⊢
 generalize sumL (fun k=>(gup p 2 k:Int)) (upTo t)=G at *
 generalize sumL (fun k=>(k:Int)) (upTo t)=S at *
 have e1:(p*p-1)=4*(t*(t+1)):=by
  rw[ht];rw[show(2*t+1)*(2*t+1)=4*(t*(t+1))+1 by grind];omega
 have e2:((t*(t+1):Nat):Int)=2*S:=by rw[hs];push_cast;rfl
 rw[e1]
 generalize t*(t+1)=T at *
 apply U0
 omega
theorem Zev(p x:Nat)(hp:0<p)(m:Nat):sumL (fun j=>if p*j≤x then 1 else 0) (upTo m)=(min m (x / p):Nat):=by
 induction m with
 | zero=>simp[upTo,sumL]
 | succ m ih =>
  rw[Zdh,Zbx,ih]
  simp only[sumL]
  have:p*(m+1)≤x↔m+1≤x / p:=by rw[Nat.le_div_iff_mul_le hp,Nat.mul_comm]
  split <;> omega
theorem Zg3(p q h m:Nat)(hp:p=2*h+1)(hq:q=2*m+1)(hc:Nat.Coprime p q) :
  sumL (fun k=>((q*k / p:Nat):Int)) (upTo h)+sumL (fun j=>((p*j / q:Nat):Int)) (upTo m)=(h*m:Nat):=by
 have e1:sumL (fun k=>((q*k / p:Nat):Int)) (upTo h)=sumL (fun k=>sumL (fun j=>if p*j≤q*k then 1 else 0) (upTo m)) (upTo h):=by
  apply Yn
  intro k hk
  rw[Xe]at hk
  rw[Zev p (q*k) (by omega)]
  have:q*k / p≤m:=by
   apply Nat.le_of_lt_succ
   rw[Nat.div_lt_iff_lt_mul (by omega)]
   have h1:q*k≤q*h:=Nat.mul_le_mul_left _ hk.2
   have h2:q*h<(m+1)*p:=by rw[hp,hq];grind
   exact Nat.lt_of_le_of_lt h1 h2
  rw[Nat.min_eq_right this]
 have e2:sumL (fun j=>((p*j / q:Nat):Int)) (upTo m)=sumL (fun j=>sumL (fun k=>if q*k≤p*j then 1 else 0) (upTo h)) (upTo m):=by
  apply Yn
  intro j hj
  rw[Xe]at hj
  rw[Zev q (p*j) (by omega)]
  have:p*j / q≤h:=by
   apply Nat.le_of_lt_succ
   rw[Nat.div_lt_iff_lt_mul (by omega)]
   have h1:p*j≤p*m:=Nat.mul_le_mul_left _ hj.2
   have h2:p*m<(h+1)*q:=by rw[hp,hq];grind
   exact Nat.lt_of_le_of_lt h1 h2
  rw[Nat.min_eq_right this]
 rw[e1,e2,ZiD (fun j k=>if q*k≤p*j then 1 else 0),← ZbK]
 have e3:sumL (fun k=>sumL (fun j=>if p*j≤q*k then 1 else 0) (upTo m)+sumL (fun j=>if q*k≤p*j then 1 else 0) (upTo m)) (upTo h)=sumL (fun _=>(m:Int)) (upTo h):=by
  apply Yn
  intro k hk
  rw[Xe]at hk
  rw[← ZbK,Yn _ (fun _=>1),Zcd,Ul]
  ·omega
  ·intro j hj
   rw[Xe]at hj
   have hne:p*j≠q*k:=by
    intro he
    have:p ∣ q*k:=⟨j,he.symm⟩
    have:=hc.dvd_of_dvd_mul_left this
    have:=Nat.le_of_dvd (by omega) this
    omega
   split <;> split <;> omega
 rw[e3,Zcd,Ul];push_cast;grind
theorem Zgo(hp:IsP p)(h2:p≠2){q:Nat}(hq:q % 2=1)(ha:¬ p ∣ q) :
  leg (q:Int) p=sg (sumL (fun k=>((q*k / p:Nat):Int)) (upTo ((p-1) / 2))).toNat:=by
 have ha':¬ (p:Int) ∣ (q:Int):=fun h=>ha (Int.natCast_dvd_natCast.1 h)
 rw[gauss (q:Int) hp h2 ha',Zgn]
 have hpar:=Zcg (q:Int) hp h2 ha'
 have e:sumL (fun k=>((q:Int)*(k:Int)) / (p:Int)) (upTo ((p-1) / 2))=sumL (fun k=>((q*k / p:Nat):Int)) (upTo ((p-1) / 2)):=by
  apply Yn;intro k _;push_cast;rfl
 rw[e]at hpar
 have hn:=X4 (fun k=>(gup p (q:Int) k:Int)) (upTo ((p-1) / 2)) (fun k _=>by omega)
 have hn2:=X4 (fun k=>((q*k / p:Nat):Int)) (upTo ((p-1) / 2)) (fun k _=>Int.natCast_nonneg _)
 generalize sumL (fun k=>(gup p (q:Int) k:Int)) (upTo ((p-1) / 2))=G at *
 generalize sumL (fun k=>((q*k / p:Nat):Int)) (upTo ((p-1) / 2))=F at *
 generalize sumL (fun k=>(k:Int)) (upTo ((p-1) / 2))=S at *
 obtain⟨t,ht⟩:∃ t:Int,(q:Int)-1=2*t:=⟨(q:Int) / 2,by omega⟩
 rw[ht,show 2*t*S=2*(t*S) by grind]at hpar
 apply U0
 omega
theorem Km{p q:Nat}(hp:IsP p)(hq:IsP q)(hp2:p≠2)(hq2:q≠2)(hne:p≠q) :
  leg (q:Int) p*leg (p:Int) q=sg ((p-1) / 2*((q-1) / 2)):=by
 have hop:=hp.odd hp2
 have hoq:=hq.odd hq2
 have h1:¬ p ∣ q:=fun h=>hne (hp.eq_of_dvd hq h)
 have h2:¬ q ∣ p:=fun h=>hne (hq.eq_of_dvd hp h).symm
 rw[Zgo hp hp2 hoq h1,Zgo hq hq2 hop h2,← Zcc]
 have he:=Zg3 p q ((p-1) / 2) ((q-1) / 2) (by omega) (by omega) (hp.coprime h1)
 have n1:=X4 (fun k=>((q*k / p:Nat):Int)) (upTo ((p-1) / 2)) (fun k _=>Int.natCast_nonneg _)
 have n2:=X4 (fun k=>((p*k / q:Nat):Int)) (upTo ((q-1) / 2)) (fun k _=>Int.natCast_nonneg _)
 congr 1
 omega
end gauss
end FF
namespace FF
def vpF:Nat→Int→Int→Nat
 | 0,_,_=>0
 | f+1,p,n=>if p ∣ n then vpF f p (n / p)+1 else 0
def vp(p n:Int):Nat:=vpF n.natAbs p n
theorem Yx{p n:Int}(hp:2≤p)(hn:n≠0)(hd:p ∣ n):(n / p).natAbs<n.natAbs∧n / p≠0:=by
 obtain⟨k,rfl⟩:=hd
 have hk:k≠0:=by rintro rfl;simp at hn
 rw[Int.mul_ediv_cancel_left _ (by omega),Int.natAbs_mul]
 refine⟨?_,hk⟩
 have:2*k.natAbs≤p.natAbs*k.natAbs:=Nat.mul_le_mul_right _ (by omega)
 omega
theorem vpF_fuel{p:Int}(hp:2≤p)(f g:Nat):∀ n:Int,n≠0→n.natAbs≤f→n.natAbs≤g→vpF f p n=vpF g p n:=by
 induction f generalizing g with
 | zero=>intro n h0 hf _;omega
 | succ f ih =>
  intro n h0 hf hg
  cases g with
  | zero=>omega
  | succ g =>
   simp only[vpF]
   split
   ·rename_i hd
    have:=Yx hp h0 hd
    rw[ih g (n / p) this.2 (by omega) (by omega)]
   ·rfl
theorem Zew{p n:Int}(hp:2≤p)(hn:n≠0)(hd:p ∣ n):vp p n=vp p (n / p)+1:=by
 have:=Yx hp hn hd
 obtain⟨f,hf⟩:∃ f,n.natAbs=f+1:=⟨n.natAbs-1,by omega⟩
 unfold vp
 rw[hf]
 simp only[vpF,if_pos hd]
 rw[vpF_fuel hp f (n / p).natAbs (n / p) this.2 (by omega) (Nat.le_refl _)]
theorem Zex{p n:Int}(hd:¬ p ∣ n):vp p n=0:=by
 unfold vp
 cases n.natAbs with
 | zero=>rfl
 | succ f=>simp only[vpF,if_neg hd]
def rest(p n:Int):Int:=n / p ^ vp p n
theorem Zey{p n:Int}(hp:2≤p)(hn:n≠0)(hd:p ∣ n):rest p n=rest p (n / p):=by
 unfold rest
 rw[Zew hp hn hd,Int.pow_succ,Int.mul_comm,Int.ediv_ediv_of_nonneg (by omega)]
theorem Zez{p n:Int}(hd:¬ p ∣ n):rest p n=n:=by
 unfold rest;rw[Zex hd];simp
theorem Zgp{p:Int}(hp:2≤p):∀ (f:Nat) (n:Int),n.natAbs≤f→n≠0→n=p ^ vp p n*rest p n∧¬ p ∣ rest p n:=by
 intro f
 induction f with
 | zero=>intro n hf hn;omega
 | succ f ih =>
  intro n hf hn
  by_cases hd:p ∣ n
  ·have hl:=Yx hp hn hd
   obtain⟨h1,h2⟩:=ih (n / p) (by omega) hl.2
   rw[Zew hp hn hd,Zey hp hn hd]
   refine⟨?_,h2⟩
   rw[Int.pow_succ,Int.mul_comm (p ^ _) p,Int.mul_assoc,← h1,Int.mul_ediv_cancel' hd]
  ·rw[Zex hd,Zez hd];exact⟨by simp,hd⟩
theorem X6{p n:Int}(hp:2≤p)(hn:n≠0):n=p ^ vp p n*rest p n:=(Zgp hp _ n (Nat.le_refl _) hn).1
theorem XK{p n:Int}(hp:2≤p)(hn:n≠0):¬ p ∣ rest p n:=(Zgp hp _ n (Nat.le_refl _) hn).2
theorem Zgq{p n:Int}(hp:2≤p)(hn:n≠0):rest p n≠0:=fun h=>XK hp hn (h ▸ Int.dvd_zero p)
theorem Zal{p n:Int}(hp:2≤p)(hn:n≠0):rest p n ∣ n:=⟨p ^ vp p n,by rw[Int.mul_comm];exact X6 hp hn⟩
theorem Kv{p n:Int}(hp:2≤p)(hn:n≠0):(rest p n).natAbs≤n.natAbs:=Nat.le_of_dvd (by omega) (Int.natAbs_dvd_natAbs.2 (Zal hp hn))
theorem vp_lt{p n:Int}(hp:2≤p)(hn:n≠0):2 ^ vp p n≤n.natAbs:=by
 have h:=congrArg Int.natAbs (X6 hp hn)
 rw[Int.natAbs_mul,Int.natAbs_pow]at h
 have h1:2 ^ vp p n≤p.natAbs ^ vp p n:=Nat.pow_le_pow_left (by omega) _
 have h2:1≤(rest p n).natAbs:=by have:=Zgq hp hn;omega
 have h3:p.natAbs ^ vp p n*1≤p.natAbs ^ vp p n*(rest p n).natAbs:=Nat.mul_le_mul_left _ h2
 omega
theorem Zby{p n:Int}(hp:2≤p)(hn:0<n):0≤rest p n:=by
 apply Classical.byContradiction;intro hc
 have e:=X6 hp (n:=n) (by omega)
 have h1:0<p ^ vp p n:=Int.pow_pos (by omega)
 have h2:p ^ vp p n*rest p n≤p ^ vp p n*0:=Int.mul_le_mul_of_nonneg_left (by omega) (by omega)
 omega
theorem ZbN{p n:Int}(hp:2≤p)(hn:0<n):0<rest p n:=by
 have:=Zby hp hn;have:=Zgq hp (n:=n) (by omega);omega
def invM(a m:Int):Int:=(((List.range m.toNat).find? (fun x:Nat=>decide ((a*(x:Int)) % m=1 % m))).getD 0:Nat)
theorem Zch{a m b c:Int}(h:Int.gcd a m=1)(hc:Cg m (a*b) (a*c)):Cg m b c:=by
 have h1:m ∣ a*(b-c):=by rw[Int.mul_sub];exact hc
 have h2:Nat.Coprime m.natAbs a.natAbs:=by
  have:Int.gcd m a=1:=by rw[Int.gcd_comm];exact h
  exact this
 rw[← Int.natAbs_dvd_natAbs,Int.natAbs_mul]at h1
 exact Int.natAbs_dvd_natAbs.1 (h2.dvd_of_dvd_mul_left h1)
theorem Zg5{a m:Int}(hm:0<m)(h:Int.gcd a m=1):∃ x:Nat,(x:Int)<m∧Cg m (a*(x:Int)) 1:=by
 let f:Nat→Nat:=fun k=>((a*(k:Int)) % m).toNat
 have hf:∀ k,((f k:Nat):Int)=(a*(k:Int)) % m:=fun k=>Int.toNat_of_nonneg (Int.emod_nonneg _ (by omega))
 have hperm:((List.range m.toNat).map f).Perm (List.range m.toNat):=by
  refine UZ List.nodup_range f ?_ ?_
  ·intro k _
   rw[List.mem_range]
   have h1:=hf k
   have h2:=Int.emod_lt_of_pos (a*(k:Int)) hm
   omega
  ·intro i hi j hj he
   rw[List.mem_range]at hi hj
   have h1:=hf i;rw[he,hf j]at h1
   have h2:Cg m (a*(i:Int)) (a*(j:Int)):=(Cg.of_emod h1).symm
   have:=(Zch h h2).eq_of_bounds (by omega) (by omega) (by omega) (by omega)
   omega
 have h1:=Int.emod_nonneg 1 (b:=m) (by omega)
 have h2:=Int.emod_lt_of_pos 1 hm
 have:(1 % m).toNat∈(List.range m.toNat).map f:=hperm.mem_iff.2 (List.mem_range.2 (by omega))
 obtain⟨k,hk,he⟩:=List.mem_map.1 this
 rw[List.mem_range]at hk
 have h3:=hf k
 rw[he]at h3
 exact⟨k,by omega,Cg.of_emod (by omega)⟩
theorem ZiF{a m:Int}(hm:0<m)(h:Int.gcd a m=1):0≤invM a m∧invM a m<m∧Cg m (a*invM a m) 1:=by
 obtain⟨x,hx,hc⟩:=Zg5 hm h
 unfold invM
 cases hfd:(List.range m.toNat).find? (fun x:Nat=>decide ((a*(x:Int)) % m=1 % m)) with
 | none =>
  rw[List.find?_eq_none]at hfd
  exact absurd (decide_eq_true hc.emod_eq) (hfd x (List.mem_range.2 (by omega)))
 | some y =>
  have h1:=List.mem_of_find?_eq_some hfd
  have h2:=List.find?_some hfd
  rw[List.mem_range]at h1
  simp only[decide_eq_true_eq]at h2
  simp only[Option.getD_some]
  exact⟨by omega,by omega,Cg.of_emod h2⟩
theorem Zbz{a m x:Int}(hm:0<m)(h:Int.gcd a m=1)(h0:0≤x)(h1:x<m)(hc:Cg m (a*x) 1):x=invM a m:=by
 obtain⟨i0,i1,i2⟩:=ZiF hm h
 exact(Zch h (hc.trans i2.symm)).eq_of_bounds h0 h1 i0 i1
end FF
namespace FF
theorem Zam(a m:Int):Int.gcd (a % m) m=Int.gcd a m:=by
 rw[Int.emod_def];exact Int.gcd_sub_mul_left_left ..
structure Eu(a m r s x y:Int):Prop where
 r0:0≤r
 rm:r≤m
 s0:0≤s
 sm:s≤m
 cr:Cg m r (a*x)
 cs:Cg m s (a*y)
 g:Int.gcd r s=Int.gcd a m
 sum:s*x.natAbs+r*y.natAbs=m
 opp:(0≤x∧y≤0)∨(x≤0∧0≤y)
 xb:x.natAbs≤m
 yb:y.natAbs≤m
theorem Eu.start{a m:Int}(hm:1≤m):Eu a m (a % m) m 1 0:=by
 have h0:=Int.emod_nonneg a (b:=m) (by omega)
 have h1:=Int.emod_lt_of_pos a (b:=m) (by omega)
 exact { r0:=h0,rm:=by omega,s0:=by omega,sm:=by omega,cr:=by rw[Int.mul_one];exact Cg.emod m a,cs:=⟨1,by omega⟩,g:=Zam a m,sum:=by simp,opp:=Or.inl ⟨by omega,by omega⟩,xb:=by simp;omega,yb:=by simp;omega }
theorem Eu.step{a m r s x y:Int}(h:Eu a m r s x y)(hs:s≠0) :
  Eu a m s (r-r / s*s) y (x-r / s*y)∧0≤r / s*s∧r / s*s≤r∧(r / s*y).natAbs≤m∧0≤r / s∧r / s≤m∧r-r / s*s<s:=by
 obtain⟨r0,rm,s0,sm,cr,cs,g,sum,opp,xb,yb⟩:=h
 have hsp:0<s:=by omega
 have e1:=Int.mul_ediv_add_emod r s
 have e2:=Int.emod_nonneg r (b:=s) (by omega)
 have e3:=Int.emod_lt_of_pos r hsp
 have q0:0≤r / s:=Int.ediv_nonneg r0 s0
 have q1:r / s≤m:=Int.le_trans (Int.ediv_le_self s r0) rm
 rw[Int.mul_comm]at e1
 generalize hq:r / s=q at *
 have hr':r-q*s=r % s:=by omega
 have hqs:0≤q*s:=Int.mul_nonneg q0 s0
 have hy':((x-q*y).natAbs:Int)=x.natAbs+q*y.natAbs:=by
  rcases opp with⟨h1,h2⟩ | ⟨h1,h2⟩
  ·have h3:0≤q*(-y):=Int.mul_nonneg q0 (by omega)
   rw[Int.mul_neg]at h3
   have h4:(y.natAbs:Int) = -y:=by omega
   rw[h4,Int.mul_neg];omega
  ·have h3:0≤q*y:=Int.mul_nonneg q0 h2
   have h4:(y.natAbs:Int)=y:=by omega
   rw[h4];omega
 have hqy:((q*y).natAbs:Int)=q*y.natAbs:=by
  rw[Int.natAbs_mul];push_cast;rw[show((q.natAbs:Nat):Int)=q by omega]
 have hsum':(r-q*s)*y.natAbs+s*((x-q*y).natAbs:Int)=m:=by
  rw[hy',← sum];grind
 have hb:((x-q*y).natAbs:Int)≤m:=by
  have h5:0≤(r-q*s)*y.natAbs:=Int.mul_nonneg (by omega) (by omega)
  have h6:1*((x-q*y).natAbs:Int)≤s*((x-q*y).natAbs:Int):=Int.mul_le_mul_of_nonneg_right (by omega) (by omega)
  omega
 refine⟨{ r0:=s0,rm:=sm,s0:=by omega,sm:=by omega,cr:=cs,cs:=?_,g:=?_,sum:=hsum',opp:=?_,xb:=yb,yb:=hb },hqs,by omega,?_,q0,q1,by omega⟩
 ·have h1:=cr.sub (cs.mul_left q)
  rw[show a*(x-q*y)=a*x-q*(a*y) by grind]
  exact h1
 ·rw[← g,Int.gcd_sub_mul_right_right,Int.gcd_comm]
 ·rcases opp with⟨h1,h2⟩ | ⟨h1,h2⟩
  ·have h3:0≤q*(-y):=Int.mul_nonneg q0 (by omega)
   rw[Int.mul_neg]at h3
   right;constructor <;> omega
  ·have h3:0≤q*y:=Int.mul_nonneg q0 h2
   left;constructor <;> omega
 ·rw[hqy];omega
theorem Eu.done{a m r x y:Int}(hm:1≤m)(h:Eu a m r 0 x y)(hg:Int.gcd a m=1):x % m=invM a m:=by
 have hg':=h.g
 rw[Int.gcd_zero_right,hg]at hg'
 have hr:r=1:=by have:=h.r0;omega
 refine Zbz (by omega) hg (Int.emod_nonneg _ (by omega)) (Int.emod_lt_of_pos _ (by omega)) ?_
 have h1:=h.cr
 rw[hr]at h1
 exact((Cg.emod m x).mul_left a).trans h1.symm
theorem Eu.bounds{a m r s x y:Int}(h:Eu a m r s x y):0≤r∧r≤m∧0≤s∧s≤m∧-m≤x∧x≤m∧-m≤y∧y≤m:=by
 have:=h.xb;have:=h.yb
 exact⟨h.r0,h.rm,h.s0,h.sm,by omega,by omega,by omega,by omega⟩
end FF
namespace FF
def Yg(n:Nat):Nat:=((List.range (n+1)).find? (fun d=>decide (2≤d) && decide (n % d=0))).getD 0
theorem Kn{n:Nat}(hn:2≤n):IsP (Yg n)∧Yg n ∣ n:=by
 unfold Yg
 cases h:(List.range (n+1)).find? (fun d=>decide (2≤d) && decide (n % d=0)) with
 | none =>
  rw[List.find?_eq_none]at h
  exact absurd (by simp;omega) (h n (List.mem_range.2 (by omega)))
 | some d =>
  simp only[Option.getD_some]
  have h1:=List.find?_some h
  simp only[Bool.and_eq_true,decide_eq_true_eq]at h1
  have hdn:=Nat.dvd_of_mod_eq_zero h1.2
  refine⟨?_,hdn⟩
  apply Classical.byContradiction;intro hc
  obtain⟨p,hp,hpd,hpp⟩:=Yt h1.1 hc
  have hp2:=hp.1
  have hlt:p<d:=by
   have:p*2≤p*p:=Nat.mul_le_mul_left _ hp2
   omega
  rw[List.find?_range_eq_some]at h
  have:=h.2.2 p hlt
  simp only[Bool.not_eq_true',Bool.and_eq_false_iff,decide_eq_false_iff_not]at this
  rcases this with h3 | h3
  ·omega
  ·exact h3 (Nat.mod_eq_zero_of_dvd (Nat.dvd_trans hpd hdn))
def jacF:Nat→Int→Nat→Int
 | 0,_,_=>1
 | f+1,a,n=>if n<2 then 1 else leg a (Yg n)*jacF f a (n / Yg n)
def Jac(a:Int)(n:Nat):Int:=jacF n a n
theorem KO{n:Nat}(hn:2≤n):n / Yg n<n∧1≤n / Yg n:=by
 obtain⟨h1,h2⟩:=Kn hn
 have:=h1.1
 exact⟨Nat.div_lt_self (by omega) (by omega),Nat.div_pos (Nat.le_of_dvd (by omega) h2) (by omega)⟩
theorem ZiG(a:Int)(f:Nat):∀ g n,n≤f→n≤g→jacF f a n=jacF g a n:=by
  induction f with
  | zero => intro g n h1 h2; have : n = 0 := by omega
            subst this;cases g <;> simp[jacF]
  | succ f ih =>
    intro g n h1 h2
    cases g with
    | zero => have : n = 0 := by omega
              subst this;simp[jacF]
    | succ g =>
      simp only[jacF]
      split
      · rfl
      · have:=KO (n:=n) (by omega)
        rw[ih g _ (by omega) (by omega)]
theorem jac_rec{n:Nat}(hn:2≤n)(a:Int):Jac a n=leg a (Yg n)*Jac a (n / Yg n):=by
 unfold Jac
 obtain⟨f,rfl⟩:∃ f,n=f+1:=⟨n-1,by omega⟩
 have:=KO hn
 conv=>lhs;unfold jacF
 rw[if_neg (by omega),ZiG a f _ _ (by omega) (Nat.le_refl _)]
theorem Xz(a:Int):Jac a 1=1:=by simp[Jac,jacF]
theorem ZI(a:Int):∀ b n p:Nat,n≤b→1≤n→IsP p→Jac a (p*n)=leg a p*Jac a n:=by
 intro b
 induction b with
 | zero=>intro n p h1 h2;omega
 | succ b ih =>
  intro n p hb hn hp
  have hp2:=hp.1
  have hpn:2≤p*n:=by
   have:2*1≤p*n:=Nat.mul_le_mul hp2 hn
   omega
  obtain⟨hq,hqd⟩:=Kn hpn
  rw[jac_rec hpn]
  generalize Yg (p*n)=q at *
  by_cases hqp:q=p
  ·subst hqp;rw[Nat.mul_div_cancel_left _ hq.pos]
  ·have hqn:q ∣ n:=by
    rcases hq.dvd_mul hqd with h | h
    ·exact absurd (hq.eq_of_dvd hp h) hqp
    ·exact h
   obtain⟨m,rfl⟩:=hqn
   have hm:1≤m:=by apply Nat.pos_of_ne_zero;rintro rfl;simp at hn
   have hmq:m<q*m:=by
    have h1:=hq.1
    have:2*m≤q*m:=Nat.mul_le_mul_right _ h1
    omega
   have e:p*(q*m) / q=p*m:=by
    refine Nat.div_eq_of_eq_mul_right hq.pos ?_
    grind
   rw[e,ih m p (by omega) hm hp,ih m q (by omega) hm hq];grind
theorem Xb{P:Nat→Prop}(h1:P 1)(hm:∀ p n,IsP p→p≠2→n % 2=1→P n→P (p*n)):∀ b n,n≤b→n % 2=1→P n:=by
 intro b
 induction b with
 | zero=>intro n h1 h2;omega
 | succ b ih =>
  intro n hb hn
  by_cases hn1:n=1
  ·subst hn1;exact h1
  ·obtain⟨hq,hqd⟩:=Kn (n:=n) (by omega)
   have hl:=KO (n:=n) (by omega)
   generalize Yg n=q at *
   obtain⟨k,rfl⟩:=hqd
   rw[Nat.mul_div_cancel_left _ hq.pos]at hl
   have hq2:q≠2:=by rintro rfl;omega
   have hk:k % 2=1:=by
    apply Classical.byContradiction;intro hc
    have:q*k % 2=0:=by rw[Nat.mul_mod,show k % 2=0 by omega];simp
    omega
   exact hm q k hq hq2 hk (ih k (by omega) hk)
theorem U1{n:Nat}(hn:n % 2=1)(a b:Int):Jac (a*b) n=Jac a n*Jac b n:=by
 refine Xb (P:=fun n=>Jac (a*b) n=Jac a n*Jac b n) ?_ ?_ n n (Nat.le_refl _) hn
 ·rw[Xz,Xz,Xz];rfl
 ·intro p n hp hp2 hn ih
  rw[ZI _ n n p (Nat.le_refl _) (by omega) hp,ZI _ n n p (Nat.le_refl _) (by omega) hp,ZI _ n n p (Nat.le_refl _) (by omega) hp,ih,Zgl hp hp2];grind
theorem Zdi{n:Nat}(hn:n % 2=1){a b:Int}(h:Cg n a b):Jac a n=Jac b n:=by
 refine Xb (P:=fun n=>Cg n a b→Jac a n=Jac b n) ?_ ?_ n n (Nat.le_refl _) hn h
 ·intro _;rw[Xz,Xz]
 ·intro p n hp hp2 hn ih h
  rw[ZI _ n n p (Nat.le_refl _) (by omega) hp,ZI _ n n p (Nat.le_refl _) (by omega) hp]
  rw[ZiE (h.of_dvd ⟨(n:Int),by push_cast;rfl⟩),ih (h.of_dvd ⟨(p:Int),by push_cast;rw[Int.mul_comm]⟩)]
theorem ZaH{n:Nat}(hn:n % 2=1):Jac 1 n=1:=by
 refine Xb (P:=fun n=>Jac 1 n=1) (Xz 1) ?_ n n (Nat.le_refl _) hn
 intro p n hp hp2 hn ih
 rw[ZI _ n n p (Nat.le_refl _) (by omega) hp,ih,Zgm hp];rfl
theorem ZeA{n:Nat}(hn:n % 2=1):∃ x,n*n=8*x+1:=by
 obtain⟨y,rfl⟩:∃ y,n=2*y+1:=⟨n / 2,by omega⟩
 have:(y*(y+1)) % 2=0:=by
  rcases Nat.mod_two_eq_zero_or_one y with h | h
  ·rw[Nat.mul_mod,h];simp
  ·rw[Nat.mul_mod,show(y+1) % 2=0 by omega];simp
 refine⟨y*(y+1) / 2,?_⟩
 have e:(2*y+1)*(2*y+1)=4*(y*(y+1))+1:=by grind
 omega
theorem jac_two{n:Nat}(hn:n % 2=1):Jac 2 n=sg ((n*n-1) / 8):=by
 refine Xb (P:=fun n=>Jac 2 n=sg ((n*n-1) / 8)) (Xz _) ?_ n n (Nat.le_refl _) hn
 intro p n hp hp2 hn ih
 have ho:=hp.odd hp2
 rw[ZI _ n n p (Nat.le_refl _) (by omega) hp,ih,leg_two hp hp2,← Zcc]
 apply U0
 obtain⟨x,hx⟩:=ZeA ho
 obtain⟨y,hy⟩:=ZeA hn
 have:p*n*(p*n)=8*(8*(x*y)+x+y)+1:=by
  rw[show p*n*(p*n)=(p*p)*(n*n) by grind,hx,hy];grind
 rw[this,hx,hy];omega
theorem Zfz{n:Nat}(hn:n % 2=1):Jac 2 n=if n % 8=3∨n % 8=5 then -1 else 1:=by
 rw[jac_two hn]
 have h:n*n % 16=(n % 16)*(n % 16) % 16:=Nat.mul_mod n n 16
 have key:∀ r,r<16→n % 16=r→n*n % 16=r*r % 16:=by intro r _ e;rw[h,e]
 have h2:n % 16=1∨n % 16=3∨n % 16=5∨n % 16=7∨n % 16=9∨n % 16=11∨n % 16=13∨n % 16=15:=by omega
 obtain⟨x,hx⟩:=ZeA hn
 rcases h2 with e | e | e | e | e | e | e | e <;> have k:=key _ (by omega) e <;> rw[hx]at k ⊢
 ·rw[if_neg (by omega),US (by omega)]
 ·rw[if_pos (by omega),ZaG (by omega)]
 ·rw[if_pos (by omega),ZaG (by omega)]
 ·rw[if_neg (by omega),US (by omega)]
 ·rw[if_neg (by omega),US (by omega)]
 ·rw[if_pos (by omega),ZaG (by omega)]
 ·rw[if_pos (by omega),ZaG (by omega)]
 ·rw[if_neg (by omega),US (by omega)]
theorem Ko{n:Nat}(hn:n % 2=1){a:Int}(h:Int.gcd a n≠1):Jac a n=0:=by
 refine Xb (P:=fun n=>Int.gcd a n≠1→Jac a n=0) ?_ ?_ n n (Nat.le_refl _) hn h
 ·intro h;exact absurd (by simp) h
 ·intro p n hp hp2 hn ih h
  rw[ZI _ n n p (Nat.le_refl _) (by omega) hp]
  by_cases hpa:(p:Int) ∣ a
  ·rw[Zes hpa,Int.zero_mul]
  ·rw[ih,Int.mul_zero]
   intro hg
   apply h
   have c1:Nat.Coprime p a.natAbs:=hp.coprime (fun hd=>hpa (by rw[← Int.natAbs_dvd_natAbs,Int.natAbs_natCast];exact hd))
   have c2:Nat.Coprime n a.natAbs:=by
    have:Int.gcd a n=Nat.gcd a.natAbs n:=rfl
    rw[this]at hg;exact Nat.Coprime.symm hg
   exact(c1.mul_left c2).symm
theorem jac_ne{n:Nat}(hn:n % 2=1){a:Int}(h:Int.gcd a n=1):Jac a n=1∨Jac a n = -1:=by
 refine Xb (P:=fun n=>Int.gcd a n=1→Jac a n=1∨Jac a n = -1) ?_ ?_ n n (Nat.le_refl _) hn h
 ·intro _;left;exact Xz a
 ·intro p n hp hp2 hn ih h
  have c:Nat.Coprime a.natAbs (p*n):=h
  have c1:Nat.Coprime a.natAbs p:=c.coprime_mul_right_right
  have c2:Nat.Coprime a.natAbs n:=c.coprime_mul_left_right
  have hpa:¬ (p:Int) ∣ a:=fun hd=>by
   rw[← Int.natAbs_dvd_natAbs,Int.natAbs_natCast]at hd
   have:=Nat.dvd_gcd hd (Nat.dvd_refl p)
   rw[c1]at this;exact hp.not_dvd_one this
  rw[ZI _ n n p (Nat.le_refl _) (by omega) hp]
  rcases leg_ne hpa with e | e <;> rcases ih c2 with f | f <;> rw[e,f] <;> simp
theorem jac_sq{n:Nat}(hn:n % 2=1){a:Int}(h:Int.gcd a n=1):Jac a n*Jac a n=1:=by
 rcases jac_ne hn h with e | e <;> rw[e] <;> rfl
theorem ZiH{p:Nat}(hp:IsP p)(a:Int):Jac a p=leg a p:=by
 have:=ZI a 1 1 p (Nat.le_refl _) (Nat.le_refl _) hp
 rw[Nat.mul_one,Xz,Int.mul_one]at this;exact this
theorem half_mul{x y:Nat}(hx:x % 2=1)(hy:y % 2=1):(x*y-1) / 2 % 2=((x-1) / 2+(y-1) / 2) % 2:=by
 obtain⟨a,rfl⟩:∃ a,x=2*a+1:=⟨x / 2,by omega⟩
 obtain⟨b,rfl⟩:∃ b,y=2*b+1:=⟨y / 2,by omega⟩
 have:(2*a+1)*(2*b+1)=2*(2*(a*b)+a+b)+1:=by grind
 rw[this];omega
theorem ZbA{x y z:Nat}(hx:x % 2=1)(hy:y % 2=1):sg (z*((x*y-1) / 2))=sg (z*((x-1) / 2))*sg (z*((y-1) / 2)):=by
 rw[← Zcc]
 apply U0
 rw[← Nat.mul_add,Nat.mul_mod,half_mul hx hy,← Nat.mul_mod]
theorem ZdJ{p:Nat}(hp:IsP p)(hp2:p≠2){n:Nat}(hn:n % 2=1)(hd:¬ p ∣ n) :
  leg (n:Int) p*Jac (p:Int) n=sg ((p-1) / 2*((n-1) / 2)):=by
 refine Xb (P:=fun n=>¬ p ∣ n→leg (n:Int) p*Jac (p:Int) n=sg ((p-1) / 2*((n-1) / 2))) ?_ ?_ n n (Nat.le_refl _) hn hd
 ·intro _;rw[Xz];have:=Zgm hp;simp only[Int.mul_one];rw[show((1:Nat):Int)=1 by rfl,this];rfl
 ·intro q n hq hq2 hn ih hd
  have h1:¬ p ∣ n:=fun h=>hd (Nat.dvd_trans h ⟨q,Nat.mul_comm _ _⟩)
  have h2:p≠q:=by rintro rfl;exact hd ⟨n,rfl⟩
  have hr:=Km hp hq hp2 hq2 h2
  rw[ZI _ n n q (Nat.le_refl _) (by omega) hq,Int.natCast_mul,Zgl hp hp2,ZbA (hq.odd hq2) hn,← ih h1,← hr];grind
theorem Zci{m n:Nat}(hm:m % 2=1)(hn:n % 2=1)(hc:Nat.Coprime m n) :
  Jac (m:Int) n*Jac (n:Int) m=sg ((m-1) / 2*((n-1) / 2)):=by
 refine Xb (P:=fun m=>Nat.Coprime m n→Jac (m:Int) n*Jac (n:Int) m=sg ((m-1) / 2*((n-1) / 2))) ?_ ?_ m m (Nat.le_refl _) hm hc
 ·intro _;rw[Xz,show((1:Nat):Int)=1 by rfl,ZaH hn];simp[sg]
 ·intro q m hq hq2 hm ih hc
  have c1:Nat.Coprime m n:=hc.coprime_mul_left
  have c2:Nat.Coprime q n:=hc.coprime_mul_right
  have hqn:¬ q ∣ n:=fun h=>by
   have:=Nat.dvd_gcd (Nat.dvd_refl q) h
   rw[c2]at this;exact hq.not_dvd_one this
  have hr:=ZdJ hq hq2 hn hqn
  rw[Int.natCast_mul,U1 hn,ZI _ m m q (Nat.le_refl _) (by omega) hq]
  have h3:sg ((q*m-1) / 2*((n-1) / 2))=sg ((q-1) / 2*((n-1) / 2))*sg ((m-1) / 2*((n-1) / 2)):=by
   rw[Nat.mul_comm,ZbA (hq.odd hq2) hm,Nat.mul_comm,Nat.mul_comm ((n-1) / 2) ((m-1) / 2)]
  rw[h3,← ih c1,← hr];grind
theorem jac_flip{m n:Nat}(hm:m % 2=1)(hn:n % 2=1) :
  Jac (m:Int) n=Jac (n:Int) m*(if m % 4=3∧n % 4=3 then -1 else 1):=by
 by_cases hc:Nat.Coprime m n
 ·have h1:=Zci hm hn hc
  have h2:Jac (n:Int) m*Jac (n:Int) m=1:=jac_sq hm (by show Nat.gcd _ _=1;simpa using hc.symm)
  have h3:sg ((m-1) / 2*((n-1) / 2))=if m % 4=3∧n % 4=3 then -1 else 1:=by
   by_cases c1:m % 4=3
   ·rw[Zg2 (by omega)]
    by_cases c2:n % 4=3
    ·rw[if_pos ⟨c1,c2⟩,ZaG (by omega)]
    ·rw[if_neg (fun h=>c2 h.2),US (by omega)]
   ·rw[if_neg (fun h=>c1 h.1),US]
    rw[Nat.mul_mod,show(m-1) / 2 % 2=0 by omega];simp
  rw[← h3,← h1]
  calc Jac (m:Int) n=Jac (m:Int) n*(Jac (n:Int) m*Jac (n:Int) m):=by rw[h2,Int.mul_one]
   _=_:=by grind
 ·rw[Ko hn (a:=(m:Int)) (by show Nat.gcd _ _≠1;simpa using hc),Ko hm (a:=(n:Int)) (by show Nat.gcd _ _≠1;rw[Nat.gcd_comm];simpa using hc),Int.zero_mul]
theorem ZdK{n:Nat}(hn:n % 2=1):Jac 0 n=if n=1 then 1 else 0:=by
 split
 ·rename_i h;subst h;exact Xz 0
 ·rename_i h;apply Ko hn;simp;omega
theorem jac_pow{n:Nat}(hn:n % 2=1)(a:Int)(k:Nat):Jac (a ^ k) n=Jac a n ^ k:=by
 induction k with
 | zero=>simp[ZaH hn]
 | succ k ih=>rw[Int.pow_succ,U1 hn,ih,Int.pow_succ]
end FF
namespace FF
theorem jac_step{x n:Int}(hx:0<x)(hn:0<n)(ho:n % 2=1) :
  Jac x n.toNat=(if vp 2 x % 2=1∧(n % 8=3∨n % 8=5) then -1 else 1)*(if rest 2 x % 4=3∧n % 4=3 then -1 else 1)*Jac (n % rest 2 x) (rest 2 x).toNat:=by
 have e:=X6 (p:=2) (n:=x) (by omega) (by omega)
 have hr:=XK (p:=2) (n:=x) (by omega) (by omega)
 have h0:0<rest 2 x:=by
  apply Classical.byContradiction;intro hc
  have h1:(0:Int)<2 ^ vp 2 x:=Int.pow_pos (by omega)
  have h2:2 ^ vp 2 x*rest 2 x≤2 ^ vp 2 x*0:=Int.mul_le_mul_of_nonneg_left (by omega) (by omega)
  omega
 generalize rest 2 x=r at *
 generalize vp 2 x=k at *
 obtain⟨N,rfl⟩:∃ N:Nat,n=(N:Int):=⟨n.toNat,by omega⟩
 obtain⟨R,rfl⟩:∃ R:Nat,r=(R:Int):=⟨r.toNat,by omega⟩
 rw[Int.toNat_natCast,Int.toNat_natCast]
 have hN:N % 2=1:=by omega
 have hR:R % 2=1:=by omega
 rw[e,U1 hN,jac_pow hN,Zfz hN,jac_flip hR hN,Zdi hR (Cg.emod (R:Int) (N:Int))]
 have e1:(if N % 8=3∨N % 8=5 then (-1:Int) else 1) ^ k=if k % 2=1∧((N:Int) % 8=3∨(N:Int) % 8=5) then -1 else 1:=by
  by_cases c:N % 8=3∨N % 8=5
  ·rw[if_pos c]
   by_cases c2:k % 2=1
   ·rw[if_pos ⟨c2,by omega⟩,show k=2*(k / 2)+1 by omega,Int.pow_succ,Int.pow_mul,show((-1:Int)) ^ 2=1 by decide,Int.one_pow];rfl
   ·rw[if_neg (fun h=>c2 h.1),show k=2*(k / 2) by omega,Int.pow_mul,show((-1:Int)) ^ 2=1 by decide,Int.one_pow]
  ·rw[if_neg c,if_neg (by omega),Int.one_pow]
 have e2:(if R % 4=3∧N % 4=3 then (-1:Int) else 1)=if (R:Int) % 4=3∧(N:Int) % 4=3 then -1 else 1:=by
  by_cases c:R % 4=3∧N % 4=3
  ·rw[if_pos c,if_pos (by omega)]
  ·rw[if_neg c,if_neg (by omega)]
 rw[e1,e2];grind
end FF
