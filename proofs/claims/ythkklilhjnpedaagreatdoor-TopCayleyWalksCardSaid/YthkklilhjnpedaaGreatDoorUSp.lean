/- Strong pseudoprimes: the reckoning, as small functions that the kernel runs. No program in sight. A closed reckoning, by the kernel: all products of primes up to 2000 with one signature are shown composite. A closed reckoning, by the kernel: the candidates whose greatest prime lies between 2000 and 31623, first half. A closed reckoning, by the kernel: the candidates whose greatest prime lies between 2000 and 31623, second half. A closed reckoning, by the kernel: the candidates whose greatest prime is above 31622. Strong pseudoprimes: the test as the program makes it; the reckoning is sound. The test with the bases 2, 3, 5, 7 is right up to 1000000000. -/
import Derived.Test.YthkklilhjnpedaaGreatDoorUNt
set_option maxHeartbeats 16000000
set_option maxRecDepth 8000
namespace FF
def Zr{α:Type}(x:Nat)(f:Nat→α):α:=Nat.rec (f 0) (fun k _=>f (k+1)) x
def pmF(a n f:Nat):Nat→Nat:=Nat.rec (fun _=>1) (fun _ ih e=>cond (Nat.beq e 0) 1 (Zr (Nat.div e 32) fun e2=>Nat.mod (Nat.mul (Nat.pow (ih e2) 32) (Nat.pow a (Nat.mod e 32))) n)) f
def pm(a e n:Nat):Nat:=pmF a n 7 e
def oddp(f:Nat):Nat→Nat:=Nat.rec (fun m=>m) (fun _ ih m=>cond (Nat.beq (Nat.mod m 2) 0) (Zr (Nat.div m 2) ih) m) f
def sq(n f:Nat):Nat→Bool:=Nat.rec (fun _=>false) (fun _ ih x=>cond (Nat.beq x (Nat.sub n 1)) true (Zr (Nat.mod (Nat.mul x x) n) ih)) f
def Uo(a n:Nat):Bool:=Zr (oddp 64 (Nat.sub n 1)) fun o=>Zr (pm a o n) fun x=>cond (Nat.beq x 1) true (sq n 64 x)
def bad(n:Nat):Bool:=cond (Nat.beq (pm 2 (Nat.sub n 1) n) 1) (cond (Uo 2 n) (cond (Uo 3 n) (cond (Uo 5 n) (not (Uo 7 n)) true) true) true) true
def ls:List Nat:=[2,3,5,7,11,13,17,19,23,29,31,37,41,43,47,53,59,61,67,71,73,79,83,89,97,101,103,107,109,113,127,131,137,139,149,151,157,163,167,173]
def small:List Nat:=[2,3,5,7,11,13,17,19,23,29,31,37,41,43]
def MM:Nat:=166589903787325219380851695350896256250980509594874862046961683989710
def cnt(p f:Nat):Nat→Nat:=Nat.rec (fun _=>0) (fun _ ih x=>cond (Nat.beq x 1) 0 (Nat.add 1 (Zr (Nat.mod (Nat.mul x x) p) ih))) f
def tA(a p:Nat):Nat:=Zr (oddp 64 (Nat.sub p 1)) fun o=>Zr (pm a o p) (cnt p 40)
def KY(p:Nat):Nat:=Nat.add (tA 2 p) (Nat.add (Nat.mul 32 (tA 3 p)) (Nat.add (Nat.mul 1024 (tA 5 p)) (Nat.mul 32768 (tA 7 p))))
def KC:List (Nat × List Nat):=[(33793,[107,347,443,683,827,947,1163,1187,1283,1523,1667,1787]),
 (1024,[47,167,383,503,647,887,983,1223,1487,1823,1847]),
 (1,[59,131,251,419,971,1091,1259,1571,1811,1931,1979]),
 (33,[19,139,619,691,811,859,1291,1459,1531,1699]),
 (32,[31,199,271,439,1039,1231,1279,1399,1879,1951]),
 (32768,[71,191,239,359,431,599,911,1031,1439,1871]),
 (32800,[79,151,631,751,919,991,1471,1759,1831,1999]),
 (1056,[103,223,367,607,727,1063,1447,1543,1567,1783]),
 (33824,[127,463,487,823,967,1087,1303,1327,1423,1663]),
 (67650,[173,293,677,773,797,1013,1277,1613,1637,1973]),
 (1057,[283,307,523,643,787,1123,1483,1627,1867,1987]),
 (32801,[211,331,379,499,571,739,1051,1171,1579]),
 (32769,[11,179,491,659,1019,1451,1499,1619]),
 (33792,[23,263,743,863,1103,1367,1583,1607]),
 (33825,[43,67,163,547,883,907,1723,1747]),
 (1025,[83,227,467,563,587,1307,1427,1907]),
 (0,[311,479,719,839,1151,1319,1511,1559]),
 (34882,[53,197,317,557,1493,1877]),
 (65602,[101,269,461,941,1949]),
 (67618,[157,397,853,997,1693]),
 (66626,[509,1109,1129,1181,1301]),
 (2114,[653,1373,1733,1997]),
 (2050,[757,1093,1213,1453]),
 (33858,[821,1229,1709,1901]),
 (65570,[1021,1069,1741,1861]),
 (67586,[13,733,1237]),
 (2082,[37,613,877]),
 (66594,[61,349,661]),
 (34818,[277,1117,1597]),
 (1090,[29,701]),
 (2,[109,1621]),
 (65538,[181,829]),
 (66562,[229,1669]),
 (68704,[233,1913]),
 (101378,[313,1657]),
 (34850,[373,1933]),
 (66,[389,1061]),
 (99426,[521,761]),
 (1026,[709,1381]),
 (101473,[1097,1193]),
 (33826,[1549,1789]),
 (135299,[17]),
 (100450,[41]),
 (101440,[73]),
 (100448,[89]),
 (169092,[97]),
 (36994,[113]),
 (68706,[137]),
 (32834,[149]),
 (104581,[193]),
 (134243,[241]),
 (270596,[257]),
 (67681,[281]),
 (102496,[337]),
 (169123,[353]),
 (98435,[401]),
 (98370,[409]),
 (33794,[421]),
 (135171,[433]),
 (132293,[449]),
 (35906,[457]),
 (32770,[541]),
 (65634,[569]),
 (202884,[577]),
 (135298,[593]),
 (100352,[601]),
 (68705,[617]),
 (202982,[641]),
 (136292,[673]),
 (269447,[769]),
 (2146,[809]),
 (101474,[857]),
 (134272,[881]),
 (167076,[929]),
 (101408,[937]),
 (35938,[953]),
 (102531,[977]),
 (68707,[1009]),
 (68673,[1033]),
 (100449,[1049]),
 (236741,[1153]),
 (101442,[1201]),
 (202947,[1217]),
 (168066,[1249]),
 (34912,[1289]),
 (102435,[1297]),
 (100354,[1321]),
 (133251,[1361]),
 (71910,[1409]),
 (34,[1429]),
 (101472,[1433]),
 (2145,[1481]),
 (133219,[1489]),
 (135297,[1553]),
 (200900,[1601]),
 (98368,[1609]),
 (169124,[1697]),
 (99424,[1721]),
 (101441,[1753]),
 (135265,[1777]),
 (34848,[1801]),
 (4195,[1873]),
 (167075,[1889]),
 (101410,[1993])]
def lookup(c:Nat):List (Nat × List Nat)→List Nat
 | []=>[]
 | (d,l)::r=>cond (Nat.beq d c) l (lookup c r)
def memb(x:Nat):List Nat→Bool
 | []=>false
 | y::l=>cond (Nat.beq y x) true (memb x l)
def Ue(m:Nat):List Nat→Bool
 | []=>false
 | l::r=>cond (Nat.blt l m) (cond (Nat.beq (Nat.mod m l) 0) true (Ue m r)) false
def Kh(f:Nat):List Nat→Nat→Bool:=Nat.rec (fun _ _=>false) (fun _ ih l m=>match l with
 | []=>true
 | q::r=>cond (ih r m) (cond (Nat.ble (Nat.mul m q) 1000000000) (Zr (Nat.mul m q) fun mq=>cond (bad mq) (ih (q::r) mq) false) true) false) f
def chk2(m:Nat):Bool:=cond (Ue m small) true (Zr (KY m) fun c=>cond (memb m (lookup c KC)) (Kh 100 (lookup c KC) m) false)
def go2(f:Nat):Nat→Bool:=Nat.rec (fun _=>true) (fun _ ih m=>cond (chk2 m) (Zr (Nat.add m 2) ih) false) f
def all4(e p:Nat):Bool:=cond (Nat.beq (pm 2 e p) 1) (cond (Nat.beq (pm 3 e p) 1) (cond (Nat.beq (pm 5 e p) 1) (Nat.beq (pm 7 e p) 1) false) false) false
def ordL(p d:Nat):List Nat→Bool
 | []=>true
 | l::r=>cond (Nat.beq (Nat.mod d l) 0) (cond (all4 (Nat.div d l) p) false (ordL p d r)) (ordL p d r)
def ZaP(p d:Nat):Bool:=cond (all4 d p) (cond (ordL p d ls) (Zr (Nat.div d (Nat.gcd d (Nat.pow MM 15))) fun r=>cond (Nat.beq (Nat.gcd r MM) 1) (cond (Nat.beq r 1) true (not (all4 (Nat.div d r) p))) false) false) false
def ZaQ(p d f:Nat):Nat→Bool:=Nat.rec (fun _=>true) (fun _ ih s=>cond (cond (Nat.beq (Nat.gcd s 210) 1) (bad (Nat.mul p s)) true) (Zr (Nat.add s d) ih) false) f
def cands(p d:Nat):Bool:=ZaQ p d (Nat.div (Nat.sub (Nat.div 1000000000 p) 1) d) (Nat.add 1 d)
def XM(p i:Nat):Bool:=Zr (Nat.div (Nat.sub p 1) i) fun d=>cond (Nat.beq (Nat.mul d i) (Nat.sub p 1)) (cond (ZaP p d) (cands p d) false) false
def chk3(p:Nat):Bool:=cond (Nat.beq (Nat.gcd p MM) 1) (cond (XM p 1) true (cond (XM p 2) true (cond (XM p 3) true (XM p 4)))) true
def go3(f:Nat):Nat→Bool:=Nat.rec (fun _=>true) (fun _ ih m=>cond (chk3 m) (Zr (Nat.add m 2) ih) false) f
def U6(f:Nat):Nat→Nat→Nat:=Nat.rec (fun _ acc=>acc) (fun _ ih m acc=>Zr (Nat.add m 2) fun m2=>cond (Nat.beq (Nat.gcd m MM) 1) (Zr (Nat.mul acc m) (ih m2)) (ih m2 acc)) f
def KZ(M f:Nat):Nat→Nat:=Nat.rec (fun g=>g) (fun _ ih g=>Zr (Nat.gcd g M) fun h=>cond (Nat.beq h 1) g (Zr (Nat.div g h) ih)) f
def okP(s p:Nat):Bool:=cond (Nat.ble (Nat.mul p s) 1000000000) (bad (Nat.mul p s)) true
def Zcl(s g f:Nat):Nat→Bool:=Nat.rec (fun _=>true) (fun _ ih t=>cond (cond (Nat.beq (Nat.mod g t) 0) (okP s (Nat.div g t)) true) (Zr (Nat.add t 1) ih) false) f
def Zcm(s g f:Nat):Nat→Bool:=Nat.rec (fun _=>true) (fun _ ih p=>cond (cond (Nat.beq (Nat.mod g p) 0) (okP s p) true) (Zr (Nat.add p 1) ih) false) f
def hard(s g:Nat):Bool:=Zr (Nat.gcd g (Nat.gcd (Nat.sub (Nat.pow 5 (Nat.sub s 1)) 1) (Nat.sub (Nat.pow 7 (Nat.sub s 1)) 1))) fun g2 =>
 cond (Nat.beq g2 1) true (cond (Nat.ble g2 1000000) (Zcl s g2 (Nat.div g2 31622) 1) (Zcm s g2 (Nat.sub (Nat.div 1000000000 s) 31622) 31623))
def chk4(M s:Nat):Bool:=cond (Nat.beq (Nat.gcd s 105) 1) (Zr (KZ M 60 (Nat.gcd (Nat.sub (Nat.pow 2 (Nat.sub s 1)) 1) (Nat.sub (Nat.pow 3 (Nat.sub s 1)) 1))) fun g=>cond (Nat.beq g 1) true (hard s g)) true
def go4(M f:Nat):Nat→Bool:=Nat.rec (fun _=>true) (fun _ ih s=>cond (chk4 M s) (Zr (Nat.add s 2) ih) false) f
def main4(f s:Nat):Bool:=Zr (U6 15722 179 MM) fun M=>go4 M f s
end FF
namespace FF
set_option maxRecDepth 1000000
theorem kernel2:go2 995 11=true:=by decide +kernel
end FF
namespace FF
set_option maxRecDepth 1000000
theorem kernel3a:go3 4500 2001=true:=by decide +kernel
end FF
namespace FF
set_option maxRecDepth 1000000
theorem kernel3b:go3 10311 11001=true:=by decide +kernel
end FF
namespace FF
set_option maxRecDepth 1000000
theorem kernel4:main4 15806 11=true:=by decide +kernel
end FF
namespace FF
def Y0(n:Int):Nat→Int→Bool
 | 0,_=>true
 | f+1,x=>if x*x % n=n-1 then false else Y0 n f (x*x % n)
def witW(a n o:Int)(k:Nat):Bool:=
 if a ^ o.toNat % n=1∨a ^ o.toNat % n=n-1 then false else Y0 n (k-1) (a ^ o.toNat % n)
def witB(a n:Int):Bool:=witW a n (rest 2 (n-1)) (vp 2 (n-1))
def Z9(n:Int):List Int→Bool
 | []=>true
 | a::l=>if n=a then true else if n % a=0∨witB a n=true then false else Z9 n l
def isPM(n:Int):Bool:=if n<2∨1000000000<n then false else Z9 n [2,3,5,7]
theorem Zx{α:Type}(x:Nat)(f:Nat→α):Zr x f=f x:=by cases x <;> rfl
theorem YI{a b:Nat}:Nat.beq a b=true↔a=b:=by rw[Nat.beq_eq]
theorem U7{α:Type}(b:Bool)(x y:α):cond b x y=if b=true then x else y:=by cases b <;> rfl
theorem ZD{α:Type}(a b:Nat)(x y:α):cond (Nat.beq a b) x y=if a=b then x else y:=by
 rw[U7];by_cases h:a=b
 ·rw[if_pos (YI.2 h),if_pos h]
 ·rw[if_neg (fun e=>h (YI.1 e)),if_neg h]
theorem YJ{b x:Bool}:cond b x false=true↔b=true∧x=true:=by cases b <;> simp
theorem K0{b x:Bool}:cond b x true=true↔(b=true→x=true):=by cases b <;> simp
theorem pmF_spec(a n:Nat)(f:Nat):∀ e,e<32 ^ f→pmF a n f e % n=a ^ e % n:=by
 induction f with
 | zero=>intro e he;simp at he;subst he;rfl
 | succ f ih =>
  intro e he
  have hd:pmF a n (f+1) e=cond (Nat.beq e 0) 1 (Zr (e / 32) fun e2=>(pmF a n f e2 ^ 32*a ^ (e % 32)) % n):=rfl
  rw[hd,ZD,Zx]
  split
  ·rename_i h;subst h;rfl
  ·have h1:=ih (e / 32) (by rw[Nat.pow_succ]at he;omega)
   rw[Nat.mod_mod,Nat.mul_mod,Nat.pow_mod,h1,← Nat.pow_mod,← Nat.mul_mod,← Nat.pow_mul,← Nat.pow_add]
   congr 2;omega
theorem pm_eq{a e n:Nat}(hn:1<n)(he:e≤1000000000):pm a e n=a ^ e % n:=by
 have h:=pmF_spec a n 7 e (by omega)
 have hd:pm a e n=cond (Nat.beq e 0) 1 (Zr (e / 32) fun e2=>(pmF a n 6 e2 ^ 32*a ^ (e % 32)) % n):=rfl
 rw[← h]
 show pm a e n=pm a e n % n
 rw[hd,ZD,Zx]
 split
 ·exact(Nat.mod_eq_of_lt hn).symm
 ·rw[Nat.mod_mod]
theorem Zds{o:Nat}(ho:o % 2=1)(h:Nat):∀ f,h<f→oddp f (o*2 ^ h)=o:=by
 induction h with
 | zero =>
  intro f hf
  obtain⟨g,rfl⟩:∃ g,f=g+1:=⟨f-1,by omega⟩
  have hd:oddp (g+1) (o*2 ^ 0)=cond (Nat.beq (o*2 ^ 0 % 2) 0) (Zr (o*2 ^ 0 / 2) (oddp g)) (o*2 ^ 0):=rfl
  rw[hd,ZD,if_neg (by simp;omega)];simp
 | succ h ih =>
  intro f hf
  obtain⟨g,rfl⟩:∃ g,f=g+1:=⟨f-1,by omega⟩
  have hd:oddp (g+1) (o*2 ^ (h+1))=cond (Nat.beq (o*2 ^ (h+1) % 2) 0) (Zr (o*2 ^ (h+1) / 2) (oddp g)) (o*2 ^ (h+1)):=rfl
  have e:o*2 ^ (h+1)=2*(o*2 ^ h):=by rw[Nat.pow_succ];grind
  rw[hd,ZD,Zx,e,if_pos (by omega),Nat.mul_div_cancel_left _ (by omega)]
  exact ih g (by omega)
theorem sq_spec(n:Nat)(f:Nat):∀ x i,i<f→x<n→x ^ (2 ^ i) % n=n-1→sq n f x=true:=by
 induction f with
 | zero=>intro x i hi;omega
 | succ f ih =>
  intro x i hi hx h
  have hd:sq n (f+1) x=cond (Nat.beq x (n-1)) true (Zr (x*x % n) (sq n f)):=rfl
  rw[hd,ZD,Zx]
  split
  ·rfl
  ·rename_i hne
   cases i with
   | zero=>rw[Nat.pow_zero,Nat.pow_one,Nat.mod_eq_of_lt hx]at h;exact absurd h hne
   | succ i =>
    refine ih _ i (by omega) (Nat.mod_lt _ (by omega)) ?_
    rw[← Nat.pow_mod,← Nat.pow_two,← Nat.pow_mul,Nat.mul_comm,← Nat.pow_succ];exact h
def Sprp(a n:Nat):Prop:=∃ h o,o % 2=1∧n-1=o*2 ^ h∧(a ^ o % n=1∨∃ i,i<h∧a ^ (o*2 ^ i) % n=n-1)
theorem K1{o h n:Nat}(ho:o % 2=1)(hn:o*2 ^ h≤n)(hm:n≤1000000000):h<31:=by
 have h1:1*2 ^ h≤o*2 ^ h:=Nat.mul_le_mul_right _ (by omega)
 have h2:2 ^ h<2 ^ 31:=by omega
 exact(Nat.pow_lt_pow_iff_right (by omega)).1 h2
theorem K2{a n:Nat}(hn:1<n)(hm:n≤1000000000)(h:Sprp a n):Uo a n=true:=by
 obtain⟨h,o,ho,he,hc⟩:=h
 have hl:=K1 (h:=h) (n:=n) ho (by omega) hm
 have ho2:o≤1000000000:=by
  have:o*1≤o*2 ^ h:=Nat.mul_le_mul_left _ (Nat.pos_of_ne_zero (by simp))
  omega
 have hd:Uo a n=Zr (oddp 64 (n-1)) fun o=>Zr (pm a o n) fun x=>cond (Nat.beq x 1) true (sq n 64 x):=rfl
 rw[hd,Zx,he,Zds ho h 64 (by omega),Zx,pm_eq hn ho2,ZD]
 split
 ·rfl
 ·rename_i hne
  rcases hc with hc | ⟨i,hi,hc⟩
  ·exact absurd hc hne
  ·refine sq_spec n 64 _ i (by omega) (Nat.mod_lt _ (by omega)) ?_
   rw[← Nat.pow_mod,← Nat.pow_mul];exact hc
theorem ZbB{a n:Nat}(hn:2<n)(h:Sprp a n):a ^ (n-1) % n=1:=by
 obtain⟨h,o,ho,he,hc⟩:=h
 rw[he]
 rcases hc with hc | ⟨i,hi,hc⟩
 ·rw[Nat.pow_mul,Nat.pow_mod,hc,Nat.one_pow,Nat.mod_eq_of_lt (by omega)]
 ·have e:o*2 ^ h=o*2 ^ i*2*2 ^ (h-i-1):=by
   rw[show h=i+1+(h-i-1) by omega,Nat.pow_add,Nat.pow_succ]
   rw[show i+1+(h-i-1)-i-1=h-i-1 by omega];grind
  have e2:a ^ (o*2 ^ i*2) % n=1:=by
   rw[Nat.pow_mul,Nat.pow_mod,hc,Nat.pow_two]
   have:(n-1)*(n-1)=1+n*(n-2):=by
    obtain⟨m,rfl⟩:∃ m,n=m+2:=⟨n-2,by omega⟩
    simp only[Nat.add_sub_cancel];rw[show m+2-1=m+1 by omega];grind
   rw[this,Nat.add_mul_mod_self_left,Nat.mod_eq_of_lt (by omega)]
  rw[e,Nat.pow_mul,Nat.pow_mod,e2,Nat.one_pow,Nat.mod_eq_of_lt (by omega)]
theorem Zji{n:Nat}(hn:2<n)(hm:n≤1000000000)(h2:Sprp 2 n)(h3:Sprp 3 n)(h5:Sprp 5 n)(h7:Sprp 7 n):bad n=false:=by
 have hd:bad n=cond (Nat.beq (pm 2 (n-1) n) 1) (cond (Uo 2 n) (cond (Uo 3 n) (cond (Uo 5 n) (not (Uo 7 n)) true) true) true) true:=rfl
 rw[hd,pm_eq (by omega) (by omega),ZbB hn h2,K2 (by omega) hm h2,K2 (by omega) hm h3,K2 (by omega) hm h5,K2 (by omega) hm h7]
 rfl
theorem ZaR{n a e b:Nat}:Cg n ((a:Int) ^ e) b↔a ^ e % n=b % n:=by
 rw[Cg.iff_emod]
 have:((a:Int) ^ e % (n:Int))=((a ^ e % n:Nat):Int):=by push_cast;rfl
 have h2:((b:Int) % (n:Int))=((b % n:Nat):Int):=by push_cast;rfl
 rw[this,h2];omega
def Four(p e:Nat):Prop:=Cg p ((2:Int) ^ e) 1∧Cg p ((3:Int) ^ e) 1∧Cg p ((5:Int) ^ e) 1∧Cg p ((7:Int) ^ e) 1
theorem Four.gcd{p d e:Nat}(h:Four p d)(g:Four p e):Four p (Nat.gcd d e):=
 ⟨X3 d e h.1 g.1,X3 d e h.2.1 g.2.1,X3 d e h.2.2.1 g.2.2.1,X3 d e h.2.2.2 g.2.2.2⟩
theorem Four.dvd{p d e:Nat}(h:Four p d)(hd:d ∣ e):Four p e:=
 ⟨XG hd h.1,XG hd h.2.1,XG hd h.2.2.1,XG hd h.2.2.2⟩
theorem Zcn{a e p:Nat}(hp:1<p)(he:e≤1000000000):pm a e p=1↔Cg p ((a:Int) ^ e) 1:=by
 rw[pm_eq hp he]
 have:=ZaR (n:=p) (a:=a) (e:=e) (b:=1)
 rw[Nat.mod_eq_of_lt hp]at this;exact this.symm
theorem ZeV{p e:Nat}(hp:1<p)(he:e≤1000000000):all4 e p=true↔Four p e:=by
 have hd:all4 e p=cond (Nat.beq (pm 2 e p) 1) (cond (Nat.beq (pm 3 e p) 1) (cond (Nat.beq (pm 5 e p) 1) (Nat.beq (pm 7 e p) 1) false) false) false:=rfl
 have h2:=Zcn (a:=2) hp he
 have h3:=Zcn (a:=3) hp he
 have h5:=Zcn (a:=5) hp he
 have h7:=Zcn (a:=7) hp he
 rw[hd,ZD,ZD,ZD]
 unfold Four
 constructor
 ·intro h
  split at h
  ·split at h
   ·split at h
    ·rename_i e2 e3 e5;exact⟨h2.1 e2,h3.1 e3,h5.1 e5,h7.1 (YI.1 h)⟩
    ·exact absurd h (by simp)
   ·exact absurd h (by simp)
  ·exact absurd h (by simp)
 ·rintro⟨g2,g3,g5,g7⟩
  rw[if_pos (h2.2 g2),if_pos (h3.2 g3),if_pos (h5.2 g5)];exact YI.2 (h7.2 g7)
def Zco(n:Nat):Bool:=decide (2≤n) && (List.range n).all fun d=>decide (d<2) || decide (n % d≠0)
theorem Zcp{n:Nat}:Zco n=true↔IsP n:=by
 unfold Zco
 rw[Bool.and_eq_true,decide_eq_true_iff,List.all_eq_true]
 constructor
 ·rintro⟨h2,h⟩
  refine Yf h2 fun d hd hdd hdn=>?_
  have hlt:d<n:=by
   have:d*2≤d*d:=Nat.mul_le_mul_left _ hd
   omega
  have:=h d (List.mem_range.2 hlt)
  simp only[Bool.or_eq_true,decide_eq_true_eq]at this
  rcases this with h1 | h1
  ·omega
  ·exact h1 (Nat.mod_eq_zero_of_dvd hdn)
 ·intro h
  refine⟨h.1,fun d hd=>?_⟩
  rw[List.mem_range]at hd
  simp only[Bool.or_eq_true,decide_eq_true_eq]
  by_cases h2:d<2
  ·exact Or.inl h2
  ·exact Or.inr fun e=>h.not_dvd_of_lt (by omega) hd (Nat.dvd_of_mod_eq_zero e)
theorem ls_prime:∀ q,q∈ls→IsP q:=by
 intro q hq
 have h:ls.all Zco=true:=by decide +kernel
 exact Zcp.1 (List.all_eq_true.1 h q hq)
theorem ls_all{q:Nat}(hq:IsP q)(hl:q<179):q∈ls:=by
 have h:(List.range 179).all (fun q=>!Zco q || ls.contains q)=true:=by decide +kernel
 have h1:=List.all_eq_true.1 h q (List.mem_range.2 hl)
 rw[Zcp.2 hq]at h1
 simpa using h1
theorem prod_dvd{l:List Nat}{q:Nat}(hq:IsP q)(hd:q ∣ l.foldr (·*·) 1):∃ x,x∈l∧q ∣ x:=by
 induction l with
 | nil=>exact absurd hd hq.not_dvd_one
 | cons x l ih =>
  rcases hq.dvd_mul hd with h | h
  ·exact⟨x,by simp,h⟩
  ·obtain⟨y,hy,h⟩:=ih h;exact⟨y,by simp[hy],h⟩
theorem MM_prod:MM=ls.foldr (·*·) 1:=by decide +kernel
theorem Zcq{q:Nat}(hq:IsP q):q ∣ MM↔q∈ls:=by
 constructor
 ·intro h
  rw[MM_prod]at h
  obtain⟨x,hx,hd⟩:=prod_dvd hq h
  rw[hq.eq_of_dvd (ls_prime x hx) hd];exact hx
 ·intro h
  have:ls.all (fun x=>decide (MM % x=0))=true:=by decide +kernel
  have:=List.all_eq_true.1 this q h
  exact Nat.dvd_of_mod_eq_zero (of_decide_eq_true this)
theorem ZfJ{q:Nat}(hq:IsP q)(hl:179≤q):Nat.gcd q MM=1:=by
 refine hq.coprime fun h=>?_
 have:=(Zcq hq).1 h
 have h2:ls.all (fun x=>decide (x<179))=true:=by decide +kernel
 have:=of_decide_eq_true (List.all_eq_true.1 h2 q this)
 omega
theorem Zjk{p d:Nat}:∀ l:List Nat,ordL p d l=true→∀ q,q∈l→d % q=0→all4 (d / q) p=false:=by
 intro l
 induction l with
 | nil=>intro _ q hq;simp at hq
 | cons x l ih =>
  intro h q hq hd
  have hdef:ordL p d (x::l)=cond (Nat.beq (d % x) 0) (cond (all4 (d / x) p) false (ordL p d l)) (ordL p d l):=rfl
  rw[hdef,ZD]at h
  rcases List.mem_cons.1 hq with rfl | hq
  ·rw[if_pos hd]at h
   cases h4:all4 (d / q) p
   ·rfl
   ·rw[h4]at h;exact absurd h (by simp)
  ·split at h
   ·cases h4:all4 (d / x) p
    ·rw[h4]at h;exact ih h q hq hd
    ·rw[h4]at h;exact absurd h (by simp)
   ·exact ih h q hq hd
theorem ZfK{p d e:Nat}(hp:1<p)(hd0:0<d)(hd:d<32041)(h:ZaP p d=true)(he:Four p e):d ∣ e:=by
 have hdef:ZaP p d=cond (all4 d p) (cond (ordL p d ls) (Zr (d / Nat.gcd d (MM ^ 15)) fun r=>cond (Nat.beq (Nat.gcd r MM) 1) (cond (Nat.beq r 1) true (not (all4 (d / r) p))) false) false) false:=rfl
 rw[hdef,Zx]at h
 have h1:all4 d p=true:=by
  cases h1:all4 d p
  ·rw[h1]at h;exact absurd h (by simp)
  ·rfl
 rw[h1,cond_true]at h
 have h2:ordL p d ls=true:=by
  cases h2:ordL p d ls
  ·rw[h2]at h;exact absurd h (by simp)
  ·rfl
 rw[h2,cond_true,ZD]at h
 have h3:Nat.gcd (d / Nat.gcd d (MM ^ 15)) MM=1:=by
  apply Classical.byContradiction;intro hx;rw[if_neg hx]at h;exact absurd h (by simp)
 rw[if_pos h3,ZD]at h
 have hF:=(ZeV hp (by omega)).1 h1
 have hg:=he.gcd hF
 apply Classical.byContradiction
 intro hnd
 have hgd:Nat.gcd e d ∣ d:=Nat.gcd_dvd_right e d
 have hne:Nat.gcd e d≠d:=fun hx=>hnd (hx ▸ Nat.gcd_dvd_left e d)
 obtain⟨t,ht⟩:=hgd
 have ht0:t≠0:=by rintro rfl;simp at ht;omega
 have ht1:t≠1:=by rintro rfl;rw[Nat.mul_one]at ht;exact hne ht.symm
 obtain⟨l,hl,u,hu⟩:=Z1 t (by omega)
 have hld:l ∣ d:=⟨Nat.gcd e d*u,by rw[← Nat.mul_assoc,Nat.mul_comm l,Nat.mul_assoc,← hu];exact ht⟩
 have hq:d / l=Nat.gcd e d*u:=by
  refine Nat.div_eq_of_eq_mul_right hl.pos ?_
  rw[← Nat.mul_assoc,Nat.mul_comm l,Nat.mul_assoc,← hu];exact ht
 have h4:all4 (d / l) p=true:=(ZeV hp (Nat.le_trans (Nat.div_le_self _ _) (by omega))).2 (hq ▸ hg.dvd ⟨u,rfl⟩)
 by_cases hin:l∈ls
 ·have:=Zjk ls h2 l hin (Nat.mod_eq_zero_of_dvd hld)
  rw[this]at h4;exact absurd h4 (by simp)
 ·have hnM:¬ l ∣ MM:=fun hx=>hin ((Zcq hl).1 hx)
  have hnG:¬ l ∣ Nat.gcd d (MM ^ 15):=fun hx=>hnM (hl.dvd_pow (Nat.dvd_trans hx (Nat.gcd_dvd_right _ _)))
  obtain⟨r,hr⟩:=Nat.gcd_dvd_left d (MM ^ 15)
  have hG0:0<Nat.gcd d (MM ^ 15):=Nat.gcd_pos_of_pos_left _ hd0
  have hrr:d / Nat.gcd d (MM ^ 15)=r:=Nat.div_eq_of_eq_mul_right hG0 hr
  rw[hrr]at h h3
  have hlr:l ∣ r:=by
   have h5:=hld;rw[hr]at h5
   rcases hl.dvd_mul h5 with h6 | h6
   ·exact absurd h6 hnG
   ·exact h6
  have hl179:179≤l:=by
   apply Classical.byContradiction;intro hx;exact hin (ls_all hl (by omega))
  have hr0:0<r:=by apply Nat.pos_of_ne_zero;rintro rfl;simp at hr;omega
  have hrd:r≤d:=Nat.le_of_dvd hd0 ⟨Nat.gcd d (MM ^ 15),by rw[Nat.mul_comm];exact hr⟩
  obtain⟨v,hv⟩:=hlr
  have hv1:v=1:=by
   apply Classical.byContradiction;intro hv1
   have hv0:v≠0:=by rintro rfl;simp at hv;omega
   obtain⟨q,hq1,hq2⟩:=Z1 v (by omega)
   have hqr:q ∣ r:=by rw[hv];exact Nat.dvd_trans hq2 ⟨l,Nat.mul_comm _ _⟩
   have hqM:¬ q ∣ MM:=fun hx=>hq1.not_dvd_one (h3 ▸ Nat.dvd_gcd hqr hx)
   have hq179:179≤q:=by
    apply Classical.byContradiction;intro hx;exact hqM ((Zcq hq1).2 (ls_all hq1 (by omega)))
   have hqv:=Nat.le_of_dvd (by omega) hq2
   have:179*179≤l*v:=Nat.mul_le_mul hl179 (by omega)
   omega
  rw[hv1,Nat.mul_one]at hv
  have hr1:r≠1:=by have:=hl.1;omega
  rw[if_neg hr1,hv,h4]at h
  exact absurd h (by simp)
theorem ZfL{p d:Nat}(f:Nat):∀ s,ZaQ p d f s=true→∀ j,j<f→Nat.gcd (s+d*j) 210=1→bad (p*(s+d*j))=true:=by
 induction f with
 | zero=>intro s _ j hj;omega
 | succ f ih =>
  intro s h j hj hg
  have hdef:ZaQ p d (f+1) s=cond (cond (Nat.beq (Nat.gcd s 210) 1) (bad (p*s)) true) (Zr (s+d) (ZaQ p d f)) false:=rfl
  rw[hdef,Zx,YJ,K0,YI]at h
  obtain⟨hc,h⟩:=h
  cases j with
  | zero=>rw[Nat.mul_zero,Nat.add_zero]at *;exact hc hg
  | succ j =>
   have e:s+d*(j+1)=s+d+d*j:=by rw[Nat.mul_succ];omega
   rw[e]at hg ⊢
   exact ih (s+d) h j (by omega) hg
theorem Up{p i s:Nat}(hp:2<p)(hp2:p<32041)(h:XM p i=true)(hs:1<s)(hn:p*s≤1000000000)(hg:Nat.gcd s 210=1)
  (he:Four p (s-1)):bad (p*s)=true:=by
 have hdef:XM p i=Zr ((p-1) / i) fun d=>cond (Nat.beq (d*i) (p-1)) (cond (ZaP p d) (cands p d) false) false:=rfl
 rw[hdef,Zx,ZD]at h
 split at h
 ·rename_i hdi
  generalize (p-1) / i=d at *
  have hd0:0<d:=by apply Nat.pos_of_ne_zero;rintro rfl;simp at hdi;omega
  have hi0:0<i:=by apply Nat.pos_of_ne_zero;rintro rfl;simp at hdi;omega
  have hd1:d≤p-1:=by rw[← hdi];exact Nat.le_mul_of_pos_right _ hi0
  cases h1:ZaP p d
  ·rw[h1]at h;exact absurd h (by simp)
  ·rw[h1,cond_true]at h
   obtain⟨k,hk⟩:=ZfK (by omega) hd0 (by omega) h1 he
   have hk0:k≠0:=by rintro rfl;simp at hk;omega
   have hdef2:cands p d=ZaQ p d ((1000000000 / p-1) / d) (1+d):=rfl
   rw[hdef2]at h
   have hk1:k-1<(1000000000 / p-1) / d:=by
    have h2:s≤1000000000 / p:=by rw[Nat.le_div_iff_mul_le (by omega),Nat.mul_comm];exact hn
    have h3:k≤(1000000000 / p-1) / d:=by rw[Nat.le_div_iff_mul_le hd0,Nat.mul_comm];omega
    omega
   have e:1+d+d*(k-1)=s:=by
    have:d*k=d*(k-1)+d:=by rw[← Nat.mul_succ];congr 1;omega
    omega
   have:=ZfL _ _ h (k-1) hk1 (by rw[e];exact hg)
   rwa [e]at this
 ·exact absurd h (by simp)
theorem Zjl{p s:Nat}(hp:IsP p)(hp1:179≤p)(hp2:p<32041)(h:chk3 p=true)(hs:1<s)(hn:p*s≤1000000000)(hg:Nat.gcd s 210=1)
  (he:Four p (s-1)):bad (p*s)=true:=by
 have hdef:chk3 p=cond (Nat.beq (Nat.gcd p MM) 1) (cond (XM p 1) true (cond (XM p 2) true (cond (XM p 3) true (XM p 4)))) true:=rfl
 rw[hdef,ZD,if_pos (ZfJ hp hp1)]at h
 cases h1:XM p 1
 ·rw[h1]at h
  cases h2:XM p 2
  ·rw[h2]at h
   cases h3:XM p 3
   ·rw[h3]at h;exact Up (i:=4) (by omega) hp2 h hs hn hg he
   ·exact Up (i:=3) (by omega) hp2 h3 hs hn hg he
  ·exact Up (i:=2) (by omega) hp2 h2 hs hn hg he
 ·exact Up (i:=1) (by omega) hp2 h1 hs hn hg he
theorem ZeW(f:Nat):∀ m,go3 f m=true→∀ j,j<f→chk3 (m+2*j)=true:=by
 induction f with
 | zero=>intro m _ j hj;omega
 | succ f ih =>
  intro m h j hj
  have hdef:go3 (f+1) m=cond (chk3 m) (Zr (m+2) (go3 f)) false:=rfl
  rw[hdef,Zx,U7]at h
  split at h
  ·rename_i hc
   cases j with
   | zero=>exact hc
   | succ j=>rw[show m+2*(j+1)=m+2+2*j by omega];exact ih (m+2) h j (by omega)
  ·exact absurd h (by simp)
theorem ZfM{p:Nat}(hp:IsP p)(f:Nat):∀ m acc,0<m→m+2*f≤p+1→¬ p ∣ acc→¬ p ∣ U6 f m acc:=by
 induction f with
 | zero=>intro m acc _ _ h;exact h
 | succ f ih =>
  intro m acc hm hl h
  have hdef:U6 (f+1) m acc=Zr (m+2) fun m2=>cond (Nat.beq (Nat.gcd m MM) 1) (Zr (acc*m) (U6 f m2)) (U6 f m2 acc):=rfl
  rw[hdef,Zx,ZD,Zx]
  split
  ·refine ih _ _ (by omega) (by omega) fun hd=>?_
   rcases hp.dvd_mul hd with h1 | h1
   ·exact h h1
   ·have:=Nat.le_of_dvd hm h1;omega
  ·exact ih _ _ (by omega) (by omega) h
theorem Zht{p M:Nat}(hp:IsP p)(hM:¬ p ∣ M)(f:Nat):∀ g,g≠0→p ∣ g→p ∣ KZ M f g∧KZ M f g≠0:=by
 induction f with
 | zero=>intro g h0 h;exact⟨h,h0⟩
 | succ f ih =>
  intro g h0 h
  have hdef:KZ M (f+1) g=Zr (Nat.gcd g M) fun x=>cond (Nat.beq x 1) g (Zr (g / x) (KZ M f)):=rfl
  rw[hdef,Zx,ZD,Zx]
  split
  ·exact⟨h,h0⟩
  ·have hG0:0<Nat.gcd g M:=Nat.gcd_pos_of_pos_left _ (by omega)
   obtain⟨r,hr⟩:=Nat.gcd_dvd_left g M
   have hq:g / Nat.gcd g M=r:=Nat.div_eq_of_eq_mul_right hG0 hr
   rw[hq]
   refine ih r (by rintro rfl;simp at hr;omega) ?_
   rw[hr]at h
   rcases hp.dvd_mul h with h1 | h1
   ·exact absurd (Nat.dvd_trans h1 (Nat.gcd_dvd_right _ _)) hM
   ·exact h1
theorem ZeX{s p:Nat}(h:okP s p=true)(hn:p*s≤1000000000):bad (p*s)=true:=by
 have hdef:okP s p=cond (Nat.ble (p*s) 1000000000) (bad (p*s)) true:=rfl
 rw[hdef,Nat.ble_eq_true_of_le hn]at h;exact h
theorem Zhu{s g:Nat}(f:Nat):∀ t0,Zcl s g f t0=true→∀ j,j<f→g % (t0+j)=0→okP s (g / (t0+j))=true:=by
 induction f with
 | zero=>intro m _ j hj;omega
 | succ f ih =>
  intro m h j hj hd
  have hdef:Zcl s g (f+1) m=cond (cond (Nat.beq (g % m) 0) (okP s (g / m)) true) (Zr (m+1) (Zcl s g f)) false:=rfl
  rw[hdef,Zx,YJ,K0,YI]at h
  obtain⟨hc,h⟩:=h
  cases j with
  | zero=>rw[Nat.add_zero]at *;exact hc hd
  | succ j=>rw[show m+(j+1)=m+1+j by omega]at *;exact ih (m+1) h j (by omega) hd
theorem Zhv{s g:Nat}(f:Nat):∀ t0,Zcm s g f t0=true→∀ j,j<f→g % (t0+j)=0→okP s (t0+j)=true:=by
 induction f with
 | zero=>intro m _ j hj;omega
 | succ f ih =>
  intro m h j hj hd
  have hdef:Zcm s g (f+1) m=cond (cond (Nat.beq (g % m) 0) (okP s m) true) (Zr (m+1) (Zcm s g f)) false:=rfl
  rw[hdef,Zx,YJ,K0,YI]at h
  obtain⟨hc,h⟩:=h
  cases j with
  | zero=>rw[Nat.add_zero]at *;exact hc hd
  | succ j=>rw[show m+(j+1)=m+1+j by omega]at *;exact ih (m+1) h j (by omega) hd
theorem Uq{a p e:Nat}(ha:1≤a)(h:Cg p ((a:Int) ^ e) 1):p ∣ a ^ e-1:=by
 have h1:1≤a ^ e:=Nat.one_le_pow _ _ ha
 obtain⟨k,hk⟩:=h
 apply Int.natCast_dvd_natCast.1
 refine⟨k,?_⟩
 rw[← hk];push_cast [h1];rfl
theorem Zjm{s g p:Nat}(hp:IsP p)(hp1:31623≤p)(hg0:g≠0)(hg:p ∣ g)(h:hard s g=true)(hs:1<s)(hn:p*s≤1000000000)
  (he:Four p (s-1)):bad (p*s)=true:=by
 have hdef:hard s g=Zr (Nat.gcd g (Nat.gcd (5 ^ (s-1)-1) (7 ^ (s-1)-1))) fun g2 =>
  cond (Nat.beq g2 1) true (cond (Nat.ble g2 1000000) (Zcl s g2 (g2 / 31622) 1) (Zcm s g2 (1000000000 / s-31622) 31623)):=rfl
 rw[hdef,Zx]at h
 have h5:p ∣ 5 ^ (s-1)-1:=Uq (by omega) he.2.2.1
 have h7:p ∣ 7 ^ (s-1)-1:=Uq (by omega) he.2.2.2
 have hG:p ∣ Nat.gcd g (Nat.gcd (5 ^ (s-1)-1) (7 ^ (s-1)-1)):=Nat.dvd_gcd hg (Nat.dvd_gcd h5 h7)
 have hG0:Nat.gcd g (Nat.gcd (5 ^ (s-1)-1) (7 ^ (s-1)-1))≠0:=Nat.gcd_ne_zero_left hg0
 generalize Nat.gcd g (Nat.gcd (5 ^ (s-1)-1) (7 ^ (s-1)-1))=g2 at *
 have hne:g2≠1:=by rintro rfl;exact hp.not_dvd_one hG
 rw[ZD,if_neg hne,U7]at h
 obtain⟨t,ht⟩:=hG
 have ht0:t≠0:=by rintro rfl;simp at ht;exact hG0 ht
 split at h
 ·have h1:t≤g2 / 31622:=by
   rw[Nat.le_div_iff_mul_le (by omega),ht,Nat.mul_comm t];exact Nat.mul_le_mul_right _ (by omega)
  have h2:=Zhu _ _ h (t-1) (by omega) (by rw[show 1+(t-1)=t by omega,ht];exact Nat.mul_mod_left p t)
  rw[show 1+(t-1)=t by omega,ht,Nat.mul_div_cancel _ (by omega)]at h2
  exact ZeX h2 hn
 ·have h1:p≤1000000000 / s:=by rw[Nat.le_div_iff_mul_le (by omega)];exact hn
  have h2:=Zhv _ _ h (p-31623) (by omega) (by rw[show 31623+(p-31623)=p by omega,ht];exact Nat.mul_mod_right p t)
  rw[show 31623+(p-31623)=p by omega]at h2
  exact ZeX h2 hn
theorem Zjn{M s p:Nat}(hp:IsP p)(hM:¬ p ∣ M)(hp1:31623≤p)(h:chk4 M s=true)(hs:1<s)(hn:p*s≤1000000000)(hg:Nat.gcd s 105=1)
  (he:Four p (s-1)):bad (p*s)=true:=by
 have hdef:chk4 M s=cond (Nat.beq (Nat.gcd s 105) 1) (Zr (KZ M 60 (Nat.gcd (2 ^ (s-1)-1) (3 ^ (s-1)-1))) fun g=>cond (Nat.beq g 1) true (hard s g)) true:=rfl
 rw[hdef,ZD,if_pos hg,Zx]at h
 have h2:p ∣ 2 ^ (s-1)-1:=Uq (by omega) he.1
 have h3:p ∣ 3 ^ (s-1)-1:=Uq (by omega) he.2.1
 have h20:2 ^ (s-1)-1≠0:=by
  have:2 ^ 1≤2 ^ (s-1):=Nat.pow_le_pow_right (by omega) (by omega)
  omega
 obtain⟨g1,g2⟩:=Zht hp hM 60 _ (Nat.gcd_ne_zero_left h20) (Nat.dvd_gcd h2 h3)
 generalize KZ M 60 (Nat.gcd (2 ^ (s-1)-1) (3 ^ (s-1)-1))=g at *
 rw[ZD,if_neg (by rintro rfl;exact hp.not_dvd_one g1)]at h
 exact Zjm hp hp1 g2 g1 h hs hn he
theorem go4_spec{M:Nat}(f:Nat):∀ m,go4 M f m=true→∀ j,j<f→chk4 M (m+2*j)=true:=by
 induction f with
 | zero=>intro m _ j hj;omega
 | succ f ih =>
  intro m h j hj
  have hdef:go4 M (f+1) m=cond (chk4 M m) (Zr (m+2) (go4 M f)) false:=rfl
  rw[hdef,Zx,U7]at h
  split at h
  ·rename_i hc
   cases j with
   | zero=>exact hc
   | succ j=>rw[show m+2*(j+1)=m+2+2*j by omega];exact ih (m+2) h j (by omega)
  ·exact absurd h (by simp)
theorem ZeY{p:Nat}(hp:1<p)(t:Nat):∀ f x,t<f→x<p→x ^ (2 ^ t) % p=1→(∀ j,j<t→x ^ (2 ^ j) % p≠1)→cnt p f x=t:=by
 induction t with
 | zero =>
  intro f x hf hx h1 _
  obtain⟨g,rfl⟩:∃ g,f=g+1:=⟨f-1,by omega⟩
  have hdef:cnt p (g+1) x=cond (Nat.beq x 1) 0 (1+Zr (x*x % p) (cnt p g)):=rfl
  rw[Nat.pow_zero,Nat.pow_one,Nat.mod_eq_of_lt hx]at h1
  rw[hdef,ZD,if_pos h1]
 | succ t ih =>
  intro f x hf hx h1 h2
  obtain⟨g,rfl⟩:∃ g,f=g+1:=⟨f-1,by omega⟩
  have hdef:cnt p (g+1) x=cond (Nat.beq x 1) 0 (1+Zr (x*x % p) (cnt p g)):=rfl
  have h3:=h2 0 (by omega)
  rw[Nat.pow_zero,Nat.pow_one,Nat.mod_eq_of_lt hx]at h3
  have key:∀ j,(x*x % p) ^ (2 ^ j) % p=x ^ (2 ^ (j+1)) % p:=by
   intro j;rw[← Nat.pow_mod,← Nat.pow_two,← Nat.pow_mul,Nat.mul_comm,← Nat.pow_succ]
  rw[hdef,ZD,if_neg h3,Zx,ih g (x*x % p) (by omega) (Nat.mod_lt _ (by omega)) (by rw[key];exact h1) (fun j hj=>by rw[key];exact h2 (j+1) (by omega))]
  omega
theorem tA_of{a n p:Nat}(hp:IsP p)(hp2:p≠2)(hpl:p≤1000000000)(hn:2<n)(hpn:p ∣ n)(ha:¬ p ∣ a){h o:Nat}(ho:o % 2=1)(he:n-1=o*2 ^ h)(hh:h<31) :
  (a ^ o % n=1→tA a p=0)∧∀ i,i<h→a ^ (o*2 ^ i) % n=n-1→tA a p=i+1:=by
 have hodd:=hp.odd hp2
 have hp1:=hp.1
 have hr:=X6 (p:=2) (n:=((p-1:Nat):Int)) (by omega) (by omega)
 have hr2:=XK (p:=2) (n:=((p-1:Nat):Int)) (by omega) (by omega)
 have hr3:=ZbN (p:=2) (n:=((p-1:Nat):Int)) (by omega) (by omega)
 generalize rest 2 ((p-1:Nat):Int)=u' at *
 generalize vp 2 ((p-1:Nat):Int)=e at *
 obtain⟨u,rfl⟩:∃ u:Nat,u'=(u:Int):=⟨u'.toNat,by omega⟩
 have hu:u % 2=1:=by omega
 have hpe:p-1=u*2 ^ e:=by
  have:((p-1:Nat):Int)=((2 ^ e*u:Nat):Int):=by rw[hr];push_cast;rfl
  rw[Nat.mul_comm];omega
 have hel:=K1 (h:=e) (n:=p) hu (by omega) hpl
 have hu2:u≤1000000000:=by
  have:u*1≤u*2 ^ e:=Nat.mul_le_mul_left _ (Nat.pos_of_ne_zero (by simp))
  omega
 have hta:tA a p=cnt p 40 (a ^ u % p):=by
  have hdef:tA a p=Zr (oddp 64 (p-1)) fun o=>Zr (pm a o p) (cnt p 40):=rfl
  rw[hdef,Zx,hpe,Zds hu e 64 (by omega),Zx,pm_eq (by omega) hu2]
 have ha':¬ (p:Int) ∣ (a:Int):=fun hd=>ha (Int.natCast_dvd_natCast.1 hd)
 have hf:Cg p ((a:Int) ^ (u*2 ^ e)) 1:=by rw[← hpe];exact Zcb hp ha'
 have toP:∀ j,(a ^ u % p) ^ (2 ^ j) % p=1↔Cg p ((a:Int) ^ (u*2 ^ j)) 1:=by
  intro j
  rw[← Nat.pow_mod,← Nat.pow_mul]
  have:=ZaR (n:=p) (a:=a) (e:=u*2 ^ j) (b:=1)
  rw[Nat.mod_eq_of_lt (show 1<p by omega)]at this;exact this.symm
 have hpn':(p:Int) ∣ (n:Int):=Int.natCast_dvd_natCast.2 hpn
 constructor
 ·intro h1
  rw[hta]
  have h2:Cg p ((a:Int) ^ o) 1:=(ZaR (b:=1).2 (by rw[h1,Nat.mod_eq_of_lt (by omega)]):Cg n ((a:Int) ^ o) 1).of_dvd hpn'
  have h3:=X3 o (u*2 ^ e) h2 hf
  have h4:Nat.gcd o (u*2 ^ e) ∣ u:=by
   have hc:Nat.Coprime (Nat.gcd o (u*2 ^ e)) (2 ^ e):=by
    apply Nat.Coprime.pow_right
    apply Nat.Coprime.coprime_dvd_left (Nat.gcd_dvd_left o _)
    exact((UR.coprime (a:=o) (by omega))).symm
   exact hc.dvd_of_dvd_mul_right (Nat.gcd_dvd_right o _)
  refine ZeY (by omega) 0 40 _ (by omega) (Nat.mod_lt _ (by omega)) ((toP 0).2 ?_) (fun j hj=>by omega)
  rw[Nat.pow_zero,Nat.mul_one];exact XG h4 h3
 ·intro i hi h1
  rw[hta]
  have h2:Cg p ((a:Int) ^ (o*2 ^ i)) (-1):=by
   have h3:Cg n ((a:Int) ^ (o*2 ^ i)) ((n-1:Nat):Int):=ZaR.2 (by rw[h1,Nat.mod_eq_of_lt (by omega)])
   have h4:Cg n ((n-1:Nat):Int) (-1):=⟨1,by omega⟩
   exact(h3.trans h4).of_dvd hpn'
  have h5:Cg p ((a:Int) ^ (o*2 ^ (i+1))) 1:=by
   have:=h2.mul h2
   rw[← Int.pow_add]at this
   rw[Nat.pow_succ,show o*(2 ^ i*2)=o*2 ^ i+o*2 ^ i by grind];exact this
  have h3:=X3 (o*2 ^ (i+1)) (u*2 ^ e) h5 hf
  have h4:Nat.gcd (o*2 ^ (i+1)) (u*2 ^ e) ∣ u*2 ^ (i+1):=by
   obtain⟨k1,k2,g1,g2,g3⟩:=Nat.dvd_mul.1 (Nat.gcd_dvd_right (o*2 ^ (i+1)) (u*2 ^ e))
   have g4:k2 ∣ o*2 ^ (i+1):=Nat.dvd_trans ⟨k1,by rw[Nat.mul_comm k2];exact g3.symm⟩ (Nat.gcd_dvd_left _ _)
   have g5:Nat.Coprime k2 o:=by
    apply Nat.Coprime.coprime_dvd_left g2
    apply Nat.Coprime.pow_left
    exact UR.coprime (a:=o) (by omega)
   rw[← g3]
   exact Nat.mul_dvd_mul g1 (g5.dvd_of_dvd_mul_left g4)
  refine ZeY (by omega) (i+1) 40 _ (by omega) (Nat.mod_lt _ (by omega)) ((toP (i+1)).2 (XG h4 h3)) ?_
  intro j hj hx
  have h6:=(toP j).1 hx
  have h7:Cg p ((a:Int) ^ (u*2 ^ i)) 1:=XG (Nat.mul_dvd_mul_left _ (Nat.pow_dvd_pow 2 (by omega))) h6
  have h8:=h7.pow o
  have h9:=h2.pow u
  rw[Int.one_pow,← Int.pow_mul]at h8
  rw[← Int.pow_mul,show o*2 ^ i*u=u*2 ^ i*o by grind]at h9
  have h10:((-1:Int)) ^ u = -1:=by
   rw[show u=2*(u / 2)+1 by omega,Int.pow_succ,Int.pow_mul,show((-1:Int)) ^ 2=1 by decide,Int.one_pow];simp
  rw[h10]at h9
  have h11:=h8.symm.trans h9
  have h12:(p:Int) ∣ 2:=h11
  have:=Int.le_of_dvd (by omega) h12
  omega
theorem sig_eq{n p q:Nat}(hp:IsP p)(hq:IsP q)(hp7:11≤p)(hq7:11≤q)(hn:2<n)(hm:n≤1000000000)(hpn:p ∣ n)(hqn:q ∣ n)
  (h2:Sprp 2 n) (h3:Sprp 3 n) (h5:Sprp 5 n) (h7:Sprp 7 n):KY p=KY q:=by
 have hpm:=Nat.le_of_dvd (by omega) hpn
 have hqm:=Nat.le_of_dvd (by omega) hqn
 have one:∀ a,1<a→a<11→Sprp a n→tA a p=tA a q:=by
  intro a ha ha' hs
  obtain⟨h,o,ho,he,hc⟩:=hs
  have hh:=K1 (h:=h) (n:=n) ho (by omega) hm
  have n1:∀ r,11≤r→¬ r ∣ a:=fun r hr hd=>by have:=Nat.le_of_dvd (by omega) hd;omega
  obtain⟨p0,p1⟩:=tA_of hp (by omega) (by omega) hn hpn (n1 p hp7) ho he hh
  obtain⟨q0,q1⟩:=tA_of hq (by omega) (by omega) hn hqn (n1 q hq7) ho he hh
  rcases hc with hc | ⟨i,hi,hc⟩
  ·rw[p0 hc,q0 hc]
  ·rw[p1 i hi hc,q1 i hi hc]
 have hd:∀ p,KY p=tA 2 p+(32*tA 3 p+(1024*tA 5 p+32768*tA 7 p)):=fun _=>rfl
 rw[hd,hd,one 2 (by omega) (by omega) h2,one 3 (by omega) (by omega) h3,one 5 (by omega) (by omega) h5,one 7 (by omega) (by omega) h7]
theorem Zjo{x:Nat}(l:List Nat):memb x l=true↔x∈l:=by
 induction l with
 | nil=>simp[memb]
 | cons y l ih =>
  have hd:memb x (y::l)=cond (Nat.beq y x) true (memb x l):=rfl
  rw[hd,ZD]
  split
  ·rename_i h;simp[h]
  ·rename_i h;rw[ih];simp;intro e;exact absurd e.symm h
theorem ZdO{m:Nat}(hm:IsP m)(l:List Nat)(hl:∀ x,x∈l→2≤x):Ue m l=false:=by
 induction l with
 | nil=>rfl
 | cons y l ih =>
  have hd:Ue m (y::l)=cond (Nat.blt y m) (cond (Nat.beq (m % y) 0) true (Ue m l)) false:=rfl
  rw[hd,ZD,U7]
  split
  ·rename_i h
   rw[if_neg,ih fun x hx=>hl x (by simp[hx])]
   intro e
   exact hm.not_dvd_of_lt (hl y (by simp)) (by simpa[Nat.blt_eq] using h) (Nat.dvd_of_mod_eq_zero e)
  ·rfl
theorem Zhw(f:Nat):∀ (l:List Nat) (m:Nat),Kh f l m=true→∀ x,2≤x→(∀ q,IsP q→q ∣ x→q∈l)→m*x≤1000000000→0<m→bad (m*x)=true:=by
 induction f with
 | zero=>intro l m h;exact absurd h (by simp[Kh])
 | succ f ih =>
  intro l m h x hx hq hm hm0
  cases l with
  | nil =>
   obtain⟨q,h1,h2⟩:=Z1 x hx
   exact absurd (hq q h1 h2) (by simp)
  | cons q r =>
   have hd:Kh (f+1) (q::r) m=cond (Kh f r m) (cond (Nat.ble (m*q) 1000000000) (Zr (m*q) fun mq=>cond (bad mq) (Kh f (q::r) mq) false) true) false:=rfl
   rw[hd,YJ,K0,Zx,YJ]at h
   obtain⟨h1,h2⟩:=h
   by_cases hqx:q ∣ x
   ·obtain⟨y,rfl⟩:=hqx
    have hy0:y≠0:=by rintro rfl;simp at hx
    have hmq:m*q≤1000000000:=by
     have:m*q*1≤m*q*y:=Nat.mul_le_mul_left _ (by omega)
     rw[Nat.mul_assoc,Nat.mul_assoc]at this
     rw[← Nat.mul_assoc]at this
     omega
    obtain⟨h3,h4⟩:=h2 (Nat.ble_eq_true_of_le hmq)
    by_cases hy1:y=1
    ·subst hy1;rw[Nat.mul_one];exact h3
    ·have hq0:0<q:=by apply Nat.pos_of_ne_zero;rintro rfl;simp at hx
     rw[← Nat.mul_assoc]
     exact ih (q::r) (m*q) h4 y (by omega) (fun z hz hd=>hq z hz (Nat.dvd_trans hd ⟨q,Nat.mul_comm _ _⟩)) (by rw[Nat.mul_assoc];exact hm) (Nat.mul_pos hm0 hq0)
   ·refine ih r m h1 x hx (fun z hz hzd=>?_) hm hm0
    rcases List.mem_cons.1 (hq z hz hzd) with h5 | h5
    ·exact absurd (h5 ▸ hzd) hqx
    ·exact h5
theorem Zdt{p:Nat}(hp:IsP p)(h:chk2 p=true):p∈lookup (KY p) KC∧Kh 100 (lookup (KY p) KC) p=true:=by
 have hd:chk2 p=cond (Ue p small) true (Zr (KY p) fun c=>cond (memb p (lookup c KC)) (Kh 100 (lookup c KC) p) false):=rfl
 rw[hd,ZdO hp small (by decide),Zx,cond_false,YJ,Zjo]at h
 exact h
theorem go2_spec(f:Nat):∀ m,go2 f m=true→∀ j,j<f→chk2 (m+2*j)=true:=by
 induction f with
 | zero=>intro m _ j hj;omega
 | succ f ih =>
  intro m h j hj
  have hdef:go2 (f+1) m=cond (chk2 m) (Zr (m+2) (go2 f)) false:=rfl
  rw[hdef,Zx,YJ]at h
  obtain⟨hc,h⟩:=h
  cases j with
  | zero=>exact hc
  | succ j=>rw[show m+2*(j+1)=m+2+2*j by omega];exact ih (m+2) h j (by omega)
end FF
namespace FF
theorem ZcR{n:Nat}(hn:2≤n):∃ p,IsP p∧p ∣ n∧∀ q,IsP q→q ∣ n→q≤p:=by
 have key:∀ b:Nat,(∃ p,IsP p∧p ∣ n∧n≤p+b)→∃ p,IsP p∧p ∣ n∧∀ q,IsP q→q ∣ n→q≤p:=by
  intro b
  induction b with
  | zero =>
   rintro⟨p,h1,h2,h3⟩
   exact⟨p,h1,h2,fun q _ hq=>by have:=Nat.le_of_dvd (by omega) hq;omega⟩
  | succ b ih =>
   rintro⟨p,h1,h2,h3⟩
   by_cases hx:∃ q,IsP q∧q ∣ n∧p<q
   ·obtain⟨q,g1,g2,g3⟩:=hx
    exact ih ⟨q,g1,g2,by omega⟩
   ·refine⟨p,h1,h2,fun q g1 g2=>?_⟩
    apply Classical.byContradiction;intro g3
    exact hx ⟨q,g1,g2,by omega⟩
 obtain⟨p,hp,hd⟩:=Z1 n hn
 exact key n ⟨p,hp,hd,by omega⟩
theorem ZfN{s:Nat}(h2:¬ 2 ∣ s)(h3:¬ 3 ∣ s)(h5:¬ 5 ∣ s)(h7:¬ 7 ∣ s):Nat.gcd s 210=1∧Nat.gcd s 105=1:=by
 have c2:=UR.coprime h2
 have c3:=ZaD.coprime h3
 have c5:=ZbI.coprime h5
 have c7:=ZaE.coprime h7
 have e1:Nat.Coprime 105 s:=by
  rw[show 105=3*5*7 by rfl];exact(c3.mul_left c5).mul_left c7
 have e2:Nat.Coprime 210 s:=by
  rw[show 210=2*105 by rfl];exact c2.mul_left e1
 exact⟨e2.symm,e1.symm⟩
theorem no_spsp{n:Nat}(hn:7<n)(hm:n≤1000000000)(d2:¬ 2 ∣ n)(d3:¬ 3 ∣ n)(d5:¬ 5 ∣ n)(d7:¬ 7 ∣ n)
  (h2:Sprp 2 n) (h3:Sprp 3 n) (h5:Sprp 5 n) (h7:Sprp 7 n):IsP n:=by
 apply Classical.byContradiction
 intro hc
 have hbad:=Zji (by omega) hm h2 h3 h5 h7
 obtain⟨p,hp,hpn,hmax⟩:=ZcR (n:=n) (by omega)
 have big:∀ q,IsP q→q ∣ n→11≤q:=by
  intro q hq hqn
  apply Classical.byContradiction;intro hx
  have hq2:=hq.1
  have:q=2∨q=3∨q=4∨q=5∨q=6∨q=7∨q=8∨q=9∨q=10:=by omega
  rcases this with rfl | rfl | rfl | rfl | rfl | rfl | rfl | rfl | rfl
  ·exact d2 hqn
  ·exact d3 hqn
  ·exact d2 (Nat.dvd_trans (by omega) hqn)
  ·exact d5 hqn
  ·exact d2 (Nat.dvd_trans (by omega) hqn)
  ·exact d7 hqn
  ·exact d2 (Nat.dvd_trans (by omega) hqn)
  ·exact d3 (Nat.dvd_trans (by omega) hqn)
  ·exact d2 (Nat.dvd_trans (by omega) hqn)
 have hp11:=big p hp hpn
 obtain⟨s,hs⟩:=hpn
 have hpn:p ∣ n:=⟨s,hs⟩
 have hs0:s≠0:=by rintro rfl;simp at hs;omega
 have hs1:s≠1:=by rintro rfl;rw[Nat.mul_one]at hs;exact hc (hs ▸ hp)
 have hsn:s ∣ n:=⟨p,by rw[Nat.mul_comm];exact hs⟩
 have g210:=ZfN (s:=s) (fun h=>d2 (Nat.dvd_trans h hsn)) (fun h=>d3 (Nat.dvd_trans h hsn)) (fun h=>d5 (Nat.dvd_trans h hsn)) (fun h=>d7 (Nat.dvd_trans h hsn))
 have sodd:s % 2=1:=by
  have:¬ 2 ∣ s:=fun h=>d2 (Nat.dvd_trans h hsn)
  omega
 have podd:p % 2=1:=hp.odd (by omega)
 have hs11:11≤s:=by
  obtain⟨q,hq,hqs⟩:=Z1 s (by omega)
  have:=big q hq (Nat.dvd_trans hqs hsn)
  have:=Nat.le_of_dvd (by omega) hqs
  omega
 have hps:p*s≤1000000000:=by rw[← hs];exact hm
 rw[hs]at hbad
 have hfour:Four p (s-1):=by
  have one:∀ a,1<a→a<11→Sprp a n→Cg p ((a:Int) ^ (s-1)) 1:=by
   intro a ha1 ha2 hs'
   have hf:=ZbB (by omega) hs'
   have e1:Cg n ((a:Int) ^ (n-1)) 1:=ZaR (b:=1).2 (by rw[hf,Nat.mod_eq_of_lt (by omega)])
   have e2:Cg p ((a:Int) ^ (n-1)) 1:=e1.of_dvd (Int.natCast_dvd_natCast.2 hpn)
   have hpa:¬ (p:Int) ∣ (a:Int):=fun h=>by
    have:=Nat.le_of_dvd (by omega) (Int.natCast_dvd_natCast.1 h);omega
   have e3:=(Zcb hp hpa).pow s
   rw[Int.one_pow,← Int.pow_mul]at e3
   have e4:n-1=(p-1)*s+(s-1):=by
    rw[Nat.sub_mul,hs]
    have:1*s≤p*s:=Nat.mul_le_mul_right _ (by omega)
    omega
   rw[e4,Int.pow_add]at e2
   have e5:=e3.mul_right ((a:Int) ^ (s-1))
   rw[Int.one_mul]at e5
   exact e5.symm.trans e2
  exact⟨one 2 (by omega) (by omega) h2,one 3 (by omega) (by omega) h3,one 5 (by omega) (by omega) h5,one 7 (by omega) (by omega) h7⟩
 by_cases c1:31623≤p
 ·
  have hsl:s<31623:=by
   apply Classical.byContradiction;intro hx
   have:31623*31623≤p*s:=Nat.mul_le_mul c1 (by omega)
   omega
  have hk:=kernel4
  have hd:main4 15806 11=Zr (U6 15722 179 MM) fun M=>go4 M 15806 11:=rfl
  rw[hd,Zx]at hk
  have hM:¬ p ∣ U6 15722 179 MM:=ZfM hp 15722 179 MM (by omega) (by omega) (fun h=>by
   have h1:=(Zcq hp).1 h
   have h2:ls.all (fun x=>decide (x<179))=true:=by decide +kernel
   have:=of_decide_eq_true (List.all_eq_true.1 h2 p h1)
   omega)
  have h4:=go4_spec 15806 11 hk ((s-11) / 2) (by omega)
  rw[show 11+2*((s-11) / 2)=s by omega]at h4
  have:=Zjn hp hM c1 h4 (by omega) hps g210.2 hfour
  rw[this]at hbad;exact absurd hbad (by simp)
 ·by_cases c2:2001≤p
  ·have h3:chk3 p=true:=by
    by_cases c3:p<11001
    ·have:=ZeW 4500 2001 kernel3a ((p-2001) / 2) (by omega)
     rwa [show 2001+2*((p-2001) / 2)=p by omega]at this
    ·have:=ZeW 10311 11001 kernel3b ((p-11001) / 2) (by omega)
     rwa [show 11001+2*((p-11001) / 2)=p by omega]at this
   have:=Zjl hp (by omega) (by omega) h3 (by omega) hps g210.1 hfour
   rw[this]at hbad;exact absurd hbad (by simp)
  ·have all:∀ q,IsP q→q ∣ n→chk2 q=true:=by
    intro q hq hqn
    have:=hmax q hq hqn
    have:=big q hq hqn
    have hqo:=hq.odd (by omega)
    have:=go2_spec 995 11 kernel2 ((q-11) / 2) (by omega)
    rwa [show 11+2*((q-11) / 2)=q by omega]at this
   obtain⟨h8,h9⟩:=Zdt hp (all p hp hpn)
   have:=Zhw 100 _ p h9 s (by omega) (fun q hq hqs=>by
    have hqn:=Nat.dvd_trans hqs hsn
    rw[sig_eq hp hq hp11 (big q hq hqn) (by omega) hm hpn hqn h2 h3 h5 h7]
    exact(Zdt hq (all q hq hqn)).1) hps (by omega)
   rw[this]at hbad;exact absurd hbad (by simp)
theorem ZaS(a n e:Nat):((a:Int) ^ e % (n:Int))=((a ^ e % n:Nat):Int):=by push_cast;rfl
theorem ZfO{n:Int}(f:Nat):∀ x,Y0 n f x=false→∃ i,1≤i∧i≤f∧x ^ (2 ^ i) % n=n-1:=by
 induction f with
 | zero=>intro x h;exact absurd h (by simp[Y0])
 | succ f ih =>
  intro x h
  simp only[Y0]at h
  split at h
  ·rename_i h1
   exact⟨1,by omega,by omega,by rw[show 2 ^ 1=2 by rfl,Int.pow_succ,Int.pow_succ];simpa using h1⟩
  ·obtain⟨i,h1,h2,h3⟩:=ih _ h
   refine⟨i+1,by omega,by omega,?_⟩
   have:Cg n ((x*x % n) ^ (2 ^ i)) (x ^ (2 ^ (i+1))):=by
    have e:=(Cg.emod n (x*x)).pow (2 ^ i)
    rw[show x*x=x ^ 2 by rw[Int.pow_succ,Int.pow_succ];simp,← Int.pow_mul,Nat.mul_comm,← Nat.pow_succ]at e
    rwa [show x*x=x ^ 2 by rw[Int.pow_succ,Int.pow_succ];simp]
   rw[← this.emod_eq];exact h3
theorem ZeZ{N:Nat}(hN:2≤N):∃ o:Nat,rest 2 ((N:Int)-1)=(o:Int)∧o % 2=1∧N-1=o*2 ^ vp 2 ((N:Int)-1):=by
 have hr:=X6 (p:=2) (n:=(N:Int)-1) (by omega) (by omega)
 have hr2:=XK (p:=2) (n:=(N:Int)-1) (by omega) (by omega)
 have hr3:=ZbN (p:=2) (n:=(N:Int)-1) (by omega) (by omega)
 generalize rest 2 ((N:Int)-1)=u at *
 generalize vp 2 ((N:Int)-1)=e at *
 refine⟨u.toNat,by omega,by omega,?_⟩
 have:((N-1:Nat):Int)=((2 ^ e*u.toNat:Nat):Int):=by
  push_cast [show 1≤N by omega];rw[hr,show((u.toNat:Nat):Int)=u by omega]
 rw[Nat.mul_comm];omega
theorem Ur{a N:Nat}(hN:2<N)(ho:N % 2=1)(h:witB (a:Int) (N:Int)=false):Sprp a N:=by
 obtain⟨o,h1,h2,h3⟩:=ZeZ (N:=N) (by omega)
 unfold witB witW at h
 rw[h1,Int.toNat_natCast,ZaS]at h
 refine⟨vp 2 ((N:Int)-1),o,h2,h3,?_⟩
 have hk:0<vp 2 ((N:Int)-1):=by
  apply Nat.pos_of_ne_zero;intro hz;rw[hz]at h3;simp at h3;omega
 split at h
 ·rename_i hc
  rcases hc with hc | hc
  ·left;omega
  ·right;exact⟨0,hk,by rw[Nat.pow_zero,Nat.mul_one];omega⟩
 ·obtain⟨i,g1,g2,g3⟩:=ZfO _ _ h
  right
  refine⟨i,by omega,?_⟩
  have e:(((a ^ o % N:Nat):Int)) ^ (2 ^ i) % (N:Int)=((a ^ (o*2 ^ i) % N:Nat):Int):=by
   rw[ZaS,← Nat.pow_mod,← Nat.pow_mul]
  rw[e]at g3
  omega
theorem ZfP{p:Nat}(hp:IsP p)(f:Nat):∀ x:Int,0≤x→x<p→x≠1→x≠(p:Int)-1→Cg p (x ^ (2 ^ (f+1))) 1→Y0 p f x=false:=by
 have sq:∀ x:Int,0≤x→x<p→x≠1→x≠(p:Int)-1→¬ Cg p (x*x) 1:=by
  intro x h0 h1 h2 h3 h
  have hp1:=hp.1
  rcases h.sq_one hp with e | e
  ·exact h2 (e.eq_of_bounds h0 h1 (by omega) (by omega))
  ·have e2:Cg p x ((p:Int)-1):=e.trans ⟨-1,by omega⟩
   exact h3 (e2.eq_of_bounds h0 h1 (by omega) (by omega))
 induction f with
 | zero =>
  intro x h0 h1 h2 h3 h
  exact absurd (by rw[show 2 ^ (0+1)=2 by rfl,Int.pow_succ,Int.pow_succ]at h;simpa using h) (sq x h0 h1 h2 h3)
 | succ f ih =>
  intro x h0 h1 h2 h3 h
  have hp1:=hp.1
  simp only[Y0]
  split
  ·rfl
  ·rename_i hne
   refine ih _ (Int.emod_nonneg _ (by omega)) (Int.emod_lt_of_pos _ (by omega)) (fun e=>?_) hne ?_
   ·refine sq x h0 h1 h2 h3 (Cg.of_emod ?_)
    rw[e];exact(Int.emod_eq_of_lt (by omega) (by omega)).symm
   ·refine((Cg.emod (p:Int) (x*x)).pow _).trans ?_
    rw[show x*x=x ^ 2 by rw[Int.pow_succ,Int.pow_succ];simp,← Int.pow_mul,Nat.mul_comm,← Nat.pow_succ];exact h
theorem Zdu{p:Nat}(hp:IsP p)(hp2:p≠2){a:Int}(ha:¬ (p:Int) ∣ a):witB a p=false:=by
 have hp1:=hp.1
 have hodd:=hp.odd hp2
 obtain⟨o,h1,h2,h3⟩:=ZeZ (N:=p) (by omega)
 have hk:vp 2 ((p:Int)-1)≠0:=by
  intro hz;rw[hz]at h3;simp at h3;omega
 unfold witB witW
 rw[h1,Int.toNat_natCast]
 split
 ·rfl
 ·rename_i hc
  refine ZfP hp _ _ (Int.emod_nonneg _ (by omega)) (Int.emod_lt_of_pos _ (by omega)) (fun e=>hc (Or.inl e)) (fun e=>hc (Or.inr e)) ?_
  refine((Cg.emod (p:Int) (a ^ o)).pow _).trans ?_
  rw[← Int.pow_mul,show vp 2 ((p:Int)-1)-1+1=vp 2 ((p:Int)-1) by omega,← h3]
  exact Zcb hp ha
theorem isPM_iff{n:Int}:isPM n=true↔IsP n.toNat∧n≤1000000000:=by
 unfold isPM
 by_cases h0:n<2∨1000000000<n
 ·rw[if_pos h0]
  constructor
  ·intro h;exact absurd h (by simp)
  ·rintro⟨h1,h2⟩;have:=h1.1;omega
 ·rw[if_neg h0]
  obtain⟨N,rfl⟩:∃ N:Nat,n=(N:Int):=⟨n.toNat,by omega⟩
  rw[Int.toNat_natCast]
  have step:∀ (a:Nat) (l:List Int),Z9 (N:Int) ((a:Int)::l)=if N=a then true else if a ∣ N∨witB (a:Int) (N:Int)=true then false else Z9 (N:Int) l:=by
   intro a l
   simp only[Z9]
   have e1:((N:Int)=(a:Int))↔N=a:=by omega
   have e2:((N:Int) % (a:Int)=0)↔a ∣ N:=by rw[← Int.dvd_iff_emod_eq_zero,Int.natCast_dvd_natCast]
   simp only[e1,e2]
  have s2:Z9 (N:Int) [2,3,5,7]=if N=2 then true else if 2 ∣ N∨witB 2 (N:Int)=true then false else Z9 (N:Int) [3,5,7]:=step 2 [3,5,7]
  have s3:Z9 (N:Int) [3,5,7]=if N=3 then true else if 3 ∣ N∨witB 3 (N:Int)=true then false else Z9 (N:Int) [5,7]:=step 3 [5,7]
  have s5:Z9 (N:Int) [5,7]=if N=5 then true else if 5 ∣ N∨witB 5 (N:Int)=true then false else Z9 (N:Int) [7]:=step 5 [7]
  have s7:Z9 (N:Int) [7]=if N=7 then true else if 7 ∣ N∨witB 7 (N:Int)=true then false else true:=step 7 []
  constructor
  ·intro h
   refine⟨?_,by omega⟩
   rw[s2]at h
   by_cases e2:N=2
   ·rw[e2];exact UR
   rw[if_neg e2]at h
   by_cases f2:2 ∣ N∨witB 2 (N:Int)=true
   ·rw[if_pos f2]at h;exact absurd h (by simp)
   rw[if_neg f2,s3]at h
   by_cases e3:N=3
   ·rw[e3];exact ZaD
   rw[if_neg e3]at h
   by_cases f3:3 ∣ N∨witB 3 (N:Int)=true
   ·rw[if_pos f3]at h;exact absurd h (by simp)
   rw[if_neg f3,s5]at h
   by_cases e5:N=5
   ·rw[e5];exact ZbI
   rw[if_neg e5]at h
   by_cases f5:5 ∣ N∨witB 5 (N:Int)=true
   ·rw[if_pos f5]at h;exact absurd h (by simp)
   rw[if_neg f5,s7]at h
   by_cases e7:N=7
   ·rw[e7];exact ZaE
   rw[if_neg e7]at h
   by_cases f7:7 ∣ N∨witB 7 (N:Int)=true
   ·rw[if_pos f7]at h;exact absurd h (by simp)
   have g2:¬ 2 ∣ N∧witB 2 (N:Int)=false:=⟨fun x=>f2 (Or.inl x),by cases hx:witB 2 (N:Int);rfl;exact absurd (Or.inr hx) f2⟩
   have g3:¬ 3 ∣ N∧witB 3 (N:Int)=false:=⟨fun x=>f3 (Or.inl x),by cases hx:witB 3 (N:Int);rfl;exact absurd (Or.inr hx) f3⟩
   have g5:¬ 5 ∣ N∧witB 5 (N:Int)=false:=⟨fun x=>f5 (Or.inl x),by cases hx:witB 5 (N:Int);rfl;exact absurd (Or.inr hx) f5⟩
   have g7:¬ 7 ∣ N∧witB 7 (N:Int)=false:=⟨fun x=>f7 (Or.inl x),by cases hx:witB 7 (N:Int);rfl;exact absurd (Or.inr hx) f7⟩
   have h7:7<N:=by
    have:N≠4∧N≠6:=⟨by rintro rfl;exact g2.1 (by omega),by rintro rfl;exact g2.1 (by omega)⟩
    omega
   have hodd:N % 2=1:=by have:=g2.1;omega
   exact no_spsp h7 (by omega) g2.1 g3.1 g5.1 g7.1 (Ur (a:=2) (by omega) hodd g2.2) (Ur (a:=3) (by omega) hodd g3.2) (Ur (a:=5) (by omega) hodd g5.2) (Ur (a:=7) (by omega) hodd g7.2)
  ·rintro⟨hp,_⟩
   have one:∀ a:Nat,IsP a→N≠a→N≠2→¬ (a ∣ N∨witB (a:Int) (N:Int)=true):=by
    intro a ha hne hn2
    rintro(h | h)
    ·exact hne (ha.eq_of_dvd hp h).symm
    ·rw[Zdu hp hn2 (fun hd=>hne (hp.eq_of_dvd ha (Int.natCast_dvd_natCast.1 hd)))]at h;exact absurd h (by simp)
   rw[s2]
   by_cases e2:N=2
   ·rw[if_pos e2]
   ·have x2:¬ witB 2 (N:Int)=true:=by
     have:witB ((2:Nat):Int) (N:Int)=false:=Zdu hp e2 (fun hd=>e2 (hp.eq_of_dvd UR (Int.natCast_dvd_natCast.1 hd)))
     intro h;have h':witB ((2:Nat):Int) (N:Int)=true:=h;rw[this]at h';exact absurd h' (by simp)
    rw[if_neg e2,if_neg (by rintro(h | h);exact e2 (UR.eq_of_dvd hp h).symm;exact x2 h),s3]
    by_cases e3:N=3
    ·rw[if_pos e3]
    ·rw[if_neg e3,if_neg (show ¬ (3 ∣ N∨witB 3 (N:Int)=true) from one 3 ZaD e3 e2),s5]
     by_cases e5:N=5
     ·rw[if_pos e5]
     ·rw[if_neg e5,if_neg (show ¬ (5 ∣ N∨witB 5 (N:Int)=true) from one 5 ZbI e5 e2),s7]
      by_cases e7:N=7
      ·rw[if_pos e7]
      ·rw[if_neg e7,if_neg (show ¬ (7 ∣ N∨witB 7 (N:Int)=true) from one 7 ZaE e7 e2)]
def isPB(n:Int):Bool:=isPM n
theorem ZbR{n:Int}:isPB n=true↔IsP n.toNat∧n≤1000000000:=isPM_iff
end FF
