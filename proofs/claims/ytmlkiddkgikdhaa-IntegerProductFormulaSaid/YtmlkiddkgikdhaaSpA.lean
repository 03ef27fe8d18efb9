/- Strong pseudoprimes: the reckoning, as small functions that the kernel runs. No program in sight. -/
namespace FF

/-- hand on a number as a literal -/
def force {α : Type} (x : Nat) (f : Nat → α) : α := Nat.rec (f 0) (fun k _ => f (k + 1)) x
/-- a power modulo n, 32 times a step -/
def pmF (a n f : Nat) : Nat → Nat := Nat.rec (fun _ => 1) (fun _ ih e => cond (Nat.beq e 0) 1 (force (Nat.div e 32) fun e2 => Nat.mod (Nat.mul (Nat.pow (ih e2) 32) (Nat.pow a (Nat.mod e 32))) n)) f
def pm (a e n : Nat) : Nat := pmF a n 7 e
/-- the odd part -/
def oddp (f : Nat) : Nat → Nat := Nat.rec (fun m => m) (fun _ ih m => cond (Nat.beq (Nat.mod m 2) 0) (force (Nat.div m 2) ih) m) f
/-- one of the numbers x, x^2, x^4 .. is n - 1 -/
def sq (n f : Nat) : Nat → Bool := Nat.rec (fun _ => false) (fun _ ih x => cond (Nat.beq x (Nat.sub n 1)) true (force (Nat.mod (Nat.mul x x) n) ih)) f
def sprpB (a n : Nat) : Bool := force (oddp 64 (Nat.sub n 1)) fun o => force (pm a o n) fun x => cond (Nat.beq x 1) true (sq n 64 x)
/-- shown composite by one of the four bases -/
def bad (n : Nat) : Bool := cond (Nat.beq (pm 2 (Nat.sub n 1) n) 1) (cond (sprpB 2 n) (cond (sprpB 3 n) (cond (sprpB 5 n) (not (sprpB 7 n)) true) true) true) true

/-- the primes up to 177 -/
def ls : List Nat := [2, 3, 5, 7, 11, 13, 17, 19, 23, 29, 31, 37, 41, 43, 47, 53, 59, 61, 67, 71, 73, 79, 83, 89, 97, 101, 103, 107, 109, 113, 127, 131, 137, 139, 149, 151, 157, 163, 167, 173]
def small : List Nat := [2, 3, 5, 7, 11, 13, 17, 19, 23, 29, 31, 37, 41, 43]
def MM : Nat := 166589903787325219380851695350896256250980509594874862046961683989710

/-- how often one has to square till 1 comes -/
def cnt (p f : Nat) : Nat → Nat := Nat.rec (fun _ => 0) (fun _ ih x => cond (Nat.beq x 1) 0 (Nat.add 1 (force (Nat.mod (Nat.mul x x) p) ih))) f
def tA (a p : Nat) : Nat := force (oddp 64 (Nat.sub p 1)) fun o => force (pm a o p) (cnt p 40)
def sigOf (p : Nat) : Nat := Nat.add (tA 2 p) (Nat.add (Nat.mul 32 (tA 3 p)) (Nat.add (Nat.mul 1024 (tA 5 p)) (Nat.mul 32768 (tA 7 p))))
def groups : List (Nat × List Nat) := [(33793, [107, 347, 443, 683, 827, 947, 1163, 1187, 1283, 1523, 1667, 1787]),
  (1024, [47, 167, 383, 503, 647, 887, 983, 1223, 1487, 1823, 1847]),
  (1, [59, 131, 251, 419, 971, 1091, 1259, 1571, 1811, 1931, 1979]),
  (33, [19, 139, 619, 691, 811, 859, 1291, 1459, 1531, 1699]),
  (32, [31, 199, 271, 439, 1039, 1231, 1279, 1399, 1879, 1951]),
  (32768, [71, 191, 239, 359, 431, 599, 911, 1031, 1439, 1871]),
  (32800, [79, 151, 631, 751, 919, 991, 1471, 1759, 1831, 1999]),
  (1056, [103, 223, 367, 607, 727, 1063, 1447, 1543, 1567, 1783]),
  (33824, [127, 463, 487, 823, 967, 1087, 1303, 1327, 1423, 1663]),
  (67650, [173, 293, 677, 773, 797, 1013, 1277, 1613, 1637, 1973]),
  (1057, [283, 307, 523, 643, 787, 1123, 1483, 1627, 1867, 1987]),
  (32801, [211, 331, 379, 499, 571, 739, 1051, 1171, 1579]),
  (32769, [11, 179, 491, 659, 1019, 1451, 1499, 1619]),
  (33792, [23, 263, 743, 863, 1103, 1367, 1583, 1607]),
  (33825, [43, 67, 163, 547, 883, 907, 1723, 1747]),
  (1025, [83, 227, 467, 563, 587, 1307, 1427, 1907]),
  (0, [311, 479, 719, 839, 1151, 1319, 1511, 1559]),
  (34882, [53, 197, 317, 557, 1493, 1877]),
  (65602, [101, 269, 461, 941, 1949]),
  (67618, [157, 397, 853, 997, 1693]),
  (66626, [509, 1109, 1129, 1181, 1301]),
  (2114, [653, 1373, 1733, 1997]),
  (2050, [757, 1093, 1213, 1453]),
  (33858, [821, 1229, 1709, 1901]),
  (65570, [1021, 1069, 1741, 1861]),
  (67586, [13, 733, 1237]),
  (2082, [37, 613, 877]),
  (66594, [61, 349, 661]),
  (34818, [277, 1117, 1597]),
  (1090, [29, 701]),
  (2, [109, 1621]),
  (65538, [181, 829]),
  (66562, [229, 1669]),
  (68704, [233, 1913]),
  (101378, [313, 1657]),
  (34850, [373, 1933]),
  (66, [389, 1061]),
  (99426, [521, 761]),
  (1026, [709, 1381]),
  (101473, [1097, 1193]),
  (33826, [1549, 1789]),
  (135299, [17]),
  (100450, [41]),
  (101440, [73]),
  (100448, [89]),
  (169092, [97]),
  (36994, [113]),
  (68706, [137]),
  (32834, [149]),
  (104581, [193]),
  (134243, [241]),
  (270596, [257]),
  (67681, [281]),
  (102496, [337]),
  (169123, [353]),
  (98435, [401]),
  (98370, [409]),
  (33794, [421]),
  (135171, [433]),
  (132293, [449]),
  (35906, [457]),
  (32770, [541]),
  (65634, [569]),
  (202884, [577]),
  (135298, [593]),
  (100352, [601]),
  (68705, [617]),
  (202982, [641]),
  (136292, [673]),
  (269447, [769]),
  (2146, [809]),
  (101474, [857]),
  (134272, [881]),
  (167076, [929]),
  (101408, [937]),
  (35938, [953]),
  (102531, [977]),
  (68707, [1009]),
  (68673, [1033]),
  (100449, [1049]),
  (236741, [1153]),
  (101442, [1201]),
  (202947, [1217]),
  (168066, [1249]),
  (34912, [1289]),
  (102435, [1297]),
  (100354, [1321]),
  (133251, [1361]),
  (71910, [1409]),
  (34, [1429]),
  (101472, [1433]),
  (2145, [1481]),
  (133219, [1489]),
  (135297, [1553]),
  (200900, [1601]),
  (98368, [1609]),
  (169124, [1697]),
  (99424, [1721]),
  (101441, [1753]),
  (135265, [1777]),
  (34848, [1801]),
  (4195, [1873]),
  (167075, [1889]),
  (101410, [1993])]
def lookup (c : Nat) : List (Nat × List Nat) → List Nat
  | [] => []
  | (d, l) :: r => cond (Nat.beq d c) l (lookup c r)
def memb (x : Nat) : List Nat → Bool
  | [] => false
  | y :: l => cond (Nat.beq y x) true (memb x l)
def hasSmall (m : Nat) : List Nat → Bool
  | [] => false
  | l :: r => cond (Nat.blt l m) (cond (Nat.beq (Nat.mod m l) 0) true (hasSmall m r)) false
/-- all products with numbers of a list are shown composite -/
def visit (f : Nat) : List Nat → Nat → Bool := Nat.rec (fun _ _ => false) (fun _ ih l m => match l with
  | [] => true
  | q :: r => cond (ih r m) (cond (Nat.ble (Nat.mul m q) 1000000000) (force (Nat.mul m q) fun mq => cond (bad mq) (ih (q :: r) mq) false) true) false) f
def chk2 (m : Nat) : Bool := cond (hasSmall m small) true (force (sigOf m) fun c => cond (memb m (lookup c groups)) (visit 100 (lookup c groups) m) false)
def go2 (f : Nat) : Nat → Bool := Nat.rec (fun _ => true) (fun _ ih m => cond (chk2 m) (force (Nat.add m 2) ih) false) f

/-- all four powers are 1 -/
def all4 (e p : Nat) : Bool := cond (Nat.beq (pm 2 e p) 1) (cond (Nat.beq (pm 3 e p) 1) (cond (Nat.beq (pm 5 e p) 1) (Nat.beq (pm 7 e p) 1) false) false) false
def ordL (p d : Nat) : List Nat → Bool
  | [] => true
  | l :: r => cond (Nat.beq (Nat.mod d l) 0) (cond (all4 (Nat.div d l) p) false (ordL p d r)) (ordL p d r)
def chkOrd (p d : Nat) : Bool := cond (all4 d p) (cond (ordL p d ls) (force (Nat.div d (Nat.gcd d (Nat.pow MM 15))) fun r => cond (Nat.beq (Nat.gcd r MM) 1) (cond (Nat.beq r 1) true (not (all4 (Nat.div d r) p))) false) false) false
def candGo (p d f : Nat) : Nat → Bool := Nat.rec (fun _ => true) (fun _ ih s => cond (cond (Nat.beq (Nat.gcd s 210) 1) (bad (Nat.mul p s)) true) (force (Nat.add s d) ih) false) f
def cands (p d : Nat) : Bool := candGo p d (Nat.div (Nat.sub (Nat.div 1000000000 p) 1) d) (Nat.add 1 d)
def tryIdx (p i : Nat) : Bool := force (Nat.div (Nat.sub p 1) i) fun d => cond (Nat.beq (Nat.mul d i) (Nat.sub p 1)) (cond (chkOrd p d) (cands p d) false) false
def chk3 (p : Nat) : Bool := cond (Nat.beq (Nat.gcd p MM) 1) (cond (tryIdx p 1) true (cond (tryIdx p 2) true (cond (tryIdx p 3) true (tryIdx p 4)))) true
def go3 (f : Nat) : Nat → Bool := Nat.rec (fun _ => true) (fun _ ih m => cond (chk3 m) (force (Nat.add m 2) ih) false) f

/-- the product of the numbers from m on, each second one, that the small primes do not divide -/
def prodGo (f : Nat) : Nat → Nat → Nat := Nat.rec (fun _ acc => acc) (fun _ ih m acc => force (Nat.add m 2) fun m2 => cond (Nat.beq (Nat.gcd m MM) 1) (force (Nat.mul acc m) (ih m2)) (ih m2 acc)) f
def strip (M f : Nat) : Nat → Nat := Nat.rec (fun g => g) (fun _ ih g => force (Nat.gcd g M) fun h => cond (Nat.beq h 1) g (force (Nat.div g h) ih)) f
def okP (s p : Nat) : Bool := cond (Nat.ble (Nat.mul p s) 1000000000) (bad (Nat.mul p s)) true
def loopT (s g f : Nat) : Nat → Bool := Nat.rec (fun _ => true) (fun _ ih t => cond (cond (Nat.beq (Nat.mod g t) 0) (okP s (Nat.div g t)) true) (force (Nat.add t 1) ih) false) f
def loopP (s g f : Nat) : Nat → Bool := Nat.rec (fun _ => true) (fun _ ih p => cond (cond (Nat.beq (Nat.mod g p) 0) (okP s p) true) (force (Nat.add p 1) ih) false) f
def hard (s g : Nat) : Bool := force (Nat.gcd g (Nat.gcd (Nat.sub (Nat.pow 5 (Nat.sub s 1)) 1) (Nat.sub (Nat.pow 7 (Nat.sub s 1)) 1))) fun g2 =>
  cond (Nat.beq g2 1) true (cond (Nat.ble g2 1000000) (loopT s g2 (Nat.div g2 31622) 1) (loopP s g2 (Nat.sub (Nat.div 1000000000 s) 31622) 31623))
def chk4 (M s : Nat) : Bool := cond (Nat.beq (Nat.gcd s 105) 1) (force (strip M 60 (Nat.gcd (Nat.sub (Nat.pow 2 (Nat.sub s 1)) 1) (Nat.sub (Nat.pow 3 (Nat.sub s 1)) 1))) fun g => cond (Nat.beq g 1) true (hard s g)) true
def go4 (M f : Nat) : Nat → Bool := Nat.rec (fun _ => true) (fun _ ih s => cond (chk4 M s) (force (Nat.add s 2) ih) false) f
def main4 (f s : Nat) : Bool := force (prodGo 15722 179 MM) fun M => go4 M f s

end FF
