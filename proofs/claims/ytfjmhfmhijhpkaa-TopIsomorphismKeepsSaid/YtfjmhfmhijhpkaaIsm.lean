/- An isomorphism keeps products and norms: plain. -/
import Derived.Test.YtfjmhfmhijhpkaaQn0
namespace FF

/-- the image of an element, the images of i and j being given, over one denominator -/
def imgQ (c d : Int) (x y q : Qt) : Qt :=
  ⟨q.w * (x.d * y.d) + q.z * (mulQ c d x y).w, q.x * (x.x * y.d) + q.y * (y.x * x.d) + q.z * (mulQ c d x y).x,
   q.x * (x.y * y.d) + q.y * (y.y * x.d) + q.z * (mulQ c d x y).y, q.x * (x.z * y.d) + q.y * (y.z * x.d) + q.z * (mulQ c d x y).z, q.d * (x.d * y.d)⟩
/-- images of i and j: pure, their squares are numbers, and they turn -/
structure Imgs (a b c d : Int) (x y : Qt) : Prop where
  xw : x.w = 0
  yw : y.w = 0
  xd : x.d ≠ 0
  yd : y.d ≠ 0
  xx : c * (x.x * x.x) + d * (x.y * x.y) - c * d * (x.z * x.z) = a * (x.d * x.d)
  yy : c * (y.x * y.x) + d * (y.y * y.y) - c * d * (y.z * y.z) = b * (y.d * y.d)
  xy : c * (x.x * y.x) + d * (x.y * y.y) - c * d * (x.z * y.z) = 0

theorem imgQ_smul (c d k : Int) (x y q : Qt) : imgQ c d x y (smul k q) = smul k (imgQ c d x y q) := by
  simp only [imgQ, smul, Qt.mk.injEq]
  refine ⟨?_, ?_, ?_, ?_, ?_⟩ <;> grind
theorem imgs_mul {a b c d : Int} {x y : Qt} (h : Imgs a b c d x y) (p q : Qt) :
    mulQ c d (imgQ c d x y p) (imgQ c d x y q) = smul (x.d * y.d) (imgQ c d x y (mulQ a b p q)) := by
  obtain ⟨xw, x1, x2, x3, xd⟩ := x
  obtain ⟨yw, y1, y2, y3, yd⟩ := y
  obtain ⟨h1, h2, -, -, h5, h6, h7⟩ := h
  dsimp only at h1 h2 h5 h6 h7
  subst h1 h2
  obtain ⟨p0, p1, p2, p3, pd⟩ := p
  obtain ⟨q0, q1, q2, q3, qd⟩ := q
  simp only [imgQ, mulQ, smul, Qt.mk.injEq]
  refine ⟨?_, ?_, ?_, ?_, ?_⟩
  · grind
  · grind
  · grind
  · grind
  · grind

theorem imgs_nm {a b c d : Int} {x y : Qt} (h : Imgs a b c d x y) (q : Qt) :
    nmQ c d (imgQ c d x y q) = (x.d * y.d) * (x.d * y.d) * nmQ a b q := by
  obtain ⟨xw, x1, x2, x3, xd⟩ := x
  obtain ⟨yw, y1, y2, y3, yd⟩ := y
  obtain ⟨h1, h2, -, -, h5, h6, h7⟩ := h
  dsimp only at h1 h2 h5 h6 h7
  subst h1 h2
  obtain ⟨q0, q1, q2, q3, qd⟩ := q
  simp only [imgQ, mulQ, nmQ]
  grind
/-- a sum over one denominator -/
def sumQ (p q : Qt) : Qt := ⟨p.w + q.w, p.x + q.x, p.y + q.y, p.z + q.z, p.d⟩
theorem nrm_sum {p q : Qt} (hp : p.d ≠ 0) (hq : q.d = p.d) : nrm (addQ (nrm p) (nrm q)) = nrm (sumQ p q) := by
  rw [nrm_add hp (by rw [hq]; exact hp), ← nrm_smul hp (show (sumQ p q).d ≠ 0 from hp)]
  congr 1
  simp only [addQ, smul, sumQ, Qt.mk.injEq, hq]
  refine ⟨?_, ?_, ?_, ?_, ?_⟩ <;> grind
theorem nrm_sum5 {w x y z w' x' y' z' D : Int} (hD : D ≠ 0) : nrm (addQ (nrm ⟨w, x, y, z, D⟩) (nrm ⟨w', x', y', z', D⟩)) = nrm ⟨w + w', x + x', y + y', z + z', D⟩ := nrm_sum (p := ⟨w, x, y, z, D⟩) (q := ⟨w', x', y', z', D⟩) hD rfl
/-- an element times a fraction -/
def timesQ (n d : Int) (q : Qt) : Qt := ⟨q.w * n, q.x * n, q.y * n, q.z * n, q.d * d⟩
theorem nrm_times {n d : Int} {q : Qt} (hq : q.d ≠ 0) (hd : d ≠ 0) : nrm (timesQ n d (nrm q)) = nrm (timesQ n d q) := by
  have e : timesQ n d q = smul (gs q) (timesQ n d (nrm q)) := by
    conv => lhs; rw [nrm_spec q]
    simp only [timesQ, smul, Qt.mk.injEq]
    refine ⟨?_, ?_, ?_, ?_, ?_⟩ <;> grind
  rw [e, nrm_smul (gs_ne hq)]
  have := nrm_d_pos hq
  exact Int.mul_ne_zero (by omega) hd
/-- the numbers of images and of an element are small -/
structure ImB (c d : Int) (x y q : Qt) : Prop where
  c : -12 ≤ c ∧ c ≤ 12
  d : -12 ≤ d ∧ d ≤ 12
  x1 : -8 ≤ x.x ∧ x.x ≤ 8
  x2 : -8 ≤ x.y ∧ x.y ≤ 8
  x3 : -8 ≤ x.z ∧ x.z ≤ 8
  xd : 1 ≤ x.d ∧ x.d ≤ 2
  y1 : -8 ≤ y.x ∧ y.x ≤ 8
  y2 : -8 ≤ y.y ∧ y.y ≤ 8
  y3 : -8 ≤ y.z ∧ y.z ≤ 8
  yd : 1 ≤ y.d ∧ y.d ≤ 2
  q0 : -2000 ≤ q.w ∧ q.w ≤ 2000
  q1 : -300 ≤ q.x ∧ q.x ≤ 300
  q2 : -300 ≤ q.y ∧ q.y ≤ 300
  q3 : -40 ≤ q.z ∧ q.z ≤ 40
  qd : 1 ≤ q.d ∧ q.d ≤ 9
theorem mb {x y m n k : Int} (hx : -m ≤ x ∧ x ≤ m) (hy : -n ≤ y ∧ y ≤ n) (h : m * n ≤ k) : -k ≤ x * y ∧ x * y ≤ k := by
  have := mulb hx hy; omega
theorem pb {x y m n : Int} (hx : 1 ≤ x ∧ x ≤ m) (hy : 1 ≤ y ∧ y ≤ n) : 1 ≤ x * y ∧ x * y ≤ m * n :=
  ⟨by have := Int.mul_pos (show 0 < x by omega) (show 0 < y by omega); omega, Int.mul_le_mul hx.2 hy.2 (by omega) (by omega)⟩
/-- the product of the images has small numbers -/
structure KB (k : Qt) : Prop where
  w : k.w = 0
  x : -1536 ≤ k.x ∧ k.x ≤ 1536
  y : -1536 ≤ k.y ∧ k.y ≤ 1536
  z : -128 ≤ k.z ∧ k.z ≤ 128
  d : 1 ≤ k.d ∧ k.d ≤ 4
theorem kb_of {a b c d : Int} {x y q : Qt} (h : Imgs a b c d x y) (g : ImB c d x y q) : KB (mulQ c d x y) := by
  have e1 := mb g.y2 g.x3 (k := 64) (by decide); have e2 := mb g.y3 g.x2 (k := 64) (by decide)
  have e3 := mb g.y1 g.x3 (k := 64) (by decide); have e4 := mb g.y3 g.x1 (k := 64) (by decide)
  have e5 := mb g.x1 g.y2 (k := 64) (by decide); have e6 := mb g.x2 g.y1 (k := 64) (by decide)
  have e7 := mb g.d e1 (k := 768) (by decide); have e8 := mb g.d e2 (k := 768) (by decide)
  have e9 := mb g.c e3 (k := 768) (by decide); have e10 := mb g.c e4 (k := 768) (by decide)
  have f1 : d * (y.y * x.z) = d * x.z * y.y := by grind
  have f2 : d * (y.z * x.y) = d * x.y * y.z := by grind
  have f3 : c * (y.x * x.z) = c * x.z * y.x := by grind
  have f4 : c * (y.z * x.x) = c * x.x * y.z := by grind
  refine ⟨?_, ?_, ?_, ?_, ?_⟩
  · have := h.xy
    simp only [mulQ, h.xw, h.yw]
    grind
  · simp only [mulQ, h.xw, h.yw]; omega
  · simp only [mulQ, h.xw, h.yw]; omega
  · simp only [mulQ, h.xw, h.yw]; omega
  · exact pb g.xd g.yd
/-- what the images' sum goes through -/
structure Moves (c d : Int) (x y q : Qt) : Prop where
  k : qB (mulQ c d x y) = true
  s0 : qB ⟨q.w, 0, 0, 0, q.d⟩ = true
  p1 : qB (timesQ q.x q.d x) = true
  p2 : qB (timesQ q.y q.d y) = true
  p3 : qB (nrm (timesQ q.z q.d (nrm (mulQ c d x y)))) = true
  s1 : qB (nrm (addQ (nrm ⟨q.w, 0, 0, 0, q.d⟩) (nrm (timesQ q.x q.d x)))) = true
  s2 : qB (nrm (addQ (nrm (addQ (nrm ⟨q.w, 0, 0, 0, q.d⟩) (nrm (timesQ q.x q.d x)))) (nrm (timesQ q.y q.d y)))) = true
  s3 : nrm (addQ (nrm (addQ (nrm (addQ (nrm ⟨q.w, 0, 0, 0, q.d⟩) (nrm (timesQ q.x q.d x)))) (nrm (timesQ q.y q.d y)))) (nrm (timesQ q.z q.d (nrm (mulQ c d x y))))) = nrm (imgQ c d x y q)
  s4 : qB (nrm (imgQ c d x y q)) = true
theorem moves {a b c d : Int} {x y q : Qt} (h : Imgs a b c d x y) (g : ImB c d x y q) : Moves c d x y q := by
  have kb := kb_of h g
  have qd := g.qd
  have hE := pb g.xd g.yd
  have hD := pb g.qd hE
  have hqd : q.d ≠ 0 := by omega
  have hDn : q.d * (x.d * y.d) ≠ 0 := by omega
  have hdx : x.d ≠ 0 := h.xd
  have hdy : y.d ≠ 0 := h.yd
  have a1 := mb g.q1 g.x1 (k := 2400) (by decide); have a2 := mb g.q1 g.x2 (k := 2400) (by decide); have a3 := mb g.q1 g.x3 (k := 2400) (by decide)
  have b1 := mb g.q2 g.y1 (k := 2400) (by decide); have b2 := mb g.q2 g.y2 (k := 2400) (by decide); have b3 := mb g.q2 g.y3 (k := 2400) (by decide)
  have a1' : -2400 ≤ x.x * q.x ∧ x.x * q.x ≤ 2400 := by rw [Int.mul_comm]; exact a1
  have a2' : -2400 ≤ x.y * q.x ∧ x.y * q.x ≤ 2400 := by rw [Int.mul_comm]; exact a2
  have a3' : -2400 ≤ x.z * q.x ∧ x.z * q.x ≤ 2400 := by rw [Int.mul_comm]; exact a3
  have b1' : -2400 ≤ y.x * q.y ∧ y.x * q.y ≤ 2400 := by rw [Int.mul_comm]; exact b1
  have b2' : -2400 ≤ y.y * q.y ∧ y.y * q.y ≤ 2400 := by rw [Int.mul_comm]; exact b2
  have b3' : -2400 ≤ y.z * q.y ∧ y.z * q.y ≤ 2400 := by rw [Int.mul_comm]; exact b3
  have c1 := mb g.q3 kb.x (k := 61440) (by decide); have c2 := mb g.q3 kb.y (k := 61440) (by decide); have c3 := mb g.q3 kb.z (k := 61440) (by decide)
  have c1' : -61440 ≤ (mulQ c d x y).x * q.z ∧ (mulQ c d x y).x * q.z ≤ 61440 := by rw [Int.mul_comm]; exact c1
  have c2' : -61440 ≤ (mulQ c d x y).y * q.z ∧ (mulQ c d x y).y * q.z ≤ 61440 := by rw [Int.mul_comm]; exact c2
  have c3' : -61440 ≤ (mulQ c d x y).z * q.z ∧ (mulQ c d x y).z * q.z ≤ 61440 := by rw [Int.mul_comm]; exact c3
  have xdd : -2 ≤ x.d ∧ x.d ≤ 2 := ⟨by have := g.xd; omega, g.xd.2⟩
  have ydd : -2 ≤ y.d ∧ y.d ≤ 2 := ⟨by have := g.yd; omega, g.yd.2⟩
  have Edd : -4 ≤ x.d * y.d ∧ x.d * y.d ≤ 4 := ⟨by omega, by omega⟩
  have d0 := mb g.q0 Edd (k := 8000) (by decide)
  have d1 : -4800 ≤ q.x * (x.x * y.d) ∧ q.x * (x.x * y.d) ≤ 4800 := by rw [← Int.mul_assoc]; exact mb a1 ydd (by decide)
  have d2 : -4800 ≤ q.x * (x.y * y.d) ∧ q.x * (x.y * y.d) ≤ 4800 := by rw [← Int.mul_assoc]; exact mb a2 ydd (by decide)
  have d3 : -4800 ≤ q.x * (x.z * y.d) ∧ q.x * (x.z * y.d) ≤ 4800 := by rw [← Int.mul_assoc]; exact mb a3 ydd (by decide)
  have d4 : -4800 ≤ q.y * (y.x * x.d) ∧ q.y * (y.x * x.d) ≤ 4800 := by rw [← Int.mul_assoc]; exact mb b1 xdd (by decide)
  have d5 : -4800 ≤ q.y * (y.y * x.d) ∧ q.y * (y.y * x.d) ≤ 4800 := by rw [← Int.mul_assoc]; exact mb b2 xdd (by decide)
  have d6 : -4800 ≤ q.y * (y.z * x.d) ∧ q.y * (y.z * x.d) ≤ 4800 := by rw [← Int.mul_assoc]; exact mb b3 xdd (by decide)
  -- over one denominator
  have n0 : nrm ⟨q.w, 0, 0, 0, q.d⟩ = nrm ⟨q.w * (x.d * y.d), 0, 0, 0, q.d * (x.d * y.d)⟩ := by
    refine nrm_eq hqd hDn ⟨?_, ?_, ?_, ?_⟩ <;> (dsimp only; grind)
  have n1 : nrm (timesQ q.x q.d x) = nrm ⟨0, q.x * (x.x * y.d), q.x * (x.y * y.d), q.x * (x.z * y.d), q.d * (x.d * y.d)⟩ := by
    refine nrm_eq (Int.mul_ne_zero hdx hqd) hDn ⟨?_, ?_, ?_, ?_⟩ <;> (simp only [timesQ, h.xw]; grind)
  have n2 : nrm (timesQ q.y q.d y) = nrm ⟨0, q.y * (y.x * x.d), q.y * (y.y * x.d), q.y * (y.z * x.d), q.d * (x.d * y.d)⟩ := by
    refine nrm_eq (Int.mul_ne_zero hdy hqd) hDn ⟨?_, ?_, ?_, ?_⟩ <;> (simp only [timesQ, h.yw]; grind)
  have n3 : nrm (timesQ q.z q.d (nrm (mulQ c d x y))) = nrm ⟨q.z * (mulQ c d x y).w, q.z * (mulQ c d x y).x, q.z * (mulQ c d x y).y, q.z * (mulQ c d x y).z, q.d * (x.d * y.d)⟩ := by
    rw [nrm_times (by have := kb.d; omega) hqd]
    refine nrm_eq (Int.mul_ne_zero (by have := kb.d; omega) hqd) hDn ⟨?_, ?_, ?_, ?_⟩ <;> (simp only [timesQ, mulQ_d]; grind)
  have s1 : nrm (addQ (nrm ⟨q.w, 0, 0, 0, q.d⟩) (nrm (timesQ q.x q.d x))) = nrm ⟨q.w * (x.d * y.d), q.x * (x.x * y.d), q.x * (x.y * y.d), q.x * (x.z * y.d), q.d * (x.d * y.d)⟩ := by
    rw [n0, n1, nrm_sum5 hDn]
    simp only [Int.add_zero, Int.zero_add]
  have s2 : nrm (addQ (nrm (addQ (nrm ⟨q.w, 0, 0, 0, q.d⟩) (nrm (timesQ q.x q.d x)))) (nrm (timesQ q.y q.d y))) = nrm ⟨q.w * (x.d * y.d), q.x * (x.x * y.d) + q.y * (y.x * x.d), q.x * (x.y * y.d) + q.y * (y.y * x.d), q.x * (x.z * y.d) + q.y * (y.z * x.d), q.d * (x.d * y.d)⟩ := by
    rw [s1, n2, nrm_sum5 hDn]
    simp only [Int.add_zero]
  have s3 : nrm (addQ (nrm (addQ (nrm (addQ (nrm ⟨q.w, 0, 0, 0, q.d⟩) (nrm (timesQ q.x q.d x)))) (nrm (timesQ q.y q.d y)))) (nrm (timesQ q.z q.d (nrm (mulQ c d x y))))) = nrm (imgQ c d x y q) := by
    rw [s2, n3, nrm_sum5 hDn]
    rfl
  have hDb : 1 ≤ q.d * (x.d * y.d) ∧ q.d * (x.d * y.d) ≤ 1000000 := ⟨by omega, by omega⟩
  have hx := g.xd; have hy := g.yd
  have px := pb g.xd g.qd; have py := pb g.yd g.qd; have pk := pb kb.d g.qd
  refine ⟨?_, ?_, ?_, ?_, ?_, ?_, ?_, s3, ?_⟩
  · have := kb.w; have := kb.x; have := kb.y; have := kb.z; have := kb.d
    exact qB_iff.2 ⟨⟨by omega, by omega⟩, ⟨by omega, by omega⟩, ⟨by omega, by omega⟩, ⟨by omega, by omega⟩, ⟨by omega, by omega⟩⟩
  · have := g.q0
    refine qB_iff.2 ?_
    dsimp only
    omega
  · refine qB_iff.2 ?_
    simp only [timesQ, h.xw, Int.zero_mul]
    omega
  · refine qB_iff.2 ?_
    simp only [timesQ, h.yw, Int.zero_mul]
    omega
  · rw [nrm_times (by have := kb.d; omega) hqd]
    refine qB_nrm (qB_iff.2 ?_)
    simp only [timesQ, kb.w, Int.zero_mul]
    omega
  · rw [s1]
    refine qB_nrm (qB_iff.2 ?_)
    dsimp only
    omega
  · rw [s2]
    refine qB_nrm (qB_iff.2 ?_)
    dsimp only
    omega
  · refine qB_nrm (qB_iff.2 ?_)
    simp only [imgQ, kb.w, Int.mul_zero, Int.add_zero]
    omega
/-- the product of two elements with small numbers -/
theorem prod_small {a b : Int} {p q : Qt} (ha : -12 ≤ a ∧ a ≤ 12) (hb : -12 ≤ b ∧ b ≤ 12) (hp : smB p = true) (hq : smB q = true) :
    ((-2000 ≤ (mulQ a b p q).w ∧ (mulQ a b p q).w ≤ 2000) ∧ (-300 ≤ (mulQ a b p q).x ∧ (mulQ a b p q).x ≤ 300) ∧ (-300 ≤ (mulQ a b p q).y ∧ (mulQ a b p q).y ≤ 300) ∧ (-40 ≤ (mulQ a b p q).z ∧ (mulQ a b p q).z ≤ 40)) ∧ (1 ≤ (mulQ a b p q).d ∧ (mulQ a b p q).d ≤ 9) := by
  obtain ⟨p0, p1, p2, p3, pd⟩ := smB_iff.1 hp
  obtain ⟨q0, q1, q2, q3, qd⟩ := smB_iff.1 hq
  have ab := mb ha hb (k := 144) (by decide)
  have w0 := mb p0 q0 (k := 9) (by decide)
  have w1 := mb (mb ha p1 (k := 36) (by decide)) q1 (k := 108) (by decide)
  have w2 := mb (mb hb p2 (k := 36) (by decide)) q2 (k := 108) (by decide)
  have w3 := mb (mb ab p3 (k := 432) (by decide)) q3 (k := 1296) (by decide)
  have x0 := mb p0 q1 (k := 9) (by decide); have x1 := mb p1 q0 (k := 9) (by decide)
  have x2 := mb (mb hb p2 (k := 36) (by decide)) q3 (k := 108) (by decide); have x3 := mb (mb hb p3 (k := 36) (by decide)) q2 (k := 108) (by decide)
  have y0 := mb p0 q2 (k := 9) (by decide); have y1 := mb p2 q0 (k := 9) (by decide)
  have y2 := mb (mb ha p1 (k := 36) (by decide)) q3 (k := 108) (by decide); have y3 := mb (mb ha p3 (k := 36) (by decide)) q1 (k := 108) (by decide)
  have z0 := mb p0 q3 (k := 9) (by decide); have z1 := mb p3 q0 (k := 9) (by decide); have z2 := mb p1 q2 (k := 9) (by decide); have z3 := mb p2 q1 (k := 9) (by decide)
  have dd := pb pd qd
  simp only [mulQ]
  refine ⟨⟨?_, ?_, ?_, ?_⟩, ?_⟩ <;> omega
theorem ImB.of_prod {a b c d : Int} {x y q p r : Qt} (ha : -12 ≤ a ∧ a ≤ 12) (hb : -12 ≤ b ∧ b ≤ 12) (hp : smB p = true) (hr : smB r = true) (g : ImB c d x y q) : ImB c d x y (nrm (mulQ a b p r)) := by
  obtain ⟨⟨h0, h1, h2, h3⟩, h4⟩ := prod_small ha hb hp hr
  have h5 := nrm_d_le (q := mulQ a b p r) (by omega)
  exact ⟨g.c, g.d, g.x1, g.x2, g.x3, g.xd, g.y1, g.y2, g.y3, g.yd, tdiv_le h0, tdiv_le h1, tdiv_le h2, tdiv_le h3, by omega⟩
/-- the image of a product is the product of the images -/
theorem img_mul {a b c d : Int} {x y p q : Qt} (h : Imgs a b c d x y) (hp : p.d ≠ 0) (hq : q.d ≠ 0) :
    nrm (mulQ c d (nrm (imgQ c d x y p)) (nrm (imgQ c d x y q))) = nrm (imgQ c d x y (nrm (mulQ a b p q))) := by
  have hE : x.d * y.d ≠ 0 := Int.mul_ne_zero h.xd h.yd
  have hpq : (mulQ a b p q).d ≠ 0 := Int.mul_ne_zero hp hq
  have e1 : (imgQ c d x y p).d ≠ 0 := Int.mul_ne_zero hp hE
  have e2 : (imgQ c d x y q).d ≠ 0 := Int.mul_ne_zero hq hE
  have e3 : (nrm (mulQ a b p q)).d ≠ 0 := by have := nrm_d_pos hpq; omega
  rw [nrm_mul e1 e2, imgs_mul h, nrm_smul hE (Int.mul_ne_zero hpq hE)]
  conv => lhs; rw [nrm_spec (mulQ a b p q)]
  rw [imgQ_smul, nrm_smul (gs_ne hpq) (Int.mul_ne_zero e3 hE)]
/-- the norm of the image -/
theorem img_nm {a b c d : Int} {x y p : Qt} (h : Imgs a b c d x y) (hp : p.d ≠ 0) :
    lowN (nmQ c d (nrm (imgQ c d x y p))) ((nrm (imgQ c d x y p)).d * (nrm (imgQ c d x y p)).d) = lowN (nmQ a b p) (p.d * p.d) ∧
    lowD (nmQ c d (nrm (imgQ c d x y p))) ((nrm (imgQ c d x y p)).d * (nrm (imgQ c d x y p)).d) = lowD (nmQ a b p) (p.d * p.d) := by
  have hE : x.d * y.d ≠ 0 := Int.mul_ne_zero h.xd h.yd
  have e1 : (imgQ c d x y p).d ≠ 0 := Int.mul_ne_zero hp hE
  have e2 := nrm_d_pos e1
  refine low_eq (Int.mul_ne_zero (by omega) (by omega)) (Int.mul_ne_zero hp hp) ?_
  have e3 := imgs_nm h p
  have e4 := nrm_spec (imgQ c d x y p)
  have hg := gs_ne e1
  generalize nrm (imgQ c d x y p) = r at *
  generalize gs (imgQ c d x y p) = g at *
  rw [e4, nmQ_smul] at e3
  have e5 : p.d * (x.d * y.d) = g * r.d := by
    have : (imgQ c d x y p).d = (smul g r).d := by rw [← e4]
    exact this
  have hgg : g * g ≠ 0 := Int.mul_ne_zero hg hg
  refine Int.eq_of_mul_eq_mul_left (Int.mul_ne_zero hgg (Int.mul_ne_zero hE hE)) ?_
  grind
end FF
