/- The reference's right: whether a step follows from those before it. -/
import Derived.Test.YtfjmhfmhijhpkaaPrm
namespace Go.Proofs.Ytfjmhfmhijhpkaa
open Go.RowKit FF

/-- a step of a proof: the number, the root, the primes -/
abbrev Stpp : Type := Int × Int × List Int
/-- a list of steps in memory -/
def ShowsS (w : World) (A : Option Addr) (L : List Stpp) : Prop :=
  0 < L.length → ∃ b o, A = some ⟨b, o, none⟩ ∧ b < w.heap.size ∧ ∀ i, i < L.length → ∃ A' c', w.cell? ⟨b, o + i * 3, none⟩ = some (.int .i64 (L.getD i (0, 0, [])).1) ∧ w.cell? ⟨b, o + i * 3 + 1, none⟩ = some (.int .i64 (L.getD i (0, 0, [])).2.1) ∧
    w.cell? ⟨b, o + i * 3 + 2, none⟩ = some (.slice A' (L.getD i (0, 0, [])).2.2.length c') ∧ ShowsI w A' (L.getD i (0, 0, [])).2.2 ∧ (L.getD i (0, 0, [])).2.2.length ≤ c' ∧ c' ≤ maxLen
theorem ShowsS.below {w w' : World} {A : Option Addr} {L : List Stpp} (h : ShowsS w A L) (hb : Below w.heap.size w w') : ShowsS w' A L := by
  intro h0
  obtain ⟨b, o, e, hlt, hc⟩ := h h0
  refine ⟨b, o, e, Nat.lt_of_lt_of_le hlt hb.size, fun i hi => ?_⟩
  obtain ⟨A', c', h1, h2, h3, h4, h5⟩ := hc i hi
  exact ⟨A', c', by rw [hb.cell (p := ⟨b, o + i * 3, none⟩) hlt]; exact h1, by rw [hb.cell (p := ⟨b, o + i * 3 + 1, none⟩) hlt]; exact h2, by rw [hb.cell (p := ⟨b, o + i * 3 + 2, none⟩) hlt]; exact h3, h4.below hb, h5⟩
/-- the numbers of steps -/
def nums (L : List Stpp) : List Int := L.map fun s => s.1
theorem nums_get {L : List Stpp} {i : Nat} (h : i < L.length) : (nums L).getD i 0 = (L.getD i (0, 0, [])).1 := by
  unfold nums
  rw [List.getD_eq_getElem?_getD, List.getElem?_map, List.getElem?_eq_getElem h, List.getD_eq_getElem?_getD, List.getElem?_eq_getElem h]; rfl

theorem mem_take_step (q : Int) {l : List Int} {t : Nat} (h : t < l.length) : q ∈ l.take (t + 1) ↔ q ∈ l.take t ∨ l.getD t 0 = q := by
  rw [List.take_add_one, List.getElem?_eq_getElem h, List.mem_append, List.getD_eq_getElem?_getD, List.getElem?_eq_getElem h]
  simp [eq_comm]
/-- primes that are taken out leave the others in -/
theorem restL_dvd {q : Int} (hq : IsP q.toNat) : ∀ (l : List Int) (m : Int), 1 ≤ m → (∀ x ∈ l, IsP x.toNat ∧ x ≠ q) → (q ∣ restL m l ↔ q ∣ m)
  | [], _, _, _ => Iff.rfl
  | x :: l, m, hm, hl => by
    obtain ⟨h1, h2⟩ := hl x (by simp)
    have x2 := h1.1
    have hr := rest_le (p := x) (by omega) hm
    have ih := restL_dvd hq l (rest x m) hr.1 (fun y hy => hl y (by simp [hy]))
    show q ∣ restL (rest x m) l ↔ q ∣ m
    rw [ih]
    have he := eq_pow_rest (p := x) (by omega) (show m ≠ 0 by omega)
    have q2 := hq.1
    obtain ⟨Q, rfl⟩ : ∃ Q : Nat, q = (Q : Int) := ⟨q.toNat, by omega⟩
    constructor
    · intro h
      exact Int.dvd_trans h (rest_dvd_self (by omega) (by omega))
    · intro h
      rw [he] at h
      rw [Int.toNat_natCast] at hq
      rcases hq.idvd_mul h with g | g
      · have g2 := hq.idvd_pow g
        exfalso
        have : Q ∣ x.toNat := by
          have := Int.natAbs_dvd_natAbs.2 g2
          rwa [Int.natAbs_natCast, show x.natAbs = x.toNat by omega] at this
        have := hq.eq_of_dvd h1 this
        omega
      · exact g
/-- ascending so far -/
theorem okAt_asc {S : List Int} {m : Int} {qs : List Int} {k : Nat} (h : ∀ j, j < k → okAt S m qs j) : ∀ d i, i + d + 1 < k → qs.getD i 0 < qs.getD (i + d + 1) 0
  | 0, i, hi => by have := (h (i + 1) hi).2.1 (by omega); simpa using this
  | d + 1, i, hi => by
    have h1 := okAt_asc h d i (by omega)
    have h2 := (h (i + (d + 1) + 1) hi).2.1 (by omega)
    have : i + (d + 1) + 1 - 1 = i + d + 1 := by omega
    rw [this] at h2
    omega
/-- the k-th prime divides what is left just if it divides the number -/
theorem left_dvd {S : List Int} {m : Int} {qs : List Int} {k : Nat} (hm : 1 ≤ m) (hk : k < qs.length) (hS : ∀ x ∈ S, IsP x.toNat) (h : ∀ j, j < k → okAt S m qs j) (hq : qs.getD k 0 ∈ S) (hlt : 0 < k → qs.getD (k - 1) 0 < qs.getD k 0) :
    restL m (qs.take k) % qs.getD k 0 = 0 ↔ m % qs.getD k 0 = 0 := by
  have hp := hS _ hq
  have key := restL_dvd hp (qs.take k) m hm (fun x hx => by
    obtain ⟨j, hj, he⟩ := List.mem_iff_getElem.1 hx
    have hjk : j < k := by simp at hj; omega
    have hxe : x = qs.getD j 0 := by
      rw [← he, List.getElem_take, List.getD_eq_getElem?_getD, List.getElem?_eq_getElem (by omega)]; rfl
    refine ⟨by rw [hxe]; exact hS _ (h j hjk).1, ?_⟩
    rw [hxe]
    have h1 := hlt (by omega)
    by_cases hj1 : j = k - 1
    · rw [hj1]; omega
    · have := okAt_asc h (k - 1 - j - 1) j (by omega)
      rw [show j + (k - 1 - j - 1) + 1 = k - 1 by omega] at this
      omega)
  rw [← Int.dvd_iff_emod_eq_zero, ← Int.dvd_iff_emod_eq_zero]
  exact key
set_option maxRecDepth 100000 in
set_option maxHeartbeats 4000000 in
theorem right_any (A A2 : Option Addr) (qs : List Int) (B : List Stpp) (c c2 : Nat) (N R : Int) (w : World) (hs : ShowsI w A qs) (hl : qs.length ≤ maxLen) (hB : ShowsS w A2 B) (hBl : B.length ≤ maxLen) (hS2 : ∀ x ∈ nums B, IsP x.toNat ∧ x ≤ 1000000000)
    (hN : I64 N) (hR : I64 R) (hq : ∀ j, j < qs.length → I64 (qs.getD j 0)) :
    Calls Try.prog 65 #[.agg #[.int .i64 N, .int .i64 R, .slice A qs.length c], .slice A2 B.length c2] w (CksPost w (nums B) N R qs) := by
  obtain ⟨l, hl'⟩ : ∃ l, qs.length = l := ⟨_, rfl⟩
  obtain ⟨lB, hlB⟩ : ∃ lB, B.length = lB := ⟨_, rfl⟩
  have HLn := Lib.hid hl'; have HLB := Lib.hid hlB
  have HQ := Lib.hid hq; have HS2 := Lib.hid hS2
  have hW1 := Lib.hid (fun w => rWithin_any N 2 1000000000 w)
  have hW2 := Lib.hid (fun w => rWithin_any R 1 (N - 1) w)
  obtain ⟨N1, N2⟩ := hN
  unfold maxLen at hl hBl
  have HS0 := Lib.hid (hs.alloc (.cells #[.int .i64 N, .int .i64 R, .slice A l c] 48))
  have HBk := Lib.hid (hB.below ((Below.refl w.heap.size w).alloc (Nat.le_refl _) (.cells #[.int .i64 N, .int .i64 R, .slice A l c] 48)))
  rw [hl'] at hl ⊢
  rw [hlB] at hBl ⊢
  clear hs hB hS2 hq hl' hlB
  cases c1 : winB N 2 1000000000
  · have HF := Lib.hid (show (false = true ↔ stepOk (nums B) N R qs) from ⟨(fun h => by cases h), (fun h => absurd ⟨h.1.1, h.1.2.1⟩ (winB_false.1 c1))⟩)
    rw [c1] at hW1
    clear c1
    go_enter Try.func65, Try.ntmps65
    go_wp2_with fail
    refine (hW1.out _).mono ?_
    rintro e w' ⟨rfl, n1, rfl⟩
    go_wp2_with fail
    go_ret
    exact ⟨false, rfl, HF.out, below_drewN ((Below.refl _ _).alloc (Nat.le_refl _) _) _⟩
  obtain ⟨h1, h2⟩ := winB_iff.1 c1
  rw [c1] at hW1
  clear c1 N1 N2
  cases c2 : winB R 1 (N - 1)
  · have HF := Lib.hid (show (false = true ↔ stepOk (nums B) N R qs) from ⟨(fun h => by cases h), (fun h => absurd ⟨h.1.2.2.1, h.1.2.2.2⟩ (winB_false.1 c2))⟩)
    rw [c2] at hW2
    clear c2
    go_enter Try.func65, Try.ntmps65
    go_wp2_with fail
    refine (hW1.out _).mono ?_
    rintro e w' ⟨rfl, n1, rfl⟩
    go_wp2_with fail
    refine (hW2.out _).mono ?_
    rintro e w' ⟨rfl, n2, rfl⟩
    go_wp2_with fail
    go_ret
    exact ⟨false, rfl, HF.out, below_drewN ((Below.refl _ _).alloc (Nat.le_refl _) _) _⟩
  obtain ⟨h3, h4⟩ := winB_iff.1 c2
  rw [c2] at hW2
  clear c2
  have HPr := Lib.hid (fun (w : World) (h : ShowsI w A qs) hq1 => rPrimitive_any A qs c R N w h hR h1 h2 hq1 (by rw [HLn.out]; unfold maxLen; omega))
  rw [HLn.out] at HPr
  go_enter Try.func65, Try.ntmps65
  go_wp2_with fail
  refine (hW1.out _).mono ?_
  rintro e w' ⟨rfl, n1, rfl⟩
  go_wp2_with fail
  refine (hW2.out _).mono ?_
  rintro e w' ⟨rfl, n2, rfl⟩
  go_wp2_with fail
  obtain ⟨W0, hW0⟩ : ∃ W0, w.alloc (.cells #[.int .i64 N, .int .i64 R, .slice A l c] 48) = W0 := ⟨_, rfl⟩
  have HB0 := Lib.hid (show Below w.heap.size w W0 by rw [← hW0]; exact (Below.refl _ _).alloc (Nat.le_refl _) _)
  have e0 : W0.cell? ⟨w.heap.size, 0, none⟩ = some (.int .i64 N) := by rw [← hW0]; simp [go_sem]
  have e1 : W0.cell? ⟨w.heap.size, 1, none⟩ = some (.int .i64 R) := by rw [← hW0]; simp [go_sem]
  have e2 : W0.cell? ⟨w.heap.size, 2, none⟩ = some (.slice A l c) := by rw [← hW0]; simp [go_sem]
  rw [hW0] at HBk HS0 ⊢
  clear hW0 hW1 hW2
  go_loopw [5, 6, 7, 8, 9] (fun s5 s6 _ _ _ wr => ∃ k : Nat, s6 = .int .i64 k ∧ k ≤ l ∧ (∀ j, j < k → okAt (nums B) (N - 1) qs j) ∧ s5 = .int .i64 (restL (N - 1) (qs.take k)) ∧ 1 ≤ restL (N - 1) (qs.take k) ∧ restL (N - 1) (qs.take k) ≤ N - 1 ∧ ∃ m, wr = W0.drewN m) (fun _ s _ _ _ _ => l - (intOf s).toNat)
  case atStart => exact ⟨0, rfl, Nat.zero_le _, (fun j hj => absurd hj (by omega)), rfl, by show 1 ≤ N - 1; omega, Int.le_refl _, _, rfl⟩
  case round =>
    obtain ⟨k, rfl, hk, hd0, rfl, r1, r2, m, rfl⟩ := hrel
    have HD := Lib.hid hd0
    clear hd0
    by_cases h0 : k < l
    · obtain ⟨bb, o1, rfl, hb1, hcell⟩ := HS0.out (by rw [HLn.out]; omega)
      have x1 := hcell k (by rw [HLn.out]; omega)
      have hI := HQ.out k (by rw [HLn.out]; omega)
      have HTk := Lib.hid (restL_take (N - 1) (show k < qs.length by rw [HLn.out]; exact h0))
      have hLd := fun hlt hmem => left_dvd (S := nums B) (qs := qs) (k := k) (m := N - 1) (by omega) (by rw [HLn.out]; exact h0) (fun x hx => (HS2.out x hx).1) HD.out hmem hlt
      obtain ⟨q, hqe⟩ : ∃ q, qs.getD k 0 = q := ⟨_, rfl⟩
      rw [hqe] at x1 hI HTk hLd
      have HE := Lib.hid (show okAt (nums B) (N - 1) qs k ↔ q ∈ nums B ∧ (0 < k → qs.getD (k - 1) 0 < q) ∧ (N - 1) % q = 0 by unfold okAt; rw [hqe])
      obtain ⟨r, hr⟩ : ∃ r, restL (N - 1) (qs.take k) = r := ⟨_, rfl⟩
      rw [hr] at r1 r2 HTk hLd ⊢
      clear hqe hr
      by_cases hk0 : 0 < k
      · have x0 := hcell (k - 1) (by rw [HLn.out]; omega)
        obtain ⟨p, hp⟩ : ∃ p, qs.getD (k - 1) 0 = p := ⟨_, rfl⟩
        rw [hp] at x0 HE hLd
        clear hp hcell
        have dk : decide ((0 : Int) < (k : Int)) = true := decide_eq_true (by omega)
        by_cases hpq : q ≤ p
        · have HF := Lib.hid (show (false = true ↔ stepOk (nums B) N R qs) from ⟨(fun h => by cases h), (fun h => by have := (HE.out.1 (h.2.1 k (by rw [HLn.out]; exact h0))).2.1 hk0; omega)⟩)
          clear hLd HPr
          go_wp2_with fail
          go_ret
          exact ⟨false, rfl, HF.out, below_drewN HB0.out _⟩
        · have hpq' : p < q := by omega
          have HLd0 := Lib.hid (hLd (fun _ => hpq'))
          clear hLd
          go_wp2_with fail
          go_loop [8, 9] (fun s8 s9 => ∃ (f : Bool) (t : Nat), s8 = .bool f ∧ s9 = .int .i64 t ∧ t ≤ lB ∧ (f = true ↔ q ∈ (nums B).take t)) (fun _ s => lB - (intOf s).toNat)
          case atStart => exact ⟨false, 0, rfl, rfl, Nat.zero_le _, by simp⟩
          case round =>
            obtain ⟨f, t, rfl, rfl, ht, hf⟩ := hrel
            have HFt := Lib.hid hf
            clear hf
            by_cases h0t : t < lB
            · obtain ⟨b2, o2, rfl, hb2, hcell2⟩ := HBk.out (by rw [HLB.out]; omega)
              obtain ⟨-, -, y1, -⟩ := hcell2 t (by rw [HLB.out]; omega)
              rw [← nums_get (show t < B.length by rw [HLB.out]; omega)] at y1
              have HTt := Lib.hid (mem_take_step q (show t < (nums B).length by unfold nums; rw [List.length_map, HLB.out]; omega))
              clear hcell2
              generalize (nums B).getD t 0 = z at *
              cases f
              · by_cases hz : z = q
                · have HN := Lib.hid (show (true = true ↔ q ∈ (nums B).take (t + 1)) from ⟨fun _ => HTt.out.2 (.inr hz), fun _ => rfl⟩)
                  have dz := t_beq hz
                  clear hz HTt HFt
                  go_wp2_with fail
                  exact ⟨⟨true, t + 1, rfl, by go_num, by omega, HN.out⟩, by simp [intOf]; omega⟩
                · have HN := Lib.hid (show (false = true ↔ q ∈ (nums B).take (t + 1)) from ⟨(fun h => by cases h), (fun h => by rcases HTt.out.1 h with g | g; exact HFt.out.2 g; exact absurd g hz)⟩)
                  have dz := f_beq hz
                  clear hz HTt HFt
                  go_wp2_with fail
                  exact ⟨⟨false, t + 1, rfl, by go_num, by omega, HN.out⟩, by simp [intOf]; omega⟩
              · have HN := Lib.hid (show (true = true ↔ q ∈ (nums B).take (t + 1)) from ⟨fun _ => HTt.out.2 (.inl (HFt.out.1 rfl)), fun _ => rfl⟩)
                clear HTt HFt
                go_wp2_with fail
                exact ⟨⟨true, t + 1, rfl, by go_num, by omega, HN.out⟩, by simp [intOf]; omega⟩
            · obtain rfl : t = lB := by omega
              have HFn := Lib.hid (show (f = true ↔ q ∈ nums B) by have h := HFt.out; rwa [show (nums B).take t = nums B by rw [← HLB.out]; unfold nums; rw [← List.length_map (f := fun s : Stpp => s.1), List.take_length]] at h)
              clear HFt
              cases f
              · have HF := Lib.hid (show (false = true ↔ stepOk (nums B) N R qs) from ⟨(fun h => by cases h), (fun h => HFn.out.2 (HE.out.1 (h.2.1 k (by rw [HLn.out]; exact h0))).1)⟩)
                clear HFn HQ HPr
                go_wp2_with fail
                go_ret
                exact ⟨false, rfl, HF.out, below_drewN HB0.out _⟩
              · have hm := HFn.out.1 rfl
                obtain ⟨q2', q3⟩ := HS2.out q hm
                have q2 : 2 ≤ q := by have := q2'.1; omega
                have HLd := Lib.hid (HLd0.out hm)
                clear HFn
                by_cases hd : r % q = 0
                · have HNx := Lib.hid (show ∀ j, j < k + 1 → okAt (nums B) (N - 1) qs j from okAt_step HD.out (HE.out.2 ⟨hm, fun _ => hpq', HLd.out.1 hd⟩))
                  have hd1 := bne_zero hd
                  obtain ⟨t1, t2⟩ := rest_le (p := q) q2 r1
                  have HRt := Lib.hid (show restL (N - 1) (qs.take (k + 1)) = rest q r by rw [HTk.out])
                  clear hd HPr HTk HLd HLd0
                  go_wp2_with fail
                  go_loop [5] (fun s5 => ∃ y : Int, s5 = .int .i64 y ∧ 1 ≤ y ∧ y ≤ r ∧ rest q y = rest q r) (fun s => (intOf s).toNat)
                  case atStart => exact ⟨r, rfl, r1, Int.le_refl _, rfl⟩
                  case round =>
                    obtain ⟨y, rfl, y1, y2, hy⟩ := hrel
                    have HY := Lib.hid hy
                    clear hy
                    by_cases hyd : y % q = 0
                    · have hdv := Int.dvd_of_emod_eq_zero hyd
                      have HY2 := Lib.hid (show rest q (y / q) = rest q r by rw [← rest_dvd q2 (by omega) hdv]; exact HY.out)
                      have z1 : 1 ≤ y / q := by
                        have h1 := Int.ediv_mul_cancel hdv
                        have h2 := Int.le_of_dvd (by omega) hdv
                        exact (Int.le_ediv_iff_mul_le (by omega)).2 (by omega)
                      have z2 : y / q < y := Int.ediv_lt_self_of_pos_of_ne_one (by omega) (by omega)
                      have dd := t_beq hyd
                      clear hyd hdv HY
                      go_wp2_with fail
                      exact ⟨⟨y / q, rfl, z1, by omega, HY2.out⟩, by show (y / q).toNat < y.toNat; omega⟩
                    · have hyr := Lib.hid (show y = rest q r by rw [← HY.out, rest_not (fun h => hyd (Int.emod_eq_zero_of_dvd h))])
                      have dd := f_beq hyd
                      clear hyd HY
                      go_wp2_with fail
                      exact ⟨⟨k + 1, by go_num, by omega, HNx.out, by rw [HRt.out, ← hyr.out], by rw [HRt.out]; exact t1, by rw [HRt.out]; omega, _, rfl⟩, by simp [intOf]; omega⟩
                · have HF := Lib.hid (show (false = true ↔ stepOk (nums B) N R qs) from ⟨(fun h => by cases h), (fun h => absurd (HLd.out.2 (HE.out.1 (h.2.1 k (by rw [HLn.out]; exact h0))).2.2) hd)⟩)
                  have hd1 := bne_nonzero hd
                  clear hd HPr
                  go_wp2_with fail
                  go_ret
                  exact ⟨false, rfl, HF.out, below_drewN HB0.out _⟩
      · obtain rfl : k = 0 := by omega
        rw [Nat.add_zero] at x1
        have HLd0 := Lib.hid (hLd (fun h => absurd h (by omega)))
        clear hLd hcell
        go_wp2_with fail
        go_loop [8, 9] (fun s8 s9 => ∃ (f : Bool) (t : Nat), s8 = .bool f ∧ s9 = .int .i64 t ∧ t ≤ lB ∧ (f = true ↔ q ∈ (nums B).take t)) (fun _ s => lB - (intOf s).toNat)
        case atStart => exact ⟨false, 0, rfl, rfl, Nat.zero_le _, by simp⟩
        case round =>
          obtain ⟨f, t, rfl, rfl, ht, hf⟩ := hrel
          have HFt := Lib.hid hf
          clear hf
          by_cases h0t : t < lB
          · obtain ⟨b2, o2, rfl, hb2, hcell2⟩ := HBk.out (by rw [HLB.out]; omega)
            obtain ⟨-, -, y1, -⟩ := hcell2 t (by rw [HLB.out]; omega)
            rw [← nums_get (show t < B.length by rw [HLB.out]; omega)] at y1
            have HTt := Lib.hid (mem_take_step q (show t < (nums B).length by unfold nums; rw [List.length_map, HLB.out]; omega))
            clear hcell2
            generalize (nums B).getD t 0 = z at *
            cases f
            · by_cases hz : z = q
              · have HN := Lib.hid (show (true = true ↔ q ∈ (nums B).take (t + 1)) from ⟨fun _ => HTt.out.2 (.inr hz), fun _ => rfl⟩)
                have dz := t_beq hz
                clear hz HTt HFt
                go_wp2_with fail
                exact ⟨⟨true, t + 1, rfl, by go_num, by omega, HN.out⟩, by simp [intOf]; omega⟩
              · have HN := Lib.hid (show (false = true ↔ q ∈ (nums B).take (t + 1)) from ⟨(fun h => by cases h), (fun h => by rcases HTt.out.1 h with g | g; exact HFt.out.2 g; exact absurd g hz)⟩)
                have dz := f_beq hz
                clear hz HTt HFt
                go_wp2_with fail
                exact ⟨⟨false, t + 1, rfl, by go_num, by omega, HN.out⟩, by simp [intOf]; omega⟩
            · have HN := Lib.hid (show (true = true ↔ q ∈ (nums B).take (t + 1)) from ⟨fun _ => HTt.out.2 (.inl (HFt.out.1 rfl)), fun _ => rfl⟩)
              clear HTt HFt
              go_wp2_with fail
              exact ⟨⟨true, t + 1, rfl, by go_num, by omega, HN.out⟩, by simp [intOf]; omega⟩
          · obtain rfl : t = lB := by omega
            have HFn := Lib.hid (show (f = true ↔ q ∈ nums B) by have h := HFt.out; rwa [show (nums B).take t = nums B by rw [← HLB.out]; unfold nums; rw [← List.length_map (f := fun s : Stpp => s.1), List.take_length]] at h)
            clear HFt
            cases f
            · have HF := Lib.hid (show (false = true ↔ stepOk (nums B) N R qs) from ⟨(fun h => by cases h), (fun h => HFn.out.2 (HE.out.1 (h.2.1 0 (by rw [HLn.out]; exact h0))).1)⟩)
              clear HFn HQ HPr
              go_wp2_with fail
              go_ret
              exact ⟨false, rfl, HF.out, below_drewN HB0.out _⟩
            · have hm := HFn.out.1 rfl
              obtain ⟨q2', q3⟩ := HS2.out q hm
              have q2 : 2 ≤ q := by have := q2'.1; omega
              have HLd := Lib.hid (HLd0.out hm)
              clear HFn
              by_cases hd : r % q = 0
              · have HNx := Lib.hid (show ∀ j, j < 0 + 1 → okAt (nums B) (N - 1) qs j from okAt_step HD.out (HE.out.2 ⟨hm, fun h => absurd h (by omega), HLd.out.1 hd⟩))
                have hd1 := bne_zero hd
                obtain ⟨t1, t2⟩ := rest_le (p := q) q2 r1
                have HRt := Lib.hid (show restL (N - 1) (qs.take (0 + 1)) = rest q r by rw [HTk.out])
                clear hd HPr HTk HLd HLd0
                go_wp2_with fail
                go_loop [5] (fun s5 => ∃ y : Int, s5 = .int .i64 y ∧ 1 ≤ y ∧ y ≤ r ∧ rest q y = rest q r) (fun s => (intOf s).toNat)
                case atStart => exact ⟨r, rfl, r1, Int.le_refl _, rfl⟩
                case round =>
                  obtain ⟨y, rfl, y1, y2, hy⟩ := hrel
                  have HY := Lib.hid hy
                  clear hy
                  by_cases hyd : y % q = 0
                  · have hdv := Int.dvd_of_emod_eq_zero hyd
                    have HY2 := Lib.hid (show rest q (y / q) = rest q r by rw [← rest_dvd q2 (by omega) hdv]; exact HY.out)
                    have z1 : 1 ≤ y / q := by
                      have h1 := Int.ediv_mul_cancel hdv
                      have h2 := Int.le_of_dvd (by omega) hdv
                      exact (Int.le_ediv_iff_mul_le (by omega)).2 (by omega)
                    have z2 : y / q < y := Int.ediv_lt_self_of_pos_of_ne_one (by omega) (by omega)
                    have dd := t_beq hyd
                    clear hyd hdv HY
                    go_wp2_with fail
                    exact ⟨⟨y / q, rfl, z1, by omega, HY2.out⟩, by show (y / q).toNat < y.toNat; omega⟩
                  · have hyr := Lib.hid (show y = rest q r by rw [← HY.out, rest_not (fun h => hyd (Int.emod_eq_zero_of_dvd h))])
                    have dd := f_beq hyd
                    clear hyd HY
                    go_wp2_with fail
                    exact ⟨⟨0 + 1, by go_num, by omega, HNx.out, by rw [HRt.out, ← hyr.out], by rw [HRt.out]; exact t1, by rw [HRt.out]; omega, _, rfl⟩, by simp [intOf]; omega⟩
              · have HF := Lib.hid (show (false = true ↔ stepOk (nums B) N R qs) from ⟨(fun h => by cases h), (fun h => absurd (HLd.out.2 (HE.out.1 (h.2.1 0 (by rw [HLn.out]; exact h0))).2.2) hd)⟩)
                have hd1 := bne_nonzero hd
                clear hd HPr
                go_wp2_with fail
                go_ret
                exact ⟨false, rfl, HF.out, below_drewN HB0.out _⟩
    · obtain rfl : k = l := by omega
      have HTl := Lib.hid (show qs.take k = qs by rw [← HLn.out, List.take_length])
      rw [HTl.out] at r1 r2 ⊢
      have HD2 := Lib.hid (show ∀ j, j < qs.length → okAt (nums B) (N - 1) qs j by rw [HLn.out]; exact HD.out)
      clear HD
      obtain ⟨r, hr⟩ : ∃ r, restL (N - 1) qs = r := ⟨_, rfl⟩
      have HR1 := Lib.hid hr
      rw [hr] at r1 r2 ⊢
      clear hr
      by_cases hr1 : r = 1
      · have dr := t_beq hr1
        have hq1 : ∀ i, i < qs.length → 1 ≤ qs.getD i 0 ∧ qs.getD i 0 ≤ 9223372036854775807 := fun i hi => by
          have h5 := HS2.out _ (HD2.out i hi).1
          have := h5.1.1
          omega
        have HG1 := Lib.hid (HPr.out (W0.drewN m) (HS0.out.drewN m) (by rw [← HLn.out]; exact hq1))
        have HF := Lib.hid (fun V (hV : ((R ^ (N - 1).toNat % N == 1) && genB R N qs) = V) => (show (V = true ↔ stepOk (nums B) N R qs) by
          subst hV
          rw [Bool.and_eq_true, beq_iff_eq]
          exact ⟨(fun h => ⟨⟨h1, h2, h3, h4⟩, HD2.out, by rw [HR1.out]; exact hr1, h.1, h.2⟩), (fun h => h.2.2.2)⟩))
        obtain ⟨V, hV⟩ : ∃ V, ((R ^ (N - 1).toNat % N == 1) && genB R N qs) = V := ⟨_, rfl⟩
        rw [hV] at HG1
        have HFB := Lib.hid (HF.out V hV)
        clear hV HF hr1 hq1 HPr HTl
        go_wp2_with fail
        refine HG1.out.mono ?_
        rintro e w3 ⟨rfl, n3, rfl⟩
        clear HG1
        go_wp2_with fail
        go_ret
        exact ⟨V, rfl, HFB.out, below_drewN HB0.out _⟩
      · have dr := f_beq hr1
        have HF := Lib.hid (show (false = true ↔ stepOk (nums B) N R qs) from ⟨(fun h => by cases h), (fun h => absurd (by have := h.2.2.1; rw [HR1.out] at this; exact this) hr1)⟩)
        clear hr1 HTl HPr
        go_wp2_with fail
        go_ret
        exact ⟨false, rfl, HF.out, below_drewN HB0.out _⟩
end Go.Proofs.Ytfjmhfmhijhpkaa
