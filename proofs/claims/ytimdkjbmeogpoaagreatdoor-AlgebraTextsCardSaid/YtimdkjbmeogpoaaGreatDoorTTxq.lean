/- Texts of elements: what is written, and how the program and the reference read it again. -/
import Derived.Test.YtimdkjbmeogpoaaGreatDoorTQn0
import Derived.Test.YtimdkjbmeogpoaaGreatDoorTDec
import Derived.Lib.IndexMore
import Derived.Lib.Atoi
namespace FF
open Go Go.Lib
def ltr (i : Nat) : List UInt8 := match i with | 0 => [] | 1 => [105] | 2 => [106] | _ => [107]
def setP (q : Qt) (i : Nat) (n : Int) : Qt := match i with | 0 => { q with w := n } | 1 => { q with x := n } | 2 => { q with y := n } | _ => { q with z := n }
def bodyT (n : Int) (i : Nat) : List UInt8 := (if i = 0 ∨ n.natAbs ≠ 1 then decDigits n.natAbs else []) ++ ltr i
def sepT (n : Int) : List UInt8 := if n < 0 then [32, 45, 32] else [32, 43, 32]
def trm (s : List UInt8) (n : Int) (i : Nat) : List UInt8 := if n = 0 then s else s ++ ((if s = [] then (if n < 0 then [45] else []) else sepT n) ++ bodyT n i)
def txtC (q : Qt) : List UInt8 := trm (trm (trm (trm [] q.w 0) q.x 1) q.y 2) q.z 3
def txt0 (q : Qt) : List UInt8 := if txtC q = [] then [48] else txtC q
def fmtN (q : Qt) : List UInt8 := if q.d = 1 then txt0 q else [40] ++ txt0 q ++ [41, 47] ++ decDigits q.d.natAbs
def fmtQ (q : Qt) : List UInt8 := fmtN (nrm q)
def tailT : List (Int × Nat) → List UInt8
  | [] => []
  | (n, i) :: l => sepT n ++ (bodyT n i ++ tailT l)
def headT : List (Int × Nat) → List UInt8
  | [] => []
  | (n, i) :: l => (if n < 0 then [45] else []) ++ (bodyT n i ++ tailT l)
def coP (q : Qt) : List (Int × Nat) := [(q.w, 0), (q.x, 1), (q.y, 2), (q.z, 3)].filter fun p => p.1 ≠ 0
theorem dec_ne (m : Nat) : decDigits m ≠ [] := fun e => by
  have := dec_pos m
  rw [e] at this; simp at this
theorem bodyT_ne (n : Int) (i : Nat) : bodyT n i ≠ [] := by
  unfold bodyT
  by_cases h : i = 0
  · rw [if_pos (.inl h)]
    simp [dec_ne]
  · intro e
    have := (List.append_eq_nil_iff.1 e).2
    match i, h, this with
    | 1, _, h => cases h
    | 2, _, h => cases h
    | k + 3, _, h => cases h
theorem headT_nil {l : List (Int × Nat)} : headT l = [] ↔ l = [] := by
  cases l with
  | nil => simp [headT]
  | cons p l =>
    obtain ⟨n, i⟩ := p
    simp [headT, bodyT_ne]
theorem tailT_app (l m : List (Int × Nat)) : tailT (l ++ m) = tailT l ++ tailT m := by
  induction l with
  | nil => rfl
  | cons p l ih => obtain ⟨n, i⟩ := p; simp [tailT, ih]
theorem trm_head (l : List (Int × Nat)) (n : Int) (i : Nat) : trm (headT l) n i = headT (l ++ [(n, i)].filter fun p => p.1 ≠ 0) := by
  unfold trm
  by_cases h : n = 0
  · rw [if_pos h, h]; simp
  · rw [if_neg h, show ([(n, i)].filter fun p => p.1 ≠ 0) = [(n, i)] by simp [h]]
    cases l with
    | nil => simp [headT, tailT]
    | cons p l =>
      rw [if_neg (fun e => by have := headT_nil.1 e; cases this)]
      obtain ⟨m, j⟩ := p
      simp [headT, tailT_app, tailT]
theorem txtC_head (q : Qt) : txtC q = headT (coP q) := by
  unfold txtC
  rw [show ([] : List UInt8) = headT [] from rfl, trm_head, trm_head, trm_head, trm_head]
  by_cases h1 : q.w = 0 <;> by_cases h2 : q.x = 0 <;> by_cases h3 : q.y = 0 <;> by_cases h4 : q.z = 0 <;> simp [coP, h1, h2, h3, h4]
def putL (q : Qt) (l : List (Int × Nat)) : Qt := l.foldl (fun c p => setP c p.2 p.1) q
theorem putL_co (q : Qt) : putL ⟨0, 0, 0, 0, q.d⟩ (coP q) = q := by
  obtain ⟨w, x, y, z, d⟩ := q
  by_cases h1 : w = 0 <;> by_cases h2 : x = 0 <;> by_cases h3 : y = 0 <;> by_cases h4 : z = 0 <;> simp [coP, putL, setP, h1, h2, h3, h4]
def Good (p : Int × Nat) : Prop := p.1 ≠ 0 ∧ (-1000000 ≤ p.1 ∧ p.1 ≤ 1000000) ∧ p.2 ≤ 3
theorem coP_good {q : Qt} (h : qB q = true) : ∀ p ∈ coP q, Good p := by
  obtain ⟨h1, h2, h3, h4, -⟩ := qB_iff.1 h
  intro p hp
  obtain ⟨hp, hn⟩ := List.mem_filter.1 hp
  have hn : p.1 ≠ 0 := by simpa using hn
  simp only [List.mem_cons, List.not_mem_nil, or_false] at hp
  rcases hp with rfl | rfl | rfl | rfl
  · exact ⟨hn, h1, by simp⟩
  · exact ⟨hn, h2, by simp⟩
  · exact ⟨hn, h3, by simp⟩
  · exact ⟨hn, h4, by simp⟩
def tch (c : UInt8) : Bool := isDig c || (c == 105 || c == 106 || c == 107)
theorem bodyT_ch (n : Int) (i : Nat) : ∀ c ∈ bodyT n i, tch c = true := by
  intro c hc
  unfold bodyT at hc
  rcases List.mem_append.1 hc with hc | hc
  · split at hc
    · unfold tch; rw [dec_dig _ c hc]; rfl
    · cases hc
  · match i, hc with
    | 0, hc => cases hc
    | 1, hc => cases List.mem_singleton.1 hc; rfl
    | 2, hc => cases List.mem_singleton.1 hc; rfl
    | k + 3, hc => cases List.mem_singleton.1 hc; rfl
theorem indexByte_app {l : List UInt8} {c : UInt8} (h : ∀ x ∈ l, x ≠ c) (r : List UInt8) : indexByte (l ++ c :: r) c = l.length := by
  induction l with
  | nil => simp [indexByte]
  | cons b l ih =>
    have hb := h b (List.mem_cons_self ..)
    have := ih (fun x hx => h x (List.mem_cons_of_mem _ hx))
    simp only [List.cons_append, indexByte, this, beq_iff_eq, hb, if_false]
    rw [if_neg (by omega)]
    simp
theorem indexByte_none {l : List UInt8} {c : UInt8} (h : ∀ x ∈ l, x ≠ c) : indexByte l c = -1 := by
  induction l with
  | nil => rfl
  | cons b l ih =>
    have hb := h b (List.mem_cons_self ..)
    simp [indexByte, hb, ih (fun x hx => h x (List.mem_cons_of_mem _ hx))]
theorem tch_ne {c : UInt8} (h : tch c = true) : c ≠ 32 ∧ c ≠ 40 ∧ c ≠ 41 ∧ c ≠ 45 ∧ c ≠ 47 := by
  refine ⟨?_, ?_, ?_, ?_, ?_⟩ <;> (rintro rfl; revert h; decide)
def plcP (s : List UInt8) : Nat × List UInt8 := match s.getLast? with
  | some c => if c = 105 then (1, s.dropLast) else if c = 106 then (2, s.dropLast) else if c = 107 then (3, s.dropLast) else (0, s)
  | none => (0, s)
def numP (t : List UInt8) : Int := if t = [] then 1 else (atoi t).getD 0
def termP (c : Qt) (s : List UInt8) (sign : Int) : Qt := if (plcP s).2.length ≤ 7 then setP c (plcP s).1 (sign * numP (plcP s).2) else c
def runP : Nat → List UInt8 → Int → Qt → Qt
  | 0, _, _, c => c
  | f + 1, b, sign, c =>
    if indexByte b 32 < 0 then termP c b sign
    else
      let c' := termP c (b.take (indexByte b 32).toNat) sign
      let r := b.drop (indexByte b 32).toNat
      if hasPrefix r [32, 43, 32] then runP f (r.drop 3) 1 c' else if hasPrefix r [32, 45, 32] then runP f (r.drop 3) (-1) c' else c'
def sgn1 (n : Int) : Int := if n < 0 then -1 else 1
theorem sgn1_abs (n : Int) : sgn1 n * (n.natAbs : Int) = n := by unfold sgn1; split <;> omega
theorem decFrom_val : ∀ (l : List UInt8) (acc : Nat), (∀ c ∈ l, isDig c = true) → decFrom acc l = some (l.foldl (fun a c => 10 * a + (c.toNat - 48)) acc)
  | [], acc, _ => rfl
  | c :: l, acc, h => by
    have hc := h c (List.mem_cons_self ..)
    unfold isDig at hc
    simp only [Bool.and_eq_true, decide_eq_true_eq] at hc
    simp only [decFrom, digitVal, if_pos hc, List.foldl_cons]
    rw [decFrom_val l _ (fun x hx => h x (List.mem_cons_of_mem _ hx)), Nat.mul_comm]
theorem atoi_dec (m : Nat) : atoi (decDigits m) = some (m : Int) := by
  have h1 := decVal_dec m
  have h2 := decFrom_val (decDigits m) 0 (dec_dig m)
  cases hd : decDigits m with
  | nil => exact absurd hd (dec_ne m)
  | cons b r =>
    have hb := dec_dig m b (by rw [hd]; exact List.mem_cons_self ..)
    have e1 : (b == 45) = false := by rw [beq_eq_false_iff_ne]; rintro rfl; revert hb; decide
    have e2 : (b == 43) = false := by rw [beq_eq_false_iff_ne]; rintro rfl; revert hb; decide
    simp only [atoi, e1, e2, Bool.false_eq_true, if_false, decNat, List.isEmpty_cons]
    rw [← hd, h2]
    show some ((decVal (decDigits m) : Nat) : Int) = _
    rw [h1]
theorem plcP_dec {m : Nat} : plcP (decDigits m) = (0, decDigits m) := by
  unfold plcP
  cases h : (decDigits m).getLast? with
  | none => rfl
  | some c =>
    have := dec_dig m c (List.mem_of_getLast? h)
    have h1 : c ≠ 105 := by rintro rfl; revert this; decide
    have h2 : c ≠ 106 := by rintro rfl; revert this; decide
    have h3 : c ≠ 107 := by rintro rfl; revert this; decide
    simp [h1, h2, h3]
theorem plcP_body {n : Int} {i : Nat} (hi : i ≤ 3) : plcP (bodyT n i) = (i, if i = 0 ∨ n.natAbs ≠ 1 then decDigits n.natAbs else []) := by
  unfold bodyT
  match i, hi with
  | 0, _ => simpa [ltr] using plcP_dec (m := n.natAbs)
  | 1, _ => simp [plcP, ltr]
  | 2, _ => simp [plcP, ltr]
  | 3, _ => simp [plcP, ltr]
theorem termP_body {n : Int} {i : Nat} (h : Good (n, i)) (c : Qt) : termP c (bodyT n i) (sgn1 n) = setP c i n := by
  obtain ⟨h0, h1, h2⟩ := h
  simp only at h0 h1 h2
  unfold termP
  rw [plcP_body h2]
  by_cases hc : i = 0 ∨ n.natAbs ≠ 1
  · have hl := dec_len_le (k := 7) (n := n.natAbs) (by omega) (by omega)
    simp only [if_pos hc, if_pos hl, numP, if_neg (dec_ne _), atoi_dec, Option.getD_some, sgn1_abs]
  · have : n.natAbs = 1 := by omega
    have e := sgn1_abs n
    rw [this] at e
    simp only [if_neg hc, numP, if_true, List.length_nil, Nat.zero_le]
    rw [show sgn1 n * 1 = n by omega]
theorem runP_text : ∀ (l : List (Int × Nat)) (n : Int) (i : Nat) (f : Nat) (c : Qt), Good (n, i) → (∀ p ∈ l, Good p) → l.length < f → runP f (bodyT n i ++ tailT l) (sgn1 n) c = putL c ((n, i) :: l)
  | [], n, i, f + 1, c, h, _, _ => by
    have : indexByte (bodyT n i ++ tailT []) 32 = -1 := by
      simp only [tailT, List.append_nil]
      exact indexByte_none fun x hx => (tch_ne (bodyT_ch n i x hx)).1
    unfold runP
    rw [this, if_pos (by omega)]
    simp only [tailT, List.append_nil]
    exact termP_body h c
  | (m, j) :: l, n, i, f + 1, c, h, hl, hf => by
    have e : ∃ r, tailT ((m, j) :: l) = 32 :: r := by
      simp only [tailT, sepT]
      split <;> exact ⟨_, rfl⟩
    obtain ⟨r, hr⟩ := e
    have hidx : indexByte (bodyT n i ++ tailT ((m, j) :: l)) 32 = (bodyT n i).length := by
      rw [hr]
      exact indexByte_app (fun x hx => (tch_ne (bodyT_ch n i x hx)).1) r
    have hm := hl _ (List.mem_cons_self ..)
    have ih := runP_text l m j f (setP c i n) hm (fun p hp => hl p (List.mem_cons_of_mem _ hp)) (by simp at hf; omega)
    unfold runP
    rw [hidx, if_neg (by omega)]
    simp only [Int.toNat_natCast, List.take_left, List.drop_left, termP_body h]
    by_cases hs : m < 0
    · have e2 : tailT ((m, j) :: l) = 32 :: 45 :: 32 :: (bodyT m j ++ tailT l) := by simp [tailT, sepT, hs]
      rw [e2]
      have p1 : hasPrefix (32 :: 45 :: 32 :: (bodyT m j ++ tailT l)) [32, 43, 32] = false := by simp [hasPrefix, List.isPrefixOf]
      have p2 : hasPrefix (32 :: 45 :: 32 :: (bodyT m j ++ tailT l)) [32, 45, 32] = true := by simp [hasPrefix, List.isPrefixOf]
      rw [p1, p2]
      simp only [Bool.false_eq_true, if_false, if_true, List.drop_succ_cons, List.drop_zero]
      rw [show (-1 : Int) = sgn1 m by simp [sgn1, hs], ih]
      rfl
    · have e2 : tailT ((m, j) :: l) = 32 :: 43 :: 32 :: (bodyT m j ++ tailT l) := by simp [tailT, sepT, hs]
      rw [e2]
      have p1 : hasPrefix (32 :: 43 :: 32 :: (bodyT m j ++ tailT l)) [32, 43, 32] = true := by simp [hasPrefix, List.isPrefixOf]
      rw [p1]
      simp only [if_true, List.drop_succ_cons, List.drop_zero]
      rw [show (1 : Int) = sgn1 m by simp [sgn1, hs], ih]
      rfl
def bodyP (s : List UInt8) (c : Qt) : Qt := if hasPrefix s [45] then runP (s.length + 1) (trimPrefix s [45]) (-1) c else runP (s.length + 1) s 1 c
def candQ (s : List UInt8) : Qt :=
  if hasPrefix s [40] then
    let t := cut (trimPrefix s [40]) [41, 47]
    bodyP t.1 ⟨0, 0, 0, 0, if t.2.1.length ≤ 7 then (atoi t.2.1).getD 0 else 1⟩
  else bodyP s ⟨0, 0, 0, 0, 1⟩
theorem tailT_len (l : List (Int × Nat)) : l.length ≤ (tailT l).length := by
  induction l with
  | nil => simp
  | cons p l ih =>
    obtain ⟨n, i⟩ := p
    have : (sepT n).length = 3 := by unfold sepT; split <;> rfl
    simp [tailT]; omega
theorem bodyP_txt {q : Qt} (h : qB q = true) : bodyP (txt0 q) ⟨0, 0, 0, 0, q.d⟩ = q := by
  have hg := coP_good h
  have hp := putL_co q
  unfold txt0
  rw [txtC_head]
  cases hl : coP q with
  | nil =>
    rw [hl] at hp
    simp only [headT, if_true]
    rw [← hp]
    rfl
  | cons p l =>
    obtain ⟨n, i⟩ := p
    rw [hl] at hp hg
    rw [if_neg (fun e => by have := headT_nil.1 e; cases this)]
    have hn := hg _ (List.mem_cons_self ..)
    have hr := fun f hf => runP_text l n i f ⟨0, 0, 0, 0, q.d⟩ hn (fun p hp => hg p (List.mem_cons_of_mem _ hp)) hf
    have hlen := tailT_len l
    unfold bodyP
    by_cases hs : n < 0
    · have e : headT ((n, i) :: l) = 45 :: (bodyT n i ++ tailT l) := by simp [headT, hs]
      rw [e]
      have p1 : hasPrefix (45 :: (bodyT n i ++ tailT l)) [45] = true := by simp [hasPrefix, List.isPrefixOf]
      rw [if_pos p1]
      unfold trimPrefix
      rw [if_pos p1]
      have := hr ((45 :: (bodyT n i ++ tailT l)).length + 1) (by simp; omega)
      rw [show sgn1 n = -1 by simp [sgn1, hs]] at this
      simp only [List.length_cons, List.length_nil, Nat.zero_add, List.drop_succ_cons, List.drop_zero] at this ⊢
      rw [this]; exact hp
    · have e : headT ((n, i) :: l) = bodyT n i ++ tailT l := by simp [headT, hs]
      rw [e]
      have p1 : hasPrefix (bodyT n i ++ tailT l) [45] = false := by
        cases hb : bodyT n i with
        | nil => exact absurd hb (bodyT_ne n i)
        | cons c r =>
          have := (tch_ne (bodyT_ch n i c (by rw [hb]; exact List.mem_cons_self ..))).2.2.2.1
          simp [hasPrefix, List.isPrefixOf, Ne.symm this]
      rw [p1]
      have := hr ((bodyT n i ++ tailT l).length + 1) (by simp; omega)
      rw [show sgn1 n = 1 by simp [sgn1, hs]] at this
      simp only [Bool.false_eq_true, if_false]
      rw [this]; exact hp
def sch (c : UInt8) : Bool := tch c || (c == 32 || c == 43 || c == 45)
theorem headT_ch (l : List (Int × Nat)) : ∀ c ∈ headT l, sch c = true := by
  have ht : ∀ l : List (Int × Nat), ∀ c ∈ tailT l, sch c = true := by
    intro l
    induction l with
    | nil => intro c hc; cases hc
    | cons p l ih =>
      obtain ⟨n, i⟩ := p
      intro c hc
      simp only [tailT, List.mem_append] at hc
      rcases hc with hc | hc | hc
      · unfold sepT at hc
        split at hc <;> (simp only [List.mem_cons, List.not_mem_nil, or_false] at hc; rcases hc with rfl | rfl | rfl <;> rfl)
      · unfold sch; rw [bodyT_ch n i c hc]; rfl
      · exact ih c hc
  cases l with
  | nil => intro c hc; cases hc
  | cons p l =>
    obtain ⟨n, i⟩ := p
    intro c hc
    simp only [headT, List.mem_append] at hc
    rcases hc with hc | hc | hc
    · split at hc
      · cases List.mem_singleton.1 hc; rfl
      · cases hc
    · unfold sch; rw [bodyT_ch n i c hc]; rfl
    · exact ht l c hc
theorem txt0_ch (q : Qt) : ∀ c ∈ txt0 q, sch c = true := by
  unfold txt0
  split
  · intro c hc; cases List.mem_singleton.1 hc; rfl
  · rw [txtC_head]; exact headT_ch _
theorem sch_ne {c : UInt8} (h : sch c = true) : c ≠ 40 ∧ c ≠ 41 ∧ c ≠ 47 := by
  refine ⟨?_, ?_, ?_⟩ <;> (rintro rfl; revert h; decide)
theorem txt0_ne (q : Qt) : txt0 q ≠ [] := by
  unfold txt0
  split
  · simp
  · assumption
theorem index_text : ∀ (l r : List UInt8), (∀ c ∈ l, c ≠ 41) → index (l ++ 41 :: 47 :: r) [41, 47] = l.length
  | [], r, _ => by simp [index, List.isPrefixOf]
  | b :: l, r, h => by
    have hb := h b (List.mem_cons_self ..)
    have := index_text l r (fun c hc => h c (List.mem_cons_of_mem _ hc))
    rw [List.cons_append]
    unfold index
    have e : List.isPrefixOf [41, 47] (b :: (l ++ 41 :: 47 :: r)) = false := by simp [List.isPrefixOf, Ne.symm hb]
    rw [e, this]
    have : ((l.length : Int) == -1) = false := by rw [beq_eq_false_iff_ne]; omega
    simp [this]
theorem candQ_fmt {q : Qt} (h : qB q = true) : candQ (fmtN q) = q := by
  have hb := bodyP_txt h
  obtain ⟨-, -, -, -, hd1, hd2⟩ := qB_iff.1 h
  unfold fmtN
  by_cases hd : q.d = 1
  · rw [if_pos hd]
    rw [hd] at hb
    unfold candQ
    have p1 : hasPrefix (txt0 q) [40] = false := by
      cases ht : txt0 q with
      | nil => exact absurd ht (txt0_ne q)
      | cons c r =>
        have := (sch_ne (txt0_ch q c (by rw [ht]; exact List.mem_cons_self ..))).1
        simp [hasPrefix, List.isPrefixOf, Ne.symm this]
    rw [p1]
    exact hb
  · rw [if_neg hd]
    unfold candQ
    have e : [40] ++ txt0 q ++ [41, 47] ++ decDigits q.d.natAbs = 40 :: (txt0 q ++ 41 :: 47 :: decDigits q.d.natAbs) := by simp
    rw [e]
    have p1 : hasPrefix (40 :: (txt0 q ++ 41 :: 47 :: decDigits q.d.natAbs)) [40] = true := by simp [hasPrefix, List.isPrefixOf]
    have hi := index_text (txt0 q) (decDigits q.d.natAbs) (fun c hc => (sch_ne (txt0_ch q c hc)).2.1)
    rw [if_pos p1]
    unfold trimPrefix
    rw [if_pos p1]
    simp only [List.length_cons, List.length_nil, Nat.zero_add, List.drop_succ_cons, List.drop_zero]
    unfold cut
    rw [hi, if_pos (by omega)]
    have hl := dec_len_le (k := 7) (n := q.d.natAbs) (by omega) (by omega)
    simp only [Int.toNat_natCast, List.take_left, List.length_cons, List.length_nil]
    rw [show (txt0 q).length + (0 + 1 + 1) = (txt0 q ++ [41, 47]).length by simp, show txt0 q ++ 41 :: 47 :: decDigits q.d.natAbs = (txt0 q ++ [41, 47]) ++ decDigits q.d.natAbs by simp, List.drop_left, if_pos hl, atoi_dec]
    rw [show ((some ((q.d.natAbs : Nat) : Int)).getD 0) = q.d by simp; omega]
    exact hb
def numR (t : List UInt8) : Int := if cutS t = [] ∨ 7 < (cutS t).length then 0 else if (cutS t).all isDig = true then zOf (negS t) (decVal (cutS t)) else 0
def valR (t : List UInt8) : Int := if t = [] then 1 else if 7 < t.length then 0 else numR t
def digN (u : List UInt8) : Nat := (u.takeWhile isDig).length
def plcR (u : List UInt8) : Nat := match u with | c :: _ => if c = 105 then 1 else if c = 106 then 2 else if c = 107 then 3 else 0 | [] => 0
def stepR (u : List UInt8) (sign : Int) (q : Qt) : List UInt8 × Qt :=
  let r := u.drop (digN u)
  ((if plcR r = 0 then r else r.drop 1), setP q (plcR r) (sign * valR (u.take (digN u))))
def runR : Nat → List UInt8 → Int → Qt → Qt
  | 0, _, _, q => q
  | f + 1, u, sign, q =>
    let p := stepR u sign q
    if p.1.length < 3 then p.2 else runR f (p.1.drop 3) (if p.1[1]? = some 45 then -1 else 1) p.2
def termsR (s : List UInt8) (q : Qt) : Qt := if negS s = true then runR (s.length + 1) (cutS s) (-1) q else runR (s.length + 1) s 1 q
def cutStep (out : List (List UInt8)) (c : UInt8) : List (List UInt8) := if c = 47 then out ++ [[]] else out.dropLast ++ [(out.getLast?.getD []) ++ [c]]
def cutB (s : List UInt8) : List (List UInt8) := s.foldl cutStep [[]]
def candR' (s : List UInt8) : Qt :=
  match cutB s with
  | [_] => termsR s ⟨0, 0, 0, 0, 1⟩
  | a :: b :: _ => if 2 ≤ a.length then { termsR ((a.drop 1).dropLast) ⟨0, 0, 0, 0, 1⟩ with d := valR b } else ⟨0, 0, 0, 0, 0⟩
  | [] => ⟨0, 0, 0, 0, 0⟩
theorem takeWhile_app {p : UInt8 → Bool} : ∀ {l r : List UInt8}, (∀ c ∈ l, p c = true) → (∀ c, r.head? = some c → p c = false) → (l ++ r).takeWhile p = l
  | [], r, _, h => by
    cases r with
    | nil => rfl
    | cons c r => simp [h c rfl]
  | c :: l, r, h1, h2 => by
    have := takeWhile_app (l := l) (r := r) (fun x hx => h1 x (List.mem_cons_of_mem _ hx)) h2
    simp [h1 c (List.mem_cons_self ..), this]
theorem cutS_dec (m : Nat) : cutS (decDigits m) = decDigits m ∧ negS (decDigits m) = false := by
  have := itoa_cut (m : Int)
  unfold itoa at this
  rw [if_neg (by omega), decide_eq_false (by omega)] at this
  simpa using this
theorem valR_dec {m : Nat} (h : m ≤ 1000000) : valR (decDigits m) = m := by
  have hl := dec_len_le (k := 7) (n := m) (by omega) (by omega)
  unfold valR numR
  obtain ⟨h1, h2⟩ := cutS_dec m
  rw [if_neg (dec_ne m), if_neg (by omega), h1, h2, if_neg (by rintro (h | h); exact dec_ne m h; omega), if_pos (List.all_eq_true.2 (dec_dig m)), decVal_dec]
  rfl
theorem dig_ltr {c : UInt8} (h : isDig c = true) : c ≠ 105 ∧ c ≠ 106 ∧ c ≠ 107 ∧ c ≠ 45 ∧ c ≠ 47 := by
  refine ⟨?_, ?_, ?_, ?_, ?_⟩ <;> (rintro rfl; revert h; decide)
theorem tailT_head (l : List (Int × Nat)) : ∀ c, (tailT l).head? = some c → c = 32 := by
  cases l with
  | nil => intro c h; cases h
  | cons p l =>
    obtain ⟨n, i⟩ := p
    intro c h
    simp only [tailT, sepT] at h
    split at h <;> (injection h with h; exact h.symm)
theorem stepR_body {n : Int} {i : Nat} (h : Good (n, i)) (l : List (Int × Nat)) (q : Qt) : stepR (bodyT n i ++ tailT l) (sgn1 n) q = (tailT l, setP q i n) := by
  obtain ⟨h0, h1, h2⟩ := h
  simp only at h0 h1 h2
  have key : ∀ (D : List UInt8) (v : Int), (∀ c ∈ D, isDig c = true) → valR D = v → sgn1 n * v = n → stepR (D ++ (ltr i ++ tailT l)) (sgn1 n) q = (tailT l, setP q i n) := by
    intro D v hD hv hn
    have hd : digN (D ++ (ltr i ++ tailT l)) = D.length := by
      unfold digN
      rw [takeWhile_app hD]
      intro c hc
      match i, h2, hc with
      | 0, _, hc => have := tailT_head l c hc; subst this; rfl
      | 1, _, hc => injection hc with hc; subst hc; rfl
      | 2, _, hc => injection hc with hc; subst hc; rfl
      | 3, _, hc => injection hc with hc; subst hc; rfl
    unfold stepR
    simp only [hd, List.drop_left, List.take_left, hv, hn]
    match i, h2 with
    | 0, _ =>
      have : plcR (ltr 0 ++ tailT l) = 0 := by
        show plcR (tailT l) = 0
        cases ht : tailT l with
        | nil => rfl
        | cons c r =>
          have := tailT_head l c (by rw [ht]; rfl)
          subst this; rfl
      rw [this]; rfl
    | 1, _ => rfl
    | 2, _ => rfl
    | 3, _ => rfl
  unfold bodyT
  rw [List.append_assoc]
  by_cases hc : i = 0 ∨ n.natAbs ≠ 1
  · rw [if_pos hc]
    exact key _ _ (dec_dig _) (valR_dec (by omega)) (sgn1_abs n)
  · rw [if_neg hc]
    have : n.natAbs = 1 := by omega
    have e := sgn1_abs n
    rw [this] at e
    exact key [] 1 (fun c hc => by cases hc) rfl e
theorem runR_text : ∀ (l : List (Int × Nat)) (n : Int) (i : Nat) (f : Nat) (c : Qt), Good (n, i) → (∀ p ∈ l, Good p) → l.length < f → runR f (bodyT n i ++ tailT l) (sgn1 n) c = putL c ((n, i) :: l)
  | [], n, i, f + 1, c, h, _, _ => by
    unfold runR
    simp only [stepR_body h]
    rfl
  | (m, j) :: l, n, i, f + 1, c, h, hl, hf => by
    have hm := hl _ (List.mem_cons_self ..)
    have ih := runR_text l m j f (setP c i n) hm (fun p hp => hl p (List.mem_cons_of_mem _ hp)) (by simp at hf; omega)
    unfold runR
    simp only [stepR_body h]
    by_cases hs : m < 0
    · have e2 : tailT ((m, j) :: l) = 32 :: 45 :: 32 :: (bodyT m j ++ tailT l) := by simp [tailT, sepT, hs]
      rw [e2]
      simp only [List.length_cons, List.drop_succ_cons, List.drop_zero, List.getElem?_cons_succ, List.getElem?_cons_zero]
      rw [if_neg (by omega)]
      simp only [if_true]
      rw [show (-1 : Int) = sgn1 m by simp [sgn1, hs], ih]
      rfl
    · have e2 : tailT ((m, j) :: l) = 32 :: 43 :: 32 :: (bodyT m j ++ tailT l) := by simp [tailT, sepT, hs]
      rw [e2]
      simp only [List.length_cons, List.drop_succ_cons, List.drop_zero, List.getElem?_cons_succ, List.getElem?_cons_zero]
      rw [if_neg (by omega), if_neg (by decide)]
      rw [show (1 : Int) = sgn1 m by simp [sgn1, hs], ih]
      rfl
theorem termsR_txt {q : Qt} (h : qB q = true) (d : Int) : termsR (txt0 q) ⟨0, 0, 0, 0, d⟩ = { q with d := d } := by
  have hg := coP_good h
  have hp : putL ⟨0, 0, 0, 0, d⟩ (coP q) = { q with d := d } := putL_co { q with d := d }
  unfold txt0
  rw [txtC_head]
  cases hl : coP q with
  | nil =>
    rw [hl] at hp
    simp only [headT, if_true]
    rw [← hp]
    rfl
  | cons p l =>
    obtain ⟨n, i⟩ := p
    rw [hl] at hp hg
    rw [if_neg (fun e => by have := headT_nil.1 e; cases this)]
    have hn := hg _ (List.mem_cons_self ..)
    have hr := fun f hf => runR_text l n i f ⟨0, 0, 0, 0, d⟩ hn (fun p hp => hg p (List.mem_cons_of_mem _ hp)) hf
    have hlen := tailT_len l
    unfold termsR
    by_cases hs : n < 0
    · have e : headT ((n, i) :: l) = 45 :: (bodyT n i ++ tailT l) := by simp [headT, hs]
      rw [e]
      have := hr ((45 :: (bodyT n i ++ tailT l)).length + 1) (by simp; omega)
      rw [show sgn1 n = -1 by simp [sgn1, hs]] at this
      rw [show negS (45 :: (bodyT n i ++ tailT l)) = true from rfl, show cutS (45 :: (bodyT n i ++ tailT l)) = bodyT n i ++ tailT l from rfl, if_pos rfl, this]; exact hp
    · have e : headT ((n, i) :: l) = bodyT n i ++ tailT l := by simp [headT, hs]
      rw [e]
      have p1 : negS (bodyT n i ++ tailT l) = false := by
        cases hb : bodyT n i with
        | nil => exact absurd hb (bodyT_ne n i)
        | cons c r =>
          have := (tch_ne (bodyT_ch n i c (by rw [hb]; exact List.mem_cons_self ..))).2.2.2.1
          simp [negS, this]
      rw [p1]
      have := hr ((bodyT n i ++ tailT l).length + 1) (by simp; omega)
      rw [show sgn1 n = 1 by simp [sgn1, hs]] at this
      simp only [Bool.false_eq_true, if_false]
      rw [this]; exact hp
theorem cut_plain : ∀ (a : List UInt8) (out : List (List UInt8)) (x : List UInt8), (∀ c ∈ a, c ≠ 47) → a.foldl cutStep (out ++ [x]) = out ++ [x ++ a]
  | [], out, x, _ => by simp
  | c :: a, out, x, h => by
    have hc := h c (List.mem_cons_self ..)
    have e : cutStep (out ++ [x]) c = out ++ [x ++ [c]] := by simp [cutStep, hc]
    rw [List.foldl_cons, e, cut_plain a out _ (fun y hy => h y (List.mem_cons_of_mem _ hy))]
    simp
theorem cutB_one {a : List UInt8} (h : ∀ c ∈ a, c ≠ 47) : cutB a = [a] := cut_plain a [] [] h
theorem cutB_two {a b : List UInt8} (h : ∀ c ∈ a, c ≠ 47) (k : ∀ c ∈ b, c ≠ 47) : cutB (a ++ 47 :: b) = [a, b] := by
  unfold cutB
  have := cut_plain a [] [] h
  simp only [List.nil_append] at this
  rw [List.foldl_append, List.foldl_cons, this]
  exact cut_plain b [a] [] k
theorem candR_fmt {q : Qt} (h : qB q = true) : candR' (fmtN q) = q := by
  obtain ⟨-, -, -, -, hd1, hd2⟩ := qB_iff.1 h
  have hb := termsR_txt h 1
  unfold fmtN
  by_cases hd : q.d = 1
  · rw [if_pos hd]
    unfold candR'
    rw [cutB_one (fun c hc => (sch_ne (txt0_ch q c hc)).2.2)]
    simp only [hb]
    rw [← hd]
  · rw [if_neg hd]
    have e : [40] ++ txt0 q ++ [41, 47] ++ decDigits q.d.natAbs = (40 :: (txt0 q ++ [41])) ++ 47 :: decDigits q.d.natAbs := by simp
    rw [e]
    unfold candR'
    rw [cutB_two (fun c hc => by
      rcases List.mem_cons.1 hc with rfl | hc
      · decide
      · rcases List.mem_append.1 hc with hc | hc
        · exact (sch_ne (txt0_ch q c hc)).2.2
        · cases List.mem_singleton.1 hc; decide) (fun c hc => (dig_ltr (dec_dig _ c hc)).2.2.2.2)]
    simp only
    rw [if_pos (by simp), List.drop_succ_cons, List.drop_zero, List.dropLast_concat, hb, valR_dec (by omega)]
    obtain ⟨w, x, y, z, d⟩ := q
    simp only at hd1 ⊢
    rw [show ((d.natAbs : Nat) : Int) = d by omega]
theorem bodyT_len {n : Int} {i : Nat} (h : Good (n, i)) : (bodyT n i).length ≤ 8 := by
  have hl := dec_len_le (k := 7) (n := n.natAbs) (by omega) (by have := h.2.1; simp only at this; omega)
  unfold bodyT
  have : (ltr i).length ≤ 1 := by
    unfold ltr; split <;> simp
  split <;> simp <;> omega
theorem fmtN_len {q : Qt} (h : qB q = true) : (fmtN q).length ≤ 100 := by
  have hg := coP_good h
  have ht : ∀ l : List (Int × Nat), (∀ p ∈ l, Good p) → (tailT l).length ≤ 11 * l.length := by
    intro l
    induction l with
    | nil => intro _; simp [tailT]
    | cons p l ih =>
      obtain ⟨n, i⟩ := p
      intro hp
      have h1 := bodyT_len (hp _ (List.mem_cons_self ..))
      have h2 := ih fun p hq => hp p (List.mem_cons_of_mem _ hq)
      have : (sepT n).length = 3 := by unfold sepT; split <;> rfl
      simp [tailT]; omega
  have hl : (coP q).length ≤ 4 := List.length_filter_le ..
  have h0 : (txt0 q).length ≤ 60 := by
    unfold txt0
    split
    · simp
    · rw [txtC_head]
      cases hc : coP q with
      | nil => simp [headT]
      | cons p l =>
        obtain ⟨n, i⟩ := p
        rw [hc] at hg hl
        have h1 := bodyT_len (hg _ (List.mem_cons_self ..))
        have h2 := ht l fun p hq => hg p (List.mem_cons_of_mem _ hq)
        simp only [List.length_cons] at hl
        simp only [headT]
        split <;> simp <;> omega
  unfold fmtN
  split
  · omega
  · obtain ⟨-, -, -, -, hd1, hd2⟩ := qB_iff.1 h
    have := dec_len_le (k := 7) (n := q.d.natAbs) (by omega) (by omega)
    simp; omega
end FF
