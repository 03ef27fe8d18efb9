/- Arguments of the laws opened: arrays of integers, integers of several words; and read again behind the call as they were. -/
import Derived.Test.YtmlkiddkgikdhaaRowP
import Derived.Test.YtmlkiddkgikdhaaWordA
import Derived.ReadAgain
import Derived.ChangeSlices
import Derived.Lib.SmallJoins
namespace Go.Proofs.Ytmlkiddkgikdhaa
open Go.RowKit Go.WideShapes Go.ChangeShapes Go.Joins Go.Deep FF

/-- every slice's elements have cells -/
theorem slicesFull : ((List.range Try.checked.prog.types.size).all fun t => match Try.checked.prog.underlying t with | some (.slice e) => decide (0 < Try.checked.prog.cellsOf e) | _ => true) = true := by kernel_rfl

section
variable {H : Type} {enc : TypeId × Value → H}
theorem trodAll_carry {P : Program} {w w' : World} {base : Nat} {spare : Nat → Bool} {held : Bool} : ∀ {ts : List TypeId} {vs : List Value} {ds : List (DataW H)} {ps : List MemPlace},
    DataW.TrodAll enc P w base spare held ts vs ds ps → (∀ p ∈ ps, w.sameAt w' p) → DataW.TrodAll enc P w' base spare held ts vs ds ps
  | [], [], [], _, h, _ => h
  | _ :: _, _ :: _, _ :: _, _, ⟨p, q, ⟨n, hn⟩, h2, e⟩, hs => ⟨p, q, ⟨n, DataW.trod_carry n _ _ _ hn (fun x hx => hs x (by rw [e]; exact List.mem_append_left _ hx))⟩, trodAll_carry h2 (fun x hx => hs x (by rw [e]; exact List.mem_append_right _ hx)), e⟩
/-- the arguments read behind the call as they read before -/
theorem args_again' {P : Program} (hl : laidOutB P = true) (hm : mapsRowed P = true) (hf : ((List.range P.types.size).all fun t => match P.underlying t with | some (.slice e) => decide (0 < P.cellsOf e) | _ => true) = true)
    {W W' : World} {ts : List TypeId} {vs : List Value} {ds : List (DataW H)} {ps : List MemPlace} (hT : (ts.all fun t => decide (t < P.types.size)) = true)
    (h : DataW.TrodAll enc P W 0 (fun _ => true) true ts vs ds ps) (hb : Below W.heap.size W W') (sp : Nat → Bool) (hs : ∀ p ∈ ps, sp p.block = true) :
    DataW.TrodAll enc P W' 0 sp true ts vs ds ps :=
  trodAll_carry (DataW.TrodAll.respare (kids_rows hl hm) (slices_full_of _ hf) (fun t ht => of_decide_eq_true (List.all_eq_true.1 hT t ht)) h hs) fun p hp => hb.same (h.lt p hp)
variable {P : Program} {w : World} {base : Nat} {spare : Nat → Bool} {held : Bool}
theorem okWide_array {r : Reach} {b0 : Nat} {t e : TypeId} {n : Nat} {v : Value} (ht : P.underlying t = some (.array n e)) (h : Value.okWide P w r b0 t v) : ∃ xs : Array Value, v = .agg xs ∧ xs.size = P.cellsOf t := by
  simp only [Value.okWide, ht] at h
  obtain ⟨cs, h1, h2, _⟩ := h
  exact ⟨cs, h1, h2⟩
theorem open_arr2 {r : Reach} {b0 : Nat} {t e : TypeId} {v : Value} {d : DataW H} {p : List MemPlace} {k : IntKind} (ht : P.underlying t = some (.array 2 e)) (he : P.underlying e = some (.int k)) (hc : P.cellsOf e = 1) (hC : P.cellsOf t = 2)
    (hv : Value.okWide P w r b0 t v) (h : DataW.Trod enc P w base spare held t v d p) :
    ∃ a0 a1 : Int, v = .agg #[.int k a0, .int k a1] ∧ (Lit.int k a0).wf = true ∧ (Lit.int k a1).wf = true := by
  obtain ⟨cs, rfl, hsz⟩ := okWide_array ht hv
  obtain ⟨c0, c1, rfl⟩ := array2 (hsz.trans hC)
  obtain ⟨fuel, hf⟩ := h
  obtain ⟨xs, m, _, hx, _, hlen, hg⟩ := DataW.trod_array ht hf
  match xs, hlen with
  | [y0, y1], _ =>
    have g0 := hg 0 (by omega); have g1 := hg 1 (by omega)
    simp [Value.cells, hc] at g0 g1
    obtain ⟨a0, h0, _, w0⟩ := DataW.trod_int he g0
    obtain ⟨a1, h1, _, w1⟩ := DataW.trod_int he g1
    injection h0 with h0; injection h1 with h1
    subst h0; subst h1
    exact ⟨a0, a1, rfl, w0, w1⟩
theorem open_arr3 {r : Reach} {b0 : Nat} {t e : TypeId} {v : Value} {d : DataW H} {p : List MemPlace} {k : IntKind} (ht : P.underlying t = some (.array 3 e)) (he : P.underlying e = some (.int k)) (hc : P.cellsOf e = 1) (hC : P.cellsOf t = 3)
    (hv : Value.okWide P w r b0 t v) (h : DataW.Trod enc P w base spare held t v d p) :
    ∃ a0 a1 a2 : Int, v = .agg #[.int k a0, .int k a1, .int k a2] ∧ (Lit.int k a0).wf = true ∧ (Lit.int k a1).wf = true ∧ (Lit.int k a2).wf = true := by
  obtain ⟨cs, rfl, hsz⟩ := okWide_array ht hv
  obtain ⟨c0, c1, c2, rfl⟩ := array3 (hsz.trans hC)
  obtain ⟨fuel, hf⟩ := h
  obtain ⟨xs, m, _, hx, _, hlen, hg⟩ := DataW.trod_array ht hf
  match xs, hlen with
  | [y0, y1, y2], _ =>
    have g0 := hg 0 (by omega); have g1 := hg 1 (by omega); have g2 := hg 2 (by omega)
    simp [Value.cells, hc] at g0 g1 g2
    obtain ⟨a0, h0, _, w0⟩ := DataW.trod_int he g0
    obtain ⟨a1, h1, _, w1⟩ := DataW.trod_int he g1
    obtain ⟨a2, h2, _, w2⟩ := DataW.trod_int he g2
    injection h0 with h0; injection h1 with h1; injection h2 with h2
    subst h0; subst h1; subst h2
    exact ⟨a0, a1, a2, rfl, w0, w1, w2⟩
theorem cell_block {w : World} {b o : Nat} {v : Value} (h : w.cell? ⟨b, o, none⟩ = some v) : b < w.heap.size := by
  rcases Nat.lt_or_ge b w.heap.size with hb | hb
  · exact hb
  · have : w.heap[b]? = none := Array.getElem?_eq_none hb
    simp [World.cell?, this] at h
theorem wf_u32 {a : Int} (h : (Lit.int .u32 a).wf = true) : 0 ≤ a ∧ a < 4294967296 := by
  simp [Lit.wf, IntKind.min, IntKind.max, IntKind.bits, IntKind.signed] at h
  omega
/-- an integer of several words that came in -/
theorem open_Int {r : Reach} {b0 : Nat} {t tb tw te : TypeId} {f0 f1 : Field} {v : Value} {d : DataW H} {p : List MemPlace} (ht : P.underlying t = some (.struct #[f0, f1])) (hone : oneCellFields P #[f0, f1] = true) (hC : P.cellsOf t = 2)
    (e0 : f0.type = tb) (e1 : f1.type = tw) (hb : P.underlying tb = some .bool) (hw : P.underlying tw = some (.slice te)) (he : P.underlying te = some (.int .u32)) (hce : P.cellsOf te = 1)
    (hv : Value.okWide P w r b0 t v) (h : DataW.Trod enc P w base (fun _ => true) held t v d p) :
    ∃ (b : Bool) (A : Option Addr) (xs : List Nat) (c : Nat), v = .agg #[.bool b, .slice A xs.length c] ∧ Shows .u32 w A xs ∧ Dig WB xs ∧ xs.length ≤ c ∧ c ≤ maxLen := by
  obtain ⟨v0, v1, y0, y1, n, rfl, _, _, h0, h1⟩ := open_agg2 ht hone hC hv h
  subst e0; subst e1
  obtain ⟨b, hb1, _⟩ := DataW.trod_bool hb h0
  injection hb1 with hb1; subst hb1
  rcases open_ints hw he hce h1 with ⟨hcs, _⟩ | ⟨a, len, cap, zs, hcs, _, hl, hm, hz, _, hcell, hwz⟩
  · injection hcs with hcs; subst hcs
    exact ⟨b, none, [], 0, rfl, Shows.nil, (fun x hx => by cases hx), Nat.le_refl _, by unfold maxLen; omega⟩
  · injection hcs with hcs; subst hcs
    rw [if_pos rfl] at hz
    have hlen : ((zs.take len).map Int.toNat).length = len := by simp; omega
    refine ⟨b, some a, (zs.take len).map Int.toNat, cap, by rw [hlen], ?_, ?_, by omega, hm⟩
    · intro hp
      rw [hlen] at hp
      obtain ⟨bl, off, rfl, hc⟩ := ints_at hcell (by omega)
      refine ⟨bl, off, rfl, ?_, fun i hi => ?_⟩
      · have := hc 0 (by omega)
        exact cell_block this
      · rw [hlen] at hi
        have hzi : i < zs.length := by omega
        rw [hc i hzi]
        have hw2 := wf_u32 (hwz (zs.getD i 0) (by rw [List.getD_eq_getElem?_getD, List.getElem?_eq_getElem hzi]; exact List.getElem_mem hzi))
        have e : (((zs.take len).map Int.toNat).getD i 0 : Nat) = (zs.getD i 0).toNat := by
          simp only [List.getD_eq_getElem?_getD, List.getElem?_map, List.getElem?_take_of_lt hi, List.getElem?_eq_getElem hzi]
          rfl
        rw [e, Int.toNat_of_nonneg hw2.1]
    · intro x hx
      obtain ⟨z, hz1, rfl⟩ := List.mem_map.1 hx
      have := wf_u32 (hwz z (List.mem_of_mem_take hz1))
      unfold WB; omega
end
end Go.Proofs.Ytmlkiddkgikdhaa
