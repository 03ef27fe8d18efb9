/- The row's last step where of the world behind the call 'Below' alone is known. Closed facts of the rows, apart: those of the program alone (once), and how they join. Arguments of the laws opened: arrays of integers, integers of several words; and read again behind the call as they were. Arguments of more types, opened. -/
import Derived.Test.YtfjmhfmhijhpkaaGreatDoorRows
import Derived.WalkKit
import Derived.ProofKit
import Derived.OpenShut
import Derived.Below
import Derived.ChangeSame
import Derived.Test.YtfjmhfmhijhpkaaGreatDoorBase
import Derived.Test.YtfjmhfmhijhpkaaGreatDoorWordA
import Derived.ReadAgain
import Derived.ChangeSlices
import Derived.Lib.SmallJoins
namespace Go.Proofs.YtfjmhfmhijhpkaaGreatDoor
open Go.RowKit Go.WideShapes Go.ChangeShapes FF
theorem i64_of_wf {a : Int} (h : (Lit.int .i64 a).wf = true) : I64 a := by
  simp [Lit.wf, IntKind.min, IntKind.max, IntKind.bits, IntKind.signed] at h
  exact ⟨by omega, by omega⟩
section
variable {H : Type} {enc : TypeId × Value → H} {P : Program}
theorem post_of_below {f : Func} {s : ChangeSpec} {apart fresh handsOn again : Bool} {W W' : World} {args : Array Value} {v : Value} {ds gs : List (DataW H)} {before pa pv : List MemPlace}
    (hW : DataW.Whole enc P f.params.toList s.vars apart W args.toList ds gs before)
    (hres : ∀ (b : Nat) (sp : Nat → Bool) (hd : Bool), DataW.TrodAll enc P W' b sp hd f.resultTypes.toList (v.resultList f.resultTypes.size) (s.fn H (ds ++ gs)).results [])
    (hargs : ∀ sp : Nat → Bool, (∀ p ∈ before, sp p.block = true) → DataW.TrodAll enc P W' 0 sp true f.params.toList args.toList (s.fn H (ds ++ gs)).args pa)
    (hvars : ∀ sp : Nat → Bool, (∀ p ∈ before, sp p.block = true) → DataW.TrodVars enc P W' sp s.vars (s.fn H (ds ++ gs)).vars pv)
    (hps : before = pa ++ pv) (hb : Below W.heap.size W W')
    (hok : ∀ (j : Nat) (t : TypeId) (r : Value), f.resultTypes[j]? = some t → (v.resultList f.resultTypes.size)[j]? = some r → Value.okWide P W' .any 0 t r) :
    s.post enc P f apart fresh handsOn again W args v W' := by
  have hlt : ∀ p ∈ before, p.block < W.heap.size := fun p hp => hW.lt p hp
  have hold : ∀ p ∈ before, (fun b => decide (b < W.heap.size)) p.block = true := fun p hp => by simpa using hlt p hp
  refine ⟨ds, gs, before, [], pa, pv, hW, hres _ _ _, hargs _ hold, hvars _ hold, World.keptBut_mono (fun p hp => ⟨hp, ?_⟩) (hb.frame (· ∈ before)), fun _ => ?_⟩
  · rw [hps, List.mem_append] at hp
    exact Or.inr hp
  · obtain ⟨_, _, _, _, _, hz, hn⟩ := hW
    refine ⟨hok, _, _, ([] ++ pa) ++ pv, ⟨[] ++ pa, pv, trodAll_append (hargs _ (fun _ _ => rfl)) (hres _ _ _), hvars _ (fun _ _ => rfl), rfl, ?_, ?_⟩, ?_⟩
    · intro b off hp
      have hin : MemPlace.cell b off ∈ before := by rw [hps]; simpa using hp
      rw [hb.frozen (hlt _ hin)]
      exact hz b off hin
    · intro ha
      have := hn ha
      rw [hps] at this
      simpa using this
    · intro p hp _
      rw [hps]
      simpa using hp
end
end Go.Proofs.YtfjmhfmhijhpkaaGreatDoor
namespace Go.Proofs.YtfjmhfmhijhpkaaGreatDoor
open Go.RowKit Go.WideShapes Go.ChangeShapes FF
theorem and2 {a b : Bool} (h : a = true) (g : b = true) : (a && b) = true := by rw [h, g]; rfl
theorem joined_of {P : Program} {f : FuncId} {fn : Func} {s : ChangeSpec} {c : OpenClaim}
    (k1 : c.wf (OpenSpec.ofChange s) = true) (k2 : laidOutB P = true) (k3 : mapsRowed P = true) (k4 : fn.params.all (P.readableRec ·) = true) (k5 : namedTie P c.named s.vars = true)
    (k6 : (c.stops == []) = true) (k7 : (P.stops == []) = true) (k8 : (c.knobs == []) = true) (k9 : (P.stopKnobs == []) = true)
    (k10 : (c.inPlace == P.inPlace f) = true) (k11 : (c.unfollowed == P.unfollowed f) = true) (k12 : (c.recurses == P.recurses f) = true) (k13 : (c.named == P.varsNamed f) = true)
    (k14 : (c.maps == (fn.params.toList ++ s.plain.varTypes P).any (P.mapsRec ·)) = true) (k15 : (c.ifaces == (fn.params.toList ++ s.plain.varTypes P).any (P.ifacesRec ·)) = true) (k16 : (c.mapsOut == P.mapsAmong fn.resultTypes.toList) = true)
    (k17 : (c.loops == (fn.params.toList ++ s.plain.varTypes P).any (P.loopsFrom ·)) = true) (k18 : (c.wideKeys == (fn.params.toList ++ s.plain.varTypes P ++ fn.resultTypes.toList).any (P.wideKeysFrom ·)) = true)
    (k19 : s.vars.all (P.varReadable ·) = true) (k20 : fn.resultTypes.all (fun t => P.readableRec t && decide (t < P.types.size)) = true) (k21 : (c.ifacesOut == fn.resultTypes.toList.any (P.ifacesRec ·)) = true) (k22 : (c.loopsOut == fn.resultTypes.toList.any (P.loopsFrom ·)) = true)
    (k23 : (c.plainKeys == P.plainKeys) = true) (k24 : c.shortTexts.isNone = true) (k25 : P.stopsHeard = true) (k26 : P.mayEnter = true) (k27 : (c.lifted == P.liftsFinal) = true) (k28 : (P.make == some c.make) = true)
    (k29 : (c.kinds == (if c.domain.isEmpty then [] else fn.params.toList.map fun t => match P.underlying t with | some (.int k) => some k | _ => none)) = true) (k30 : (c.pinned == c.pinnedBy) = true)
    (k31 : (c.veiled == (fn.params.toList ++ s.plain.varTypes P ++ fn.resultTypes.toList).any (P.veiledRec ·)) = true) (k32 : c.veiledFits P fn.params.toList (fn.params.toList ++ s.plain.varTypes P ++ fn.resultTypes.toList) = true) :
    joinedFacts P f fn s c = true := by
  unfold joinedFacts
  exact (and2 (and2 (and2 (and2 (and2 (and2 (and2 (and2 (and2 (and2 (and2 (and2 (and2 (and2 (and2 (and2 (and2 (and2 (and2 (and2 (and2 (and2 (and2 (and2 (and2 (and2 (and2 (and2 (and2 (and2 (and2 k1 k2) k3) k4) k5) k6) k7) k8) k9) k10) k11) k12) k13) k14) k15) k16) k17) k18) k19) k20) k21) k22) k23) k24) k25) k26) k27) k28) k29) k30) k31) k32)
theorem own : ownKnob Tryz.prog.godebug = none := by kernel_rfl
theorem pk2 : laidOutB Tryz.checked.prog = true := by kernel_rfl
theorem pk3 : mapsRowed Tryz.checked.prog = true := by kernel_rfl
theorem pk7 : (Tryz.checked.prog.stops == []) = true := by kernel_rfl
theorem pk9 : (Tryz.checked.prog.stopKnobs == []) = true := by kernel_rfl
theorem pk23 : (Rows.algebraIsomorphismsRow.plainKeys == Tryz.checked.prog.plainKeys) = true := by kernel_rfl
theorem pk25 : Tryz.checked.prog.stopsHeard = true := by kernel_rfl
theorem pk26 : Tryz.checked.prog.mayEnter = true := by kernel_rfl
theorem pk27 : (Rows.algebraIsomorphismsRow.lifted == Tryz.checked.prog.liftsFinal) = true := by kernel_rfl
theorem pk28 : (Tryz.checked.prog.make == some Rows.algebraIsomorphismsRow.make) = true := by kernel_rfl
theorem beq_turn {α : Type} [BEq α] [LawfulBEq α] {a b x : α} (h : (a == x) = true) (e : b = a) : (b == x) = true := e ▸ h
theorem beq_turn' {α : Type} [BEq α] [LawfulBEq α] {a b : α} {x : Option α} (h : (x == some a) = true) (e : b = a) : (x == some b) = true := e ▸ h
end Go.Proofs.YtfjmhfmhijhpkaaGreatDoor
namespace Go.Proofs.YtfjmhfmhijhpkaaGreatDoor
open Go.RowKit Go.WideShapes Go.ChangeShapes Go.Joins Go.Deep FF

/-- every slice's elements have cells -/
theorem slicesFull : ((List.range Tryz.checked.prog.types.size).all fun t => match Tryz.checked.prog.underlying t with | some (.slice e) => decide (0 < Tryz.checked.prog.cellsOf e) | _ => true) = true := by kernel_rfl

section
variable {H : Type} {enc : TypeId × Value → H}
theorem trodAll_carry {P : Program} {w w' : World} {base : Nat} {spare : Nat → Bool} {held : Bool} : ∀ {ts : List TypeId} {vs : List Value} {ds : List (DataW H)} {ps : List MemPlace},
    DataW.TrodAll enc P w base spare held ts vs ds ps → (∀ p ∈ ps, w.sameAt w' p) → DataW.TrodAll enc P w' base spare held ts vs ds ps
  | [], [], [], _, h, _ => h
  | _ :: _, _ :: _, _ :: _, _, ⟨p, q, ⟨n, hn⟩, h2, e⟩, hs => ⟨p, q, ⟨n, DataW.trod_carry n _ _ _ hn (fun x hx => hs x (by rw [e]; exact List.mem_append_left _ hx))⟩, trodAll_carry h2 (fun x hx => hs x (by rw [e]; exact List.mem_append_right _ hx)), e⟩
/-- the arguments read behind the call as they read before -/
theorem args_again' {P : Program} (hl : laidOutB P = true) (hm : mapsRowed P = true) (hf : ((List.range P.types.size).all fun t => match P.underlying t with | some (.slice e) => decide (0 < P.cellsOf e) | _ => true) = true)
    {W W' : World} {ts : List TypeId} {vs : List Value} {ds : List (DataW H)} {ps : List MemPlace} (hT : (ts.all fun t => decide (t < P.types.size)) = true)
    (h : DataW.TrodAll enc P W 0 (fun _ => true) true ts vs ds ps) (hb : Below W.heap.size W W') (sp : Nat → Bool) (hs : ∀ p ∈ ps, sp p.block = true) :
    DataW.TrodAll enc P W' 0 sp true ts vs ds ps :=
  trodAll_carry (DataW.TrodAll.respare (kids_rows hl hm) (slices_full_of _ hf) (fun t ht => of_decide_eq_true (List.all_eq_true.1 hT t ht)) h hs) fun p hp => hb.same (h.lt p hp)
variable {P : Program} {w : World} {base : Nat} {spare : Nat → Bool} {held : Bool}
theorem okWide_array {r : Reach} {b0 : Nat} {t e : TypeId} {n : Nat} {v : Value} (ht : P.underlying t = some (.array n e)) (h : Value.okWide P w r b0 t v) : ∃ xs : Array Value, v = .agg xs ∧ xs.size = P.cellsOf t := by
  simp only [Value.okWide, ht] at h
  obtain ⟨cs, h1, h2, _⟩ := h
  exact ⟨cs, h1, h2⟩
theorem open_arr2 {r : Reach} {b0 : Nat} {t e : TypeId} {v : Value} {d : DataW H} {p : List MemPlace} {k : IntKind} (ht : P.underlying t = some (.array 2 e)) (he : P.underlying e = some (.int k)) (hc : P.cellsOf e = 1) (hC : P.cellsOf t = 2)
    (hv : Value.okWide P w r b0 t v) (h : DataW.Trod enc P w base spare held t v d p) :
    ∃ a0 a1 : Int, v = .agg #[.int k a0, .int k a1] ∧ (Lit.int k a0).wf = true ∧ (Lit.int k a1).wf = true := by
  obtain ⟨cs, rfl, hsz⟩ := okWide_array ht hv
  obtain ⟨c0, c1, rfl⟩ := array2 (hsz.trans hC)
  obtain ⟨fuel, hf⟩ := h
  obtain ⟨xs, m, _, hx, _, hlen, hg⟩ := DataW.trod_array ht hf
  match xs, hlen with
  | [y0, y1], _ =>
    have g0 := hg 0 (by omega); have g1 := hg 1 (by omega)
    simp [Value.cells, hc] at g0 g1
    obtain ⟨a0, h0, _, w0⟩ := DataW.trod_int he g0
    obtain ⟨a1, h1, _, w1⟩ := DataW.trod_int he g1
    injection h0 with h0; injection h1 with h1
    subst h0; subst h1
    exact ⟨a0, a1, rfl, w0, w1⟩
theorem open_arr3 {r : Reach} {b0 : Nat} {t e : TypeId} {v : Value} {d : DataW H} {p : List MemPlace} {k : IntKind} (ht : P.underlying t = some (.array 3 e)) (he : P.underlying e = some (.int k)) (hc : P.cellsOf e = 1) (hC : P.cellsOf t = 3)
    (hv : Value.okWide P w r b0 t v) (h : DataW.Trod enc P w base spare held t v d p) :
    ∃ a0 a1 a2 : Int, v = .agg #[.int k a0, .int k a1, .int k a2] ∧ (Lit.int k a0).wf = true ∧ (Lit.int k a1).wf = true ∧ (Lit.int k a2).wf = true := by
  obtain ⟨cs, rfl, hsz⟩ := okWide_array ht hv
  obtain ⟨c0, c1, c2, rfl⟩ := array3 (hsz.trans hC)
  obtain ⟨fuel, hf⟩ := h
  obtain ⟨xs, m, _, hx, _, hlen, hg⟩ := DataW.trod_array ht hf
  match xs, hlen with
  | [y0, y1, y2], _ =>
    have g0 := hg 0 (by omega); have g1 := hg 1 (by omega); have g2 := hg 2 (by omega)
    simp [Value.cells, hc] at g0 g1 g2
    obtain ⟨a0, h0, _, w0⟩ := DataW.trod_int he g0
    obtain ⟨a1, h1, _, w1⟩ := DataW.trod_int he g1
    obtain ⟨a2, h2, _, w2⟩ := DataW.trod_int he g2
    injection h0 with h0; injection h1 with h1; injection h2 with h2
    subst h0; subst h1; subst h2
    exact ⟨a0, a1, a2, rfl, w0, w1, w2⟩
theorem cell_block {w : World} {b o : Nat} {v : Value} (h : w.cell? ⟨b, o, none⟩ = some v) : b < w.heap.size := by
  rcases Nat.lt_or_ge b w.heap.size with hb | hb
  · exact hb
  · have : w.heap[b]? = none := Array.getElem?_eq_none hb
    simp [World.cell?, this] at h
theorem wf_u32 {a : Int} (h : (Lit.int .u32 a).wf = true) : 0 ≤ a ∧ a < 4294967296 := by
  simp [Lit.wf, IntKind.min, IntKind.max, IntKind.bits, IntKind.signed] at h
  omega
/-- an integer of several words that came in -/
theorem open_Int {r : Reach} {b0 : Nat} {t tb tw te : TypeId} {f0 f1 : Field} {v : Value} {d : DataW H} {p : List MemPlace} (ht : P.underlying t = some (.struct #[f0, f1])) (hone : oneCellFields P #[f0, f1] = true) (hC : P.cellsOf t = 2)
    (e0 : f0.type = tb) (e1 : f1.type = tw) (hb : P.underlying tb = some .bool) (hw : P.underlying tw = some (.slice te)) (he : P.underlying te = some (.int .u32)) (hce : P.cellsOf te = 1)
    (hv : Value.okWide P w r b0 t v) (h : DataW.Trod enc P w base (fun _ => true) held t v d p) :
    ∃ (b : Bool) (A : Option Addr) (xs : List Nat) (c : Nat), v = .agg #[.bool b, .slice A xs.length c] ∧ Shows .u32 w A xs ∧ Dig WB xs ∧ xs.length ≤ c ∧ c ≤ maxLen := by
  obtain ⟨v0, v1, y0, y1, n, rfl, _, _, h0, h1⟩ := open_agg2 ht hone hC hv h
  subst e0; subst e1
  obtain ⟨b, hb1, _⟩ := DataW.trod_bool hb h0
  injection hb1 with hb1; subst hb1
  rcases open_ints hw he hce h1 with ⟨hcs, _⟩ | ⟨a, len, cap, zs, hcs, _, hl, hm, hz, _, hcell, hwz⟩
  · injection hcs with hcs; subst hcs
    exact ⟨b, none, [], 0, rfl, Shows.nil, (fun x hx => by cases hx), Nat.le_refl _, by unfold maxLen; omega⟩
  · injection hcs with hcs; subst hcs
    rw [if_pos rfl] at hz
    have hlen : ((zs.take len).map Int.toNat).length = len := by simp; omega
    refine ⟨b, some a, (zs.take len).map Int.toNat, cap, by rw [hlen], ?_, ?_, by omega, hm⟩
    · intro hp
      rw [hlen] at hp
      obtain ⟨bl, off, rfl, hc⟩ := ints_at hcell (by omega)
      refine ⟨bl, off, rfl, ?_, fun i hi => ?_⟩
      · have := hc 0 (by omega)
        exact cell_block this
      · rw [hlen] at hi
        have hzi : i < zs.length := by omega
        rw [hc i hzi]
        have hw2 := wf_u32 (hwz (zs.getD i 0) (by rw [List.getD_eq_getElem?_getD, List.getElem?_eq_getElem hzi]; exact List.getElem_mem hzi))
        have e : (((zs.take len).map Int.toNat).getD i 0 : Nat) = (zs.getD i 0).toNat := by
          simp only [List.getD_eq_getElem?_getD, List.getElem?_map, List.getElem?_take_of_lt hi, List.getElem?_eq_getElem hzi]
          rfl
        rw [e, Int.toNat_of_nonneg hw2.1]
    · intro x hx
      obtain ⟨z, hz1, rfl⟩ := List.mem_map.1 hx
      have := wf_u32 (hwz z (List.mem_of_mem_take hz1))
      unfold WB; omega
end
end Go.Proofs.YtfjmhfmhijhpkaaGreatDoor
namespace Go.Proofs.YtfjmhfmhijhpkaaGreatDoor
open Go.RowKit Go.WideShapes Go.ChangeShapes Go.Joins Go.Deep FF
section
variable {H : Type} {enc : TypeId × Value → H} {P : Program} {w : World} {base : Nat} {spare : Nat → Bool} {held : Bool}
/-- a struct of two numbers that came in -/
theorem open_pair {r : Reach} {b0 : Nat} {t ti : TypeId} {f0 f1 : Field} {v : Value} {d : DataW H} {p : List MemPlace} {k : IntKind} (ht : P.underlying t = some (.struct #[f0, f1])) (hone : oneCellFields P #[f0, f1] = true) (hC : P.cellsOf t = 2)
    (e0 : f0.type = ti) (e1 : f1.type = ti) (hi : P.underlying ti = some (.int k))
    (hv : Value.okWide P w r b0 t v) (h : DataW.Trod enc P w base spare held t v d p) :
    ∃ a0 a1 : Int, v = .agg #[.int k a0, .int k a1] ∧ (Lit.int k a0).wf = true ∧ (Lit.int k a1).wf = true := by
  obtain ⟨v0, v1, y0, y1, n, rfl, _, _, h0, h1⟩ := open_agg2 ht hone hC hv h
  subst e0
  rw [e1] at h1
  obtain ⟨a0, h0, _, w0⟩ := DataW.trod_int hi h0
  obtain ⟨a1, h1, _, w1⟩ := DataW.trod_int hi h1
  injection h0 with h0; injection h1 with h1
  subst h0; subst h1
  exact ⟨a0, a1, rfl, w0, w1⟩
end
end Go.Proofs.YtfjmhfmhijhpkaaGreatDoor
