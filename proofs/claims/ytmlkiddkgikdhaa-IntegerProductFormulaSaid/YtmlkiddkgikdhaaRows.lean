/-
  No cell of these rows narrows 'for every input' (looked for: loops, veiled, ifaces, maps, wideKeys, modest, calm, conditions, laid).
  DERIVED. THE GIVEN ROWS OF THIS SEAT. 15 by the template 'for every input the law returns true; each argument reads behind the call as it read before'; 0 by the template 'total and deterministic' (their statements: YtmlkiddkgikdhaaTotals.lean).
  GIVEN WITH THE SEED: the statements are not yours to turn. If you find one false, say at which input.
  Laid BY PROGRAM, IN A SANDBOX (cutbox-rows.mjs): the forced cells as the released guide's own fill.sh prints them over the translation 3f550a3167493030… (all of the seat's roots in one cut). By AI agents, Wed Nov 11 2026. No macro, syntax, notation, axiom, sorry.
-/
import Derived.Test.YtmlkiddkgikdhaaChecked
import GoSem.Claim
import GoSem.ClaimJoined
import GoSem.ClaimMapViews
import Derived.JoinedTies
import Derived.KernelRfl
namespace Go.Proofs.Ytmlkiddkgikdhaa
/- THE CELL 'sum', in the pinned program and in every row, IS THE sha256 OF THE DUMP (.gsa) THAT YtmlkiddkgikdhaaProg.lean LOADS. Nothing in Lean hashes anything: it is a label: what it is worth is what the hold of that sum in a sandbox is worth. -/
noncomputable def Try.pinned : Pinned := { name := "ytmlkiddkgikdhaa", sum := "3f550a31674930308ff119e159b612c076b461051ae38146a1f44e850c33abc9", checked := Try.checked }
namespace Rows
def none {H : Type} : Left H := { results := [], args := [] }

/-- 'fourfoldlaw01.IntegerHilbert': WHATEVER THE INPUT: true; the input reads as it did. -/
def integerHilbertSpec : ChangeSpec := { name := "integerHilbert", fn := fun _ => fun
  | [d1, d2, d3] => { results := [.lit (.bool true)], args := [d1, d2, d3] }
  | _ => none }
def integerHilbertRow : OpenClaim := { program := "ytmlkiddkgikdhaa", sum := "3f550a31674930308ff119e159b612c076b461051ae38146a1f44e850c33abc9", func := "fourfold/fourfoldlaw01.IntegerHilbert", spec := "integerHilbert", unfollowed := true, recurses := true, apart := false }
def IntegerHilbertSaid : Prop := integerHilbertRow.holds Try.pinned (OpenSpec.ofChange integerHilbertSpec)

/-- ITS FALSE NEIGHBOUR: 'it returns false'. Refute it at one input. -/
def integerHilbertWrong : ChangeSpec := { name := "integerHilbert", fn := fun _ => fun
  | [d1, d2, d3] => { results := [.lit (.bool false)], args := [d1, d2, d3] }
  | _ => none }
def IntegerHilbertWrongFalsely : Prop := integerHilbertRow.holds Try.pinned (OpenSpec.ofChange integerHilbertWrong)

/-- 'fourfoldlaw01.IntegerRoots': WHATEVER THE INPUT: true; the input reads as it did. -/
def integerRootsSpec : ChangeSpec := { name := "integerRoots", fn := fun _ => fun
  | [d1, d2, d3] => { results := [.lit (.bool true)], args := [d1, d2, d3] }
  | _ => none }
def integerRootsRow : OpenClaim := { program := "ytmlkiddkgikdhaa", sum := "3f550a31674930308ff119e159b612c076b461051ae38146a1f44e850c33abc9", func := "fourfold/fourfoldlaw01.IntegerRoots", spec := "integerRoots", unfollowed := true, recurses := true, apart := false }
def IntegerRootsSaid : Prop := integerRootsRow.holds Try.pinned (OpenSpec.ofChange integerRootsSpec)

/-- ITS FALSE NEIGHBOUR: 'it returns false'. Refute it at one input. -/
def integerRootsWrong : ChangeSpec := { name := "integerRoots", fn := fun _ => fun
  | [d1, d2, d3] => { results := [.lit (.bool false)], args := [d1, d2, d3] }
  | _ => none }
def IntegerRootsWrongFalsely : Prop := integerRootsRow.holds Try.pinned (OpenSpec.ofChange integerRootsWrong)

/-- 'fourfoldlaw01.IntegerPowers': WHATEVER THE INPUT: true; the input reads as it did. -/
def integerPowersSpec : ChangeSpec := { name := "integerPowers", fn := fun _ => fun
  | [d1, d2, d3] => { results := [.lit (.bool true)], args := [d1, d2, d3] }
  | _ => none }
def integerPowersRow : OpenClaim := { program := "ytmlkiddkgikdhaa", sum := "3f550a31674930308ff119e159b612c076b461051ae38146a1f44e850c33abc9", func := "fourfold/fourfoldlaw01.IntegerPowers", spec := "integerPowers", unfollowed := true, recurses := true, apart := false }
def IntegerPowersSaid : Prop := integerPowersRow.holds Try.pinned (OpenSpec.ofChange integerPowersSpec)

/-- ITS FALSE NEIGHBOUR: 'it returns false'. Refute it at one input. -/
def integerPowersWrong : ChangeSpec := { name := "integerPowers", fn := fun _ => fun
  | [d1, d2, d3] => { results := [.lit (.bool false)], args := [d1, d2, d3] }
  | _ => none }
def IntegerPowersWrongFalsely : Prop := integerPowersRow.holds Try.pinned (OpenSpec.ofChange integerPowersWrong)

/-- 'fourfoldlaw01.IntegerBezout': WHATEVER THE INPUT: true; the input reads as it did. -/
def integerBezoutSpec : ChangeSpec := { name := "integerBezout", fn := fun _ => fun
  | [d1, d2, d3] => { results := [.lit (.bool true)], args := [d1, d2, d3] }
  | _ => none }
def integerBezoutRow : OpenClaim := { program := "ytmlkiddkgikdhaa", sum := "3f550a31674930308ff119e159b612c076b461051ae38146a1f44e850c33abc9", func := "fourfold/fourfoldlaw01.IntegerBezout", spec := "integerBezout", unfollowed := true, recurses := true, apart := false }
def IntegerBezoutSaid : Prop := integerBezoutRow.holds Try.pinned (OpenSpec.ofChange integerBezoutSpec)

/-- ITS FALSE NEIGHBOUR: 'it returns false'. Refute it at one input. -/
def integerBezoutWrong : ChangeSpec := { name := "integerBezout", fn := fun _ => fun
  | [d1, d2, d3] => { results := [.lit (.bool false)], args := [d1, d2, d3] }
  | _ => none }
def IntegerBezoutWrongFalsely : Prop := integerBezoutRow.holds Try.pinned (OpenSpec.ofChange integerBezoutWrong)

/-- 'fourfoldlaw01.IntegerReciprocity': WHATEVER THE INPUT: true; the input reads as it did. -/
def integerReciprocitySpec : ChangeSpec := { name := "integerReciprocity", fn := fun _ => fun
  | [d1, d2, d3] => { results := [.lit (.bool true)], args := [d1, d2, d3] }
  | _ => none }
def integerReciprocityRow : OpenClaim := { program := "ytmlkiddkgikdhaa", sum := "3f550a31674930308ff119e159b612c076b461051ae38146a1f44e850c33abc9", func := "fourfold/fourfoldlaw01.IntegerReciprocity", spec := "integerReciprocity", unfollowed := true, recurses := true, apart := false }
def IntegerReciprocitySaid : Prop := integerReciprocityRow.holds Try.pinned (OpenSpec.ofChange integerReciprocitySpec)

/-- ITS FALSE NEIGHBOUR: 'it returns false'. Refute it at one input. -/
def integerReciprocityWrong : ChangeSpec := { name := "integerReciprocity", fn := fun _ => fun
  | [d1, d2, d3] => { results := [.lit (.bool false)], args := [d1, d2, d3] }
  | _ => none }
def IntegerReciprocityWrongFalsely : Prop := integerReciprocityRow.holds Try.pinned (OpenSpec.ofChange integerReciprocityWrong)

/-- 'fourfoldlaw01.IntegerHensel': WHATEVER THE INPUT: true; the input reads as it did. -/
def integerHenselSpec : ChangeSpec := { name := "integerHensel", fn := fun _ => fun
  | [d1, d2, d3] => { results := [.lit (.bool true)], args := [d1, d2, d3] }
  | _ => none }
def integerHenselRow : OpenClaim := { program := "ytmlkiddkgikdhaa", sum := "3f550a31674930308ff119e159b612c076b461051ae38146a1f44e850c33abc9", func := "fourfold/fourfoldlaw01.IntegerHensel", spec := "integerHensel", unfollowed := true, recurses := true, apart := false }
def IntegerHenselSaid : Prop := integerHenselRow.holds Try.pinned (OpenSpec.ofChange integerHenselSpec)

/-- ITS FALSE NEIGHBOUR: 'it returns false'. Refute it at one input. -/
def integerHenselWrong : ChangeSpec := { name := "integerHensel", fn := fun _ => fun
  | [d1, d2, d3] => { results := [.lit (.bool false)], args := [d1, d2, d3] }
  | _ => none }
def IntegerHenselWrongFalsely : Prop := integerHenselRow.holds Try.pinned (OpenSpec.ofChange integerHenselWrong)

/-- 'fourfoldlaw01.IntegerArithmetic': WHATEVER THE INPUT: true; the input reads as it did. -/
def integerArithmeticSpec : ChangeSpec := { name := "integerArithmetic", fn := fun _ => fun
  | [d1, d2] => { results := [.lit (.bool true)], args := [d1, d2] }
  | _ => none }
def integerArithmeticRow : OpenClaim := { program := "ytmlkiddkgikdhaa", sum := "3f550a31674930308ff119e159b612c076b461051ae38146a1f44e850c33abc9", func := "fourfold/fourfoldlaw01.IntegerArithmetic", spec := "integerArithmetic", unfollowed := true, recurses := true, apart := false }
def IntegerArithmeticSaid : Prop := integerArithmeticRow.holds Try.pinned (OpenSpec.ofChange integerArithmeticSpec)

/-- ITS FALSE NEIGHBOUR: 'it returns false'. Refute it at one input. -/
def integerArithmeticWrong : ChangeSpec := { name := "integerArithmetic", fn := fun _ => fun
  | [d1, d2] => { results := [.lit (.bool false)], args := [d1, d2] }
  | _ => none }
def IntegerArithmeticWrongFalsely : Prop := integerArithmeticRow.holds Try.pinned (OpenSpec.ofChange integerArithmeticWrong)

/-- 'fourfoldlaw01.IntegerSymbols': WHATEVER THE INPUT: true; the input reads as it did. -/
def integerSymbolsSpec : ChangeSpec := { name := "integerSymbols", fn := fun _ => fun
  | [d1, d2, d3] => { results := [.lit (.bool true)], args := [d1, d2, d3] }
  | _ => none }
def integerSymbolsRow : OpenClaim := { program := "ytmlkiddkgikdhaa", sum := "3f550a31674930308ff119e159b612c076b461051ae38146a1f44e850c33abc9", func := "fourfold/fourfoldlaw01.IntegerSymbols", spec := "integerSymbols", unfollowed := true, recurses := true, apart := false }
def IntegerSymbolsSaid : Prop := integerSymbolsRow.holds Try.pinned (OpenSpec.ofChange integerSymbolsSpec)

/-- ITS FALSE NEIGHBOUR: 'it returns false'. Refute it at one input. -/
def integerSymbolsWrong : ChangeSpec := { name := "integerSymbols", fn := fun _ => fun
  | [d1, d2, d3] => { results := [.lit (.bool false)], args := [d1, d2, d3] }
  | _ => none }
def IntegerSymbolsWrongFalsely : Prop := integerSymbolsRow.holds Try.pinned (OpenSpec.ofChange integerSymbolsWrong)

/-- 'fourfoldlaw01.IntegerChinese': WHATEVER THE INPUT: true; the input reads as it did. -/
def integerChineseSpec : ChangeSpec := { name := "integerChinese", fn := fun _ => fun
  | [d] => { results := [.lit (.bool true)], args := [d] }
  | _ => none }
def integerChineseRow : OpenClaim := { program := "ytmlkiddkgikdhaa", sum := "3f550a31674930308ff119e159b612c076b461051ae38146a1f44e850c33abc9", func := "fourfold/fourfoldlaw01.IntegerChinese", spec := "integerChinese", unfollowed := true, recurses := true, apart := false }
def IntegerChineseSaid : Prop := integerChineseRow.holds Try.pinned (OpenSpec.ofChange integerChineseSpec)

/-- ITS FALSE NEIGHBOUR: 'it returns false'. Refute it at one input. -/
def integerChineseWrong : ChangeSpec := { name := "integerChinese", fn := fun _ => fun
  | [d] => { results := [.lit (.bool false)], args := [d] }
  | _ => none }
def IntegerChineseWrongFalsely : Prop := integerChineseRow.holds Try.pinned (OpenSpec.ofChange integerChineseWrong)

/-- 'fourfoldlaw01.IntegerRing': WHATEVER THE INPUT: true; the input reads as it did. -/
def integerRingSpec : ChangeSpec := { name := "integerRing", fn := fun _ => fun
  | [d1, d2, d3] => { results := [.lit (.bool true)], args := [d1, d2, d3] }
  | _ => none }
def integerRingRow : OpenClaim := { program := "ytmlkiddkgikdhaa", sum := "3f550a31674930308ff119e159b612c076b461051ae38146a1f44e850c33abc9", func := "fourfold/fourfoldlaw01.IntegerRing", spec := "integerRing", unfollowed := true, recurses := true, apart := false }
def IntegerRingSaid : Prop := integerRingRow.holds Try.pinned (OpenSpec.ofChange integerRingSpec)

/-- ITS FALSE NEIGHBOUR: 'it returns false'. Refute it at one input. -/
def integerRingWrong : ChangeSpec := { name := "integerRing", fn := fun _ => fun
  | [d1, d2, d3] => { results := [.lit (.bool false)], args := [d1, d2, d3] }
  | _ => none }
def IntegerRingWrongFalsely : Prop := integerRingRow.holds Try.pinned (OpenSpec.ofChange integerRingWrong)

/-- 'fourfoldlaw01.IntegerValues': WHATEVER THE INPUT: true; the input reads as it did. -/
def integerValuesSpec : ChangeSpec := { name := "integerValues", fn := fun _ => fun
  | [d1, d2, d3] => { results := [.lit (.bool true)], args := [d1, d2, d3] }
  | _ => none }
def integerValuesRow : OpenClaim := { program := "ytmlkiddkgikdhaa", sum := "3f550a31674930308ff119e159b612c076b461051ae38146a1f44e850c33abc9", func := "fourfold/fourfoldlaw01.IntegerValues", spec := "integerValues", unfollowed := true, recurses := true, apart := false }
def IntegerValuesSaid : Prop := integerValuesRow.holds Try.pinned (OpenSpec.ofChange integerValuesSpec)

/-- ITS FALSE NEIGHBOUR: 'it returns false'. Refute it at one input. -/
def integerValuesWrong : ChangeSpec := { name := "integerValues", fn := fun _ => fun
  | [d1, d2, d3] => { results := [.lit (.bool false)], args := [d1, d2, d3] }
  | _ => none }
def IntegerValuesWrongFalsely : Prop := integerValuesRow.holds Try.pinned (OpenSpec.ofChange integerValuesWrong)

/-- 'fourfoldlaw01.IntegerSquares': WHATEVER THE INPUT: true; the input reads as it did. -/
def integerSquaresSpec : ChangeSpec := { name := "integerSquares", fn := fun _ => fun
  | [d] => { results := [.lit (.bool true)], args := [d] }
  | _ => none }
def integerSquaresRow : OpenClaim := { program := "ytmlkiddkgikdhaa", sum := "3f550a31674930308ff119e159b612c076b461051ae38146a1f44e850c33abc9", func := "fourfold/fourfoldlaw01.IntegerSquares", spec := "integerSquares", unfollowed := true, recurses := true, apart := false }
def IntegerSquaresSaid : Prop := integerSquaresRow.holds Try.pinned (OpenSpec.ofChange integerSquaresSpec)

/-- ITS FALSE NEIGHBOUR: 'it returns false'. Refute it at one input. -/
def integerSquaresWrong : ChangeSpec := { name := "integerSquares", fn := fun _ => fun
  | [d] => { results := [.lit (.bool false)], args := [d] }
  | _ => none }
def IntegerSquaresWrongFalsely : Prop := integerSquaresRow.holds Try.pinned (OpenSpec.ofChange integerSquaresWrong)

/-- 'fourfoldlaw01.IntegerProductFormula': WHATEVER THE INPUT: true; the input reads as it did. -/
def integerProductFormulaSpec : ChangeSpec := { name := "integerProductFormula", fn := fun _ => fun
  | [d1, d2, d3] => { results := [.lit (.bool true)], args := [d1, d2, d3] }
  | _ => none }
def integerProductFormulaRow : OpenClaim := { program := "ytmlkiddkgikdhaa", sum := "3f550a31674930308ff119e159b612c076b461051ae38146a1f44e850c33abc9", func := "fourfold/fourfoldlaw01.IntegerProductFormula", spec := "integerProductFormula", unfollowed := true, recurses := true, apart := false }
def IntegerProductFormulaSaid : Prop := integerProductFormulaRow.holds Try.pinned (OpenSpec.ofChange integerProductFormulaSpec)

/-- ITS FALSE NEIGHBOUR: 'it returns false'. Refute it at one input. -/
def integerProductFormulaWrong : ChangeSpec := { name := "integerProductFormula", fn := fun _ => fun
  | [d1, d2, d3] => { results := [.lit (.bool false)], args := [d1, d2, d3] }
  | _ => none }
def IntegerProductFormulaWrongFalsely : Prop := integerProductFormulaRow.holds Try.pinned (OpenSpec.ofChange integerProductFormulaWrong)

/-- 'fourfoldlaw01.IntegerPrimes': WHATEVER THE INPUT: true; the input reads as it did. -/
def integerPrimesSpec : ChangeSpec := { name := "integerPrimes", fn := fun _ => fun
  | [d1, d2] => { results := [.lit (.bool true)], args := [d1, d2] }
  | _ => none }
def integerPrimesRow : OpenClaim := { program := "ytmlkiddkgikdhaa", sum := "3f550a31674930308ff119e159b612c076b461051ae38146a1f44e850c33abc9", func := "fourfold/fourfoldlaw01.IntegerPrimes", spec := "integerPrimes", unfollowed := true, recurses := true, apart := false }
def IntegerPrimesSaid : Prop := integerPrimesRow.holds Try.pinned (OpenSpec.ofChange integerPrimesSpec)

/-- ITS FALSE NEIGHBOUR: 'it returns false'. Refute it at one input. -/
def integerPrimesWrong : ChangeSpec := { name := "integerPrimes", fn := fun _ => fun
  | [d1, d2] => { results := [.lit (.bool false)], args := [d1, d2] }
  | _ => none }
def IntegerPrimesWrongFalsely : Prop := integerPrimesRow.holds Try.pinned (OpenSpec.ofChange integerPrimesWrong)

/-- 'fourfoldlaw01.IntegerFactors': WHATEVER THE INPUT: true; the input reads as it did. -/
def integerFactorsSpec : ChangeSpec := { name := "integerFactors", fn := fun _ => fun
  | [d1, d2, d3] => { results := [.lit (.bool true)], args := [d1, d2, d3] }
  | _ => none }
def integerFactorsRow : OpenClaim := { program := "ytmlkiddkgikdhaa", sum := "3f550a31674930308ff119e159b612c076b461051ae38146a1f44e850c33abc9", func := "fourfold/fourfoldlaw01.IntegerFactors", spec := "integerFactors", unfollowed := true, recurses := true, apart := false }
def IntegerFactorsSaid : Prop := integerFactorsRow.holds Try.pinned (OpenSpec.ofChange integerFactorsSpec)

/-- ITS FALSE NEIGHBOUR: 'it returns false'. Refute it at one input. -/
def integerFactorsWrong : ChangeSpec := { name := "integerFactors", fn := fun _ => fun
  | [d1, d2, d3] => { results := [.lit (.bool false)], args := [d1, d2, d3] }
  | _ => none }
def IntegerFactorsWrongFalsely : Prop := integerFactorsRow.holds Try.pinned (OpenSpec.ofChange integerFactorsWrong)

/- THE SECOND FORM. 'bulk': how many values and letters a reading holds, each counted each time it is reached (what is shared counts as often as it is met; a slice's spare places count too). A statement '..UptoSaid' is the law's where the arguments, and the package variables that the reading takes, are together of bulk at most 1048576: NARROWER than '..Said'. Prove '..Said' where nothing that the law and all that it calls make is longer than what came in: it says more and counts as full. Else prove '..UptoSaid'. A law counts once. -/
mutual
def uptoBulk {H : Type} : DataW H → Nat
  | .lit (.string bytes) => bytes.length + 1
  | .lit _ => 1
  | .nil => 1
  | .ptr d => uptoBulk d + 1
  | .slice elems spare => uptoBulkAll elems + uptoBulkAll spare + 1
  | .agg parts => uptoBulkAll parts + 1
  | .iface _ d => uptoBulk d + 1
  | .map entries => uptoBulkEntries entries + 1
  | .held _ => 1
def uptoBulkAll {H : Type} : List (DataW H) → Nat
  | [] => 0
  | d :: r => uptoBulk d + uptoBulkAll r
def uptoBulkEntries {H : Type} : List (Lit × DataW H) → Nat
  | [] => 0
  | x :: r => uptoBulkEntry x + uptoBulkEntries r
def uptoBulkEntry {H : Type} : Lit × DataW H → Nat
  | (.string bytes, d) => bytes.length + uptoBulk d + 1
  | (_, d) => uptoBulk d + 1
 end
def uptoSmall : (H : Type) → List (DataW H) → Bool := fun _ ds => decide (uptoBulkAll ds ≤ 1048576)
def OpenSpec.upto (s : _root_.Go.ChangeSpec) : _root_.Go.OpenSpec := { _root_.Go.OpenSpec.ofChange s with cond := some uptoSmall }

/-- 'fourfoldlaw01.IntegerHilbert', WHERE WHAT IT READS IS OF BULK AT MOST 1048576: true; the input reads as it did. -/
def integerHilbertUptoRow : OpenClaim := { program := "ytmlkiddkgikdhaa", sum := "3f550a31674930308ff119e159b612c076b461051ae38146a1f44e850c33abc9", func := "fourfold/fourfoldlaw01.IntegerHilbert", spec := "integerHilbert", unfollowed := true, recurses := true, apart := false, narrowed := true }
def IntegerHilbertUptoSaid : Prop := integerHilbertUptoRow.holds Try.pinned (OpenSpec.upto integerHilbertSpec)

/-- 'fourfoldlaw01.IntegerRoots', WHERE WHAT IT READS IS OF BULK AT MOST 1048576: true; the input reads as it did. -/
def integerRootsUptoRow : OpenClaim := { program := "ytmlkiddkgikdhaa", sum := "3f550a31674930308ff119e159b612c076b461051ae38146a1f44e850c33abc9", func := "fourfold/fourfoldlaw01.IntegerRoots", spec := "integerRoots", unfollowed := true, recurses := true, apart := false, narrowed := true }
def IntegerRootsUptoSaid : Prop := integerRootsUptoRow.holds Try.pinned (OpenSpec.upto integerRootsSpec)

/-- 'fourfoldlaw01.IntegerPowers', WHERE WHAT IT READS IS OF BULK AT MOST 1048576: true; the input reads as it did. -/
def integerPowersUptoRow : OpenClaim := { program := "ytmlkiddkgikdhaa", sum := "3f550a31674930308ff119e159b612c076b461051ae38146a1f44e850c33abc9", func := "fourfold/fourfoldlaw01.IntegerPowers", spec := "integerPowers", unfollowed := true, recurses := true, apart := false, narrowed := true }
def IntegerPowersUptoSaid : Prop := integerPowersUptoRow.holds Try.pinned (OpenSpec.upto integerPowersSpec)

/-- 'fourfoldlaw01.IntegerBezout', WHERE WHAT IT READS IS OF BULK AT MOST 1048576: true; the input reads as it did. -/
def integerBezoutUptoRow : OpenClaim := { program := "ytmlkiddkgikdhaa", sum := "3f550a31674930308ff119e159b612c076b461051ae38146a1f44e850c33abc9", func := "fourfold/fourfoldlaw01.IntegerBezout", spec := "integerBezout", unfollowed := true, recurses := true, apart := false, narrowed := true }
def IntegerBezoutUptoSaid : Prop := integerBezoutUptoRow.holds Try.pinned (OpenSpec.upto integerBezoutSpec)

/-- 'fourfoldlaw01.IntegerReciprocity', WHERE WHAT IT READS IS OF BULK AT MOST 1048576: true; the input reads as it did. -/
def integerReciprocityUptoRow : OpenClaim := { program := "ytmlkiddkgikdhaa", sum := "3f550a31674930308ff119e159b612c076b461051ae38146a1f44e850c33abc9", func := "fourfold/fourfoldlaw01.IntegerReciprocity", spec := "integerReciprocity", unfollowed := true, recurses := true, apart := false, narrowed := true }
def IntegerReciprocityUptoSaid : Prop := integerReciprocityUptoRow.holds Try.pinned (OpenSpec.upto integerReciprocitySpec)

/-- 'fourfoldlaw01.IntegerHensel', WHERE WHAT IT READS IS OF BULK AT MOST 1048576: true; the input reads as it did. -/
def integerHenselUptoRow : OpenClaim := { program := "ytmlkiddkgikdhaa", sum := "3f550a31674930308ff119e159b612c076b461051ae38146a1f44e850c33abc9", func := "fourfold/fourfoldlaw01.IntegerHensel", spec := "integerHensel", unfollowed := true, recurses := true, apart := false, narrowed := true }
def IntegerHenselUptoSaid : Prop := integerHenselUptoRow.holds Try.pinned (OpenSpec.upto integerHenselSpec)

/-- 'fourfoldlaw01.IntegerArithmetic', WHERE WHAT IT READS IS OF BULK AT MOST 1048576: true; the input reads as it did. -/
def integerArithmeticUptoRow : OpenClaim := { program := "ytmlkiddkgikdhaa", sum := "3f550a31674930308ff119e159b612c076b461051ae38146a1f44e850c33abc9", func := "fourfold/fourfoldlaw01.IntegerArithmetic", spec := "integerArithmetic", unfollowed := true, recurses := true, apart := false, narrowed := true }
def IntegerArithmeticUptoSaid : Prop := integerArithmeticUptoRow.holds Try.pinned (OpenSpec.upto integerArithmeticSpec)

/-- 'fourfoldlaw01.IntegerSymbols', WHERE WHAT IT READS IS OF BULK AT MOST 1048576: true; the input reads as it did. -/
def integerSymbolsUptoRow : OpenClaim := { program := "ytmlkiddkgikdhaa", sum := "3f550a31674930308ff119e159b612c076b461051ae38146a1f44e850c33abc9", func := "fourfold/fourfoldlaw01.IntegerSymbols", spec := "integerSymbols", unfollowed := true, recurses := true, apart := false, narrowed := true }
def IntegerSymbolsUptoSaid : Prop := integerSymbolsUptoRow.holds Try.pinned (OpenSpec.upto integerSymbolsSpec)

/-- 'fourfoldlaw01.IntegerChinese', WHERE WHAT IT READS IS OF BULK AT MOST 1048576: true; the input reads as it did. -/
def integerChineseUptoRow : OpenClaim := { program := "ytmlkiddkgikdhaa", sum := "3f550a31674930308ff119e159b612c076b461051ae38146a1f44e850c33abc9", func := "fourfold/fourfoldlaw01.IntegerChinese", spec := "integerChinese", unfollowed := true, recurses := true, apart := false, narrowed := true }
def IntegerChineseUptoSaid : Prop := integerChineseUptoRow.holds Try.pinned (OpenSpec.upto integerChineseSpec)

/-- 'fourfoldlaw01.IntegerRing', WHERE WHAT IT READS IS OF BULK AT MOST 1048576: true; the input reads as it did. -/
def integerRingUptoRow : OpenClaim := { program := "ytmlkiddkgikdhaa", sum := "3f550a31674930308ff119e159b612c076b461051ae38146a1f44e850c33abc9", func := "fourfold/fourfoldlaw01.IntegerRing", spec := "integerRing", unfollowed := true, recurses := true, apart := false, narrowed := true }
def IntegerRingUptoSaid : Prop := integerRingUptoRow.holds Try.pinned (OpenSpec.upto integerRingSpec)

/-- 'fourfoldlaw01.IntegerValues', WHERE WHAT IT READS IS OF BULK AT MOST 1048576: true; the input reads as it did. -/
def integerValuesUptoRow : OpenClaim := { program := "ytmlkiddkgikdhaa", sum := "3f550a31674930308ff119e159b612c076b461051ae38146a1f44e850c33abc9", func := "fourfold/fourfoldlaw01.IntegerValues", spec := "integerValues", unfollowed := true, recurses := true, apart := false, narrowed := true }
def IntegerValuesUptoSaid : Prop := integerValuesUptoRow.holds Try.pinned (OpenSpec.upto integerValuesSpec)

/-- 'fourfoldlaw01.IntegerSquares', WHERE WHAT IT READS IS OF BULK AT MOST 1048576: true; the input reads as it did. -/
def integerSquaresUptoRow : OpenClaim := { program := "ytmlkiddkgikdhaa", sum := "3f550a31674930308ff119e159b612c076b461051ae38146a1f44e850c33abc9", func := "fourfold/fourfoldlaw01.IntegerSquares", spec := "integerSquares", unfollowed := true, recurses := true, apart := false, narrowed := true }
def IntegerSquaresUptoSaid : Prop := integerSquaresUptoRow.holds Try.pinned (OpenSpec.upto integerSquaresSpec)

/-- 'fourfoldlaw01.IntegerProductFormula', WHERE WHAT IT READS IS OF BULK AT MOST 1048576: true; the input reads as it did. -/
def integerProductFormulaUptoRow : OpenClaim := { program := "ytmlkiddkgikdhaa", sum := "3f550a31674930308ff119e159b612c076b461051ae38146a1f44e850c33abc9", func := "fourfold/fourfoldlaw01.IntegerProductFormula", spec := "integerProductFormula", unfollowed := true, recurses := true, apart := false, narrowed := true }
def IntegerProductFormulaUptoSaid : Prop := integerProductFormulaUptoRow.holds Try.pinned (OpenSpec.upto integerProductFormulaSpec)

/-- 'fourfoldlaw01.IntegerPrimes', WHERE WHAT IT READS IS OF BULK AT MOST 1048576: true; the input reads as it did. -/
def integerPrimesUptoRow : OpenClaim := { program := "ytmlkiddkgikdhaa", sum := "3f550a31674930308ff119e159b612c076b461051ae38146a1f44e850c33abc9", func := "fourfold/fourfoldlaw01.IntegerPrimes", spec := "integerPrimes", unfollowed := true, recurses := true, apart := false, narrowed := true }
def IntegerPrimesUptoSaid : Prop := integerPrimesUptoRow.holds Try.pinned (OpenSpec.upto integerPrimesSpec)

/-- 'fourfoldlaw01.IntegerFactors', WHERE WHAT IT READS IS OF BULK AT MOST 1048576: true; the input reads as it did. -/
def integerFactorsUptoRow : OpenClaim := { program := "ytmlkiddkgikdhaa", sum := "3f550a31674930308ff119e159b612c076b461051ae38146a1f44e850c33abc9", func := "fourfold/fourfoldlaw01.IntegerFactors", spec := "integerFactors", unfollowed := true, recurses := true, apart := false, narrowed := true }
def IntegerFactorsUptoSaid : Prop := integerFactorsUptoRow.holds Try.pinned (OpenSpec.upto integerFactorsSpec)

end Rows
end Go.Proofs.Ytmlkiddkgikdhaa
