/-
  No cell of these rows narrows 'for every input' (looked for: loops, veiled, ifaces, maps, wideKeys, modest, calm, conditions, laid).
  DERIVED. THE GIVEN ROWS OF THIS SEAT. 5 by the template 'for every input the law returns true; each argument reads behind the call as it read before'; 0 by the template 'total and deterministic' (their statements: YtfjmhfmhijhpkaaTotals.lean).
  GIVEN WITH THE SEED: the statements are not yours to turn. If you find one false, say at which input.
  Laid BY PROGRAM, IN A SANDBOX (cutbox-rows.mjs): the forced cells as the released guide's own fill.sh prints them over the translation 24c4f2093714f7ba… (all of the seat's roots in one cut). By AI agents, Wed Nov 11 2026. No macro, syntax, notation, axiom, sorry.
-/
import Derived.Test.YtfjmhfmhijhpkaaChecked
import GoSem.Claim
import GoSem.ClaimJoined
import GoSem.ClaimMapViews
import Derived.JoinedTies
import Derived.KernelRfl
namespace Go.Proofs.Ytfjmhfmhijhpkaa
/- THE CELL 'sum', in the pinned program and in every row, IS THE sha256 OF THE DUMP (.gsa) THAT YtfjmhfmhijhpkaaProg.lean LOADS. Nothing in Lean hashes anything: it is a label: what it is worth is what the hold of that sum in a sandbox is worth. -/
noncomputable def Try.pinned : Pinned := { name := "ytfjmhfmhijhpkaa", sum := "24c4f2093714f7ba980684b3571e475ae605cbbeb11138ac68e7431bfa1462ea", checked := Try.checked }
namespace Rows
def none {H : Type} : Left H := { results := [], args := [] }

/-- 'fourfoldtop.TopModuloNorms': WHATEVER THE INPUT: true; the input reads as it did. -/
def topModuloNormsSpec : ChangeSpec := { name := "topModuloNorms", fn := fun _ => fun
  | [d1, d2, d3] => { results := [.lit (.bool true)], args := [d1, d2, d3] }
  | _ => none }
def topModuloNormsRow : OpenClaim := { program := "ytfjmhfmhijhpkaa", sum := "24c4f2093714f7ba980684b3571e475ae605cbbeb11138ac68e7431bfa1462ea", func := "fourfold/fourfoldtop.TopModuloNorms", spec := "topModuloNorms", unfollowed := true, recurses := true, apart := false }
def TopModuloNormsSaid : Prop := topModuloNormsRow.holds Try.pinned (OpenSpec.ofChange topModuloNormsSpec)

/-- ITS FALSE NEIGHBOUR: 'it returns false'. Refute it at one input. -/
def topModuloNormsWrong : ChangeSpec := { name := "topModuloNorms", fn := fun _ => fun
  | [d1, d2, d3] => { results := [.lit (.bool false)], args := [d1, d2, d3] }
  | _ => none }
def TopModuloNormsWrongFalsely : Prop := topModuloNormsRow.holds Try.pinned (OpenSpec.ofChange topModuloNormsWrong)

/-- 'fourfoldlaw01.IntegerPrimes': WHATEVER THE INPUT: true; the input reads as it did. -/
def integerPrimesSpec : ChangeSpec := { name := "integerPrimes", fn := fun _ => fun
  | [d1, d2] => { results := [.lit (.bool true)], args := [d1, d2] }
  | _ => none }
def integerPrimesRow : OpenClaim := { program := "ytfjmhfmhijhpkaa", sum := "24c4f2093714f7ba980684b3571e475ae605cbbeb11138ac68e7431bfa1462ea", func := "fourfold/fourfoldlaw01.IntegerPrimes", spec := "integerPrimes", unfollowed := true, recurses := true, apart := false }
def IntegerPrimesSaid : Prop := integerPrimesRow.holds Try.pinned (OpenSpec.ofChange integerPrimesSpec)

/-- ITS FALSE NEIGHBOUR: 'it returns false'. Refute it at one input. -/
def integerPrimesWrong : ChangeSpec := { name := "integerPrimes", fn := fun _ => fun
  | [d1, d2] => { results := [.lit (.bool false)], args := [d1, d2] }
  | _ => none }
def IntegerPrimesWrongFalsely : Prop := integerPrimesRow.holds Try.pinned (OpenSpec.ofChange integerPrimesWrong)

/-- 'fourfoldtop.TopRamifiedEven': WHATEVER THE INPUT: true; the input reads as it did. -/
def topRamifiedEvenSpec : ChangeSpec := { name := "topRamifiedEven", fn := fun _ => fun
  | [d] => { results := [.lit (.bool true)], args := [d] }
  | _ => none }
def topRamifiedEvenRow : OpenClaim := { program := "ytfjmhfmhijhpkaa", sum := "24c4f2093714f7ba980684b3571e475ae605cbbeb11138ac68e7431bfa1462ea", func := "fourfold/fourfoldtop.TopRamifiedEven", spec := "topRamifiedEven", unfollowed := true, recurses := true, apart := false }
def TopRamifiedEvenSaid : Prop := topRamifiedEvenRow.holds Try.pinned (OpenSpec.ofChange topRamifiedEvenSpec)

/-- ITS FALSE NEIGHBOUR: 'it returns false'. Refute it at one input. -/
def topRamifiedEvenWrong : ChangeSpec := { name := "topRamifiedEven", fn := fun _ => fun
  | [d] => { results := [.lit (.bool false)], args := [d] }
  | _ => none }
def TopRamifiedEvenWrongFalsely : Prop := topRamifiedEvenRow.holds Try.pinned (OpenSpec.ofChange topRamifiedEvenWrong)

/-- 'fourfoldtop.TopIsomorphismKeeps': WHATEVER THE INPUT: true; the input reads as it did. -/
def topIsomorphismKeepsSpec : ChangeSpec := { name := "topIsomorphismKeeps", fn := fun _ => fun
  | [d1, d2, d3] => { results := [.lit (.bool true)], args := [d1, d2, d3] }
  | _ => none }
def topIsomorphismKeepsRow : OpenClaim := { program := "ytfjmhfmhijhpkaa", sum := "24c4f2093714f7ba980684b3571e475ae605cbbeb11138ac68e7431bfa1462ea", func := "fourfold/fourfoldtop.TopIsomorphismKeeps", spec := "topIsomorphismKeeps", unfollowed := true, recurses := true, apart := false }
def TopIsomorphismKeepsSaid : Prop := topIsomorphismKeepsRow.holds Try.pinned (OpenSpec.ofChange topIsomorphismKeepsSpec)

/-- ITS FALSE NEIGHBOUR: 'it returns false'. Refute it at one input. -/
def topIsomorphismKeepsWrong : ChangeSpec := { name := "topIsomorphismKeeps", fn := fun _ => fun
  | [d1, d2, d3] => { results := [.lit (.bool false)], args := [d1, d2, d3] }
  | _ => none }
def TopIsomorphismKeepsWrongFalsely : Prop := topIsomorphismKeepsRow.holds Try.pinned (OpenSpec.ofChange topIsomorphismKeepsWrong)

/-- 'fourfoldlaw01.IntegerFactors': WHATEVER THE INPUT: true; the input reads as it did. -/
def integerFactorsSpec : ChangeSpec := { name := "integerFactors", fn := fun _ => fun
  | [d1, d2, d3] => { results := [.lit (.bool true)], args := [d1, d2, d3] }
  | _ => none }
def integerFactorsRow : OpenClaim := { program := "ytfjmhfmhijhpkaa", sum := "24c4f2093714f7ba980684b3571e475ae605cbbeb11138ac68e7431bfa1462ea", func := "fourfold/fourfoldlaw01.IntegerFactors", spec := "integerFactors", unfollowed := true, recurses := true, apart := false }
def IntegerFactorsSaid : Prop := integerFactorsRow.holds Try.pinned (OpenSpec.ofChange integerFactorsSpec)

/-- ITS FALSE NEIGHBOUR: 'it returns false'. Refute it at one input. -/
def integerFactorsWrong : ChangeSpec := { name := "integerFactors", fn := fun _ => fun
  | [d1, d2, d3] => { results := [.lit (.bool false)], args := [d1, d2, d3] }
  | _ => none }
def IntegerFactorsWrongFalsely : Prop := integerFactorsRow.holds Try.pinned (OpenSpec.ofChange integerFactorsWrong)

/- THE SECOND FORM. 'bulk': how many values and letters a reading holds, each counted each time it is reached (what is shared counts as often as it is met; a slice's spare places count too). A statement '..UptoSaid' is the law's where the arguments, and the package variables that the reading takes, are together of bulk at most 1048576: NARROWER than '..Said'. Prove '..Said' where nothing that the law and all that it calls make is longer than what came in: it says more and counts as full. Else prove '..UptoSaid'. A law counts once. -/
mutual
def uptoBulk {H : Type} : DataW H → Nat
  | .lit (.string bytes) => bytes.length + 1
  | .lit _ => 1
  | .nil => 1
  | .ptr d => uptoBulk d + 1
  | .slice elems spare => uptoBulkAll elems + uptoBulkAll spare + 1
  | .agg parts => uptoBulkAll parts + 1
  | .iface _ d => uptoBulk d + 1
  | .map entries => uptoBulkEntries entries + 1
  | .held _ => 1
def uptoBulkAll {H : Type} : List (DataW H) → Nat
  | [] => 0
  | d :: r => uptoBulk d + uptoBulkAll r
def uptoBulkEntries {H : Type} : List (Lit × DataW H) → Nat
  | [] => 0
  | x :: r => uptoBulkEntry x + uptoBulkEntries r
def uptoBulkEntry {H : Type} : Lit × DataW H → Nat
  | (.string bytes, d) => bytes.length + uptoBulk d + 1
  | (_, d) => uptoBulk d + 1
 end
def uptoSmall : (H : Type) → List (DataW H) → Bool := fun _ ds => decide (uptoBulkAll ds ≤ 1048576)
def OpenSpec.upto (s : _root_.Go.ChangeSpec) : _root_.Go.OpenSpec := { _root_.Go.OpenSpec.ofChange s with cond := some uptoSmall }

/-- 'fourfoldtop.TopModuloNorms', WHERE WHAT IT READS IS OF BULK AT MOST 1048576: true; the input reads as it did. -/
def topModuloNormsUptoRow : OpenClaim := { program := "ytfjmhfmhijhpkaa", sum := "24c4f2093714f7ba980684b3571e475ae605cbbeb11138ac68e7431bfa1462ea", func := "fourfold/fourfoldtop.TopModuloNorms", spec := "topModuloNorms", unfollowed := true, recurses := true, apart := false, narrowed := true }
def TopModuloNormsUptoSaid : Prop := topModuloNormsUptoRow.holds Try.pinned (OpenSpec.upto topModuloNormsSpec)

/-- 'fourfoldlaw01.IntegerPrimes', WHERE WHAT IT READS IS OF BULK AT MOST 1048576: true; the input reads as it did. -/
def integerPrimesUptoRow : OpenClaim := { program := "ytfjmhfmhijhpkaa", sum := "24c4f2093714f7ba980684b3571e475ae605cbbeb11138ac68e7431bfa1462ea", func := "fourfold/fourfoldlaw01.IntegerPrimes", spec := "integerPrimes", unfollowed := true, recurses := true, apart := false, narrowed := true }
def IntegerPrimesUptoSaid : Prop := integerPrimesUptoRow.holds Try.pinned (OpenSpec.upto integerPrimesSpec)

/-- 'fourfoldtop.TopRamifiedEven', WHERE WHAT IT READS IS OF BULK AT MOST 1048576: true; the input reads as it did. -/
def topRamifiedEvenUptoRow : OpenClaim := { program := "ytfjmhfmhijhpkaa", sum := "24c4f2093714f7ba980684b3571e475ae605cbbeb11138ac68e7431bfa1462ea", func := "fourfold/fourfoldtop.TopRamifiedEven", spec := "topRamifiedEven", unfollowed := true, recurses := true, apart := false, narrowed := true }
def TopRamifiedEvenUptoSaid : Prop := topRamifiedEvenUptoRow.holds Try.pinned (OpenSpec.upto topRamifiedEvenSpec)

/-- 'fourfoldtop.TopIsomorphismKeeps', WHERE WHAT IT READS IS OF BULK AT MOST 1048576: true; the input reads as it did. -/
def topIsomorphismKeepsUptoRow : OpenClaim := { program := "ytfjmhfmhijhpkaa", sum := "24c4f2093714f7ba980684b3571e475ae605cbbeb11138ac68e7431bfa1462ea", func := "fourfold/fourfoldtop.TopIsomorphismKeeps", spec := "topIsomorphismKeeps", unfollowed := true, recurses := true, apart := false, narrowed := true }
def TopIsomorphismKeepsUptoSaid : Prop := topIsomorphismKeepsUptoRow.holds Try.pinned (OpenSpec.upto topIsomorphismKeepsSpec)

/-- 'fourfoldlaw01.IntegerFactors', WHERE WHAT IT READS IS OF BULK AT MOST 1048576: true; the input reads as it did. -/
def integerFactorsUptoRow : OpenClaim := { program := "ytfjmhfmhijhpkaa", sum := "24c4f2093714f7ba980684b3571e475ae605cbbeb11138ac68e7431bfa1462ea", func := "fourfold/fourfoldlaw01.IntegerFactors", spec := "integerFactors", unfollowed := true, recurses := true, apart := false, narrowed := true }
def IntegerFactorsUptoSaid : Prop := integerFactorsUptoRow.holds Try.pinned (OpenSpec.upto integerFactorsSpec)

end Rows
end Go.Proofs.Ytfjmhfmhijhpkaa
