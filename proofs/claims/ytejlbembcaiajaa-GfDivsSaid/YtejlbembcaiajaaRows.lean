/-
  No cell of these rows narrows 'for every input' (looked for: loops, veiled, ifaces, maps, wideKeys, modest, calm, conditions, laid).
  DERIVED. THE GIVEN ROWS OF THIS SEAT. 7 by the template 'for every input the law returns true; each argument reads behind the call as it read before'; 0 by the template 'total and deterministic' (their statements: YtejlbembcaiajaaTotals.lean).
  GIVEN WITH THE SEED: the statements are not yours to turn. If you find one false, say at which input.
  Laid BY PROGRAM, IN A SANDBOX (cutbox-rows.mjs): the forced cells as the released guide's own fill.sh prints them over the translation ce070b0c56dca054… (all of the seat's roots in one cut). By AI agents, Wed Nov 11 2026. No macro, syntax, notation, axiom, sorry.
-/
import Derived.Test.YtejlbembcaiajaaChecked
import GoSem.Claim
import GoSem.ClaimJoined
import GoSem.ClaimMapViews
import Derived.JoinedTies
import Derived.KernelRfl
namespace Go.Proofs.Ytejlbembcaiajaa
/- THE CELL 'sum', in the pinned program and in every row, IS THE sha256 OF THE DUMP (.gsa) THAT YtejlbembcaiajaaProg.lean LOADS. Nothing in Lean hashes anything: it is a label: what it is worth is what the hold of that sum in a sandbox is worth. -/
noncomputable def Try.pinned : Pinned := { name := "ytejlbembcaiajaa", sum := "ce070b0c56dca054314561fe1bdbe21591703f1d670d37d4bd6934d6d58c40ef", checked := Try.checked }
namespace Rows
def none {H : Type} : Left H := { results := [], args := [] }

/-- 'kistlaw01.GfMuls': WHATEVER THE INPUT: true; the input reads as it did. -/
def gfMulsSpec : ChangeSpec := { name := "gfMuls", fn := fun _ => fun
  | [d1, d2] => { results := [.lit (.bool true)], args := [d1, d2] }
  | _ => none }
def gfMulsRow : OpenClaim := { program := "ytejlbembcaiajaa", sum := "ce070b0c56dca054314561fe1bdbe21591703f1d670d37d4bd6934d6d58c40ef", func := "kist/kistlaw01.GfMuls", spec := "gfMuls", apart := false }
def GfMulsSaid : Prop := gfMulsRow.holds Try.pinned (OpenSpec.ofChange gfMulsSpec)

/-- ITS FALSE NEIGHBOUR: 'it returns false'. Refute it at one input. -/
def gfMulsWrong : ChangeSpec := { name := "gfMuls", fn := fun _ => fun
  | [d1, d2] => { results := [.lit (.bool false)], args := [d1, d2] }
  | _ => none }
def GfMulsWrongFalsely : Prop := gfMulsRow.holds Try.pinned (OpenSpec.ofChange gfMulsWrong)

/-- 'kistlaw01.GfPows': WHATEVER THE INPUT: true; the input reads as it did. -/
def gfPowsSpec : ChangeSpec := { name := "gfPows", fn := fun _ => fun
  | [d1, d2] => { results := [.lit (.bool true)], args := [d1, d2] }
  | _ => none }
def gfPowsRow : OpenClaim := { program := "ytejlbembcaiajaa", sum := "ce070b0c56dca054314561fe1bdbe21591703f1d670d37d4bd6934d6d58c40ef", func := "kist/kistlaw01.GfPows", spec := "gfPows", apart := false }
def GfPowsSaid : Prop := gfPowsRow.holds Try.pinned (OpenSpec.ofChange gfPowsSpec)

/-- ITS FALSE NEIGHBOUR: 'it returns false'. Refute it at one input. -/
def gfPowsWrong : ChangeSpec := { name := "gfPows", fn := fun _ => fun
  | [d1, d2] => { results := [.lit (.bool false)], args := [d1, d2] }
  | _ => none }
def GfPowsWrongFalsely : Prop := gfPowsRow.holds Try.pinned (OpenSpec.ofChange gfPowsWrong)

/-- 'kistlaw01.GfDivs': WHATEVER THE INPUT: true; the input reads as it did. -/
def gfDivsSpec : ChangeSpec := { name := "gfDivs", fn := fun _ => fun
  | [d1, d2] => { results := [.lit (.bool true)], args := [d1, d2] }
  | _ => none }
def gfDivsRow : OpenClaim := { program := "ytejlbembcaiajaa", sum := "ce070b0c56dca054314561fe1bdbe21591703f1d670d37d4bd6934d6d58c40ef", func := "kist/kistlaw01.GfDivs", spec := "gfDivs", apart := false }
def GfDivsSaid : Prop := gfDivsRow.holds Try.pinned (OpenSpec.ofChange gfDivsSpec)

/-- ITS FALSE NEIGHBOUR: 'it returns false'. Refute it at one input. -/
def gfDivsWrong : ChangeSpec := { name := "gfDivs", fn := fun _ => fun
  | [d1, d2] => { results := [.lit (.bool false)], args := [d1, d2] }
  | _ => none }
def GfDivsWrongFalsely : Prop := gfDivsRow.holds Try.pinned (OpenSpec.ofChange gfDivsWrong)

/-- 'kistlaw01.GfField': WHATEVER THE INPUT: true; the input reads as it did. -/
def gfFieldSpec : ChangeSpec := { name := "gfField", fn := fun _ => fun
  | [d1, d2, d3] => { results := [.lit (.bool true)], args := [d1, d2, d3] }
  | _ => none }
def gfFieldRow : OpenClaim := { program := "ytejlbembcaiajaa", sum := "ce070b0c56dca054314561fe1bdbe21591703f1d670d37d4bd6934d6d58c40ef", func := "kist/kistlaw01.GfField", spec := "gfField", apart := false }
def GfFieldSaid : Prop := gfFieldRow.holds Try.pinned (OpenSpec.ofChange gfFieldSpec)

/-- ITS FALSE NEIGHBOUR: 'it returns false'. Refute it at one input. -/
def gfFieldWrong : ChangeSpec := { name := "gfField", fn := fun _ => fun
  | [d1, d2, d3] => { results := [.lit (.bool false)], args := [d1, d2, d3] }
  | _ => none }
def GfFieldWrongFalsely : Prop := gfFieldRow.holds Try.pinned (OpenSpec.ofChange gfFieldWrong)

/-- 'kistlaw01.GfBack': WHATEVER THE INPUT: true; the input reads as it did. -/
def gfBackSpec : ChangeSpec := { name := "gfBack", fn := fun _ => fun
  | [d1, d2] => { results := [.lit (.bool true)], args := [d1, d2] }
  | _ => none }
def gfBackRow : OpenClaim := { program := "ytejlbembcaiajaa", sum := "ce070b0c56dca054314561fe1bdbe21591703f1d670d37d4bd6934d6d58c40ef", func := "kist/kistlaw01.GfBack", spec := "gfBack", apart := false }
def GfBackSaid : Prop := gfBackRow.holds Try.pinned (OpenSpec.ofChange gfBackSpec)

/-- ITS FALSE NEIGHBOUR: 'it returns false'. Refute it at one input. -/
def gfBackWrong : ChangeSpec := { name := "gfBack", fn := fun _ => fun
  | [d1, d2] => { results := [.lit (.bool false)], args := [d1, d2] }
  | _ => none }
def GfBackWrongFalsely : Prop := gfBackRow.holds Try.pinned (OpenSpec.ofChange gfBackWrong)

/-- 'kistlaw01.GfAdds': WHATEVER THE INPUT: true; the input reads as it did. -/
def gfAddsSpec : ChangeSpec := { name := "gfAdds", fn := fun _ => fun
  | [d1, d2, d3, d4] => { results := [.lit (.bool true)], args := [d1, d2, d3, d4] }
  | _ => none }
def gfAddsRow : OpenClaim := { program := "ytejlbembcaiajaa", sum := "ce070b0c56dca054314561fe1bdbe21591703f1d670d37d4bd6934d6d58c40ef", func := "kist/kistlaw01.GfAdds", spec := "gfAdds", apart := false }
def GfAddsSaid : Prop := gfAddsRow.holds Try.pinned (OpenSpec.ofChange gfAddsSpec)

/-- ITS FALSE NEIGHBOUR: 'it returns false'. Refute it at one input. -/
def gfAddsWrong : ChangeSpec := { name := "gfAdds", fn := fun _ => fun
  | [d1, d2, d3, d4] => { results := [.lit (.bool false)], args := [d1, d2, d3, d4] }
  | _ => none }
def GfAddsWrongFalsely : Prop := gfAddsRow.holds Try.pinned (OpenSpec.ofChange gfAddsWrong)

/-- 'kistlaw01.GfRound': WHATEVER THE INPUT: true; the input reads as it did. -/
def gfRoundSpec : ChangeSpec := { name := "gfRound", fn := fun _ => fun
  | [d] => { results := [.lit (.bool true)], args := [d] }
  | _ => none }
def gfRoundRow : OpenClaim := { program := "ytejlbembcaiajaa", sum := "ce070b0c56dca054314561fe1bdbe21591703f1d670d37d4bd6934d6d58c40ef", func := "kist/kistlaw01.GfRound", spec := "gfRound", apart := false }
def GfRoundSaid : Prop := gfRoundRow.holds Try.pinned (OpenSpec.ofChange gfRoundSpec)

/-- ITS FALSE NEIGHBOUR: 'it returns false'. Refute it at one input. -/
def gfRoundWrong : ChangeSpec := { name := "gfRound", fn := fun _ => fun
  | [d] => { results := [.lit (.bool false)], args := [d] }
  | _ => none }
def GfRoundWrongFalsely : Prop := gfRoundRow.holds Try.pinned (OpenSpec.ofChange gfRoundWrong)

/- THE SECOND FORM. 'bulk': how many values and letters a reading holds, each counted each time it is reached (what is shared counts as often as it is met; a slice's spare places count too). A statement '..UptoSaid' is the law's where the arguments, and the package variables that the reading takes, are together of bulk at most 1048576: NARROWER than '..Said'. Prove '..Said' where nothing that the law and all that it calls make is longer than what came in: it says more and counts as full. Else prove '..UptoSaid'. A law counts once. -/
mutual
def uptoBulk {H : Type} : DataW H → Nat
  | .lit (.string bytes) => bytes.length + 1
  | .lit _ => 1
  | .nil => 1
  | .ptr d => uptoBulk d + 1
  | .slice elems spare => uptoBulkAll elems + uptoBulkAll spare + 1
  | .agg parts => uptoBulkAll parts + 1
  | .iface _ d => uptoBulk d + 1
  | .map entries => uptoBulkEntries entries + 1
  | .held _ => 1
def uptoBulkAll {H : Type} : List (DataW H) → Nat
  | [] => 0
  | d :: r => uptoBulk d + uptoBulkAll r
def uptoBulkEntries {H : Type} : List (Lit × DataW H) → Nat
  | [] => 0
  | x :: r => uptoBulkEntry x + uptoBulkEntries r
def uptoBulkEntry {H : Type} : Lit × DataW H → Nat
  | (.string bytes, d) => bytes.length + uptoBulk d + 1
  | (_, d) => uptoBulk d + 1
 end
def uptoSmall : (H : Type) → List (DataW H) → Bool := fun _ ds => decide (uptoBulkAll ds ≤ 1048576)
def OpenSpec.upto (s : _root_.Go.ChangeSpec) : _root_.Go.OpenSpec := { _root_.Go.OpenSpec.ofChange s with cond := some uptoSmall }

/-- 'kistlaw01.GfMuls', WHERE WHAT IT READS IS OF BULK AT MOST 1048576: true; the input reads as it did. -/
def gfMulsUptoRow : OpenClaim := { program := "ytejlbembcaiajaa", sum := "ce070b0c56dca054314561fe1bdbe21591703f1d670d37d4bd6934d6d58c40ef", func := "kist/kistlaw01.GfMuls", spec := "gfMuls", apart := false, narrowed := true }
def GfMulsUptoSaid : Prop := gfMulsUptoRow.holds Try.pinned (OpenSpec.upto gfMulsSpec)

/-- 'kistlaw01.GfPows', WHERE WHAT IT READS IS OF BULK AT MOST 1048576: true; the input reads as it did. -/
def gfPowsUptoRow : OpenClaim := { program := "ytejlbembcaiajaa", sum := "ce070b0c56dca054314561fe1bdbe21591703f1d670d37d4bd6934d6d58c40ef", func := "kist/kistlaw01.GfPows", spec := "gfPows", apart := false, narrowed := true }
def GfPowsUptoSaid : Prop := gfPowsUptoRow.holds Try.pinned (OpenSpec.upto gfPowsSpec)

/-- 'kistlaw01.GfDivs', WHERE WHAT IT READS IS OF BULK AT MOST 1048576: true; the input reads as it did. -/
def gfDivsUptoRow : OpenClaim := { program := "ytejlbembcaiajaa", sum := "ce070b0c56dca054314561fe1bdbe21591703f1d670d37d4bd6934d6d58c40ef", func := "kist/kistlaw01.GfDivs", spec := "gfDivs", apart := false, narrowed := true }
def GfDivsUptoSaid : Prop := gfDivsUptoRow.holds Try.pinned (OpenSpec.upto gfDivsSpec)

/-- 'kistlaw01.GfField', WHERE WHAT IT READS IS OF BULK AT MOST 1048576: true; the input reads as it did. -/
def gfFieldUptoRow : OpenClaim := { program := "ytejlbembcaiajaa", sum := "ce070b0c56dca054314561fe1bdbe21591703f1d670d37d4bd6934d6d58c40ef", func := "kist/kistlaw01.GfField", spec := "gfField", apart := false, narrowed := true }
def GfFieldUptoSaid : Prop := gfFieldUptoRow.holds Try.pinned (OpenSpec.upto gfFieldSpec)

/-- 'kistlaw01.GfBack', WHERE WHAT IT READS IS OF BULK AT MOST 1048576: true; the input reads as it did. -/
def gfBackUptoRow : OpenClaim := { program := "ytejlbembcaiajaa", sum := "ce070b0c56dca054314561fe1bdbe21591703f1d670d37d4bd6934d6d58c40ef", func := "kist/kistlaw01.GfBack", spec := "gfBack", apart := false, narrowed := true }
def GfBackUptoSaid : Prop := gfBackUptoRow.holds Try.pinned (OpenSpec.upto gfBackSpec)

/-- 'kistlaw01.GfAdds', WHERE WHAT IT READS IS OF BULK AT MOST 1048576: true; the input reads as it did. -/
def gfAddsUptoRow : OpenClaim := { program := "ytejlbembcaiajaa", sum := "ce070b0c56dca054314561fe1bdbe21591703f1d670d37d4bd6934d6d58c40ef", func := "kist/kistlaw01.GfAdds", spec := "gfAdds", apart := false, narrowed := true }
def GfAddsUptoSaid : Prop := gfAddsUptoRow.holds Try.pinned (OpenSpec.upto gfAddsSpec)

/-- 'kistlaw01.GfRound', WHERE WHAT IT READS IS OF BULK AT MOST 1048576: true; the input reads as it did. -/
def gfRoundUptoRow : OpenClaim := { program := "ytejlbembcaiajaa", sum := "ce070b0c56dca054314561fe1bdbe21591703f1d670d37d4bd6934d6d58c40ef", func := "kist/kistlaw01.GfRound", spec := "gfRound", apart := false, narrowed := true }
def GfRoundUptoSaid : Prop := gfRoundUptoRow.holds Try.pinned (OpenSpec.upto gfRoundSpec)

end Rows
end Go.Proofs.Ytejlbembcaiajaa
