/-
  No cell of these rows narrows 'for every input' (looked for: loops, veiled, ifaces, maps, wideKeys, modest, calm, conditions, laid).
  DERIVED. THE GIVEN ROWS OF THIS SEAT. 5 by the template 'for every input the law returns true; each argument reads behind the call as it read before'; 0 by the template 'total and deterministic' (their statements: YtlnhdfdalfoocaaTotals.lean).
  GIVEN WITH THE SEED: the statements are not yours to turn. If you find one false, say at which input.
  Laid BY PROGRAM, IN A SANDBOX (cutbox-rows.mjs): the forced cells as the released guide's own fill.sh prints them over the translation 9f16a99b844fbb4b… (all of the seat's roots in one cut). By AI agents, Wed Nov 11 2026. No macro, syntax, notation, axiom, sorry.
-/
import Derived.Test.YtlnhdfdalfoocaaChecked
import GoSem.Claim
import GoSem.ClaimJoined
import GoSem.ClaimMapViews
import Derived.JoinedTies
import Derived.KernelRfl
namespace Go.Proofs.Ytlnhdfdalfoocaa
/- THE CELL 'sum', in the pinned program and in every row, IS THE sha256 OF THE DUMP (.gsa) THAT YtlnhdfdalfoocaaProg.lean LOADS. Nothing in Lean hashes anything: it is a label: what it is worth is what the hold of that sum in a sandbox is worth. -/
noncomputable def Try.pinned : Pinned := { name := "ytlnhdfdalfoocaa", sum := "9f16a99b844fbb4b187085a6ec9e071424381da5e87ba3d306991273d8e0537c", checked := Try.checked }
namespace Rows
def none {H : Type} : Left H := { results := [], args := [] }

/-- 'kistlaw17.HoldPlays': WHATEVER THE INPUT: true; the input reads as it did. -/
def holdPlaysSpec : ChangeSpec := { name := "holdPlays", fn := fun _ => fun
  | [d1, d2] => { results := [.lit (.bool true)], args := [d1, d2] }
  | _ => none }
def holdPlaysRow : OpenClaim := { program := "ytlnhdfdalfoocaa", sum := "9f16a99b844fbb4b187085a6ec9e071424381da5e87ba3d306991273d8e0537c", func := "kist/kistlaw17.HoldPlays", spec := "holdPlays", unfollowed := true, recurses := true, apart := false }
def HoldPlaysSaid : Prop := holdPlaysRow.holds Try.pinned (OpenSpec.ofChange holdPlaysSpec)

/-- ITS FALSE NEIGHBOUR: 'it returns false'. Refute it at one input. -/
def holdPlaysWrong : ChangeSpec := { name := "holdPlays", fn := fun _ => fun
  | [d1, d2] => { results := [.lit (.bool false)], args := [d1, d2] }
  | _ => none }
def HoldPlaysWrongFalsely : Prop := holdPlaysRow.holds Try.pinned (OpenSpec.ofChange holdPlaysWrong)

/-- 'kistlaw17.HoldTrue': WHATEVER THE INPUT: true; the input reads as it did. -/
def holdTrueSpec : ChangeSpec := { name := "holdTrue", fn := fun _ => fun
  | [d1, d2] => { results := [.lit (.bool true)], args := [d1, d2] }
  | _ => none }
def holdTrueRow : OpenClaim := { program := "ytlnhdfdalfoocaa", sum := "9f16a99b844fbb4b187085a6ec9e071424381da5e87ba3d306991273d8e0537c", func := "kist/kistlaw17.HoldTrue", spec := "holdTrue", unfollowed := true, recurses := true, apart := false }
def HoldTrueSaid : Prop := holdTrueRow.holds Try.pinned (OpenSpec.ofChange holdTrueSpec)

/-- ITS FALSE NEIGHBOUR: 'it returns false'. Refute it at one input. -/
def holdTrueWrong : ChangeSpec := { name := "holdTrue", fn := fun _ => fun
  | [d1, d2] => { results := [.lit (.bool false)], args := [d1, d2] }
  | _ => none }
def HoldTrueWrongFalsely : Prop := holdTrueRow.holds Try.pinned (OpenSpec.ofChange holdTrueWrong)

/-- 'kistlaw17.HoldRoom': WHATEVER THE INPUT: true; the input reads as it did. -/
def holdRoomSpec : ChangeSpec := { name := "holdRoom", fn := fun _ => fun
  | [d] => { results := [.lit (.bool true)], args := [d] }
  | _ => none }
def holdRoomRow : OpenClaim := { program := "ytlnhdfdalfoocaa", sum := "9f16a99b844fbb4b187085a6ec9e071424381da5e87ba3d306991273d8e0537c", func := "kist/kistlaw17.HoldRoom", spec := "holdRoom", unfollowed := true, recurses := true, apart := false }
def HoldRoomSaid : Prop := holdRoomRow.holds Try.pinned (OpenSpec.ofChange holdRoomSpec)

/-- ITS FALSE NEIGHBOUR: 'it returns false'. Refute it at one input. -/
def holdRoomWrong : ChangeSpec := { name := "holdRoom", fn := fun _ => fun
  | [d] => { results := [.lit (.bool false)], args := [d] }
  | _ => none }
def HoldRoomWrongFalsely : Prop := holdRoomRow.holds Try.pinned (OpenSpec.ofChange holdRoomWrong)

/-- 'kistlaw17.HoldOwn': WHATEVER THE INPUT: true; the input reads as it did. -/
def holdOwnSpec : ChangeSpec := { name := "holdOwn", fn := fun _ => fun
  | [d1, d2] => { results := [.lit (.bool true)], args := [d1, d2] }
  | _ => none }
def holdOwnRow : OpenClaim := { program := "ytlnhdfdalfoocaa", sum := "9f16a99b844fbb4b187085a6ec9e071424381da5e87ba3d306991273d8e0537c", func := "kist/kistlaw17.HoldOwn", spec := "holdOwn", unfollowed := true, recurses := true, apart := false }
def HoldOwnSaid : Prop := holdOwnRow.holds Try.pinned (OpenSpec.ofChange holdOwnSpec)

/-- ITS FALSE NEIGHBOUR: 'it returns false'. Refute it at one input. -/
def holdOwnWrong : ChangeSpec := { name := "holdOwn", fn := fun _ => fun
  | [d1, d2] => { results := [.lit (.bool false)], args := [d1, d2] }
  | _ => none }
def HoldOwnWrongFalsely : Prop := holdOwnRow.holds Try.pinned (OpenSpec.ofChange holdOwnWrong)

/-- 'kistlaw17.HoldNone': WHATEVER THE INPUT: true; the input reads as it did. -/
def holdNoneSpec : ChangeSpec := { name := "holdNone", fn := fun _ => fun
  | [d1, d2, d3] => { results := [.lit (.bool true)], args := [d1, d2, d3] }
  | _ => none }
def holdNoneRow : OpenClaim := { program := "ytlnhdfdalfoocaa", sum := "9f16a99b844fbb4b187085a6ec9e071424381da5e87ba3d306991273d8e0537c", func := "kist/kistlaw17.HoldNone", spec := "holdNone", unfollowed := true, recurses := true, apart := false }
def HoldNoneSaid : Prop := holdNoneRow.holds Try.pinned (OpenSpec.ofChange holdNoneSpec)

/-- ITS FALSE NEIGHBOUR: 'it returns false'. Refute it at one input. -/
def holdNoneWrong : ChangeSpec := { name := "holdNone", fn := fun _ => fun
  | [d1, d2, d3] => { results := [.lit (.bool false)], args := [d1, d2, d3] }
  | _ => none }
def HoldNoneWrongFalsely : Prop := holdNoneRow.holds Try.pinned (OpenSpec.ofChange holdNoneWrong)

/- THE SECOND FORM. 'bulk': how many values and letters a reading holds, each counted each time it is reached (what is shared counts as often as it is met; a slice's spare places count too). A statement '..UptoSaid' is the law's where the arguments, and the package variables that the reading takes, are together of bulk at most 1048576: NARROWER than '..Said'. Prove '..Said' where nothing that the law and all that it calls make is longer than what came in: it says more and counts as full. Else prove '..UptoSaid'. A law counts once. -/
mutual
def uptoBulk {H : Type} : DataW H → Nat
  | .lit (.string bytes) => bytes.length + 1
  | .lit _ => 1
  | .nil => 1
  | .ptr d => uptoBulk d + 1
  | .slice elems spare => uptoBulkAll elems + uptoBulkAll spare + 1
  | .agg parts => uptoBulkAll parts + 1
  | .iface _ d => uptoBulk d + 1
  | .map entries => uptoBulkEntries entries + 1
  | .held _ => 1
def uptoBulkAll {H : Type} : List (DataW H) → Nat
  | [] => 0
  | d :: r => uptoBulk d + uptoBulkAll r
def uptoBulkEntries {H : Type} : List (Lit × DataW H) → Nat
  | [] => 0
  | x :: r => uptoBulkEntry x + uptoBulkEntries r
def uptoBulkEntry {H : Type} : Lit × DataW H → Nat
  | (.string bytes, d) => bytes.length + uptoBulk d + 1
  | (_, d) => uptoBulk d + 1
 end
def uptoSmall : (H : Type) → List (DataW H) → Bool := fun _ ds => decide (uptoBulkAll ds ≤ 1048576)
def OpenSpec.upto (s : _root_.Go.ChangeSpec) : _root_.Go.OpenSpec := { _root_.Go.OpenSpec.ofChange s with cond := some uptoSmall }

/-- 'kistlaw17.HoldPlays', WHERE WHAT IT READS IS OF BULK AT MOST 1048576: true; the input reads as it did. -/
def holdPlaysUptoRow : OpenClaim := { program := "ytlnhdfdalfoocaa", sum := "9f16a99b844fbb4b187085a6ec9e071424381da5e87ba3d306991273d8e0537c", func := "kist/kistlaw17.HoldPlays", spec := "holdPlays", unfollowed := true, recurses := true, apart := false, narrowed := true }
def HoldPlaysUptoSaid : Prop := holdPlaysUptoRow.holds Try.pinned (OpenSpec.upto holdPlaysSpec)

/-- 'kistlaw17.HoldTrue', WHERE WHAT IT READS IS OF BULK AT MOST 1048576: true; the input reads as it did. -/
def holdTrueUptoRow : OpenClaim := { program := "ytlnhdfdalfoocaa", sum := "9f16a99b844fbb4b187085a6ec9e071424381da5e87ba3d306991273d8e0537c", func := "kist/kistlaw17.HoldTrue", spec := "holdTrue", unfollowed := true, recurses := true, apart := false, narrowed := true }
def HoldTrueUptoSaid : Prop := holdTrueUptoRow.holds Try.pinned (OpenSpec.upto holdTrueSpec)

/-- 'kistlaw17.HoldRoom', WHERE WHAT IT READS IS OF BULK AT MOST 1048576: true; the input reads as it did. -/
def holdRoomUptoRow : OpenClaim := { program := "ytlnhdfdalfoocaa", sum := "9f16a99b844fbb4b187085a6ec9e071424381da5e87ba3d306991273d8e0537c", func := "kist/kistlaw17.HoldRoom", spec := "holdRoom", unfollowed := true, recurses := true, apart := false, narrowed := true }
def HoldRoomUptoSaid : Prop := holdRoomUptoRow.holds Try.pinned (OpenSpec.upto holdRoomSpec)

/-- 'kistlaw17.HoldOwn', WHERE WHAT IT READS IS OF BULK AT MOST 1048576: true; the input reads as it did. -/
def holdOwnUptoRow : OpenClaim := { program := "ytlnhdfdalfoocaa", sum := "9f16a99b844fbb4b187085a6ec9e071424381da5e87ba3d306991273d8e0537c", func := "kist/kistlaw17.HoldOwn", spec := "holdOwn", unfollowed := true, recurses := true, apart := false, narrowed := true }
def HoldOwnUptoSaid : Prop := holdOwnUptoRow.holds Try.pinned (OpenSpec.upto holdOwnSpec)

/-- 'kistlaw17.HoldNone', WHERE WHAT IT READS IS OF BULK AT MOST 1048576: true; the input reads as it did. -/
def holdNoneUptoRow : OpenClaim := { program := "ytlnhdfdalfoocaa", sum := "9f16a99b844fbb4b187085a6ec9e071424381da5e87ba3d306991273d8e0537c", func := "kist/kistlaw17.HoldNone", spec := "holdNone", unfollowed := true, recurses := true, apart := false, narrowed := true }
def HoldNoneUptoSaid : Prop := holdNoneUptoRow.holds Try.pinned (OpenSpec.upto holdNoneSpec)

end Rows
end Go.Proofs.Ytlnhdfdalfoocaa
