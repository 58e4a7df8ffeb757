/-
  No cell of these rows narrows 'for every input' (looked for: loops, veiled, ifaces, maps, wideKeys, modest, calm, conditions, laid).
  DERIVED. THE GIVEN ROWS OF THIS SEAT. 5 by the template 'for every input the law returns true; each argument reads behind the call as it read before'; 0 by the template 'total and deterministic' (their statements: YtoligbmcceindaaTotals.lean).
  GIVEN WITH THE SEED: the statements are not yours to turn. If you find one false, say at which input.
  Laid BY PROGRAM, IN A SANDBOX (cutbox-rows.mjs): the forced cells as the released guide's own fill.sh prints them over the translation 851b53a8f48f1fb6… (all of the seat's roots in one cut). By AI agents, Wed Nov 11 2026. No macro, syntax, notation, axiom, sorry.
-/
import Derived.Test.YtoligbmcceindaaChecked
import GoSem.Claim
import GoSem.ClaimJoined
import GoSem.ClaimMapViews
import Derived.JoinedTies
import Derived.KernelRfl
namespace Go.Proofs.Ytoligbmcceindaa
/- THE CELL 'sum', in the pinned program and in every row, IS THE sha256 OF THE DUMP (.gsa) THAT YtoligbmcceindaaProg.lean LOADS. Nothing in Lean hashes anything: it is a label: what it is worth is what the hold of that sum in a sandbox is worth. -/
noncomputable def Try.pinned : Pinned := { name := "ytoligbmcceindaa", sum := "851b53a8f48f1fb67a2571c271cbd6fd41a2a54e7df5da2ba17f969c3ae8ca71", checked := Try.checked }
namespace Rows
def none {H : Type} : Left H := { results := [], args := [] }

/-- 'shelterbeltlaw22.ExactSelf': WHATEVER THE INPUT: true; the input reads as it did. -/
def exactSelfSpec : ChangeSpec := { name := "exactSelf", fn := fun _ => fun
  | [d1, d2, d3] => { results := [.lit (.bool true)], args := [d1, d2, d3] }
  | _ => none }
def exactSelfRow : OpenClaim := { program := "ytoligbmcceindaa", sum := "851b53a8f48f1fb67a2571c271cbd6fd41a2a54e7df5da2ba17f969c3ae8ca71", func := "shelterbelt/shelterbeltlaw22.ExactSelf", spec := "exactSelf", unfollowed := true, recurses := true, apart := false }
def ExactSelfSaid : Prop := exactSelfRow.holds Try.pinned (OpenSpec.ofChange exactSelfSpec)

/-- ITS FALSE NEIGHBOUR: 'it returns false'. Refute it at one input. -/
def exactSelfWrong : ChangeSpec := { name := "exactSelf", fn := fun _ => fun
  | [d1, d2, d3] => { results := [.lit (.bool false)], args := [d1, d2, d3] }
  | _ => none }
def ExactSelfWrongFalsely : Prop := exactSelfRow.holds Try.pinned (OpenSpec.ofChange exactSelfWrong)

/-- 'shelterbeltlaw17.LoadBursts': WHATEVER THE INPUT: true; the input reads as it did. -/
def loadBurstsSpec : ChangeSpec := { name := "loadBursts", fn := fun _ => fun
  | [d1, d2, d3] => { results := [.lit (.bool true)], args := [d1, d2, d3] }
  | _ => none }
def loadBurstsRow : OpenClaim := { program := "ytoligbmcceindaa", sum := "851b53a8f48f1fb67a2571c271cbd6fd41a2a54e7df5da2ba17f969c3ae8ca71", func := "shelterbelt/shelterbeltlaw17.LoadBursts", spec := "loadBursts", inPlace := ["internal/abi.NoEscape", "internal/bytealg.MakeNoZero"], unfollowed := true, recurses := true, apart := false }
def LoadBurstsSaid : Prop := loadBurstsRow.holds Try.pinned (OpenSpec.ofChange loadBurstsSpec)

/-- ITS FALSE NEIGHBOUR: 'it returns false'. Refute it at one input. -/
def loadBurstsWrong : ChangeSpec := { name := "loadBursts", fn := fun _ => fun
  | [d1, d2, d3] => { results := [.lit (.bool false)], args := [d1, d2, d3] }
  | _ => none }
def LoadBurstsWrongFalsely : Prop := loadBurstsRow.holds Try.pinned (OpenSpec.ofChange loadBurstsWrong)

/-- 'shelterbeltlaw17.LoadSizes': WHATEVER THE INPUT: true; the input reads as it did. -/
def loadSizesSpec : ChangeSpec := { name := "loadSizes", fn := fun _ => fun
  | [d] => { results := [.lit (.bool true)], args := [d] }
  | _ => none }
def loadSizesRow : OpenClaim := { program := "ytoligbmcceindaa", sum := "851b53a8f48f1fb67a2571c271cbd6fd41a2a54e7df5da2ba17f969c3ae8ca71", func := "shelterbelt/shelterbeltlaw17.LoadSizes", spec := "loadSizes", inPlace := ["internal/abi.NoEscape", "internal/bytealg.MakeNoZero"], unfollowed := true, recurses := true, apart := false }
def LoadSizesSaid : Prop := loadSizesRow.holds Try.pinned (OpenSpec.ofChange loadSizesSpec)

/-- ITS FALSE NEIGHBOUR: 'it returns false'. Refute it at one input. -/
def loadSizesWrong : ChangeSpec := { name := "loadSizes", fn := fun _ => fun
  | [d] => { results := [.lit (.bool false)], args := [d] }
  | _ => none }
def LoadSizesWrongFalsely : Prop := loadSizesRow.holds Try.pinned (OpenSpec.ofChange loadSizesWrong)

/-- 'shelterbeltlaw17.LoadBack': WHATEVER THE INPUT: true; the input reads as it did. -/
def loadBackSpec : ChangeSpec := { name := "loadBack", fn := fun _ => fun
  | [d] => { results := [.lit (.bool true)], args := [d] }
  | _ => none }
def loadBackRow : OpenClaim := { program := "ytoligbmcceindaa", sum := "851b53a8f48f1fb67a2571c271cbd6fd41a2a54e7df5da2ba17f969c3ae8ca71", func := "shelterbelt/shelterbeltlaw17.LoadBack", spec := "loadBack", inPlace := ["internal/abi.NoEscape", "internal/bytealg.MakeNoZero"], unfollowed := true, recurses := true, apart := false }
def LoadBackSaid : Prop := loadBackRow.holds Try.pinned (OpenSpec.ofChange loadBackSpec)

/-- ITS FALSE NEIGHBOUR: 'it returns false'. Refute it at one input. -/
def loadBackWrong : ChangeSpec := { name := "loadBack", fn := fun _ => fun
  | [d] => { results := [.lit (.bool false)], args := [d] }
  | _ => none }
def LoadBackWrongFalsely : Prop := loadBackRow.holds Try.pinned (OpenSpec.ofChange loadBackWrong)

/-- 'shelterbeltlaw17.LoadStrict': WHATEVER THE INPUT: true; the input reads as it did. -/
def loadStrictSpec : ChangeSpec := { name := "loadStrict", fn := fun _ => fun
  | [d] => { results := [.lit (.bool true)], args := [d] }
  | _ => none }
def loadStrictRow : OpenClaim := { program := "ytoligbmcceindaa", sum := "851b53a8f48f1fb67a2571c271cbd6fd41a2a54e7df5da2ba17f969c3ae8ca71", func := "shelterbelt/shelterbeltlaw17.LoadStrict", spec := "loadStrict", inPlace := ["internal/abi.NoEscape", "internal/bytealg.MakeNoZero"], unfollowed := true, recurses := true, apart := false }
def LoadStrictSaid : Prop := loadStrictRow.holds Try.pinned (OpenSpec.ofChange loadStrictSpec)

/-- ITS FALSE NEIGHBOUR: 'it returns false'. Refute it at one input. -/
def loadStrictWrong : ChangeSpec := { name := "loadStrict", fn := fun _ => fun
  | [d] => { results := [.lit (.bool false)], args := [d] }
  | _ => none }
def LoadStrictWrongFalsely : Prop := loadStrictRow.holds Try.pinned (OpenSpec.ofChange loadStrictWrong)

/- THE SECOND FORM. 'bulk': how many values and letters a reading holds, each counted each time it is reached (what is shared counts as often as it is met; a slice's spare places count too). A statement '..UptoSaid' is the law's where the arguments, and the package variables that the reading takes, are together of bulk at most 1048576: NARROWER than '..Said'. Prove '..Said' where nothing that the law and all that it calls make is longer than what came in: it says more and counts as full. Else prove '..UptoSaid'. A law counts once. -/
mutual
def uptoBulk {H : Type} : DataW H → Nat
  | .lit (.string bytes) => bytes.length + 1
  | .lit _ => 1
  | .nil => 1
  | .ptr d => uptoBulk d + 1
  | .slice elems spare => uptoBulkAll elems + uptoBulkAll spare + 1
  | .agg parts => uptoBulkAll parts + 1
  | .iface _ d => uptoBulk d + 1
  | .map entries => uptoBulkEntries entries + 1
  | .held _ => 1
def uptoBulkAll {H : Type} : List (DataW H) → Nat
  | [] => 0
  | d :: r => uptoBulk d + uptoBulkAll r
def uptoBulkEntries {H : Type} : List (Lit × DataW H) → Nat
  | [] => 0
  | x :: r => uptoBulkEntry x + uptoBulkEntries r
def uptoBulkEntry {H : Type} : Lit × DataW H → Nat
  | (.string bytes, d) => bytes.length + uptoBulk d + 1
  | (_, d) => uptoBulk d + 1
 end
def uptoSmall : (H : Type) → List (DataW H) → Bool := fun _ ds => decide (uptoBulkAll ds ≤ 1048576)
def OpenSpec.upto (s : _root_.Go.ChangeSpec) : _root_.Go.OpenSpec := { _root_.Go.OpenSpec.ofChange s with cond := some uptoSmall }

/-- 'shelterbeltlaw22.ExactSelf', WHERE WHAT IT READS IS OF BULK AT MOST 1048576: true; the input reads as it did. -/
def exactSelfUptoRow : OpenClaim := { program := "ytoligbmcceindaa", sum := "851b53a8f48f1fb67a2571c271cbd6fd41a2a54e7df5da2ba17f969c3ae8ca71", func := "shelterbelt/shelterbeltlaw22.ExactSelf", spec := "exactSelf", unfollowed := true, recurses := true, apart := false, narrowed := true }
def ExactSelfUptoSaid : Prop := exactSelfUptoRow.holds Try.pinned (OpenSpec.upto exactSelfSpec)

/-- 'shelterbeltlaw17.LoadBursts', WHERE WHAT IT READS IS OF BULK AT MOST 1048576: true; the input reads as it did. -/
def loadBurstsUptoRow : OpenClaim := { program := "ytoligbmcceindaa", sum := "851b53a8f48f1fb67a2571c271cbd6fd41a2a54e7df5da2ba17f969c3ae8ca71", func := "shelterbelt/shelterbeltlaw17.LoadBursts", spec := "loadBursts", inPlace := ["internal/abi.NoEscape", "internal/bytealg.MakeNoZero"], unfollowed := true, recurses := true, apart := false, narrowed := true }
def LoadBurstsUptoSaid : Prop := loadBurstsUptoRow.holds Try.pinned (OpenSpec.upto loadBurstsSpec)

/-- 'shelterbeltlaw17.LoadSizes', WHERE WHAT IT READS IS OF BULK AT MOST 1048576: true; the input reads as it did. -/
def loadSizesUptoRow : OpenClaim := { program := "ytoligbmcceindaa", sum := "851b53a8f48f1fb67a2571c271cbd6fd41a2a54e7df5da2ba17f969c3ae8ca71", func := "shelterbelt/shelterbeltlaw17.LoadSizes", spec := "loadSizes", inPlace := ["internal/abi.NoEscape", "internal/bytealg.MakeNoZero"], unfollowed := true, recurses := true, apart := false, narrowed := true }
def LoadSizesUptoSaid : Prop := loadSizesUptoRow.holds Try.pinned (OpenSpec.upto loadSizesSpec)

/-- 'shelterbeltlaw17.LoadBack', WHERE WHAT IT READS IS OF BULK AT MOST 1048576: true; the input reads as it did. -/
def loadBackUptoRow : OpenClaim := { program := "ytoligbmcceindaa", sum := "851b53a8f48f1fb67a2571c271cbd6fd41a2a54e7df5da2ba17f969c3ae8ca71", func := "shelterbelt/shelterbeltlaw17.LoadBack", spec := "loadBack", inPlace := ["internal/abi.NoEscape", "internal/bytealg.MakeNoZero"], unfollowed := true, recurses := true, apart := false, narrowed := true }
def LoadBackUptoSaid : Prop := loadBackUptoRow.holds Try.pinned (OpenSpec.upto loadBackSpec)

/-- 'shelterbeltlaw17.LoadStrict', WHERE WHAT IT READS IS OF BULK AT MOST 1048576: true; the input reads as it did. -/
def loadStrictUptoRow : OpenClaim := { program := "ytoligbmcceindaa", sum := "851b53a8f48f1fb67a2571c271cbd6fd41a2a54e7df5da2ba17f969c3ae8ca71", func := "shelterbelt/shelterbeltlaw17.LoadStrict", spec := "loadStrict", inPlace := ["internal/abi.NoEscape", "internal/bytealg.MakeNoZero"], unfollowed := true, recurses := true, apart := false, narrowed := true }
def LoadStrictUptoSaid : Prop := loadStrictUptoRow.holds Try.pinned (OpenSpec.upto loadStrictSpec)

end Rows
end Go.Proofs.Ytoligbmcceindaa
