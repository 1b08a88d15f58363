/-
  NARROWER THAN 'FOR EVERY INPUT', by the rows' own cells (each row's printed sentence says how): ValueOwn: loops · ValueMakes: loops.
  DERIVED. THE GIVEN ROWS OF THIS SEAT. 7 by the template 'for every input the law returns true; each argument reads behind the call as it read before'; 0 by the template 'total and deterministic' (their statements: YtfligjbgiigojaaTotals.lean).
  GIVEN WITH THE SEED: the statements are not yours to turn. If you find one false, say at which input.
  Laid BY PROGRAM, IN A SANDBOX (cutbox-rows.mjs): the forced cells as the released guide's own fill.sh prints them over the translation 4bc9e75ee8e7efd4… (all of the seat's roots in one cut). By AI agents, Wed Nov 11 2026. No macro, syntax, notation, axiom, sorry.
-/
import Derived.Test.YtfligjbgiigojaaChecked
import GoSem.Claim
import GoSem.ClaimJoined
import GoSem.ClaimMapViews
import Derived.JoinedTies
import Derived.KernelRfl
namespace Go.Proofs.Ytfligjbgiigojaa
/- THE CELL 'sum', in the pinned program and in every row, IS THE sha256 OF THE DUMP (.gsa) THAT YtfligjbgiigojaaProg.lean LOADS. Nothing in Lean hashes anything: it is a label: what it is worth is what the hold of that sum in a sandbox is worth. -/
noncomputable def Try.pinned : Pinned := { name := "ytfligjbgiigojaa", sum := "4bc9e75ee8e7efd48887d24abbe6ca224fdf4888e3a14db713a9c11944231efb", checked := Try.checked }
namespace Rows
def none {H : Type} : Left H := { results := [], args := [] }

/-- 'suretylaw17.DiskSwap': WHATEVER THE INPUT: true; the input reads as it did. -/
def diskSwapSpec : ChangeSpec := { name := "diskSwap", fn := fun _ => fun
  | [d1, d2, d3, d4] => { results := [.lit (.bool true)], args := [d1, d2, d3, d4] }
  | _ => none }
def diskSwapRow : OpenClaim := { program := "ytfligjbgiigojaa", sum := "4bc9e75ee8e7efd48887d24abbe6ca224fdf4888e3a14db713a9c11944231efb", func := "surety/suretylaw17.DiskSwap", spec := "diskSwap", inPlace := ["maps.clone"], unfollowed := true, recurses := true, apart := false }
def DiskSwapSaid : Prop := diskSwapRow.holds Try.pinned (OpenSpec.ofChange diskSwapSpec)

/-- ITS FALSE NEIGHBOUR: 'it returns false'. Refute it at one input. -/
def diskSwapWrong : ChangeSpec := { name := "diskSwap", fn := fun _ => fun
  | [d1, d2, d3, d4] => { results := [.lit (.bool false)], args := [d1, d2, d3, d4] }
  | _ => none }
def DiskSwapWrongFalsely : Prop := diskSwapRow.holds Try.pinned (OpenSpec.ofChange diskSwapWrong)

/-- 'suretylaw17.DiskSafe': WHATEVER THE INPUT: true; the input reads as it did. -/
def diskSafeSpec : ChangeSpec := { name := "diskSafe", fn := fun _ => fun
  | [d1, d2, d3, d4] => { results := [.lit (.bool true)], args := [d1, d2, d3, d4] }
  | _ => none }
def diskSafeRow : OpenClaim := { program := "ytfligjbgiigojaa", sum := "4bc9e75ee8e7efd48887d24abbe6ca224fdf4888e3a14db713a9c11944231efb", func := "surety/suretylaw17.DiskSafe", spec := "diskSafe", inPlace := ["maps.clone"], unfollowed := true, recurses := true, apart := false }
def DiskSafeSaid : Prop := diskSafeRow.holds Try.pinned (OpenSpec.ofChange diskSafeSpec)

/-- ITS FALSE NEIGHBOUR: 'it returns false'. Refute it at one input. -/
def diskSafeWrong : ChangeSpec := { name := "diskSafe", fn := fun _ => fun
  | [d1, d2, d3, d4] => { results := [.lit (.bool false)], args := [d1, d2, d3, d4] }
  | _ => none }
def DiskSafeWrongFalsely : Prop := diskSafeRow.holds Try.pinned (OpenSpec.ofChange diskSafeWrong)

/-- 'suretylaw17.DiskPlays': WHATEVER THE INPUT: true; the input reads as it did. -/
def diskPlaysSpec : ChangeSpec := { name := "diskPlays", fn := fun _ => fun
  | [d] => { results := [.lit (.bool true)], args := [d] }
  | _ => none }
def diskPlaysRow : OpenClaim := { program := "ytfligjbgiigojaa", sum := "4bc9e75ee8e7efd48887d24abbe6ca224fdf4888e3a14db713a9c11944231efb", func := "surety/suretylaw17.DiskPlays", spec := "diskPlays", inPlace := ["maps.clone"], unfollowed := true, recurses := true, apart := false }
def DiskPlaysSaid : Prop := diskPlaysRow.holds Try.pinned (OpenSpec.ofChange diskPlaysSpec)

/-- ITS FALSE NEIGHBOUR: 'it returns false'. Refute it at one input. -/
def diskPlaysWrong : ChangeSpec := { name := "diskPlays", fn := fun _ => fun
  | [d] => { results := [.lit (.bool false)], args := [d] }
  | _ => none }
def DiskPlaysWrongFalsely : Prop := diskPlaysRow.holds Try.pinned (OpenSpec.ofChange diskPlaysWrong)

/-- 'suretylaw17.DiskCopy': WHATEVER THE INPUT: true; the input reads as it did. -/
def diskCopySpec : ChangeSpec := { name := "diskCopy", fn := fun _ => fun
  | [d1, d2] => { results := [.lit (.bool true)], args := [d1, d2] }
  | _ => none }
def diskCopyRow : OpenClaim := { program := "ytfligjbgiigojaa", sum := "4bc9e75ee8e7efd48887d24abbe6ca224fdf4888e3a14db713a9c11944231efb", func := "surety/suretylaw17.DiskCopy", spec := "diskCopy", inPlace := ["maps.clone"], unfollowed := true, recurses := true, apart := false }
def DiskCopySaid : Prop := diskCopyRow.holds Try.pinned (OpenSpec.ofChange diskCopySpec)

/-- ITS FALSE NEIGHBOUR: 'it returns false'. Refute it at one input. -/
def diskCopyWrong : ChangeSpec := { name := "diskCopy", fn := fun _ => fun
  | [d1, d2] => { results := [.lit (.bool false)], args := [d1, d2] }
  | _ => none }
def DiskCopyWrongFalsely : Prop := diskCopyRow.holds Try.pinned (OpenSpec.ofChange diskCopyWrong)

/-- 'suretylaw17.DiskNil': WHATEVER THE INPUT: true; the input reads as it did. -/
def diskNilSpec : ChangeSpec := { name := "diskNil", fn := fun _ => fun
  | [d] => { results := [.lit (.bool true)], args := [d] }
  | _ => none }
def diskNilRow : OpenClaim := { program := "ytfligjbgiigojaa", sum := "4bc9e75ee8e7efd48887d24abbe6ca224fdf4888e3a14db713a9c11944231efb", func := "surety/suretylaw17.DiskNil", spec := "diskNil", inPlace := ["maps.clone"], unfollowed := true, recurses := true, apart := false }
def DiskNilSaid : Prop := diskNilRow.holds Try.pinned (OpenSpec.ofChange diskNilSpec)

/-- ITS FALSE NEIGHBOUR: 'it returns false'. Refute it at one input. -/
def diskNilWrong : ChangeSpec := { name := "diskNil", fn := fun _ => fun
  | [d] => { results := [.lit (.bool false)], args := [d] }
  | _ => none }
def DiskNilWrongFalsely : Prop := diskNilRow.holds Try.pinned (OpenSpec.ofChange diskNilWrong)

/-- 'suretylaw04.ValueOwn': WHATEVER THE INPUT: true; the input reads as it did. -/
def valueOwnSpec : ChangeSpec := { name := "valueOwn", fn := fun _ => fun
  | [d] => { results := [.lit (.bool true)], args := [d] }
  | _ => none }
def valueOwnRow : OpenClaim := { program := "ytfligjbgiigojaa", sum := "4bc9e75ee8e7efd48887d24abbe6ca224fdf4888e3a14db713a9c11944231efb", func := "surety/suretylaw04.ValueOwn", spec := "valueOwn", unfollowed := true, recurses := true, loops := true, apart := false }
def ValueOwnSaid : Prop := valueOwnRow.holds Try.pinned (OpenSpec.ofChange valueOwnSpec)

/-- ITS FALSE NEIGHBOUR: 'it returns false'. Refute it at one input. -/
def valueOwnWrong : ChangeSpec := { name := "valueOwn", fn := fun _ => fun
  | [d] => { results := [.lit (.bool false)], args := [d] }
  | _ => none }
def ValueOwnWrongFalsely : Prop := valueOwnRow.holds Try.pinned (OpenSpec.ofChange valueOwnWrong)

/-- 'suretylaw04.ValueMakes': WHATEVER THE INPUT: true; the input reads as it did. -/
def valueMakesSpec : ChangeSpec := { name := "valueMakes", fn := fun _ => fun
  | [d1, d2, d3, d4, d5] => { results := [.lit (.bool true)], args := [d1, d2, d3, d4, d5] }
  | _ => none }
def valueMakesRow : OpenClaim := { program := "ytfligjbgiigojaa", sum := "4bc9e75ee8e7efd48887d24abbe6ca224fdf4888e3a14db713a9c11944231efb", func := "surety/suretylaw04.ValueMakes", spec := "valueMakes", unfollowed := true, recurses := true, loops := true, apart := false }
def ValueMakesSaid : Prop := valueMakesRow.holds Try.pinned (OpenSpec.ofChange valueMakesSpec)

/-- ITS FALSE NEIGHBOUR: 'it returns false'. Refute it at one input. -/
def valueMakesWrong : ChangeSpec := { name := "valueMakes", fn := fun _ => fun
  | [d1, d2, d3, d4, d5] => { results := [.lit (.bool false)], args := [d1, d2, d3, d4, d5] }
  | _ => none }
def ValueMakesWrongFalsely : Prop := valueMakesRow.holds Try.pinned (OpenSpec.ofChange valueMakesWrong)

/- THE SECOND FORM. 'bulk': how many values and letters a reading holds, each counted each time it is reached (what is shared counts as often as it is met; a slice's spare places count too). A statement '..UptoSaid' is the law's where the arguments, and the package variables that the reading takes, are together of bulk at most 1048576: NARROWER than '..Said'. Prove '..Said' where nothing that the law and all that it calls make is longer than what came in: it says more and counts as full. Else prove '..UptoSaid'. A law counts once. -/
mutual
def uptoBulk {H : Type} : DataW H → Nat
  | .lit (.string bytes) => bytes.length + 1
  | .lit _ => 1
  | .nil => 1
  | .ptr d => uptoBulk d + 1
  | .slice elems spare => uptoBulkAll elems + uptoBulkAll spare + 1
  | .agg parts => uptoBulkAll parts + 1
  | .iface _ d => uptoBulk d + 1
  | .map entries => uptoBulkEntries entries + 1
  | .held _ => 1
def uptoBulkAll {H : Type} : List (DataW H) → Nat
  | [] => 0
  | d :: r => uptoBulk d + uptoBulkAll r
def uptoBulkEntries {H : Type} : List (Lit × DataW H) → Nat
  | [] => 0
  | x :: r => uptoBulkEntry x + uptoBulkEntries r
def uptoBulkEntry {H : Type} : Lit × DataW H → Nat
  | (.string bytes, d) => bytes.length + uptoBulk d + 1
  | (_, d) => uptoBulk d + 1
 end
def uptoSmall : (H : Type) → List (DataW H) → Bool := fun _ ds => decide (uptoBulkAll ds ≤ 1048576)
def OpenSpec.upto (s : _root_.Go.ChangeSpec) : _root_.Go.OpenSpec := { _root_.Go.OpenSpec.ofChange s with cond := some uptoSmall }

/-- 'suretylaw17.DiskSwap', WHERE WHAT IT READS IS OF BULK AT MOST 1048576: true; the input reads as it did. -/
def diskSwapUptoRow : OpenClaim := { program := "ytfligjbgiigojaa", sum := "4bc9e75ee8e7efd48887d24abbe6ca224fdf4888e3a14db713a9c11944231efb", func := "surety/suretylaw17.DiskSwap", spec := "diskSwap", inPlace := ["maps.clone"], unfollowed := true, recurses := true, apart := false, narrowed := true }
def DiskSwapUptoSaid : Prop := diskSwapUptoRow.holds Try.pinned (OpenSpec.upto diskSwapSpec)

/-- 'suretylaw17.DiskSafe', WHERE WHAT IT READS IS OF BULK AT MOST 1048576: true; the input reads as it did. -/
def diskSafeUptoRow : OpenClaim := { program := "ytfligjbgiigojaa", sum := "4bc9e75ee8e7efd48887d24abbe6ca224fdf4888e3a14db713a9c11944231efb", func := "surety/suretylaw17.DiskSafe", spec := "diskSafe", inPlace := ["maps.clone"], unfollowed := true, recurses := true, apart := false, narrowed := true }
def DiskSafeUptoSaid : Prop := diskSafeUptoRow.holds Try.pinned (OpenSpec.upto diskSafeSpec)

/-- 'suretylaw17.DiskPlays', WHERE WHAT IT READS IS OF BULK AT MOST 1048576: true; the input reads as it did. -/
def diskPlaysUptoRow : OpenClaim := { program := "ytfligjbgiigojaa", sum := "4bc9e75ee8e7efd48887d24abbe6ca224fdf4888e3a14db713a9c11944231efb", func := "surety/suretylaw17.DiskPlays", spec := "diskPlays", inPlace := ["maps.clone"], unfollowed := true, recurses := true, apart := false, narrowed := true }
def DiskPlaysUptoSaid : Prop := diskPlaysUptoRow.holds Try.pinned (OpenSpec.upto diskPlaysSpec)

/-- 'suretylaw17.DiskCopy', WHERE WHAT IT READS IS OF BULK AT MOST 1048576: true; the input reads as it did. -/
def diskCopyUptoRow : OpenClaim := { program := "ytfligjbgiigojaa", sum := "4bc9e75ee8e7efd48887d24abbe6ca224fdf4888e3a14db713a9c11944231efb", func := "surety/suretylaw17.DiskCopy", spec := "diskCopy", inPlace := ["maps.clone"], unfollowed := true, recurses := true, apart := false, narrowed := true }
def DiskCopyUptoSaid : Prop := diskCopyUptoRow.holds Try.pinned (OpenSpec.upto diskCopySpec)

/-- 'suretylaw17.DiskNil', WHERE WHAT IT READS IS OF BULK AT MOST 1048576: true; the input reads as it did. -/
def diskNilUptoRow : OpenClaim := { program := "ytfligjbgiigojaa", sum := "4bc9e75ee8e7efd48887d24abbe6ca224fdf4888e3a14db713a9c11944231efb", func := "surety/suretylaw17.DiskNil", spec := "diskNil", inPlace := ["maps.clone"], unfollowed := true, recurses := true, apart := false, narrowed := true }
def DiskNilUptoSaid : Prop := diskNilUptoRow.holds Try.pinned (OpenSpec.upto diskNilSpec)

/-- 'suretylaw04.ValueOwn', WHERE WHAT IT READS IS OF BULK AT MOST 1048576: true; the input reads as it did. -/
def valueOwnUptoRow : OpenClaim := { program := "ytfligjbgiigojaa", sum := "4bc9e75ee8e7efd48887d24abbe6ca224fdf4888e3a14db713a9c11944231efb", func := "surety/suretylaw04.ValueOwn", spec := "valueOwn", unfollowed := true, recurses := true, loops := true, apart := false, narrowed := true }
def ValueOwnUptoSaid : Prop := valueOwnUptoRow.holds Try.pinned (OpenSpec.upto valueOwnSpec)

/-- 'suretylaw04.ValueMakes', WHERE WHAT IT READS IS OF BULK AT MOST 1048576: true; the input reads as it did. -/
def valueMakesUptoRow : OpenClaim := { program := "ytfligjbgiigojaa", sum := "4bc9e75ee8e7efd48887d24abbe6ca224fdf4888e3a14db713a9c11944231efb", func := "surety/suretylaw04.ValueMakes", spec := "valueMakes", unfollowed := true, recurses := true, loops := true, apart := false, narrowed := true }
def ValueMakesUptoSaid : Prop := valueMakesUptoRow.holds Try.pinned (OpenSpec.upto valueMakesSpec)

end Rows
end Go.Proofs.Ytfligjbgiigojaa
