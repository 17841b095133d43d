/-
  NARROWER THAN 'FOR EVERY INPUT', by the rows' own cells (each row's printed sentence says how): TypingWidths: loops · TypingOperands: loops · TypingLocality: loops · TypingOffsets: loops · TypingBinding: loops.
  DERIVED. THE GIVEN ROWS OF THIS SEAT. 6 by the template 'for every input the law returns true; each argument reads behind the call as it read before'; 0 by the template 'total and deterministic' (their statements: YtfoblkeefpaceaaTotals.lean).
  GIVEN WITH THE SEED: the statements are not yours to turn. If you find one false, say at which input.
  Laid BY PROGRAM, IN A SANDBOX (cutbox-rows.mjs): the forced cells as the released guide's own fill.sh prints them over the translation f2a3b77c197c32a3… (all of the seat's roots in one cut). By AI agents, Wed Nov 11 2026. No macro, syntax, notation, axiom, sorry.
-/
import Derived.Test.YtfoblkeefpaceaaChecked
import GoSem.Claim
import GoSem.ClaimJoined
import GoSem.ClaimMapViews
import Derived.JoinedTies
import Derived.KernelRfl
namespace Go.Proofs.Ytfoblkeefpaceaa
/- THE CELL 'sum', in the pinned program and in every row, IS THE sha256 OF THE DUMP (.gsa) THAT YtfoblkeefpaceaaProg.lean LOADS. Nothing in Lean hashes anything: it is a label: what it is worth is what the hold of that sum in a sandbox is worth. -/
noncomputable def Try.pinned : Pinned := { name := "ytfoblkeefpaceaa", sum := "f2a3b77c197c32a34d46a403172c50d0f5fdfb029f659eeef15e945e524d4fff", checked := Try.checked }
namespace Rows
def none {H : Type} : Left H := { results := [], args := [] }

/-- 'relyguardlaw05.TypingWidths': WHATEVER THE INPUT: true; the input reads as it did. -/
def typingWidthsSpec : ChangeSpec := { name := "typingWidths", fn := fun _ => fun
  | [d1, d2, d3, d4] => { results := [.lit (.bool true)], args := [d1, d2, d3, d4] }
  | _ => none }
def typingWidthsRow : OpenClaim := { program := "ytfoblkeefpaceaa", sum := "f2a3b77c197c32a34d46a403172c50d0f5fdfb029f659eeef15e945e524d4fff", func := "relyguard/relyguardlaw05.TypingWidths", spec := "typingWidths", inPlace := ["internal/bytealg.IndexByteString", "internal/bytealg.IndexString"], unfollowed := true, recurses := true, named := ["internal/bytealg.MaxLen"], loops := true, apart := false }
def TypingWidthsSaid : Prop := typingWidthsRow.holds Try.pinned (OpenSpec.ofChange typingWidthsSpec)

/-- ITS FALSE NEIGHBOUR: 'it returns false'. Refute it at one input. -/
def typingWidthsWrong : ChangeSpec := { name := "typingWidths", fn := fun _ => fun
  | [d1, d2, d3, d4] => { results := [.lit (.bool false)], args := [d1, d2, d3, d4] }
  | _ => none }
def TypingWidthsWrongFalsely : Prop := typingWidthsRow.holds Try.pinned (OpenSpec.ofChange typingWidthsWrong)

/-- 'relyguardlaw05.TypingOperands': WHATEVER THE INPUT: true; the input reads as it did. -/
def typingOperandsSpec : ChangeSpec := { name := "typingOperands", fn := fun _ => fun
  | [d1, d2, d3, d4, d5] => { results := [.lit (.bool true)], args := [d1, d2, d3, d4, d5] }
  | _ => none }
def typingOperandsRow : OpenClaim := { program := "ytfoblkeefpaceaa", sum := "f2a3b77c197c32a34d46a403172c50d0f5fdfb029f659eeef15e945e524d4fff", func := "relyguard/relyguardlaw05.TypingOperands", spec := "typingOperands", inPlace := ["internal/bytealg.IndexByteString", "internal/bytealg.IndexString"], unfollowed := true, recurses := true, named := ["internal/bytealg.MaxLen"], loops := true, apart := false }
def TypingOperandsSaid : Prop := typingOperandsRow.holds Try.pinned (OpenSpec.ofChange typingOperandsSpec)

/-- ITS FALSE NEIGHBOUR: 'it returns false'. Refute it at one input. -/
def typingOperandsWrong : ChangeSpec := { name := "typingOperands", fn := fun _ => fun
  | [d1, d2, d3, d4, d5] => { results := [.lit (.bool false)], args := [d1, d2, d3, d4, d5] }
  | _ => none }
def TypingOperandsWrongFalsely : Prop := typingOperandsRow.holds Try.pinned (OpenSpec.ofChange typingOperandsWrong)

/-- 'relyguardlaw05.TypingLocality': WHATEVER THE INPUT: true; the input reads as it did. -/
def typingLocalitySpec : ChangeSpec := { name := "typingLocality", fn := fun _ => fun
  | [d] => { results := [.lit (.bool true)], args := [d] }
  | _ => none }
def typingLocalityRow : OpenClaim := { program := "ytfoblkeefpaceaa", sum := "f2a3b77c197c32a34d46a403172c50d0f5fdfb029f659eeef15e945e524d4fff", func := "relyguard/relyguardlaw05.TypingLocality", spec := "typingLocality", inPlace := ["internal/bytealg.IndexByteString", "internal/bytealg.IndexString"], unfollowed := true, recurses := true, named := ["internal/bytealg.MaxLen"], loops := true, apart := false }
def TypingLocalitySaid : Prop := typingLocalityRow.holds Try.pinned (OpenSpec.ofChange typingLocalitySpec)

/-- ITS FALSE NEIGHBOUR: 'it returns false'. Refute it at one input. -/
def typingLocalityWrong : ChangeSpec := { name := "typingLocality", fn := fun _ => fun
  | [d] => { results := [.lit (.bool false)], args := [d] }
  | _ => none }
def TypingLocalityWrongFalsely : Prop := typingLocalityRow.holds Try.pinned (OpenSpec.ofChange typingLocalityWrong)

/-- 'relyguardlaw05.TypingNumbers': WHATEVER THE INPUT: true; the input reads as it did. -/
def typingNumbersSpec : ChangeSpec := { name := "typingNumbers", fn := fun _ => fun
  | [d1, d2, d3] => { results := [.lit (.bool true)], args := [d1, d2, d3] }
  | _ => none }
def typingNumbersRow : OpenClaim := { program := "ytfoblkeefpaceaa", sum := "f2a3b77c197c32a34d46a403172c50d0f5fdfb029f659eeef15e945e524d4fff", func := "relyguard/relyguardlaw05.TypingNumbers", spec := "typingNumbers", inPlace := ["internal/bytealg.IndexByteString", "internal/bytealg.IndexString"], unfollowed := true, recurses := true, named := ["internal/bytealg.MaxLen"], apart := false }
def TypingNumbersSaid : Prop := typingNumbersRow.holds Try.pinned (OpenSpec.ofChange typingNumbersSpec)

/-- ITS FALSE NEIGHBOUR: 'it returns false'. Refute it at one input. -/
def typingNumbersWrong : ChangeSpec := { name := "typingNumbers", fn := fun _ => fun
  | [d1, d2, d3] => { results := [.lit (.bool false)], args := [d1, d2, d3] }
  | _ => none }
def TypingNumbersWrongFalsely : Prop := typingNumbersRow.holds Try.pinned (OpenSpec.ofChange typingNumbersWrong)

/-- 'relyguardlaw05.TypingOffsets': WHATEVER THE INPUT: true; the input reads as it did. -/
def typingOffsetsSpec : ChangeSpec := { name := "typingOffsets", fn := fun _ => fun
  | [d1, d2, d3, d4, d5] => { results := [.lit (.bool true)], args := [d1, d2, d3, d4, d5] }
  | _ => none }
def typingOffsetsRow : OpenClaim := { program := "ytfoblkeefpaceaa", sum := "f2a3b77c197c32a34d46a403172c50d0f5fdfb029f659eeef15e945e524d4fff", func := "relyguard/relyguardlaw05.TypingOffsets", spec := "typingOffsets", inPlace := ["internal/bytealg.IndexByteString", "internal/bytealg.IndexString"], unfollowed := true, recurses := true, named := ["internal/bytealg.MaxLen"], loops := true, apart := false }
def TypingOffsetsSaid : Prop := typingOffsetsRow.holds Try.pinned (OpenSpec.ofChange typingOffsetsSpec)

/-- ITS FALSE NEIGHBOUR: 'it returns false'. Refute it at one input. -/
def typingOffsetsWrong : ChangeSpec := { name := "typingOffsets", fn := fun _ => fun
  | [d1, d2, d3, d4, d5] => { results := [.lit (.bool false)], args := [d1, d2, d3, d4, d5] }
  | _ => none }
def TypingOffsetsWrongFalsely : Prop := typingOffsetsRow.holds Try.pinned (OpenSpec.ofChange typingOffsetsWrong)

/-- 'relyguardlaw05.TypingBinding': WHATEVER THE INPUT: true; the input reads as it did. -/
def typingBindingSpec : ChangeSpec := { name := "typingBinding", fn := fun _ => fun
  | [d1, d2, d3, d4, d5, d6] => { results := [.lit (.bool true)], args := [d1, d2, d3, d4, d5, d6] }
  | _ => none }
def typingBindingRow : OpenClaim := { program := "ytfoblkeefpaceaa", sum := "f2a3b77c197c32a34d46a403172c50d0f5fdfb029f659eeef15e945e524d4fff", func := "relyguard/relyguardlaw05.TypingBinding", spec := "typingBinding", inPlace := ["internal/bytealg.IndexByteString", "internal/bytealg.IndexString"], unfollowed := true, recurses := true, named := ["internal/bytealg.MaxLen"], loops := true, apart := false }
def TypingBindingSaid : Prop := typingBindingRow.holds Try.pinned (OpenSpec.ofChange typingBindingSpec)

/-- ITS FALSE NEIGHBOUR: 'it returns false'. Refute it at one input. -/
def typingBindingWrong : ChangeSpec := { name := "typingBinding", fn := fun _ => fun
  | [d1, d2, d3, d4, d5, d6] => { results := [.lit (.bool false)], args := [d1, d2, d3, d4, d5, d6] }
  | _ => none }
def TypingBindingWrongFalsely : Prop := typingBindingRow.holds Try.pinned (OpenSpec.ofChange typingBindingWrong)

/- THE SECOND FORM. 'bulk': how many values and letters a reading holds, each counted each time it is reached (what is shared counts as often as it is met; a slice's spare places count too). A statement '..UptoSaid' is the law's where the arguments, and the package variables that the reading takes, are together of bulk at most 1048576: NARROWER than '..Said'. Prove '..Said' where nothing that the law and all that it calls make is longer than what came in: it says more and counts as full. Else prove '..UptoSaid'. A law counts once. -/
mutual
def uptoBulk {H : Type} : DataW H → Nat
  | .lit (.string bytes) => bytes.length + 1
  | .lit _ => 1
  | .nil => 1
  | .ptr d => uptoBulk d + 1
  | .slice elems spare => uptoBulkAll elems + uptoBulkAll spare + 1
  | .agg parts => uptoBulkAll parts + 1
  | .iface _ d => uptoBulk d + 1
  | .map entries => uptoBulkEntries entries + 1
  | .held _ => 1
def uptoBulkAll {H : Type} : List (DataW H) → Nat
  | [] => 0
  | d :: r => uptoBulk d + uptoBulkAll r
def uptoBulkEntries {H : Type} : List (Lit × DataW H) → Nat
  | [] => 0
  | x :: r => uptoBulkEntry x + uptoBulkEntries r
def uptoBulkEntry {H : Type} : Lit × DataW H → Nat
  | (.string bytes, d) => bytes.length + uptoBulk d + 1
  | (_, d) => uptoBulk d + 1
 end
def uptoSmall : (H : Type) → List (DataW H) → Bool := fun _ ds => decide (uptoBulkAll ds ≤ 1048576)
def OpenSpec.upto (s : _root_.Go.ChangeSpec) : _root_.Go.OpenSpec := { _root_.Go.OpenSpec.ofChange s with cond := some uptoSmall }

/-- 'relyguardlaw05.TypingWidths', WHERE WHAT IT READS IS OF BULK AT MOST 1048576: true; the input reads as it did. -/
def typingWidthsUptoRow : OpenClaim := { program := "ytfoblkeefpaceaa", sum := "f2a3b77c197c32a34d46a403172c50d0f5fdfb029f659eeef15e945e524d4fff", func := "relyguard/relyguardlaw05.TypingWidths", spec := "typingWidths", inPlace := ["internal/bytealg.IndexByteString", "internal/bytealg.IndexString"], unfollowed := true, recurses := true, named := ["internal/bytealg.MaxLen"], loops := true, apart := false, narrowed := true }
def TypingWidthsUptoSaid : Prop := typingWidthsUptoRow.holds Try.pinned (OpenSpec.upto typingWidthsSpec)

/-- 'relyguardlaw05.TypingOperands', WHERE WHAT IT READS IS OF BULK AT MOST 1048576: true; the input reads as it did. -/
def typingOperandsUptoRow : OpenClaim := { program := "ytfoblkeefpaceaa", sum := "f2a3b77c197c32a34d46a403172c50d0f5fdfb029f659eeef15e945e524d4fff", func := "relyguard/relyguardlaw05.TypingOperands", spec := "typingOperands", inPlace := ["internal/bytealg.IndexByteString", "internal/bytealg.IndexString"], unfollowed := true, recurses := true, named := ["internal/bytealg.MaxLen"], loops := true, apart := false, narrowed := true }
def TypingOperandsUptoSaid : Prop := typingOperandsUptoRow.holds Try.pinned (OpenSpec.upto typingOperandsSpec)

/-- 'relyguardlaw05.TypingLocality', WHERE WHAT IT READS IS OF BULK AT MOST 1048576: true; the input reads as it did. -/
def typingLocalityUptoRow : OpenClaim := { program := "ytfoblkeefpaceaa", sum := "f2a3b77c197c32a34d46a403172c50d0f5fdfb029f659eeef15e945e524d4fff", func := "relyguard/relyguardlaw05.TypingLocality", spec := "typingLocality", inPlace := ["internal/bytealg.IndexByteString", "internal/bytealg.IndexString"], unfollowed := true, recurses := true, named := ["internal/bytealg.MaxLen"], loops := true, apart := false, narrowed := true }
def TypingLocalityUptoSaid : Prop := typingLocalityUptoRow.holds Try.pinned (OpenSpec.upto typingLocalitySpec)

/-- 'relyguardlaw05.TypingNumbers', WHERE WHAT IT READS IS OF BULK AT MOST 1048576: true; the input reads as it did. -/
def typingNumbersUptoRow : OpenClaim := { program := "ytfoblkeefpaceaa", sum := "f2a3b77c197c32a34d46a403172c50d0f5fdfb029f659eeef15e945e524d4fff", func := "relyguard/relyguardlaw05.TypingNumbers", spec := "typingNumbers", inPlace := ["internal/bytealg.IndexByteString", "internal/bytealg.IndexString"], unfollowed := true, recurses := true, named := ["internal/bytealg.MaxLen"], apart := false, narrowed := true }
def TypingNumbersUptoSaid : Prop := typingNumbersUptoRow.holds Try.pinned (OpenSpec.upto typingNumbersSpec)

/-- 'relyguardlaw05.TypingOffsets', WHERE WHAT IT READS IS OF BULK AT MOST 1048576: true; the input reads as it did. -/
def typingOffsetsUptoRow : OpenClaim := { program := "ytfoblkeefpaceaa", sum := "f2a3b77c197c32a34d46a403172c50d0f5fdfb029f659eeef15e945e524d4fff", func := "relyguard/relyguardlaw05.TypingOffsets", spec := "typingOffsets", inPlace := ["internal/bytealg.IndexByteString", "internal/bytealg.IndexString"], unfollowed := true, recurses := true, named := ["internal/bytealg.MaxLen"], loops := true, apart := false, narrowed := true }
def TypingOffsetsUptoSaid : Prop := typingOffsetsUptoRow.holds Try.pinned (OpenSpec.upto typingOffsetsSpec)

/-- 'relyguardlaw05.TypingBinding', WHERE WHAT IT READS IS OF BULK AT MOST 1048576: true; the input reads as it did. -/
def typingBindingUptoRow : OpenClaim := { program := "ytfoblkeefpaceaa", sum := "f2a3b77c197c32a34d46a403172c50d0f5fdfb029f659eeef15e945e524d4fff", func := "relyguard/relyguardlaw05.TypingBinding", spec := "typingBinding", inPlace := ["internal/bytealg.IndexByteString", "internal/bytealg.IndexString"], unfollowed := true, recurses := true, named := ["internal/bytealg.MaxLen"], loops := true, apart := false, narrowed := true }
def TypingBindingUptoSaid : Prop := typingBindingUptoRow.holds Try.pinned (OpenSpec.upto typingBindingSpec)

end Rows
end Go.Proofs.Ytfoblkeefpaceaa
