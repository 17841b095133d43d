/- What the rows of this seat share: the head of the dump, read once. -/
import Derived.Test.YtnanofipjiclfaaRows
import Derived.Test.YtnanofipjiclfaaAbWords
set_option maxRecDepth 100000
namespace Go.Proofs.Ytnanofipjiclfaa
open Go Go.Ab
abbrev tl : List Char := ([114, 101, 108, 121, 103, 117, 97, 114, 100, 47, 114, 101, 108, 121, 103, 117, 97, 114, 100, 108, 97, 119, 50, 52, 46, 83, 111, 108, 118, 101, 114, 82, 101, 102, 117, 116, 97, 116, 105, 111, 110, 115, 32, 114, 101, 108, 121, 103, 117, 97, 114, 100, 47, 114, 101, 108, 121, 103, 117, 97, 114, 100, 108, 97, 119, 50, 52, 46, 83, 111, 108, 118, 101, 114, 73, 110, 99, 114, 101, 109, 101, 110, 116, 115, 32, 114, 101, 108, 121, 103, 117, 97, 114, 100, 47, 114, 101, 108, 121, 103, 117, 97, 114, 100, 108, 97, 119, 50, 52, 46, 83, 111, 108, 118, 101, 114, 78, 97, 109, 101, 115, 32, 114, 101, 108, 121, 103, 117, 97, 114, 100, 47, 114, 101, 108, 121, 103, 117, 97, 114, 100, 108, 97, 119, 50, 52, 46, 83, 111, 108, 118, 101, 114, 80, 105, 103, 101, 111, 110, 115, 32, 114, 101, 108, 121, 103, 117, 97, 114, 100, 47, 114, 101, 108, 121, 103, 117, 97, 114, 100, 108, 97, 119, 50, 52, 46, 83, 111, 108, 118, 101, 114, 70, 117, 101, 108, 32, 114, 101, 108, 121, 103, 117, 97, 114, 100, 47, 114, 101, 108, 121, 103, 117, 97, 114, 100, 108, 97, 119, 50, 52, 46, 83, 111, 108, 118, 101, 114, 71, 97, 116, 101, 115] : List Nat).map Char.ofNat
theorem initOrder : Try.prog.initOrder = String.ofList (([104, 97, 114, 110, 101, 115, 115] : List Nat).map Char.ofNat ++ Char.ofNat 32 :: (([56, 54, 100, 97, 97, 48, 57, 100, 52, 56, 54, 55, 49, 99, 52, 100, 57, 99, 100, 53, 54, 52, 97, 57, 98, 55, 55, 99, 48, 101, 53, 98, 97, 98, 48, 101, 101, 57, 48, 97, 50, 56, 48, 56, 56, 56, 57, 99, 48, 50, 101, 51, 56, 56, 97, 48, 57, 54, 100, 54, 52, 55, 101, 49] : List Nat).map Char.ofNat ++ Char.ofNat 32 :: (([99, 117, 116] : List Nat).map Char.ofNat ++ Char.ofNat 32 :: (([97, 116] : List Nat).map Char.ofNat ++ Char.ofNat 32 :: tl)))) := by kernel_rfl
theorem initWords : wordsSigns Try.prog.initOrder.toList = ([104, 97, 114, 110, 101, 115, 115] : List Nat).map Char.ofNat :: ([56, 54, 100, 97, 97, 48, 57, 100, 52, 56, 54, 55, 49, 99, 52, 100, 57, 99, 100, 53, 54, 52, 97, 57, 98, 55, 55, 99, 48, 101, 53, 98, 97, 98, 48, 101, 101, 57, 48, 97, 50, 56, 48, 56, 56, 56, 57, 99, 48, 50, 101, 51, 56, 56, 97, 48, 57, 54, 100, 54, 52, 55, 101, 49] : List Nat).map Char.ofNat :: ([99, 117, 116] : List Nat).map Char.ofNat :: ([97, 116] : List Nat).map Char.ofNat :: wordsSigns tl := by
  rw [initOrder, String.toList_ofList]
  exact words_head (by kernel_rfl)
theorem initBehind : behindMainWord (wordsSigns Try.prog.initOrder.toList) = ([99, 117, 116] : List Nat).map Char.ofNat :: ([97, 116] : List Nat).map Char.ofNat :: wordsSigns tl := by
  rw [initWords]
  exact behind (by kernel_rfl) (sum_ok _ (by kernel_rfl) (by kernel_rfl))
theorem mayEnter : Try.prog.mayEnter = true := mayEnter_of initBehind (by kernel_rfl) (by kernel_rfl) (by kernel_rfl)
theorem liftsFinal : Try.prog.liftsFinal = false := liftsFinal_of initBehind
theorem makes : Try.prog.make = some .cut := make_of initBehind
end Go.Proofs.Ytnanofipjiclfaa
