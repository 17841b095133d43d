/- What the rows of this seat share: the head of the dump, read once. -/
import Derived.Test.YtfoblkeefpaceaaRows
import Derived.Test.YtfoblkeefpaceaaAbWords
set_option maxRecDepth 100000
namespace Go.Proofs.Ytfoblkeefpaceaa
open Go Go.Ab
abbrev tl : List Char := ([114, 101, 108, 121, 103, 117, 97, 114, 100, 47, 114, 101, 108, 121, 103, 117, 97, 114, 100, 108, 97, 119, 48, 53, 46, 84, 121, 112, 105, 110, 103, 87, 105, 100, 116, 104, 115, 32, 114, 101, 108, 121, 103, 117, 97, 114, 100, 47, 114, 101, 108, 121, 103, 117, 97, 114, 100, 108, 97, 119, 48, 53, 46, 84, 121, 112, 105, 110, 103, 79, 112, 101, 114, 97, 110, 100, 115, 32, 114, 101, 108, 121, 103, 117, 97, 114, 100, 47, 114, 101, 108, 121, 103, 117, 97, 114, 100, 108, 97, 119, 48, 53, 46, 84, 121, 112, 105, 110, 103, 76, 111, 99, 97, 108, 105, 116, 121, 32, 114, 101, 108, 121, 103, 117, 97, 114, 100, 47, 114, 101, 108, 121, 103, 117, 97, 114, 100, 108, 97, 119, 48, 53, 46, 84, 121, 112, 105, 110, 103, 78, 117, 109, 98, 101, 114, 115, 32, 114, 101, 108, 121, 103, 117, 97, 114, 100, 47, 114, 101, 108, 121, 103, 117, 97, 114, 100, 108, 97, 119, 48, 53, 46, 84, 121, 112, 105, 110, 103, 79, 102, 102, 115, 101, 116, 115, 32, 114, 101, 108, 121, 103, 117, 97, 114, 100, 47, 114, 101, 108, 121, 103, 117, 97, 114, 100, 108, 97, 119, 48, 53, 46, 84, 121, 112, 105, 110, 103, 66, 105, 110, 100, 105, 110, 103] : List Nat).map Char.ofNat
theorem initOrder : Try.prog.initOrder = String.ofList (([104, 97, 114, 110, 101, 115, 115] : List Nat).map Char.ofNat ++ Char.ofNat 32 :: (([100, 55, 56, 100, 51, 49, 49, 98, 99, 52, 50, 55, 101, 97, 50, 48, 49, 52, 53, 51, 100, 53, 99, 101, 52, 98, 55, 97, 48, 55, 102, 98, 52, 49, 50, 55, 53, 53, 57, 102, 53, 52, 53, 102, 100, 52, 52, 97, 54, 53, 52, 99, 57, 49, 52, 53, 99, 55, 100, 50, 48, 52, 51, 100] : List Nat).map Char.ofNat ++ Char.ofNat 32 :: (([99, 117, 116] : List Nat).map Char.ofNat ++ Char.ofNat 32 :: (([97, 116] : List Nat).map Char.ofNat ++ Char.ofNat 32 :: tl)))) := by kernel_rfl
theorem initWords : wordsSigns Try.prog.initOrder.toList = ([104, 97, 114, 110, 101, 115, 115] : List Nat).map Char.ofNat :: ([100, 55, 56, 100, 51, 49, 49, 98, 99, 52, 50, 55, 101, 97, 50, 48, 49, 52, 53, 51, 100, 53, 99, 101, 52, 98, 55, 97, 48, 55, 102, 98, 52, 49, 50, 55, 53, 53, 57, 102, 53, 52, 53, 102, 100, 52, 52, 97, 54, 53, 52, 99, 57, 49, 52, 53, 99, 55, 100, 50, 48, 52, 51, 100] : List Nat).map Char.ofNat :: ([99, 117, 116] : List Nat).map Char.ofNat :: ([97, 116] : List Nat).map Char.ofNat :: wordsSigns tl := by
  rw [initOrder, String.toList_ofList]
  exact words_head (by kernel_rfl)
theorem initBehind : behindMainWord (wordsSigns Try.prog.initOrder.toList) = ([99, 117, 116] : List Nat).map Char.ofNat :: ([97, 116] : List Nat).map Char.ofNat :: wordsSigns tl := by
  rw [initWords]
  exact behind (by kernel_rfl) (sum_ok _ (by kernel_rfl) (by kernel_rfl))
theorem mayEnter : Try.prog.mayEnter = true := mayEnter_of initBehind (by kernel_rfl) (by kernel_rfl) (by kernel_rfl)
theorem liftsFinal : Try.prog.liftsFinal = false := liftsFinal_of initBehind
theorem makes : Try.prog.make = some .cut := make_of initBehind
end Go.Proofs.Ytfoblkeefpaceaa
