/- What the rows of this seat share: the head of the dump, read once. -/
import Derived.Test.YtkjlefahpdconaaDoorRows
import Derived.Test.YtkjlefahpdconaaDoorAbWords
set_option maxRecDepth 100000
namespace Go.Proofs.YtkjlefahpdconaaDoor
open Go Go.Ab
abbrev tl : List Char := ([114, 101, 108, 121, 103, 117, 97, 114, 100, 47, 114, 101, 108, 121, 103, 117, 97, 114, 100, 108, 97, 119, 50, 50, 46, 69, 110, 99, 111, 100, 101, 68, 101, 116, 101, 114, 109, 105, 110, 101, 100, 32, 114, 101, 108, 121, 103, 117, 97, 114, 100, 47, 114, 101, 108, 121, 103, 117, 97, 114, 100, 108, 97, 119, 50, 50, 46, 69, 110, 99, 111, 100, 101, 83, 116, 97, 116, 101, 115, 32, 114, 101, 108, 121, 103, 117, 97, 114, 100, 47, 114, 101, 108, 121, 103, 117, 97, 114, 100, 108, 97, 119, 50, 50, 46, 69, 110, 99, 111, 100, 101, 83, 104, 97, 112, 101, 32, 114, 101, 108, 121, 103, 117, 97, 114, 100, 47, 114, 101, 108, 121, 103, 117, 97, 114, 100, 108, 97, 119, 50, 50, 46, 69, 110, 99, 111, 100, 101, 70, 111, 108, 100, 105, 110, 103, 32, 114, 101, 108, 121, 103, 117, 97, 114, 100, 47, 114, 101, 108, 121, 103, 117, 97, 114, 100, 108, 97, 119, 50, 50, 46, 69, 110, 99, 111, 100, 101, 77, 101, 97, 110, 105, 110, 103, 32, 114, 101, 108, 121, 103, 117, 97, 114, 100, 47, 114, 101, 108, 121, 103, 117, 97, 114, 100, 108, 97, 119, 50, 50, 46, 69, 110, 99, 111, 100, 101, 83, 97, 116, 105, 115, 102, 105, 97, 98, 108, 101] : List Nat).map Char.ofNat
theorem initOrder : Tryd.prog.initOrder = String.ofList (([104, 97, 114, 110, 101, 115, 115] : List Nat).map Char.ofNat ++ Char.ofNat 32 :: (([55, 50, 99, 57, 100, 98, 49, 97, 54, 101, 99, 49, 101, 54, 57, 52, 50, 48, 48, 51, 48, 48, 97, 48, 52, 55, 98, 102, 98, 50, 55, 98, 50, 100, 100, 55, 98, 50, 102, 57, 102, 50, 51, 97, 49, 102, 52, 97, 48, 54, 50, 50, 55, 49, 98, 55, 100, 54, 51, 99, 98, 100, 48, 99] : List Nat).map Char.ofNat ++ Char.ofNat 32 :: (([99, 117, 116] : List Nat).map Char.ofNat ++ Char.ofNat 32 :: (([97, 116] : List Nat).map Char.ofNat ++ Char.ofNat 32 :: tl)))) := by kernel_rfl
theorem initWords : wordsSigns Tryd.prog.initOrder.toList = ([104, 97, 114, 110, 101, 115, 115] : List Nat).map Char.ofNat :: ([55, 50, 99, 57, 100, 98, 49, 97, 54, 101, 99, 49, 101, 54, 57, 52, 50, 48, 48, 51, 48, 48, 97, 48, 52, 55, 98, 102, 98, 50, 55, 98, 50, 100, 100, 55, 98, 50, 102, 57, 102, 50, 51, 97, 49, 102, 52, 97, 48, 54, 50, 50, 55, 49, 98, 55, 100, 54, 51, 99, 98, 100, 48, 99] : List Nat).map Char.ofNat :: ([99, 117, 116] : List Nat).map Char.ofNat :: ([97, 116] : List Nat).map Char.ofNat :: wordsSigns tl := by
  rw [initOrder, String.toList_ofList]
  exact words_head (by kernel_rfl)
theorem initBehind : behindMainWord (wordsSigns Tryd.prog.initOrder.toList) = ([99, 117, 116] : List Nat).map Char.ofNat :: ([97, 116] : List Nat).map Char.ofNat :: wordsSigns tl := by
  rw [initWords]
  exact behind (by kernel_rfl) (sum_ok _ (by kernel_rfl) (by kernel_rfl))
theorem mayEnter : Tryd.prog.mayEnter = true := mayEnter_of initBehind (by kernel_rfl) (by kernel_rfl) (by kernel_rfl)
theorem liftsFinal : Tryd.prog.liftsFinal = false := liftsFinal_of initBehind
theorem makes : Tryd.prog.make = some .cut := make_of initBehind
end Go.Proofs.YtkjlefahpdconaaDoor
