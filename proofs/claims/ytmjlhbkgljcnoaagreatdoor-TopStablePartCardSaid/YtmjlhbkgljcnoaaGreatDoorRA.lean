/- What the rows of this seat share: the head of the dump, read once. -/
import Derived.Test.YtmjlhbkgljcnoaaGreatDoorRows
import Derived.Test.YtmjlhbkgljcnoaaGreatDoorAbWords
set_option maxRecDepth 100000
namespace Go.Proofs.YtmjlhbkgljcnoaaGreatDoor
open Go Go.Ab
abbrev tl : List Char := ([114, 101, 108, 121, 103, 117, 97, 114, 100, 47, 114, 101, 108, 121, 103, 117, 97, 114, 100, 116, 111, 112, 46, 84, 111, 112, 83, 116, 97, 98, 108, 101, 80, 97, 114, 116] : List Nat).map Char.ofNat
theorem initOrder : Tryz.prog.initOrder = String.ofList (([104, 97, 114, 110, 101, 115, 115] : List Nat).map Char.ofNat ++ Char.ofNat 32 :: (([102, 97, 97, 102, 97, 101, 53, 51, 49, 56, 100, 51, 49, 99, 52, 97, 50, 101, 97, 51, 99, 97, 100, 50, 54, 54, 50, 49, 98, 55, 57, 102, 51, 101, 50, 100, 55, 49, 101, 55, 54, 55, 55, 97, 57, 54, 97, 48, 49, 98, 97, 49, 98, 48, 51, 99, 101, 97, 50, 53, 100, 54, 102, 50] : List Nat).map Char.ofNat ++ Char.ofNat 32 :: (([99, 117, 116] : List Nat).map Char.ofNat ++ Char.ofNat 32 :: (([97, 116] : List Nat).map Char.ofNat ++ Char.ofNat 32 :: tl)))) := by kernel_rfl
theorem initWords : wordsSigns Tryz.prog.initOrder.toList = ([104, 97, 114, 110, 101, 115, 115] : List Nat).map Char.ofNat :: ([102, 97, 97, 102, 97, 101, 53, 51, 49, 56, 100, 51, 49, 99, 52, 97, 50, 101, 97, 51, 99, 97, 100, 50, 54, 54, 50, 49, 98, 55, 57, 102, 51, 101, 50, 100, 55, 49, 101, 55, 54, 55, 55, 97, 57, 54, 97, 48, 49, 98, 97, 49, 98, 48, 51, 99, 101, 97, 50, 53, 100, 54, 102, 50] : List Nat).map Char.ofNat :: ([99, 117, 116] : List Nat).map Char.ofNat :: ([97, 116] : List Nat).map Char.ofNat :: wordsSigns tl := by
  rw [initOrder, String.toList_ofList]
  exact words_head (by kernel_rfl)
theorem initBehind : behindMainWord (wordsSigns Tryz.prog.initOrder.toList) = ([99, 117, 116] : List Nat).map Char.ofNat :: ([97, 116] : List Nat).map Char.ofNat :: wordsSigns tl := by
  rw [initWords]
  exact behind (by kernel_rfl) (sum_ok _ (by kernel_rfl) (by kernel_rfl))
theorem mayEnter : Tryz.prog.mayEnter = true := mayEnter_of initBehind (by kernel_rfl) (by kernel_rfl) (by kernel_rfl)
theorem liftsFinal : Tryz.prog.liftsFinal = false := liftsFinal_of initBehind
theorem makes : Tryz.prog.make = some .cut := make_of initBehind
end Go.Proofs.YtmjlhbkgljcnoaaGreatDoor
