import Derived.Test.YtdpdbokicanpoaaGreatDoorAbK
import Derived.Test.YtdpdbokicanpoaaGreatDoorRows
import Derived.Test.YtdpdbokicanpoaaGreatDoorAbWords
set_option linter.unusedSimpArgs false
set_option linter.unusedVariables false
set_option maxHeartbeats 64000000
set_option maxRecDepth 100000
namespace Go.Proofs.YtdpdbokicanpoaaGreatDoor
open Go Go.Ab
abbrev tl:List Char:=([114,101,108,121,103,117,97,114,100,47,114,101,108,121,103,117,97,114,100,116,111,112,46,84,111,112,82,101,110,117,109,98,101,114,101,100,82,117,110,115,32,114,101,108,121,103,117,97,114,100,47,114,101,108,121,103,117,97,114,100,116,111,112,46,84,111,112,68,114,97,105,110,101,100,82,117,110,115,32,114,101,108,121,103,117,97,114,100,47,114,101,108,121,103,117,97,114,100,116,111,112,46,84,111,112,82,101,97,99,104,101,100,82,117,110,115]:List Nat).map Char.ofNat
theorem Dp:Tryz.prog.initOrder=String.ofList (([104,97,114,110,101,115,115]:List Nat).map Char.ofNat++Char.ofNat 32::(([52,56,49,101,57,50,57,101,49,48,102,57,53,100,56,100,57,101,51,50,102,50,57,55,49,102,102,97,56,55,53,99,99,53,99,57,55,51,57,97,98,57,54,53,54,100,55,97,51,48,100,55,97,56,51,98,52,101,100,56,49,55,50,55]:List Nat).map Char.ofNat++Char.ofNat 32::(([99,117,116]:List Nat).map Char.ofNat++Char.ofNat 32::(([97,116]:List Nat).map Char.ofNat++Char.ofNat 32::tl)))):=by kernel_rfl
theorem Do:wordsSigns Tryz.prog.initOrder.toList=([104,97,114,110,101,115,115]:List Nat).map Char.ofNat::([52,56,49,101,57,50,57,101,49,48,102,57,53,100,56,100,57,101,51,50,102,50,57,55,49,102,102,97,56,55,53,99,99,53,99,57,55,51,57,97,98,57,54,53,54,100,55,97,51,48,100,55,97,56,51,98,52,101,100,56,49,55,50,55]:List Nat).map Char.ofNat::([99,117,116]:List Nat).map Char.ofNat::([97,116]:List Nat).map Char.ofNat::wordsSigns tl:=by
 rw[Dp,String.toList_ofList]
 exact AB (by kernel_rfl)
theorem pw:behindMainWord (wordsSigns Tryz.prog.initOrder.toList)=([99,117,116]:List Nat).map Char.ofNat::([97,116]:List Nat).map Char.ofNat::wordsSigns tl:=by
 rw[Do]
 exact behind (by kernel_rfl) (sum_ok _ (by kernel_rfl) (by kernel_rfl))
theorem Fu:Tryz.prog.mayEnter=true:=zn pw (by kernel_rfl) (by kernel_rfl) (by kernel_rfl)
theorem A8:Tryz.prog.liftsFinal=false:=vh pw
theorem makes:Tryz.prog.make=some .cut:=make_of pw
end Go.Proofs.YtdpdbokicanpoaaGreatDoor
