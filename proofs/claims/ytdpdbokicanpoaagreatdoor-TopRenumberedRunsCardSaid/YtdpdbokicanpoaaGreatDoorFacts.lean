import Derived.Test.YtdpdbokicanpoaaGreatDoorAbK
import Derived.Test.YtdpdbokicanpoaaGreatDoorProg
import Derived.Test.YtdpdbokicanpoaaGreatDoorAbNil
import Derived.KernelRfl
set_option linter.unusedSimpArgs false
set_option linter.unusedVariables false
set_option maxHeartbeats 64000000
namespace Go.Proofs.YtdpdbokicanpoaaGreatDoor
open Go Go.Ab
theorem a9:Tryz.prog.follows .mixedOrders=true:=by kernel_rfl
theorem fa18:ef Tryz.prog 3=some false:=by kernel_rfl
theorem fa19:Tryz.prog.cellsOf 3=1:=by kernel_rfl
theorem fa20:(Tryz.prog.info? 3).isSome=true:=by kernel_rfl
theorem fa24:zD Tryz.prog 3=some .i64:=by kernel_rfl
theorem fa25:AW Tryz.prog 3=true:=by kernel_rfl
theorem fa27:eO Tryz.prog 3=some [.d (.int .i64 0)]:=by kernel_rfl
theorem fa28:ef Tryz.prog 4=some false:=by kernel_rfl
theorem fa29:Tryz.prog.cellsOf 4=1:=by kernel_rfl
theorem fa30:(Tryz.prog.info? 4).isSome=true:=by kernel_rfl
theorem fa34:mL Tryz.prog 4=true:=by kernel_rfl
theorem fa36:pO Tryz.prog 4=some (.d (.bool false)):=by kernel_rfl
theorem fa37:eO Tryz.prog 4=some [.d (.bool false)]:=by kernel_rfl
theorem fa38:ef Tryz.prog 5=some false:=by kernel_rfl
theorem fa39:Tryz.prog.cellsOf 5=1:=by kernel_rfl
theorem fa44:zD Tryz.prog 5=some .u8:=by kernel_rfl
theorem fa84:ef Tryz.prog 9=some false:=by kernel_rfl
theorem fa90:kp Tryz.prog 9=true:=by kernel_rfl
theorem fa219:ef Tryz.prog 22=some false:=by kernel_rfl
theorem fa227:eA Tryz.prog 22=some (88,6):=by kernel_rfl
theorem fa228:pp Tryz.prog 22=some (88,6,56,[.d (.str []),.d (.int .i64 0),.d (.int .i64 0),.d (.int .i64 0),.d (.bool false),.d (.int .i64 0)]):=by kernel_rfl
theorem fa230:ef Tryz.prog 23=some false:=by kernel_rfl
theorem fa231:Tryz.prog.cellsOf 23=1:=by kernel_rfl
theorem fa232:(Tryz.prog.info? 23).isSome=true:=by kernel_rfl
theorem fa238:eA Tryz.prog 23=some (76,11):=by kernel_rfl
theorem fa239:pp Tryz.prog 23=some (76,11,152,[.d (.str []),.d (.str []),.d (.int .i64 0),.d (.int .i64 0),.d (.int .i64 0),.d .nils,.d (.int .i64 0),.d (.int .i64 0),.d (.int .i64 0),.d .nils,.d .nils]):=by kernel_rfl
theorem fa241:ef Tryz.prog 24=some false:=by kernel_rfl
theorem fa242:Tryz.prog.cellsOf 24=1:=by kernel_rfl
theorem fa243:(Tryz.prog.info? 24).isSome=true:=by kernel_rfl
theorem fa249:eA Tryz.prog 24=some (79,6):=by kernel_rfl
theorem fa250:pp Tryz.prog 24=some (79,6,64,[.d (.int .i64 0),.d (.int .i64 0),.d (.int .i64 0),.d (.int .i64 0),.d .nils,.d (.int .i64 0)]):=by kernel_rfl
theorem fa252:ef Tryz.prog 25=some false:=by kernel_rfl
theorem fa253:Tryz.prog.cellsOf 25=1:=by kernel_rfl
theorem fa254:(Tryz.prog.info? 25).isSome=true:=by kernel_rfl
theorem fa260:eA Tryz.prog 25=some (84,7):=by kernel_rfl
theorem fa261:pp Tryz.prog 25=some (84,7,128,[.d (.str []),.d (.int .i64 0),.d .nils,.d .nils,.d .nils,.d .nils,.d (.bool false)]):=by kernel_rfl
theorem fa275:ef Tryz.prog 27=some true:=by kernel_rfl
theorem fa276:Tryz.prog.cellsOf 27=4:=by kernel_rfl
theorem fa277:(Tryz.prog.info? 27).isSome=true:=by kernel_rfl
theorem fa281:fld Tryz.prog 27 0=some (0,22):=by kernel_rfl
theorem fa282:fld Tryz.prog 27 1=some (1,23):=by kernel_rfl
theorem fa283:fld Tryz.prog 27 2=some (2,24):=by kernel_rfl
theorem fa284:fld Tryz.prog 27 3=some (3,25):=by kernel_rfl
theorem fa285:eK Tryz.prog 27=some λ i=>[(0,1),(1,1),(2,1),(3,1)].toArray[i]? :=by kernel_rfl
theorem fa286:eO Tryz.prog 27=some [.d .nils,.d .nils,.d .nils,.d .nils]:=by kernel_rfl
theorem fa295:eA Tryz.prog 28=some (5,1):=by kernel_rfl
theorem fa296:uJ Tryz.prog 28=true:=by kernel_rfl
theorem fa297:pp Tryz.prog 28=some (5,1,1,[.d (.int .u8 0)]):=by kernel_rfl
theorem fa315:ef Tryz.prog 31=some false:=by kernel_rfl
theorem fa316:Tryz.prog.cellsOf 31=1:=by kernel_rfl
theorem fa317:(Tryz.prog.info? 31).isSome=true:=by kernel_rfl
theorem fa321:lB Tryz.prog 31=true:=by kernel_rfl
theorem fa323:eA Tryz.prog 31=some (3,1):=by kernel_rfl
theorem fa324:pp Tryz.prog 31=some (3,1,8,[.d (.int .i64 0)]):=by kernel_rfl
theorem fa342:ef Tryz.prog 34=some false:=by kernel_rfl
theorem fa343:Tryz.prog.cellsOf 34=1:=by kernel_rfl
theorem fa344:(Tryz.prog.info? 34).isSome=true:=by kernel_rfl
theorem fa350:eA Tryz.prog 34=some (37,3):=by kernel_rfl
theorem fa351:pp Tryz.prog 34=some (37,3,24,[.d (.int .i64 0),.d (.int .i64 0),.d (.int .i64 0)]):=by kernel_rfl
theorem fa352:eO Tryz.prog 34=some [.d .nils]:=by kernel_rfl
theorem fa373:ef Tryz.prog 37=some true:=by kernel_rfl
theorem fa374:Tryz.prog.cellsOf 37=3:=by kernel_rfl
theorem fa375:(Tryz.prog.info? 37).isSome=true:=by kernel_rfl
theorem fa379:fld Tryz.prog 37 0=some (0,3):=by kernel_rfl
theorem fa380:fld Tryz.prog 37 1=some (1,3):=by kernel_rfl
theorem fa381:fld Tryz.prog 37 2=some (2,3):=by kernel_rfl
theorem fa382:eK Tryz.prog 37=some λ i=>[(0,1),(1,1),(2,1)].toArray[i]? :=by kernel_rfl
theorem fa383:kL Tryz.prog 37=some [.int,.int,.int]:=by kernel_rfl
theorem fa384:eO Tryz.prog 37=some [.d (.int .i64 0),.d (.int .i64 0),.d (.int .i64 0)]:=by kernel_rfl
theorem fa385:ef Tryz.prog 38=some false:=by kernel_rfl
theorem fa386:Tryz.prog.cellsOf 38=1:=by kernel_rfl
theorem fa387:(Tryz.prog.info? 38).isSome=true:=by kernel_rfl
theorem fa393:eA Tryz.prog 38=some (44,3):=by kernel_rfl
theorem fa394:pp Tryz.prog 38=some (44,3,72,[.d .nils,.d .nils,.d .nils]):=by kernel_rfl
theorem fa395:eO Tryz.prog 38=some [.d .nils]:=by kernel_rfl
theorem fa404:ef Tryz.prog 41=some false:=by kernel_rfl
theorem fa412:ef Tryz.prog 42=some false:=by kernel_rfl
theorem fa413:Tryz.prog.cellsOf 42=1:=by kernel_rfl
theorem fa414:(Tryz.prog.info? 42).isSome=true:=by kernel_rfl
theorem fa420:eA Tryz.prog 42=some (46,1):=by kernel_rfl
theorem fa421:pp Tryz.prog 42=some (46,1,24,[.d .nils]):=by kernel_rfl
theorem fa434:ef Tryz.prog 44=some true:=by kernel_rfl
theorem fa435:Tryz.prog.cellsOf 44=3:=by kernel_rfl
theorem fa436:(Tryz.prog.info? 44).isSome=true:=by kernel_rfl
theorem fa440:fld Tryz.prog 44 0=some (0,31):=by kernel_rfl
theorem fa441:fld Tryz.prog 44 1=some (1,31):=by kernel_rfl
theorem fa442:fld Tryz.prog 44 2=some (2,42):=by kernel_rfl
theorem fa443:eK Tryz.prog 44=some λ i=>[(0,1),(1,1),(2,1)].toArray[i]? :=by kernel_rfl
theorem fa444:eO Tryz.prog 44=some [.d .nils,.d .nils,.d .nils]:=by kernel_rfl
theorem fa453:ef Tryz.prog 46=some false:=by kernel_rfl
theorem fa454:Tryz.prog.cellsOf 46=1:=by kernel_rfl
theorem fa455:(Tryz.prog.info? 46).isSome=true:=by kernel_rfl
theorem fa461:eA Tryz.prog 46=some (48,2):=by kernel_rfl
theorem fa462:pp Tryz.prog 46=some (48,2,48,[.d .nils,.d .nils]):=by kernel_rfl
theorem fa474:ef Tryz.prog 48=some true:=by kernel_rfl
theorem fa475:Tryz.prog.cellsOf 48=2:=by kernel_rfl
theorem fa476:(Tryz.prog.info? 48).isSome=true:=by kernel_rfl
theorem fa480:fld Tryz.prog 48 0=some (0,31):=by kernel_rfl
theorem fa481:fld Tryz.prog 48 1=some (1,31):=by kernel_rfl
theorem fa482:eK Tryz.prog 48=some λ i=>[(0,1),(1,1)].toArray[i]? :=by kernel_rfl
theorem fa483:eO Tryz.prog 48=some [.d .nils,.d .nils]:=by kernel_rfl
theorem fa492:ef Tryz.prog 50=some false:=by kernel_rfl
theorem fa493:Tryz.prog.cellsOf 50=1:=by kernel_rfl
theorem fa494:(Tryz.prog.info? 50).isSome=true:=by kernel_rfl
theorem fa502:eO Tryz.prog 50=some [.d (.int .i64 0)]:=by kernel_rfl
theorem fa577:ef Tryz.prog 62=some false:=by kernel_rfl
theorem fa578:Tryz.prog.cellsOf 62=1:=by kernel_rfl
theorem fa579:(Tryz.prog.info? 62).isSome=true:=by kernel_rfl
theorem fa585:eA Tryz.prog 62=some (64,4):=by kernel_rfl
theorem fa586:pp Tryz.prog 62=some (64,4,48,[.d (.int .i64 0),.d (.int .i64 0),.d (.int .i64 0),.d .nils]):=by kernel_rfl
theorem fa600:ef Tryz.prog 64=some true:=by kernel_rfl
theorem fa601:Tryz.prog.cellsOf 64=4:=by kernel_rfl
theorem fa602:(Tryz.prog.info? 64).isSome=true:=by kernel_rfl
theorem fa606:fld Tryz.prog 64 0=some (0,3):=by kernel_rfl
theorem fa607:fld Tryz.prog 64 1=some (1,3):=by kernel_rfl
theorem fa608:fld Tryz.prog 64 2=some (2,3):=by kernel_rfl
theorem fa609:fld Tryz.prog 64 3=some (3,62):=by kernel_rfl
theorem fa610:eK Tryz.prog 64=some λ i=>[(0,1),(1,1),(2,1),(3,1)].toArray[i]? :=by kernel_rfl
theorem fa611:eO Tryz.prog 64=some [.d (.int .i64 0),.d (.int .i64 0),.d (.int .i64 0),.d .nils]:=by kernel_rfl
theorem fa631:ef Tryz.prog 67=some true:=by kernel_rfl
theorem fa632:Tryz.prog.cellsOf 67=6:=by kernel_rfl
theorem fa633:(Tryz.prog.info? 67).isSome=true:=by kernel_rfl
theorem fa637:fld Tryz.prog 67 0=some (0,3):=by kernel_rfl
theorem fa638:fld Tryz.prog 67 1=some (1,3):=by kernel_rfl
theorem fa639:fld Tryz.prog 67 2=some (2,64):=by kernel_rfl
theorem fa640:eK Tryz.prog 67=some λ i=>[(0,1),(1,1),(2,4)].toArray[i]? :=by kernel_rfl
theorem fa641:eO Tryz.prog 67=some [.d (.int .i64 0),.d (.int .i64 0),.d (.int .i64 0),.d (.int .i64 0),.d (.int .i64 0),.d .nils]:=by kernel_rfl
theorem fa695:ef Tryz.prog 76=some true:=by kernel_rfl
theorem fa696:Tryz.prog.cellsOf 76=11:=by kernel_rfl
theorem fa697:(Tryz.prog.info? 76).isSome=true:=by kernel_rfl
theorem fa701:fld Tryz.prog 76 0=some (0,9):=by kernel_rfl
theorem fa702:fld Tryz.prog 76 1=some (1,9):=by kernel_rfl
theorem fa703:fld Tryz.prog 76 2=some (2,64):=by kernel_rfl
theorem fa704:fld Tryz.prog 76 3=some (6,64):=by kernel_rfl
theorem fa705:fld Tryz.prog 76 4=some (10,31):=by kernel_rfl
theorem fa706:eK Tryz.prog 76=some λ i=>[(0,1),(1,1),(2,4),(6,4),(10,1)].toArray[i]? :=by kernel_rfl
theorem fa707:eO Tryz.prog 76=some [.d (.str []),.d (.str []),.d (.int .i64 0),.d (.int .i64 0),.d (.int .i64 0),.d .nils,.d (.int .i64 0),.d (.int .i64 0),.d (.int .i64 0),.d .nils,.d .nils]:=by kernel_rfl
theorem fa727:ef Tryz.prog 79=some true:=by kernel_rfl
theorem fa728:Tryz.prog.cellsOf 79=6:=by kernel_rfl
theorem fa729:(Tryz.prog.info? 79).isSome=true:=by kernel_rfl
theorem fa733:fld Tryz.prog 79 0=some (0,3):=by kernel_rfl
theorem fa734:fld Tryz.prog 79 1=some (1,64):=by kernel_rfl
theorem fa735:fld Tryz.prog 79 2=some (5,3):=by kernel_rfl
theorem fa737:eO Tryz.prog 79=some [.d (.int .i64 0),.d (.int .i64 0),.d (.int .i64 0),.d (.int .i64 0),.d .nils,.d (.int .i64 0)]:=by kernel_rfl
theorem fa746:ef Tryz.prog 81=some false:=by kernel_rfl
theorem fa747:Tryz.prog.cellsOf 81=1:=by kernel_rfl
theorem fa748:(Tryz.prog.info? 81).isSome=true:=by kernel_rfl
theorem fa754:eA Tryz.prog 81=some (93,11):=by kernel_rfl
theorem fa755:pp Tryz.prog 81=some (93,11,120,[.d (.int .i64 0),.d (.int .i64 0),.d (.int .i64 0),.d (.int .i64 0),.d (.int .i64 0),.d (.int .i64 0),.d .nils,.d .nils,.d (.bool false),.d (.int .i64 0),.d (.int .i64 0)]):=by kernel_rfl
theorem fa757:ef Tryz.prog 82=some false:=by kernel_rfl
theorem fa758:Tryz.prog.cellsOf 82=1:=by kernel_rfl
theorem fa759:(Tryz.prog.info? 82).isSome=true:=by kernel_rfl
theorem fa765:eA Tryz.prog 82=some (97,6):=by kernel_rfl
theorem fa766:pp Tryz.prog 82=some (97,6,80,[.d (.int .i64 0),.d .nils,.d (.int .i64 0),.d (.int .i64 0),.d (.int .i64 0),.d .nils]):=by kernel_rfl
theorem fa783:ef Tryz.prog 84=some true:=by kernel_rfl
theorem fa784:Tryz.prog.cellsOf 84=7:=by kernel_rfl
theorem fa785:(Tryz.prog.info? 84).isSome=true:=by kernel_rfl
theorem fa789:fld Tryz.prog 84 0=some (0,9):=by kernel_rfl
theorem fa790:fld Tryz.prog 84 1=some (1,3):=by kernel_rfl
theorem fa791:fld Tryz.prog 84 2=some (2,62):=by kernel_rfl
theorem fa792:fld Tryz.prog 84 3=some (3,31):=by kernel_rfl
theorem fa793:fld Tryz.prog 84 4=some (4,81):=by kernel_rfl
theorem fa794:fld Tryz.prog 84 5=some (5,82):=by kernel_rfl
theorem fa795:fld Tryz.prog 84 6=some (6,4):=by kernel_rfl
theorem fa796:eK Tryz.prog 84=some λ i=>[(0,1),(1,1),(2,1),(3,1),(4,1),(5,1),(6,1)].toArray[i]? :=by kernel_rfl
theorem fa797:eO Tryz.prog 84=some [.d (.str []),.d (.int .i64 0),.d .nils,.d .nils,.d .nils,.d .nils,.d (.bool false)]:=by kernel_rfl
theorem fa821:ef Tryz.prog 88=some true:=by kernel_rfl
theorem fa822:Tryz.prog.cellsOf 88=6:=by kernel_rfl
theorem fa823:(Tryz.prog.info? 88).isSome=true:=by kernel_rfl
theorem fa827:fld Tryz.prog 88 0=some (0,9):=by kernel_rfl
theorem fa828:fld Tryz.prog 88 1=some (1,3):=by kernel_rfl
theorem fa829:fld Tryz.prog 88 2=some (2,3):=by kernel_rfl
theorem fa830:fld Tryz.prog 88 3=some (3,3):=by kernel_rfl
theorem fa831:fld Tryz.prog 88 4=some (4,4):=by kernel_rfl
theorem fa832:fld Tryz.prog 88 5=some (5,3):=by kernel_rfl
theorem fa833:eK Tryz.prog 88=some λ i=>[(0,1),(1,1),(2,1),(3,1),(4,1),(5,1)].toArray[i]? :=by kernel_rfl
theorem fa835:eO Tryz.prog 88=some [.d (.str []),.d (.int .i64 0),.d (.int .i64 0),.d (.int .i64 0),.d (.bool false),.d (.int .i64 0)]:=by kernel_rfl
theorem fa844:eA Tryz.prog 89=some (4,1):=by kernel_rfl
theorem fa845:pp Tryz.prog 89=some (4,1,1,[.d (.bool false)]):=by kernel_rfl
theorem fa855:ef Tryz.prog 91=some false:=by kernel_rfl
theorem fa856:Tryz.prog.cellsOf 91=1:=by kernel_rfl
theorem fa857:(Tryz.prog.info? 91).isSome=true:=by kernel_rfl
theorem fa863:eA Tryz.prog 91=some (95,5):=by kernel_rfl
theorem fa864:pp Tryz.prog 91=some (95,5,56,[.d (.int .i64 0),.d (.int .i64 0),.d (.int .i64 0),.d (.int .i64 0),.d .nils]):=by kernel_rfl
theorem fa882:ef Tryz.prog 93=some true:=by kernel_rfl
theorem fa883:Tryz.prog.cellsOf 93=11:=by kernel_rfl
theorem fa884:(Tryz.prog.info? 93).isSome=true:=by kernel_rfl
theorem fa888:fld Tryz.prog 93 0=some (0,3):=by kernel_rfl
theorem fa889:fld Tryz.prog 93 1=some (1,3):=by kernel_rfl
theorem fa890:fld Tryz.prog 93 2=some (2,3):=by kernel_rfl
theorem fa891:fld Tryz.prog 93 3=some (3,64):=by kernel_rfl
theorem fa892:fld Tryz.prog 93 4=some (7,91):=by kernel_rfl
theorem fa893:fld Tryz.prog 93 5=some (8,4):=by kernel_rfl
theorem fa894:fld Tryz.prog 93 6=some (9,3):=by kernel_rfl
theorem fa895:fld Tryz.prog 93 7=some (10,3):=by kernel_rfl
theorem fa896:eK Tryz.prog 93=some λ i=>[(0,1),(1,1),(2,1),(3,4),(7,1),(8,1),(9,1),(10,1)].toArray[i]? :=by kernel_rfl
theorem fa897:eO Tryz.prog 93=some [.d (.int .i64 0),.d (.int .i64 0),.d (.int .i64 0),.d (.int .i64 0),.d (.int .i64 0),.d (.int .i64 0),.d .nils,.d .nils,.d (.bool false),.d (.int .i64 0),.d (.int .i64 0)]:=by kernel_rfl
theorem fa908:ef Tryz.prog 95=some true:=by kernel_rfl
theorem fa909:Tryz.prog.cellsOf 95=5:=by kernel_rfl
theorem fa910:(Tryz.prog.info? 95).isSome=true:=by kernel_rfl
theorem fa914:fld Tryz.prog 95 0=some (0,3):=by kernel_rfl
theorem fa915:fld Tryz.prog 95 1=some (1,64):=by kernel_rfl
theorem fa916:eK Tryz.prog 95=some λ i=>[(0,1),(1,4)].toArray[i]? :=by kernel_rfl
theorem fa917:eO Tryz.prog 95=some [.d (.int .i64 0),.d (.int .i64 0),.d (.int .i64 0),.d (.int .i64 0),.d .nils]:=by kernel_rfl
theorem fa929:ef Tryz.prog 97=some true:=by kernel_rfl
theorem fa930:Tryz.prog.cellsOf 97=6:=by kernel_rfl
theorem fa931:(Tryz.prog.info? 97).isSome=true:=by kernel_rfl
theorem fa935:fld Tryz.prog 97 0=some (0,3):=by kernel_rfl
theorem fa936:fld Tryz.prog 97 1=some (1,31):=by kernel_rfl
theorem fa937:fld Tryz.prog 97 2=some (2,64):=by kernel_rfl
theorem fa939:eO Tryz.prog 97=some [.d (.int .i64 0),.d .nils,.d (.int .i64 0),.d (.int .i64 0),.d (.int .i64 0),.d .nils]:=by kernel_rfl
theorem fa964:ef Tryz.prog 101=some false:=by kernel_rfl
theorem fa975:ef Tryz.prog 102=some false:=by kernel_rfl
theorem fa976:Tryz.prog.cellsOf 102=1:=by kernel_rfl
theorem fa977:(Tryz.prog.info? 102).isSome=true:=by kernel_rfl
theorem fa983:eA Tryz.prog 102=some (126,7):=by kernel_rfl
theorem fa984:pp Tryz.prog 102=some (126,7,104,[.d .nils,.d .nils,.d .nils,.d (.int .i64 0),.d (.int .i64 0),.d (.int .i64 0),.d (.int .i64 0)]):=by kernel_rfl
theorem fa1003:fld Tryz.prog 104 0=some (0,27):=by kernel_rfl
theorem fa1004:fld Tryz.prog 104 1=some (4,3):=by kernel_rfl
theorem fa1005:fld Tryz.prog 104 2=some (5,102):=by kernel_rfl
theorem fa1006:eK Tryz.prog 104=some λ i=>[(0,4),(4,1),(5,1)].toArray[i]? :=by kernel_rfl
theorem fa1007:eO Tryz.prog 104=some [.d .nils,.d .nils,.d .nils,.d .nils,.d (.int .i64 0),.d .nils]:=by kernel_rfl
theorem fa1035:ef Tryz.prog 109=some true:=by kernel_rfl
theorem fa1036:Tryz.prog.cellsOf 109=8:=by kernel_rfl
theorem fa1037:(Tryz.prog.info? 109).isSome=true:=by kernel_rfl
theorem fa1045:fld Tryz.prog 109 0=some (0,44):=by kernel_rfl
theorem fa1046:fld Tryz.prog 109 1=some (3,27):=by kernel_rfl
theorem fa1047:fld Tryz.prog 109 2=some (7,3):=by kernel_rfl
theorem fa1048:eK Tryz.prog 109=some λ i=>[(0,3),(3,4),(7,1)].toArray[i]? :=by kernel_rfl
theorem fa1049:eO Tryz.prog 109=some [.d .nils,.d .nils,.d .nils,.d .nils,.d .nils,.d .nils,.d .nils,.d (.int .i64 0)]:=by kernel_rfl
theorem fa1173:ef Tryz.prog 126=some true:=by kernel_rfl
theorem fa1174:Tryz.prog.cellsOf 126=7:=by kernel_rfl
theorem fa1179:fld Tryz.prog 126 0=some (0,44):=by kernel_rfl
theorem fa1180:fld Tryz.prog 126 1=some (3,3):=by kernel_rfl
theorem fa1181:fld Tryz.prog 126 2=some (4,37):=by kernel_rfl
theorem fa1182:eK Tryz.prog 126=some λ i=>[(0,3),(3,1),(4,3)].toArray[i]? :=by kernel_rfl
theorem fa1183:eO Tryz.prog 126=some [.d .nils,.d .nils,.d .nils,.d (.int .i64 0),.d (.int .i64 0),.d (.int .i64 0),.d (.int .i64 0)]:=by kernel_rfl
theorem fa1208:eA Tryz.prog 129=some (9,1):=by kernel_rfl
theorem fa1209:pp Tryz.prog 129=some (9,1,16,[.d (.str [])]):=by kernel_rfl
theorem fa1436:ef Tryz.prog 159=some true:=by kernel_rfl
theorem fa1437:Tryz.prog.cellsOf 159=4:=by kernel_rfl
theorem fa1438:(Tryz.prog.info? 159).isSome=true:=by kernel_rfl
theorem fa1453:fld Tryz.prog 159 0=some (0,27):=by kernel_rfl
theorem fa1454:eK Tryz.prog 159=some λ i=>[(0,4)].toArray[i]? :=by kernel_rfl
theorem fa1455:eO Tryz.prog 159=some [.d .nils,.d .nils,.d .nils,.d .nils]:=by kernel_rfl
theorem fa1464:ef Tryz.prog 161=some false:=by kernel_rfl
theorem fa1478:eK Tryz.prog 162=some λ i=>some (i*1,1):=by kernel_rfl
theorem fa1479:mO Tryz.prog 162=some (3,161,1):=by kernel_rfl
theorem fa1480:eO Tryz.prog 162=some [.d .nilf,.d .nilf,.d .nilf]:=by kernel_rfl
theorem fa1487:sv Tryz.prog 163=some (9,192):=by kernel_rfl
theorem fa1586:ef Tryz.prog 176=some false:=by kernel_rfl
theorem fa1587:Tryz.prog.cellsOf 176=1:=by kernel_rfl
theorem fa1588:(Tryz.prog.info? 176).isSome=true:=by kernel_rfl
theorem fa1593:eO Tryz.prog 176=some [.d .nilf]:=by kernel_rfl
theorem fa1594:ef Tryz.prog 177=some false:=by kernel_rfl
theorem fa1595:Tryz.prog.cellsOf 177=1:=by kernel_rfl
theorem fa1596:(Tryz.prog.info? 177).isSome=true:=by kernel_rfl
theorem fa1600:sv Tryz.prog 177=some (9,4):=by kernel_rfl
theorem fa1602:eO Tryz.prog 177=some [.d .nilm]:=by kernel_rfl
theorem fa1682:zD Tryz.prog 187=some .u64:=by kernel_rfl
theorem fa1716:sv Tryz.prog 191=some (3,192):=by kernel_rfl
theorem fa1720:Tryz.prog.cellsOf 192=0:=by kernel_rfl
theorem fa1721:(Tryz.prog.info? 192).isSome=true:=by kernel_rfl
theorem fa1725:eK Tryz.prog 192=some λ i=>[].toArray[i]? :=by kernel_rfl
theorem fa1726:eO Tryz.prog 192=some []:=by kernel_rfl
theorem fa1791:ef Tryz.prog 203=some false:=by kernel_rfl
theorem fa1792:Tryz.prog.cellsOf 203=1:=by kernel_rfl
theorem fa1793:(Tryz.prog.info? 203).isSome=true:=by kernel_rfl
theorem fa1798:eO Tryz.prog 203=some [.d .nilf]:=by kernel_rfl
theorem fa1814:mO Tryz.prog 205=some (9,3,1):=by kernel_rfl
theorem fa1816:ef Tryz.prog 206=some true:=by kernel_rfl
theorem fa1817:Tryz.prog.cellsOf 206=3:=by kernel_rfl
theorem fa1823:mO Tryz.prog 206=some (3,3,1):=by kernel_rfl
theorem fa1824:eO Tryz.prog 206=some [.d (.int .i64 0),.d (.int .i64 0),.d (.int .i64 0)]:=by kernel_rfl
theorem fa1833:ef Tryz.prog 208=some false:=by kernel_rfl
theorem fa1850:ef Tryz.prog 210=some true:=by kernel_rfl
theorem fa1851:Tryz.prog.cellsOf 210=1:=by kernel_rfl
theorem fa1856:fld Tryz.prog 210 0=some (0,208):=by kernel_rfl
theorem fa1857:eK Tryz.prog 210=some λ i=>[(0,1)].toArray[i]? :=by kernel_rfl
theorem fa1858:eO Tryz.prog 210=some [.d .nilf]:=by kernel_rfl
theorem fa1859:ef Tryz.prog 211=some true:=by kernel_rfl
theorem fa1860:Tryz.prog.cellsOf 211=8:=by kernel_rfl
theorem fa1861:(Tryz.prog.info? 211).isSome=true:=by kernel_rfl
theorem fa1865:eK Tryz.prog 211=some λ i=>some (i*1,1):=by kernel_rfl
theorem fa1866:mO Tryz.prog 211=some (8,210,1):=by kernel_rfl
theorem fa1867:eO Tryz.prog 211=some [.d .nilf,.d .nilf,.d .nilf,.d .nilf,.d .nilf,.d .nilf,.d .nilf,.d .nilf]:=by kernel_rfl
theorem fa1932:ef Tryz.prog 220=some true:=by kernel_rfl
theorem fa1933:Tryz.prog.cellsOf 220=32:=by kernel_rfl
theorem fa1939:mO Tryz.prog 220=some (32,4,1):=by kernel_rfl
theorem fa1940:eO Tryz.prog 220=some [.d (.bool false),.d (.bool false),.d (.bool false),.d (.bool false),.d (.bool false),.d (.bool false),.d (.bool false),.d (.bool false),.d (.bool false),.d (.bool false),.d (.bool false),.d (.bool false),.d (.bool false),.d (.bool false),.d (.bool false),.d (.bool false),.d (.bool false),.d (.bool false),.d (.bool false),.d (.bool false),.d (.bool false),.d (.bool false),.d (.bool false),.d (.bool false),.d (.bool false),.d (.bool false),.d (.bool false),.d (.bool false),.d (.bool false),.d (.bool false),.d (.bool false),.d (.bool false)]:=by kernel_rfl
theorem fa2153:aG Tryz.prog 3=true:=by kernel_rfl
theorem fa2156:aG Tryz.prog 6=true:=by kernel_rfl
theorem fa2157:aG Tryz.prog 7=true:=by kernel_rfl
theorem fa2158:aG Tryz.prog 8=true:=by kernel_rfl
theorem fa2159:aG Tryz.prog 9=true:=by kernel_rfl
theorem fa2160:aG Tryz.prog 10=true:=by kernel_rfl
theorem fa2161:aG Tryz.prog 11=true:=by kernel_rfl
theorem fa2162:aG Tryz.prog 12=true:=by kernel_rfl
theorem fa2163:aG Tryz.prog 13=true:=by kernel_rfl
theorem fa2164:aG Tryz.prog 14=true:=by kernel_rfl
theorem fa2165:aG Tryz.prog 15=true:=by kernel_rfl
theorem fa2166:aG Tryz.prog 16=true:=by kernel_rfl
theorem fa2167:aG Tryz.prog 17=true:=by kernel_rfl
theorem fa2169:aG Tryz.prog 19=true:=by kernel_rfl
theorem fa2170:aG Tryz.prog 20=true:=by kernel_rfl
theorem fa2171:aG Tryz.prog 21=true:=by kernel_rfl
theorem fa2173:aG Tryz.prog 23=true:=by kernel_rfl
theorem fa2174:aG Tryz.prog 24=true:=by kernel_rfl
theorem fa2176:aG Tryz.prog 26=true:=by kernel_rfl
theorem fa2177:aG Tryz.prog 27=true:=by kernel_rfl
theorem fa2178:aG Tryz.prog 28=true:=by kernel_rfl
theorem fa2179:aG Tryz.prog 29=true:=by kernel_rfl
theorem fa2180:aG Tryz.prog 30=true:=by kernel_rfl
theorem fa2181:aG Tryz.prog 31=true:=by kernel_rfl
theorem fa2182:aG Tryz.prog 32=true:=by kernel_rfl
theorem fa2183:aG Tryz.prog 33=true:=by kernel_rfl
theorem fa2184:aG Tryz.prog 34=true:=by kernel_rfl
theorem fa2185:aG Tryz.prog 35=true:=by kernel_rfl
theorem fa2186:aG Tryz.prog 36=true:=by kernel_rfl
theorem fa2187:aG Tryz.prog 37=true:=by kernel_rfl
theorem fa2188:aG Tryz.prog 38=true:=by kernel_rfl
theorem fa2189:aG Tryz.prog 39=true:=by kernel_rfl
theorem fa2190:aG Tryz.prog 40=true:=by kernel_rfl
theorem fa2191:aG Tryz.prog 41=true:=by kernel_rfl
theorem fa2192:aG Tryz.prog 42=true:=by kernel_rfl
theorem fa2193:aG Tryz.prog 43=true:=by kernel_rfl
theorem fa2194:aG Tryz.prog 44=true:=by kernel_rfl
theorem fa2195:aG Tryz.prog 45=true:=by kernel_rfl
theorem fa2196:aG Tryz.prog 46=true:=by kernel_rfl
theorem fa2197:aG Tryz.prog 47=true:=by kernel_rfl
theorem fa2198:aG Tryz.prog 48=true:=by kernel_rfl
theorem fa2199:aG Tryz.prog 49=true:=by kernel_rfl
theorem fa2200:aG Tryz.prog 50=true:=by kernel_rfl
theorem fa2201:aG Tryz.prog 51=true:=by kernel_rfl
theorem fa2202:aG Tryz.prog 52=true:=by kernel_rfl
theorem fa2203:aG Tryz.prog 53=true:=by kernel_rfl
theorem fa2204:aG Tryz.prog 54=true:=by kernel_rfl
theorem fa2205:aG Tryz.prog 55=true:=by kernel_rfl
theorem fa2206:aG Tryz.prog 56=true:=by kernel_rfl
theorem fa2207:aG Tryz.prog 57=true:=by kernel_rfl
theorem fa2208:aG Tryz.prog 58=true:=by kernel_rfl
theorem fa2209:aG Tryz.prog 59=true:=by kernel_rfl
theorem fa2210:aG Tryz.prog 60=true:=by kernel_rfl
theorem fa2211:aG Tryz.prog 61=true:=by kernel_rfl
theorem fa2212:aG Tryz.prog 62=true:=by kernel_rfl
theorem fa2213:aG Tryz.prog 63=true:=by kernel_rfl
theorem fa2214:aG Tryz.prog 64=true:=by kernel_rfl
theorem fa2215:aG Tryz.prog 65=true:=by kernel_rfl
theorem fa2216:aG Tryz.prog 66=true:=by kernel_rfl
theorem fa2217:aG Tryz.prog 67=true:=by kernel_rfl
theorem fa2218:aG Tryz.prog 68=true:=by kernel_rfl
theorem fa2219:aG Tryz.prog 69=true:=by kernel_rfl
theorem fa2220:aG Tryz.prog 70=true:=by kernel_rfl
theorem fa2221:aG Tryz.prog 71=true:=by kernel_rfl
theorem fa2222:aG Tryz.prog 72=true:=by kernel_rfl
theorem fa2223:aG Tryz.prog 73=true:=by kernel_rfl
theorem fa2224:aG Tryz.prog 74=true:=by kernel_rfl
theorem fa2225:aG Tryz.prog 75=true:=by kernel_rfl
theorem fa2226:aG Tryz.prog 76=true:=by kernel_rfl
theorem fa2227:aG Tryz.prog 77=true:=by kernel_rfl
theorem fa2228:aG Tryz.prog 78=true:=by kernel_rfl
theorem fa2229:aG Tryz.prog 79=true:=by kernel_rfl
theorem fa2230:aG Tryz.prog 80=true:=by kernel_rfl
theorem fa2231:aG Tryz.prog 81=true:=by kernel_rfl
theorem fa2232:aG Tryz.prog 82=true:=by kernel_rfl
theorem fa2233:aG Tryz.prog 83=true:=by kernel_rfl
theorem fa2234:aG Tryz.prog 84=true:=by kernel_rfl
theorem fa2235:aG Tryz.prog 85=true:=by kernel_rfl
theorem fa2236:aG Tryz.prog 86=true:=by kernel_rfl
theorem fa2237:aG Tryz.prog 87=true:=by kernel_rfl
theorem fa2238:aG Tryz.prog 88=true:=by kernel_rfl
theorem fa2239:aG Tryz.prog 89=true:=by kernel_rfl
theorem fa2240:aG Tryz.prog 90=true:=by kernel_rfl
theorem fa2242:aG Tryz.prog 92=true:=by kernel_rfl
theorem fa2243:aG Tryz.prog 93=true:=by kernel_rfl
theorem fa2244:aG Tryz.prog 94=true:=by kernel_rfl
theorem fa2245:aG Tryz.prog 95=true:=by kernel_rfl
theorem fa2246:aG Tryz.prog 96=true:=by kernel_rfl
theorem fa2247:aG Tryz.prog 97=true:=by kernel_rfl
theorem fa2248:aG Tryz.prog 98=true:=by kernel_rfl
theorem fa2249:aG Tryz.prog 99=true:=by kernel_rfl
theorem fa2250:aG Tryz.prog 100=true:=by kernel_rfl
theorem fa2251:aG Tryz.prog 101=true:=by kernel_rfl
theorem fa2252:aG Tryz.prog 102=true:=by kernel_rfl
theorem fa2253:aG Tryz.prog 103=true:=by kernel_rfl
theorem fa2254:aG Tryz.prog 104=true:=by kernel_rfl
theorem fa2255:aG Tryz.prog 105=true:=by kernel_rfl
theorem fa2256:aG Tryz.prog 106=true:=by kernel_rfl
theorem fa2257:aG Tryz.prog 107=true:=by kernel_rfl
theorem fa2258:aG Tryz.prog 108=true:=by kernel_rfl
theorem fa2259:aG Tryz.prog 109=true:=by kernel_rfl
theorem fa2260:aG Tryz.prog 110=true:=by kernel_rfl
theorem fa2261:aG Tryz.prog 111=true:=by kernel_rfl
theorem fa2262:aG Tryz.prog 112=true:=by kernel_rfl
theorem fa2263:aG Tryz.prog 113=true:=by kernel_rfl
theorem fa2264:aG Tryz.prog 114=true:=by kernel_rfl
theorem fa2265:aG Tryz.prog 115=true:=by kernel_rfl
theorem fa2266:aG Tryz.prog 116=true:=by kernel_rfl
theorem fa2267:aG Tryz.prog 117=true:=by kernel_rfl
theorem fa2268:aG Tryz.prog 118=true:=by kernel_rfl
theorem fa2269:aG Tryz.prog 119=true:=by kernel_rfl
theorem fa2270:aG Tryz.prog 120=true:=by kernel_rfl
theorem fa2271:aG Tryz.prog 121=true:=by kernel_rfl
theorem fa2272:aG Tryz.prog 122=true:=by kernel_rfl
theorem fa2273:aG Tryz.prog 123=true:=by kernel_rfl
theorem fa2274:aG Tryz.prog 124=true:=by kernel_rfl
theorem fa2275:aG Tryz.prog 125=true:=by kernel_rfl
theorem fa2276:aG Tryz.prog 126=true:=by kernel_rfl
theorem fa2277:aG Tryz.prog 127=true:=by kernel_rfl
theorem fa2278:aG Tryz.prog 128=true:=by kernel_rfl
theorem fa2279:aG Tryz.prog 129=true:=by kernel_rfl
theorem fa2280:aG Tryz.prog 130=true:=by kernel_rfl
theorem fa2281:aG Tryz.prog 131=true:=by kernel_rfl
theorem fa2282:aG Tryz.prog 132=true:=by kernel_rfl
theorem fa2283:aG Tryz.prog 133=true:=by kernel_rfl
theorem fa2284:aG Tryz.prog 134=true:=by kernel_rfl
theorem fa2285:aG Tryz.prog 135=true:=by kernel_rfl
theorem fa2286:aG Tryz.prog 136=true:=by kernel_rfl
theorem fa2287:aG Tryz.prog 137=true:=by kernel_rfl
theorem fa2288:aG Tryz.prog 138=true:=by kernel_rfl
theorem fa2289:aG Tryz.prog 139=true:=by kernel_rfl
theorem fa2290:aG Tryz.prog 140=true:=by kernel_rfl
theorem fa2291:aG Tryz.prog 141=true:=by kernel_rfl
theorem fa2292:aG Tryz.prog 142=true:=by kernel_rfl
theorem fa2293:aG Tryz.prog 143=true:=by kernel_rfl
theorem fa2294:aG Tryz.prog 144=true:=by kernel_rfl
theorem fa2295:aG Tryz.prog 145=true:=by kernel_rfl
theorem fa2296:aG Tryz.prog 146=true:=by kernel_rfl
theorem fa2297:aG Tryz.prog 147=true:=by kernel_rfl
theorem fa2298:aG Tryz.prog 148=true:=by kernel_rfl
theorem fa2299:aG Tryz.prog 149=true:=by kernel_rfl
theorem fa2300:aG Tryz.prog 150=true:=by kernel_rfl
theorem fa2301:aG Tryz.prog 151=true:=by kernel_rfl
theorem fa2302:aG Tryz.prog 152=true:=by kernel_rfl
theorem fa2303:aG Tryz.prog 153=true:=by kernel_rfl
theorem fa2304:aG Tryz.prog 154=true:=by kernel_rfl
theorem fa2305:aG Tryz.prog 155=true:=by kernel_rfl
theorem fa2306:aG Tryz.prog 156=true:=by kernel_rfl
theorem fa2307:aG Tryz.prog 157=true:=by kernel_rfl
theorem fa2308:aG Tryz.prog 158=true:=by kernel_rfl
theorem fa2309:aG Tryz.prog 159=true:=by kernel_rfl
theorem fa2310:aG Tryz.prog 160=true:=by kernel_rfl
theorem fa2311:aG Tryz.prog 161=true:=by kernel_rfl
theorem fa2312:aG Tryz.prog 162=true:=by kernel_rfl
theorem fa2313:aG Tryz.prog 163=true:=by kernel_rfl
theorem fa2314:aG Tryz.prog 164=true:=by kernel_rfl
theorem fa2315:aG Tryz.prog 165=true:=by kernel_rfl
theorem fa2316:aG Tryz.prog 166=true:=by kernel_rfl
theorem fa2317:aG Tryz.prog 167=true:=by kernel_rfl
theorem fa2318:aG Tryz.prog 168=true:=by kernel_rfl
theorem fa2319:aG Tryz.prog 169=true:=by kernel_rfl
theorem fa2320:aG Tryz.prog 170=true:=by kernel_rfl
theorem fa2321:aG Tryz.prog 171=true:=by kernel_rfl
theorem fa2322:aG Tryz.prog 172=true:=by kernel_rfl
theorem fa2323:aG Tryz.prog 173=true:=by kernel_rfl
theorem fa2324:aG Tryz.prog 174=true:=by kernel_rfl
theorem fa2325:aG Tryz.prog 175=true:=by kernel_rfl
theorem fa2326:aG Tryz.prog 176=true:=by kernel_rfl
theorem fa2327:aG Tryz.prog 177=true:=by kernel_rfl
theorem fa2328:aG Tryz.prog 178=true:=by kernel_rfl
theorem fa2329:aG Tryz.prog 179=true:=by kernel_rfl
theorem fa2330:aG Tryz.prog 180=true:=by kernel_rfl
theorem fa2331:aG Tryz.prog 181=true:=by kernel_rfl
theorem fa2332:aG Tryz.prog 182=true:=by kernel_rfl
attribute [go_sem] fa18 fa19 fa20 fa24 fa25 fa27 fa28 fa29 fa30 fa34 fa36 fa37 fa38 fa39
attribute [go_sem] fa44
attribute [go_sem] fa84 fa90


attribute [go_sem] fa219 fa227 fa228 fa230 fa231 fa232 fa238 fa239
attribute [go_sem] fa241 fa242 fa243 fa249 fa250 fa252 fa253 fa254 fa260 fa261 fa275 fa276 fa277
attribute [go_sem] fa281 fa282 fa283 fa284 fa285 fa286 fa295 fa296 fa297 fa315 fa316 fa317
attribute [go_sem] fa321 fa323 fa324 fa342 fa343 fa344 fa350 fa351 fa352
attribute [go_sem] fa373 fa374 fa375 fa379 fa380 fa381 fa382 fa383 fa384 fa385 fa386 fa387 fa393 fa394 fa395
attribute [go_sem] fa404 fa412 fa413 fa414 fa420 fa421 fa434 fa435 fa436
attribute [go_sem] fa440 fa441 fa442 fa443 fa444 fa453 fa454 fa455 fa461 fa462 fa474 fa475 fa476
attribute [go_sem] fa480 fa481 fa482 fa483 fa492 fa493 fa494 fa502

attribute [go_sem] fa577 fa578 fa579 fa585 fa586
attribute [go_sem] fa600 fa601 fa602 fa606 fa607 fa608 fa609 fa610 fa611 fa631 fa632 fa633 fa637 fa638 fa639
attribute [go_sem] fa640 fa641
attribute [go_sem] fa695 fa696 fa697 fa701 fa702 fa703 fa704 fa705 fa706 fa707
attribute [go_sem] fa727 fa728 fa729 fa733 fa734 fa735 fa737 fa746 fa747 fa748 fa754 fa755 fa757 fa758 fa759
attribute [go_sem] fa765 fa766 fa783 fa784 fa785 fa789 fa790 fa791 fa792 fa793 fa794 fa795 fa796 fa797
attribute [go_sem] fa821 fa822 fa823 fa827 fa828 fa829 fa830 fa831 fa832 fa833 fa835
attribute [go_sem] fa844 fa845 fa855 fa856 fa857 fa863 fa864
attribute [go_sem] fa882 fa883 fa884 fa888 fa889 fa890 fa891 fa892 fa893 fa894 fa895 fa896 fa897 fa908 fa909 fa910 fa914 fa915 fa916 fa917
attribute [go_sem] fa929 fa930 fa931 fa935 fa936 fa937 fa939
attribute [go_sem] fa964 fa975 fa976 fa977 fa983 fa984
attribute [go_sem] fa1003 fa1004 fa1005 fa1006 fa1007 fa1035 fa1036 fa1037
attribute [go_sem] fa1045 fa1046 fa1047 fa1048 fa1049


attribute [go_sem] fa1173 fa1174 fa1179 fa1180 fa1181 fa1182 fa1183
attribute [go_sem] fa1208 fa1209




attribute [go_sem] fa1436 fa1437 fa1438
attribute [go_sem] fa1453 fa1454 fa1455 fa1464 fa1478 fa1479
attribute [go_sem] fa1480 fa1487

attribute [go_sem] fa1586 fa1587 fa1588 fa1593 fa1594 fa1595 fa1596
attribute [go_sem] fa1600 fa1602

attribute [go_sem] fa1682 fa1716
attribute [go_sem] fa1720 fa1721 fa1725 fa1726
attribute [go_sem] fa1791 fa1792 fa1793 fa1798
attribute [go_sem] fa1814 fa1816 fa1817 fa1823 fa1824 fa1833
attribute [go_sem] fa1850 fa1851 fa1856 fa1857 fa1858 fa1859 fa1860 fa1861 fa1865 fa1866 fa1867

attribute [go_sem] fa1932 fa1933 fa1939 fa1940




attribute [go_sem] fa2153 fa2156 fa2157 fa2158 fa2159
attribute [go_sem] fa2160 fa2161 fa2162 fa2163 fa2164 fa2165 fa2166 fa2167 fa2169 fa2170 fa2171 fa2173 fa2174 fa2176 fa2177 fa2178 fa2179 fa2180 fa2181 fa2182 fa2183 fa2184 fa2185 fa2186 fa2187 fa2188 fa2189 fa2190 fa2191 fa2192 fa2193 fa2194 fa2195 fa2196 fa2197 fa2198 fa2199
attribute [go_sem] fa2200 fa2201 fa2202 fa2203 fa2204 fa2205 fa2206 fa2207 fa2208 fa2209 fa2210 fa2211 fa2212 fa2213 fa2214 fa2215 fa2216 fa2217 fa2218 fa2219 fa2220 fa2221 fa2222 fa2223 fa2224 fa2225 fa2226 fa2227 fa2228 fa2229 fa2230 fa2231 fa2232 fa2233 fa2234 fa2235 fa2236 fa2237 fa2238 fa2239
attribute [go_sem] fa2240 fa2242 fa2243 fa2244 fa2245 fa2246 fa2247 fa2248 fa2249 fa2250 fa2251 fa2252 fa2253 fa2254 fa2255 fa2256 fa2257 fa2258 fa2259 fa2260 fa2261 fa2262 fa2263 fa2264 fa2265 fa2266 fa2267 fa2268 fa2269 fa2270 fa2271 fa2272 fa2273 fa2274 fa2275 fa2276 fa2277 fa2278 fa2279
attribute [go_sem] fa2280 fa2281 fa2282 fa2283 fa2284 fa2285 fa2286 fa2287 fa2288 fa2289 fa2290 fa2291 fa2292 fa2293 fa2294 fa2295 fa2296 fa2297 fa2298 fa2299 fa2300 fa2301 fa2302 fa2303 fa2304 fa2305 fa2306 fa2307 fa2308 fa2309 fa2310 fa2311 fa2312 fa2313 fa2314 fa2315 fa2316 fa2317 fa2318 fa2319
attribute [go_sem] fa2320 fa2321 fa2322 fa2323 fa2324 fa2325 fa2326 fa2327 fa2328 fa2329 fa2330 fa2331 fa2332
attribute [go_sem] Tryz.results10 Tryz.results100 Tryz.results101 Tryz.results102 Tryz.results103 Tryz.results104 Tryz.results105 Tryz.results106 Tryz.results107 Tryz.results108 Tryz.results109 Tryz.results11 Tryz.results110 Tryz.results111 Tryz.results112 Tryz.results113 Tryz.results114 Tryz.results115 Tryz.results116 Tryz.results117 Tryz.results118 Tryz.results119 Tryz.results12 Tryz.results120 Tryz.results121 Tryz.results122 Tryz.results123 Tryz.results124 Tryz.results125 Tryz.results126 Tryz.results127 Tryz.results128 Tryz.results129 Tryz.results13 Tryz.results130 Tryz.results131 Tryz.results132 Tryz.results133 Tryz.results134 Tryz.results135 Tryz.results136 Tryz.results137 Tryz.results138 Tryz.results139 Tryz.results14 Tryz.results140 Tryz.results141 Tryz.results142 Tryz.results143 Tryz.results144 Tryz.results145 Tryz.results146 Tryz.results147 Tryz.results148 Tryz.results149 Tryz.results15 Tryz.results150 Tryz.results151 Tryz.results152 Tryz.results153 Tryz.results154 Tryz.results155 Tryz.results156 Tryz.results157 Tryz.results158 Tryz.results159 Tryz.results16 Tryz.results160 Tryz.results161 Tryz.results162 Tryz.results163 Tryz.results164 Tryz.results165 Tryz.results166 Tryz.results167 Tryz.results168 Tryz.results169 Tryz.results17 Tryz.results170 Tryz.results171 Tryz.results172 Tryz.results173 Tryz.results174 Tryz.results175 Tryz.results176 Tryz.results177 Tryz.results178 Tryz.results179 Tryz.results180 Tryz.results181 Tryz.results182 Tryz.results19 Tryz.results20 Tryz.results21 Tryz.results23 Tryz.results24 Tryz.results26 Tryz.results27 Tryz.results28 Tryz.results29 Tryz.results3 Tryz.results30 Tryz.results31 Tryz.results32 Tryz.results33 Tryz.results34 Tryz.results35 Tryz.results36 Tryz.results37 Tryz.results38 Tryz.results39 Tryz.results40 Tryz.results41 Tryz.results42 Tryz.results43 Tryz.results44 Tryz.results45 Tryz.results46 Tryz.results47 Tryz.results48 Tryz.results49 Tryz.results50 Tryz.results51 Tryz.results52 Tryz.results53 Tryz.results54 Tryz.results55 Tryz.results56 Tryz.results57 Tryz.results58 Tryz.results59 Tryz.results6 Tryz.results60 Tryz.results61 Tryz.results62 Tryz.results63 Tryz.results64 Tryz.results65 Tryz.results66 Tryz.results67 Tryz.results68 Tryz.results69 Tryz.results7 Tryz.results70 Tryz.results71 Tryz.results72 Tryz.results73 Tryz.results74 Tryz.results75 Tryz.results76 Tryz.results77 Tryz.results78 Tryz.results79 Tryz.results8 Tryz.results80 Tryz.results81 Tryz.results82 Tryz.results83 Tryz.results84 Tryz.results85 Tryz.results86 Tryz.results87 Tryz.results88 Tryz.results89 Tryz.results9 Tryz.results90 Tryz.results92 Tryz.results93 Tryz.results94 Tryz.results95 Tryz.results96 Tryz.results97 Tryz.results98 Tryz.results99
end Go.Proofs.YtdpdbokicanpoaaGreatDoor
