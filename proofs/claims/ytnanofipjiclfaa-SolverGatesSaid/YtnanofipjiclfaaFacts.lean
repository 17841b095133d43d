/- The facts on the types and functions of this dump that the abstract layer asks; by a program (gen_facts.py). -/
import Derived.Test.YtnanofipjiclfaaProg
import Derived.Test.YtnanofipjiclfaaAbNil
import Derived.KernelRfl
namespace Go.Proofs.Ytnanofipjiclfaa
open Go Go.Ab
theorem mixed : Try.prog.follows .mixedOrders = true := by kernel_rfl
theorem fa18 : aggT Try.prog 3 = some false := by kernel_rfl
theorem fa19 : Try.prog.cellsOf 3 = 1 := by kernel_rfl
theorem fa20 : (Try.prog.info? 3).isSome = true := by kernel_rfl
theorem fa21 : isIfaceT Try.prog 3 = false := by kernel_rfl
theorem fa22 : nonIface Try.prog 3 = true := by kernel_rfl
theorem fa23 : zeroOK Try.prog 3 = true := by kernel_rfl
theorem fa24 : intT Try.prog 3 = some .i64 := by kernel_rfl
theorem fa28 : aggT Try.prog 4 = some false := by kernel_rfl
theorem fa29 : Try.prog.cellsOf 4 = 1 := by kernel_rfl
theorem fa30 : (Try.prog.info? 4).isSome = true := by kernel_rfl
theorem fa34 : isBoolT Try.prog 4 = true := by kernel_rfl
theorem fa38 : aggT Try.prog 5 = some false := by kernel_rfl
theorem fa44 : intT Try.prog 5 = some .u8 := by kernel_rfl
theorem fa90 : isStrT Try.prog 9 = true := by kernel_rfl
theorem fa247 : aggT Try.prog 25 = some false := by kernel_rfl
theorem fa277 : ptrT Try.prog 25 = true := by kernel_rfl
theorem fa288 : aggT Try.prog 27 = some false := by kernel_rfl
theorem fa296 : elemT Try.prog 27 = some (28, 1) := by kernel_rfl
theorem fa297 : mkT Try.prog 27 = some (28, 1, 24, [.d .nils]) := by kernel_rfl
theorem fa299 : aggT Try.prog 28 = some false := by kernel_rfl
theorem fa300 : Try.prog.cellsOf 28 = 1 := by kernel_rfl
theorem fa301 : (Try.prog.info? 28).isSome = true := by kernel_rfl
theorem fa305 : sliceT Try.prog 28 = true := by kernel_rfl
theorem fa307 : elemT Try.prog 28 = some (3, 1) := by kernel_rfl
theorem fa308 : mkT Try.prog 28 = some (3, 1, 8, [.d (.int .i64 0)]) := by kernel_rfl
theorem fa359 : aggT Try.prog 35 = some false := by kernel_rfl
theorem fa360 : Try.prog.cellsOf 35 = 1 := by kernel_rfl
theorem fa361 : (Try.prog.info? 35).isSome = true := by kernel_rfl
theorem fa367 : elemT Try.prog 35 = some (41, 2) := by kernel_rfl
theorem fa368 : mkT Try.prog 35 = some (41, 2, 48, [.d .nils, .d .nils]) := by kernel_rfl
theorem fa412 : aggT Try.prog 41 = some true := by kernel_rfl
theorem fa413 : Try.prog.cellsOf 41 = 2 := by kernel_rfl
theorem fa414 : (Try.prog.info? 41).isSome = true := by kernel_rfl
theorem fa418 : fld Try.prog 41 0 = some (0, 28) := by kernel_rfl
theorem fa419 : fld Try.prog 41 1 = some (1, 28) := by kernel_rfl
theorem fa420 : placeOf Try.prog 41 = some fun i => [(0, 1), (1, 1)].toArray[i]? := by kernel_rfl
theorem fa421 : zeroA Try.prog 41 = some [.d .nils, .d .nils] := by kernel_rfl
theorem fa520 : aggT Try.prog 55 = some false := by kernel_rfl
theorem fa521 : Try.prog.cellsOf 55 = 1 := by kernel_rfl
theorem fa522 : (Try.prog.info? 55).isSome = true := by kernel_rfl
theorem fa528 : elemT Try.prog 55 = some (4, 1) := by kernel_rfl
theorem fa529 : mkT Try.prog 55 = some (4, 1, 1, [.d (.bool false)]) := by kernel_rfl
theorem fa587 : elemT Try.prog 62 = some (69, 5) := by kernel_rfl
theorem fa598 : elemT Try.prog 63 = some (66, 2) := by kernel_rfl
theorem fa599 : mkT Try.prog 63 = some (66, 2, 16, [.d (.int .i64 0), .d (.int .i64 0)]) := by kernel_rfl
theorem fa609 : aggT Try.prog 66 = some true := by kernel_rfl
theorem fa610 : Try.prog.cellsOf 66 = 2 := by kernel_rfl
theorem fa611 : (Try.prog.info? 66).isSome = true := by kernel_rfl
theorem fa615 : placeOf Try.prog 66 = some fun i => some (i * 1, 1) := by kernel_rfl
theorem fa616 : arrT Try.prog 66 = some (2, 3, 1) := by kernel_rfl
theorem fa617 : zeroA Try.prog 66 = some [.d (.int .i64 0), .d (.int .i64 0)] := by kernel_rfl
theorem fa640 : aggT Try.prog 69 = some true := by kernel_rfl
theorem fa641 : Try.prog.cellsOf 69 = 5 := by kernel_rfl
theorem fa642 : (Try.prog.info? 69).isSome = true := by kernel_rfl
theorem fa646 : fld Try.prog 69 0 = some (0, 4) := by kernel_rfl
theorem fa647 : fld Try.prog 69 1 = some (1, 4) := by kernel_rfl
theorem fa648 : fld Try.prog 69 2 = some (2, 4) := by kernel_rfl
theorem fa649 : fld Try.prog 69 3 = some (3, 5) := by kernel_rfl
theorem fa650 : fld Try.prog 69 4 = some (4, 5) := by kernel_rfl
theorem fa653 : zeroA Try.prog 69 = some [.d (.bool false), .d (.bool false), .d (.bool false), .d (.int .u8 0), .d (.int .u8 0)] := by kernel_rfl
theorem fa678 : fld Try.prog 72 0 = some (0, 35) := by kernel_rfl
theorem fa679 : fld Try.prog 72 1 = some (1, 3) := by kernel_rfl
theorem fa682 : aggT Try.prog 73 = some false := by kernel_rfl
theorem fa683 : Try.prog.cellsOf 73 = 1 := by kernel_rfl
theorem fa684 : (Try.prog.info? 73).isSome = true := by kernel_rfl
theorem fa690 : elemT Try.prog 73 = some (79, 3) := by kernel_rfl
theorem fa691 : mkT Try.prog 73 = some (79, 3, 40, [.d .nils, .d (.int .i64 0), .d (.int .i64 0)]) := by kernel_rfl
theorem fa693 : aggT Try.prog 74 = some false := by kernel_rfl
theorem fa694 : Try.prog.cellsOf 74 = 1 := by kernel_rfl
theorem fa695 : (Try.prog.info? 74).isSome = true := by kernel_rfl
theorem fa704 : elemT Try.prog 74 = some (3, 1) := by kernel_rfl
theorem fa705 : mkT Try.prog 74 = some (3, 1, 8, [.d (.int .i64 0)]) := by kernel_rfl
theorem fa741 : fld Try.prog 76 0 = some (0, 72) := by kernel_rfl
theorem fa742 : fld Try.prog 76 1 = some (2, 3) := by kernel_rfl
theorem fa743 : fld Try.prog 76 2 = some (3, 73) := by kernel_rfl
theorem fa744 : fld Try.prog 76 3 = some (4, 73) := by kernel_rfl
theorem fa745 : fld Try.prog 76 4 = some (5, 27) := by kernel_rfl
theorem fa746 : fld Try.prog 76 5 = some (6, 28) := by kernel_rfl
theorem fa747 : fld Try.prog 76 6 = some (7, 3) := by kernel_rfl
theorem fa748 : fld Try.prog 76 7 = some (8, 55) := by kernel_rfl
theorem fa749 : fld Try.prog 76 8 = some (9, 28) := by kernel_rfl
theorem fa750 : fld Try.prog 76 9 = some (10, 28) := by kernel_rfl
theorem fa751 : fld Try.prog 76 10 = some (11, 28) := by kernel_rfl
theorem fa752 : fld Try.prog 76 11 = some (12, 28) := by kernel_rfl
theorem fa753 : fld Try.prog 76 12 = some (13, 55) := by kernel_rfl
theorem fa754 : fld Try.prog 76 13 = some (14, 74) := by kernel_rfl
theorem fa755 : fld Try.prog 76 14 = some (15, 3) := by kernel_rfl
theorem fa756 : fld Try.prog 76 15 = some (16, 3) := by kernel_rfl
theorem fa757 : fld Try.prog 76 16 = some (17, 55) := by kernel_rfl
theorem fa758 : fld Try.prog 76 17 = some (18, 28) := by kernel_rfl
theorem fa759 : fld Try.prog 76 18 = some (19, 4) := by kernel_rfl
theorem fa760 : fld Try.prog 76 19 = some (20, 4) := by kernel_rfl
theorem fa761 : placeOf Try.prog 76 = some fun i => [(0, 2), (2, 1), (3, 1), (4, 1), (5, 1), (6, 1), (7, 1), (8, 1), (9, 1), (10, 1), (11, 1), (12, 1), (13, 1), (14, 1), (15, 1), (16, 1), (17, 1), (18, 1), (19, 1), (20, 1)].toArray[i]? := by kernel_rfl
theorem fa762 : zeroA Try.prog 76 = some [.d .nils, .d (.int .i64 0), .d (.int .i64 0), .d .nils, .d .nils, .d .nils, .d .nils, .d (.int .i64 0), .d .nils, .d .nils, .d .nils, .d .nils, .d .nils, .d .nils, .d .nils, .d (.int .i64 0), .d (.int .i64 0), .d .nils, .d .nils, .d (.bool false), .d (.bool false)] := by kernel_rfl
theorem fa782 : aggT Try.prog 79 = some true := by kernel_rfl
theorem fa783 : Try.prog.cellsOf 79 = 3 := by kernel_rfl
theorem fa784 : (Try.prog.info? 79).isSome = true := by kernel_rfl
theorem fa788 : fld Try.prog 79 0 = some (0, 28) := by kernel_rfl
theorem fa789 : fld Try.prog 79 1 = some (1, 3) := by kernel_rfl
theorem fa790 : fld Try.prog 79 2 = some (2, 3) := by kernel_rfl
theorem fa791 : placeOf Try.prog 79 = some fun i => [(0, 1), (1, 1), (2, 1)].toArray[i]? := by kernel_rfl
theorem fa792 : zeroA Try.prog 79 = some [.d .nils, .d (.int .i64 0), .d (.int .i64 0)] := by kernel_rfl
theorem fa831 : intT Try.prog 84 = some .u64 := by kernel_rfl
theorem fa884 : aggT Try.prog 93 = some false := by kernel_rfl
theorem fa887 : isIfaceT Try.prog 93 = false := by kernel_rfl
theorem fa890 : methT Try.prog 93 "Len" = some (106, .load 74) := by kernel_rfl
theorem fa891 : methT Try.prog 93 "Less" = some (107, .load 74) := by kernel_rfl
theorem fa892 : methT Try.prog 93 "Pop" = some (109, .self) := by kernel_rfl
theorem fa893 : methT Try.prog 93 "Push" = some (110, .self) := by kernel_rfl
theorem fa894 : methT Try.prog 93 "Swap" = some (108, .load 74) := by kernel_rfl
theorem fa1074 : aggT Try.prog 117 = some false := by kernel_rfl
theorem fa1320 : callable Try.prog 8 = true := by kernel_rfl
theorem fa1321 : callable Try.prog 9 = true := by kernel_rfl
theorem fa1323 : callable Try.prog 11 = true := by kernel_rfl
theorem fa1324 : callable Try.prog 12 = true := by kernel_rfl
theorem fa1325 : callable Try.prog 13 = true := by kernel_rfl
theorem fa1326 : callable Try.prog 14 = true := by kernel_rfl
theorem fa1327 : callable Try.prog 15 = true := by kernel_rfl
theorem fa1328 : callable Try.prog 16 = true := by kernel_rfl
theorem fa1330 : callable Try.prog 18 = true := by kernel_rfl
theorem fa1332 : callable Try.prog 20 = true := by kernel_rfl
theorem fa1333 : callable Try.prog 21 = true := by kernel_rfl
theorem fa1338 : callable Try.prog 26 = true := by kernel_rfl
theorem fa1339 : callable Try.prog 27 = true := by kernel_rfl
theorem fa1340 : callable Try.prog 28 = true := by kernel_rfl
theorem fa1341 : callable Try.prog 29 = true := by kernel_rfl
theorem fa1344 : callable Try.prog 32 = true := by kernel_rfl
theorem fa1345 : callable Try.prog 33 = true := by kernel_rfl
theorem fa1346 : callable Try.prog 34 = true := by kernel_rfl
theorem fa1347 : callable Try.prog 35 = true := by kernel_rfl
theorem fa1348 : callable Try.prog 36 = true := by kernel_rfl
theorem fa1349 : callable Try.prog 37 = true := by kernel_rfl
theorem fa1350 : callable Try.prog 38 = true := by kernel_rfl
theorem fa1351 : callable Try.prog 39 = true := by kernel_rfl
theorem fa1352 : callable Try.prog 40 = true := by kernel_rfl
theorem fa1353 : callable Try.prog 41 = true := by kernel_rfl
theorem fa1354 : callable Try.prog 42 = true := by kernel_rfl
theorem fa1355 : callable Try.prog 43 = true := by kernel_rfl
theorem fa1356 : callable Try.prog 44 = true := by kernel_rfl
theorem fa1357 : callable Try.prog 45 = true := by kernel_rfl
theorem fa1358 : callable Try.prog 46 = true := by kernel_rfl
theorem fa1359 : callable Try.prog 47 = true := by kernel_rfl
theorem fa1360 : callable Try.prog 48 = true := by kernel_rfl
theorem fa1361 : callable Try.prog 49 = true := by kernel_rfl
theorem fa1362 : callable Try.prog 50 = true := by kernel_rfl
theorem fa1363 : callable Try.prog 51 = true := by kernel_rfl
theorem fa1364 : callable Try.prog 52 = true := by kernel_rfl
theorem fa1365 : callable Try.prog 53 = true := by kernel_rfl
theorem fa1366 : callable Try.prog 54 = true := by kernel_rfl
theorem fa1367 : callable Try.prog 55 = true := by kernel_rfl
theorem fa1368 : callable Try.prog 56 = true := by kernel_rfl
theorem fa1369 : callable Try.prog 57 = true := by kernel_rfl
theorem fa1370 : callable Try.prog 58 = true := by kernel_rfl
theorem fa1371 : callable Try.prog 59 = true := by kernel_rfl
theorem fa1372 : callable Try.prog 60 = true := by kernel_rfl
theorem fa1373 : callable Try.prog 61 = true := by kernel_rfl
theorem fa1374 : callable Try.prog 62 = true := by kernel_rfl
theorem fa1375 : callable Try.prog 63 = true := by kernel_rfl
theorem fa1376 : callable Try.prog 64 = true := by kernel_rfl
theorem fa1377 : callable Try.prog 65 = true := by kernel_rfl
theorem fa1378 : callable Try.prog 66 = true := by kernel_rfl
theorem fa1379 : callable Try.prog 67 = true := by kernel_rfl
theorem fa1380 : callable Try.prog 68 = true := by kernel_rfl
theorem fa1381 : callable Try.prog 69 = true := by kernel_rfl
theorem fa1382 : callable Try.prog 70 = true := by kernel_rfl
theorem fa1383 : callable Try.prog 71 = true := by kernel_rfl
theorem fa1389 : callable Try.prog 77 = true := by kernel_rfl
theorem fa1393 : callable Try.prog 81 = true := by kernel_rfl
theorem fa1399 : callable Try.prog 87 = true := by kernel_rfl
theorem fa1401 : callable Try.prog 106 = true := by kernel_rfl
theorem fa1402 : callable Try.prog 107 = true := by kernel_rfl
theorem fa1403 : callable Try.prog 108 = true := by kernel_rfl
theorem fa1404 : callable Try.prog 109 = true := by kernel_rfl
theorem fa1405 : callable Try.prog 110 = true := by kernel_rfl
attribute [go_sem] fa18 fa19 fa20 fa21 fa22 fa23 fa24 fa28 fa29 fa30 fa34 fa38
attribute [go_sem] fa44
attribute [go_sem] fa90



attribute [go_sem] fa247 fa277
attribute [go_sem] fa288 fa296 fa297 fa299 fa300 fa301 fa305 fa307 fa308
attribute [go_sem] fa359
attribute [go_sem] fa360 fa361 fa367 fa368
attribute [go_sem] fa412 fa413 fa414 fa418 fa419 fa420 fa421


attribute [go_sem] fa520 fa521 fa522 fa528 fa529
attribute [go_sem] fa587 fa598 fa599
attribute [go_sem] fa609 fa610 fa611 fa615 fa616 fa617
attribute [go_sem] fa640 fa641 fa642 fa646 fa647 fa648 fa649 fa650 fa653 fa678 fa679
attribute [go_sem] fa682 fa683 fa684 fa690 fa691 fa693 fa694 fa695 fa704 fa705
attribute [go_sem] fa741 fa742 fa743 fa744 fa745 fa746 fa747 fa748 fa749 fa750 fa751 fa752 fa753 fa754 fa755 fa756 fa757 fa758 fa759
attribute [go_sem] fa760 fa761 fa762 fa782 fa783 fa784 fa788 fa789 fa790 fa791 fa792
attribute [go_sem] fa831

attribute [go_sem] fa884 fa887 fa890 fa891 fa892 fa893 fa894



attribute [go_sem] fa1074






attribute [go_sem] fa1320 fa1321 fa1323 fa1324 fa1325 fa1326 fa1327 fa1328 fa1330 fa1332 fa1333 fa1338 fa1339 fa1340 fa1341 fa1344 fa1345 fa1346 fa1347 fa1348 fa1349 fa1350 fa1351 fa1352 fa1353 fa1354 fa1355 fa1356 fa1357 fa1358 fa1359
attribute [go_sem] fa1360 fa1361 fa1362 fa1363 fa1364 fa1365 fa1366 fa1367 fa1368 fa1369 fa1370 fa1371 fa1372 fa1373 fa1374 fa1375 fa1376 fa1377 fa1378 fa1379 fa1380 fa1381 fa1382 fa1383 fa1389 fa1393 fa1399
attribute [go_sem] fa1401 fa1402 fa1403 fa1404 fa1405
end Go.Proofs.Ytnanofipjiclfaa
