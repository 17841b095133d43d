/- The facts on the types and functions of this dump that the abstract layer asks; by a program (gen_facts.py). -/
import Derived.Test.YtmjlhbkgljcnoaaGreatDoorProg
import Derived.Test.YtmjlhbkgljcnoaaGreatDoorAbNil
import Derived.KernelRfl
namespace Go.Proofs.YtmjlhbkgljcnoaaGreatDoor
open Go Go.Ab
theorem mixed : Tryz.prog.follows .mixedOrders = true := by kernel_rfl
theorem fa18 : aggT Tryz.prog 3 = some false := by kernel_rfl
theorem fa19 : Tryz.prog.cellsOf 3 = 1 := by kernel_rfl
theorem fa20 : (Tryz.prog.info? 3).isSome = true := by kernel_rfl
theorem fa24 : intT Tryz.prog 3 = some .i64 := by kernel_rfl
theorem fa27 : zeroA Tryz.prog 3 = some [.d (.int .i64 0)] := by kernel_rfl
theorem fa28 : aggT Tryz.prog 4 = some false := by kernel_rfl
theorem fa29 : Tryz.prog.cellsOf 4 = 1 := by kernel_rfl
theorem fa30 : (Tryz.prog.info? 4).isSome = true := by kernel_rfl
theorem fa34 : isBoolT Tryz.prog 4 = true := by kernel_rfl
theorem fa37 : zeroA Tryz.prog 4 = some [.d (.bool false)] := by kernel_rfl
theorem fa38 : aggT Tryz.prog 5 = some false := by kernel_rfl
theorem fa44 : intT Tryz.prog 5 = some .u8 := by kernel_rfl
theorem fa90 : isStrT Tryz.prog 9 = true := by kernel_rfl
theorem fa219 : aggT Tryz.prog 22 = some false := by kernel_rfl
theorem fa227 : elemT Tryz.prog 22 = some (49, 6) := by kernel_rfl
theorem fa228 : mkT Tryz.prog 22 = some (49, 6, 56, [.d (.str []), .d (.int .i64 0), .d (.int .i64 0), .d (.int .i64 0), .d (.bool false), .d (.int .i64 0)]) := by kernel_rfl
theorem fa230 : aggT Tryz.prog 23 = some false := by kernel_rfl
theorem fa238 : elemT Tryz.prog 23 = some (25, 4) := by kernel_rfl
theorem fa239 : mkT Tryz.prog 23 = some (25, 4, 48, [.d (.int .i64 0), .d (.int .i64 0), .d (.int .i64 0), .d .nils]) := by kernel_rfl
theorem fa253 : aggT Tryz.prog 25 = some true := by kernel_rfl
theorem fa254 : Tryz.prog.cellsOf 25 = 4 := by kernel_rfl
theorem fa255 : (Tryz.prog.info? 25).isSome = true := by kernel_rfl
theorem fa259 : fld Tryz.prog 25 0 = some (0, 3) := by kernel_rfl
theorem fa260 : fld Tryz.prog 25 1 = some (1, 3) := by kernel_rfl
theorem fa261 : fld Tryz.prog 25 2 = some (2, 3) := by kernel_rfl
theorem fa262 : fld Tryz.prog 25 3 = some (3, 23) := by kernel_rfl
theorem fa263 : placeOf Tryz.prog 25 = some fun i => [(0, 1), (1, 1), (2, 1), (3, 1)].toArray[i]? := by kernel_rfl
theorem fa264 : zeroA Tryz.prog 25 = some [.d (.int .i64 0), .d (.int .i64 0), .d (.int .i64 0), .d .nils] := by kernel_rfl
theorem fa281 : aggT Tryz.prog 28 = some false := by kernel_rfl
theorem fa282 : Tryz.prog.cellsOf 28 = 1 := by kernel_rfl
theorem fa283 : (Tryz.prog.info? 28).isSome = true := by kernel_rfl
theorem fa287 : sliceT Tryz.prog 28 = true := by kernel_rfl
theorem fa289 : elemT Tryz.prog 28 = some (3, 1) := by kernel_rfl
theorem fa290 : mkT Tryz.prog 28 = some (3, 1, 8, [.d (.int .i64 0)]) := by kernel_rfl
theorem fa291 : zeroA Tryz.prog 28 = some [.d .nils] := by kernel_rfl
theorem fa303 : aggT Tryz.prog 30 = some true := by kernel_rfl
theorem fa304 : Tryz.prog.cellsOf 30 = 3 := by kernel_rfl
theorem fa305 : (Tryz.prog.info? 30).isSome = true := by kernel_rfl
theorem fa309 : fld Tryz.prog 30 0 = some (0, 28) := by kernel_rfl
theorem fa310 : fld Tryz.prog 30 1 = some (1, 28) := by kernel_rfl
theorem fa311 : fld Tryz.prog 30 2 = some (2, 28) := by kernel_rfl
theorem fa312 : placeOf Tryz.prog 30 = some fun i => [(0, 1), (1, 1), (2, 1)].toArray[i]? := by kernel_rfl
theorem fa313 : zeroA Tryz.prog 30 = some [.d .nils, .d .nils, .d .nils] := by kernel_rfl
theorem fa314 : aggT Tryz.prog 31 = some false := by kernel_rfl
theorem fa315 : Tryz.prog.cellsOf 31 = 1 := by kernel_rfl
theorem fa316 : (Tryz.prog.info? 31).isSome = true := by kernel_rfl
theorem fa324 : zeroA Tryz.prog 31 = some [.d (.int .i64 0)] := by kernel_rfl
theorem fa333 : aggT Tryz.prog 34 = some false := by kernel_rfl
theorem fa334 : Tryz.prog.cellsOf 34 = 1 := by kernel_rfl
theorem fa335 : (Tryz.prog.info? 34).isSome = true := by kernel_rfl
theorem fa341 : elemT Tryz.prog 34 = some (111, 2) := by kernel_rfl
theorem fa342 : mkT Tryz.prog 34 = some (111, 2, 16, [.d (.int .i64 0), .d (.int .i64 0)]) := by kernel_rfl
theorem fa355 : aggT Tryz.prog 36 = some true := by kernel_rfl
theorem fa356 : Tryz.prog.cellsOf 36 = 3 := by kernel_rfl
theorem fa357 : (Tryz.prog.info? 36).isSome = true := by kernel_rfl
theorem fa361 : fld Tryz.prog 36 0 = some (0, 28) := by kernel_rfl
theorem fa362 : fld Tryz.prog 36 1 = some (1, 28) := by kernel_rfl
theorem fa363 : fld Tryz.prog 36 2 = some (2, 34) := by kernel_rfl
theorem fa364 : placeOf Tryz.prog 36 = some fun i => [(0, 1), (1, 1), (2, 1)].toArray[i]? := by kernel_rfl
theorem fa365 : zeroA Tryz.prog 36 = some [.d .nils, .d .nils, .d .nils] := by kernel_rfl
theorem fa462 : Tryz.prog.cellsOf 49 = 6 := by kernel_rfl
theorem fa468 : fld Tryz.prog 49 1 = some (1, 3) := by kernel_rfl
theorem fa473 : placeOf Tryz.prog 49 = some fun i => [(0, 1), (1, 1), (2, 1), (3, 1), (4, 1), (5, 1)].toArray[i]? := by kernel_rfl
theorem fa475 : zeroA Tryz.prog 49 = some [.d (.str []), .d (.int .i64 0), .d (.int .i64 0), .d (.int .i64 0), .d (.bool false), .d (.int .i64 0)] := by kernel_rfl
theorem fa492 : aggT Tryz.prog 52 = some false := by kernel_rfl
theorem fa493 : Tryz.prog.cellsOf 52 = 1 := by kernel_rfl
theorem fa494 : (Tryz.prog.info? 52).isSome = true := by kernel_rfl
theorem fa499 : zeroA Tryz.prog 52 = some [.d .nilf] := by kernel_rfl
theorem fa556 : aggT Tryz.prog 62 = some false := by kernel_rfl
theorem fa557 : Tryz.prog.cellsOf 62 = 1 := by kernel_rfl
theorem fa558 : (Tryz.prog.info? 62).isSome = true := by kernel_rfl
theorem fa575 : aggT Tryz.prog 64 = some true := by kernel_rfl
theorem fa576 : Tryz.prog.cellsOf 64 = 64 := by kernel_rfl
theorem fa577 : (Tryz.prog.info? 64).isSome = true := by kernel_rfl
theorem fa582 : arrT Tryz.prog 64 = some (64, 62, 1) := by kernel_rfl
theorem fa583 : zeroA Tryz.prog 64 = some [.d (.int .u64 0), .d (.int .u64 0), .d (.int .u64 0), .d (.int .u64 0), .d (.int .u64 0), .d (.int .u64 0), .d (.int .u64 0), .d (.int .u64 0), .d (.int .u64 0), .d (.int .u64 0), .d (.int .u64 0), .d (.int .u64 0), .d (.int .u64 0), .d (.int .u64 0), .d (.int .u64 0), .d (.int .u64 0), .d (.int .u64 0), .d (.int .u64 0), .d (.int .u64 0), .d (.int .u64 0), .d (.int .u64 0), .d (.int .u64 0), .d (.int .u64 0), .d (.int .u64 0), .d (.int .u64 0), .d (.int .u64 0), .d (.int .u64 0), .d (.int .u64 0), .d (.int .u64 0), .d (.int .u64 0), .d (.int .u64 0), .d (.int .u64 0), .d (.int .u64 0), .d (.int .u64 0), .d (.int .u64 0), .d (.int .u64 0), .d (.int .u64 0), .d (.int .u64 0), .d (.int .u64 0), .d (.int .u64 0), .d (.int .u64 0), .d (.int .u64 0), .d (.int .u64 0), .d (.int .u64 0), .d (.int .u64 0), .d (.int .u64 0), .d (.int .u64 0), .d (.int .u64 0), .d (.int .u64 0), .d (.int .u64 0), .d (.int .u64 0), .d (.int .u64 0), .d (.int .u64 0), .d (.int .u64 0), .d (.int .u64 0), .d (.int .u64 0), .d (.int .u64 0), .d (.int .u64 0), .d (.int .u64 0), .d (.int .u64 0), .d (.int .u64 0), .d (.int .u64 0), .d (.int .u64 0), .d (.int .u64 0)] := by kernel_rfl
theorem fa640 : elemT Tryz.prog 71 = some (28, 1) := by kernel_rfl
theorem fa641 : mkT Tryz.prog 71 = some (28, 1, 24, [.d .nils]) := by kernel_rfl
theorem fa643 : aggT Tryz.prog 72 = some false := by kernel_rfl
theorem fa659 : placeOf Tryz.prog 73 = some fun i => some (i * 1, 1) := by kernel_rfl
theorem fa660 : arrT Tryz.prog 73 = some (64, 62, 1) := by kernel_rfl
theorem fa661 : zeroA Tryz.prog 73 = some [.d (.int .u64 0), .d (.int .u64 0), .d (.int .u64 0), .d (.int .u64 0), .d (.int .u64 0), .d (.int .u64 0), .d (.int .u64 0), .d (.int .u64 0), .d (.int .u64 0), .d (.int .u64 0), .d (.int .u64 0), .d (.int .u64 0), .d (.int .u64 0), .d (.int .u64 0), .d (.int .u64 0), .d (.int .u64 0), .d (.int .u64 0), .d (.int .u64 0), .d (.int .u64 0), .d (.int .u64 0), .d (.int .u64 0), .d (.int .u64 0), .d (.int .u64 0), .d (.int .u64 0), .d (.int .u64 0), .d (.int .u64 0), .d (.int .u64 0), .d (.int .u64 0), .d (.int .u64 0), .d (.int .u64 0), .d (.int .u64 0), .d (.int .u64 0), .d (.int .u64 0), .d (.int .u64 0), .d (.int .u64 0), .d (.int .u64 0), .d (.int .u64 0), .d (.int .u64 0), .d (.int .u64 0), .d (.int .u64 0), .d (.int .u64 0), .d (.int .u64 0), .d (.int .u64 0), .d (.int .u64 0), .d (.int .u64 0), .d (.int .u64 0), .d (.int .u64 0), .d (.int .u64 0), .d (.int .u64 0), .d (.int .u64 0), .d (.int .u64 0), .d (.int .u64 0), .d (.int .u64 0), .d (.int .u64 0), .d (.int .u64 0), .d (.int .u64 0), .d (.int .u64 0), .d (.int .u64 0), .d (.int .u64 0), .d (.int .u64 0), .d (.int .u64 0), .d (.int .u64 0), .d (.int .u64 0), .d (.int .u64 0)] := by kernel_rfl
theorem fa782 : aggT Tryz.prog 89 = some true := by kernel_rfl
theorem fa783 : Tryz.prog.cellsOf 89 = 14 := by kernel_rfl
theorem fa794 : fld Tryz.prog 89 6 = some (6, 25) := by kernel_rfl
theorem fa795 : fld Tryz.prog 89 7 = some (10, 25) := by kernel_rfl
theorem fa796 : placeOf Tryz.prog 89 = some fun i => [(0, 1), (1, 1), (2, 1), (3, 1), (4, 1), (5, 1), (6, 4), (10, 4)].toArray[i]? := by kernel_rfl
theorem fa797 : zeroA Tryz.prog 89 = some [.d (.str []), .d (.int .i64 0), .d (.int .i64 0), .d (.int .i64 0), .d (.int .i64 0), .d (.int .i64 0), .d (.int .i64 0), .d (.int .i64 0), .d (.int .i64 0), .d .nils, .d (.int .i64 0), .d (.int .i64 0), .d (.int .i64 0), .d .nils] := by kernel_rfl
theorem fa879 : aggT Tryz.prog 100 = some true := by kernel_rfl
theorem fa880 : Tryz.prog.cellsOf 100 = 32 := by kernel_rfl
theorem fa886 : arrT Tryz.prog 100 = some (32, 4, 1) := by kernel_rfl
theorem fa887 : zeroA Tryz.prog 100 = some [.d (.bool false), .d (.bool false), .d (.bool false), .d (.bool false), .d (.bool false), .d (.bool false), .d (.bool false), .d (.bool false), .d (.bool false), .d (.bool false), .d (.bool false), .d (.bool false), .d (.bool false), .d (.bool false), .d (.bool false), .d (.bool false), .d (.bool false), .d (.bool false), .d (.bool false), .d (.bool false), .d (.bool false), .d (.bool false), .d (.bool false), .d (.bool false), .d (.bool false), .d (.bool false), .d (.bool false), .d (.bool false), .d (.bool false), .d (.bool false), .d (.bool false), .d (.bool false)] := by kernel_rfl
theorem fa971 : aggT Tryz.prog 111 = some true := by kernel_rfl
theorem fa972 : Tryz.prog.cellsOf 111 = 2 := by kernel_rfl
theorem fa973 : (Tryz.prog.info? 111).isSome = true := by kernel_rfl
theorem fa977 : placeOf Tryz.prog 111 = some fun i => some (i * 1, 1) := by kernel_rfl
theorem fa978 : arrT Tryz.prog 111 = some (2, 3, 1) := by kernel_rfl
theorem fa979 : zeroA Tryz.prog 111 = some [.d (.int .i64 0), .d (.int .i64 0)] := by kernel_rfl
theorem fa988 : aggT Tryz.prog 113 = some false := by kernel_rfl
theorem fa989 : Tryz.prog.cellsOf 113 = 1 := by kernel_rfl
theorem fa990 : (Tryz.prog.info? 113).isSome = true := by kernel_rfl
theorem fa996 : elemT Tryz.prog 113 = some (116, 2) := by kernel_rfl
theorem fa997 : mkT Tryz.prog 113 = some (116, 2, 32, [.d (.int .i64 0), .d .nils]) := by kernel_rfl
theorem fa1017 : aggT Tryz.prog 116 = some true := by kernel_rfl
theorem fa1018 : Tryz.prog.cellsOf 116 = 2 := by kernel_rfl
theorem fa1019 : (Tryz.prog.info? 116).isSome = true := by kernel_rfl
theorem fa1023 : fld Tryz.prog 116 0 = some (0, 3) := by kernel_rfl
theorem fa1024 : fld Tryz.prog 116 1 = some (1, 28) := by kernel_rfl
theorem fa1025 : placeOf Tryz.prog 116 = some fun i => [(0, 1), (1, 1)].toArray[i]? := by kernel_rfl
theorem fa1026 : zeroA Tryz.prog 116 = some [.d (.int .i64 0), .d .nils] := by kernel_rfl
theorem fa1059 : elemT Tryz.prog 120 = some (23, 1) := by kernel_rfl
theorem fa1060 : mkT Tryz.prog 120 = some (23, 1, 24, [.d .nils]) := by kernel_rfl
theorem fa1102 : aggT Tryz.prog 126 = some false := by kernel_rfl
theorem fa1103 : Tryz.prog.cellsOf 126 = 1 := by kernel_rfl
theorem fa1104 : (Tryz.prog.info? 126).isSome = true := by kernel_rfl
theorem fa1109 : zeroA Tryz.prog 126 = some [.d .nilf] := by kernel_rfl
theorem fa1133 : arrT Tryz.prog 129 = some (9, 3, 1) := by kernel_rfl
theorem fa1135 : aggT Tryz.prog 130 = some true := by kernel_rfl
theorem fa1136 : Tryz.prog.cellsOf 130 = 3 := by kernel_rfl
theorem fa1142 : arrT Tryz.prog 130 = some (3, 3, 1) := by kernel_rfl
theorem fa1143 : zeroA Tryz.prog 130 = some [.d (.int .i64 0), .d (.int .i64 0), .d (.int .i64 0)] := by kernel_rfl
theorem fa1159 : arrT Tryz.prog 132 = some (64, 5, 1) := by kernel_rfl
theorem fa1167 : intT Tryz.prog 133 = some .u64 := by kernel_rfl
theorem fa1558 : callable Tryz.prog 3 = true := by kernel_rfl
theorem fa1559 : callable Tryz.prog 4 = true := by kernel_rfl
theorem fa1560 : callable Tryz.prog 5 = true := by kernel_rfl
theorem fa1561 : callable Tryz.prog 6 = true := by kernel_rfl
theorem fa1562 : callable Tryz.prog 7 = true := by kernel_rfl
theorem fa1563 : callable Tryz.prog 8 = true := by kernel_rfl
theorem fa1564 : callable Tryz.prog 9 = true := by kernel_rfl
theorem fa1565 : callable Tryz.prog 10 = true := by kernel_rfl
theorem fa1566 : callable Tryz.prog 11 = true := by kernel_rfl
theorem fa1567 : callable Tryz.prog 12 = true := by kernel_rfl
theorem fa1568 : callable Tryz.prog 13 = true := by kernel_rfl
theorem fa1569 : callable Tryz.prog 14 = true := by kernel_rfl
theorem fa1570 : callable Tryz.prog 15 = true := by kernel_rfl
theorem fa1571 : callable Tryz.prog 16 = true := by kernel_rfl
theorem fa1572 : callable Tryz.prog 17 = true := by kernel_rfl
theorem fa1573 : callable Tryz.prog 18 = true := by kernel_rfl
theorem fa1574 : callable Tryz.prog 19 = true := by kernel_rfl
theorem fa1575 : callable Tryz.prog 20 = true := by kernel_rfl
theorem fa1576 : callable Tryz.prog 21 = true := by kernel_rfl
theorem fa1577 : callable Tryz.prog 22 = true := by kernel_rfl
theorem fa1578 : callable Tryz.prog 23 = true := by kernel_rfl
theorem fa1579 : callable Tryz.prog 24 = true := by kernel_rfl
theorem fa1580 : callable Tryz.prog 25 = true := by kernel_rfl
theorem fa1581 : callable Tryz.prog 26 = true := by kernel_rfl
theorem fa1582 : callable Tryz.prog 27 = true := by kernel_rfl
theorem fa1583 : callable Tryz.prog 28 = true := by kernel_rfl
theorem fa1584 : callable Tryz.prog 29 = true := by kernel_rfl
theorem fa1585 : callable Tryz.prog 30 = true := by kernel_rfl
theorem fa1586 : callable Tryz.prog 31 = true := by kernel_rfl
theorem fa1587 : callable Tryz.prog 32 = true := by kernel_rfl
theorem fa1588 : callable Tryz.prog 33 = true := by kernel_rfl
theorem fa1589 : callable Tryz.prog 34 = true := by kernel_rfl
theorem fa1590 : callable Tryz.prog 35 = true := by kernel_rfl
theorem fa1591 : callable Tryz.prog 36 = true := by kernel_rfl
theorem fa1592 : callable Tryz.prog 37 = true := by kernel_rfl
theorem fa1593 : callable Tryz.prog 38 = true := by kernel_rfl
theorem fa1594 : callable Tryz.prog 39 = true := by kernel_rfl
theorem fa1595 : callable Tryz.prog 40 = true := by kernel_rfl
theorem fa1596 : callable Tryz.prog 41 = true := by kernel_rfl
theorem fa1597 : callable Tryz.prog 42 = true := by kernel_rfl
theorem fa1598 : callable Tryz.prog 43 = true := by kernel_rfl
theorem fa1599 : callable Tryz.prog 44 = true := by kernel_rfl
theorem fa1600 : callable Tryz.prog 45 = true := by kernel_rfl
theorem fa1601 : callable Tryz.prog 46 = true := by kernel_rfl
theorem fa1602 : callable Tryz.prog 47 = true := by kernel_rfl
theorem fa1603 : callable Tryz.prog 48 = true := by kernel_rfl
theorem fa1604 : callable Tryz.prog 49 = true := by kernel_rfl
theorem fa1605 : callable Tryz.prog 50 = true := by kernel_rfl
theorem fa1606 : callable Tryz.prog 51 = true := by kernel_rfl
theorem fa1607 : callable Tryz.prog 52 = true := by kernel_rfl
theorem fa1608 : callable Tryz.prog 53 = true := by kernel_rfl
theorem fa1609 : callable Tryz.prog 54 = true := by kernel_rfl
theorem fa1610 : callable Tryz.prog 55 = true := by kernel_rfl
theorem fa1611 : callable Tryz.prog 56 = true := by kernel_rfl
theorem fa1612 : callable Tryz.prog 57 = true := by kernel_rfl
theorem fa1613 : callable Tryz.prog 58 = true := by kernel_rfl
theorem fa1614 : callable Tryz.prog 59 = true := by kernel_rfl
theorem fa1615 : callable Tryz.prog 60 = true := by kernel_rfl
theorem fa1616 : callable Tryz.prog 61 = true := by kernel_rfl
theorem fa1617 : callable Tryz.prog 62 = true := by kernel_rfl
theorem fa1618 : callable Tryz.prog 63 = true := by kernel_rfl
theorem fa1619 : callable Tryz.prog 64 = true := by kernel_rfl
theorem fa1620 : callable Tryz.prog 65 = true := by kernel_rfl
theorem fa1621 : callable Tryz.prog 66 = true := by kernel_rfl
theorem fa1622 : callable Tryz.prog 67 = true := by kernel_rfl
theorem fa1623 : callable Tryz.prog 68 = true := by kernel_rfl
theorem fa1624 : callable Tryz.prog 69 = true := by kernel_rfl
theorem fa1625 : callable Tryz.prog 70 = true := by kernel_rfl
theorem fa1626 : callable Tryz.prog 71 = true := by kernel_rfl
theorem fa1627 : callable Tryz.prog 72 = true := by kernel_rfl
theorem fa1628 : callable Tryz.prog 73 = true := by kernel_rfl
theorem fa1629 : callable Tryz.prog 74 = true := by kernel_rfl
theorem fa1630 : callable Tryz.prog 75 = true := by kernel_rfl
theorem fa1631 : callable Tryz.prog 76 = true := by kernel_rfl
theorem fa1632 : callable Tryz.prog 77 = true := by kernel_rfl
theorem fa1633 : callable Tryz.prog 78 = true := by kernel_rfl
theorem fa1634 : callable Tryz.prog 79 = true := by kernel_rfl
theorem fa1635 : callable Tryz.prog 80 = true := by kernel_rfl
theorem fa1636 : callable Tryz.prog 81 = true := by kernel_rfl
theorem fa1637 : callable Tryz.prog 82 = true := by kernel_rfl
theorem fa1638 : callable Tryz.prog 83 = true := by kernel_rfl
theorem fa1639 : callable Tryz.prog 84 = true := by kernel_rfl
theorem fa1640 : callable Tryz.prog 85 = true := by kernel_rfl
theorem fa1641 : callable Tryz.prog 86 = true := by kernel_rfl
theorem fa1642 : callable Tryz.prog 87 = true := by kernel_rfl
theorem fa1643 : callable Tryz.prog 88 = true := by kernel_rfl
theorem fa1644 : callable Tryz.prog 89 = true := by kernel_rfl
theorem fa1645 : callable Tryz.prog 90 = true := by kernel_rfl
theorem fa1646 : callable Tryz.prog 91 = true := by kernel_rfl
theorem fa1647 : callable Tryz.prog 92 = true := by kernel_rfl
theorem fa1648 : callable Tryz.prog 93 = true := by kernel_rfl
theorem fa1649 : callable Tryz.prog 94 = true := by kernel_rfl
theorem fa1650 : callable Tryz.prog 95 = true := by kernel_rfl
theorem fa1651 : callable Tryz.prog 96 = true := by kernel_rfl
theorem fa1652 : callable Tryz.prog 97 = true := by kernel_rfl
theorem fa1653 : callable Tryz.prog 98 = true := by kernel_rfl
theorem fa1654 : callable Tryz.prog 99 = true := by kernel_rfl
theorem fa1655 : callable Tryz.prog 100 = true := by kernel_rfl
theorem fa1656 : callable Tryz.prog 101 = true := by kernel_rfl
theorem fa1662 : callable Tryz.prog 107 = true := by kernel_rfl
theorem fa1666 : callable Tryz.prog 111 = true := by kernel_rfl
theorem fa1672 : callable Tryz.prog 117 = true := by kernel_rfl
attribute [go_sem] fa18 fa19 fa20 fa24 fa27 fa28 fa29 fa30 fa34 fa37 fa38
attribute [go_sem] fa44
attribute [go_sem] fa90


attribute [go_sem] fa219 fa227 fa228 fa230 fa238 fa239
attribute [go_sem] fa253 fa254 fa255 fa259 fa260 fa261 fa262 fa263 fa264
attribute [go_sem] fa281 fa282 fa283 fa287 fa289 fa290 fa291 fa303 fa304 fa305 fa309 fa310 fa311 fa312 fa313 fa314 fa315 fa316
attribute [go_sem] fa324 fa333 fa334 fa335 fa341 fa342 fa355 fa356 fa357
attribute [go_sem] fa361 fa362 fa363 fa364 fa365

attribute [go_sem] fa462 fa468 fa473 fa475
attribute [go_sem] fa492 fa493 fa494 fa499
attribute [go_sem] fa556 fa557 fa558
attribute [go_sem] fa575 fa576 fa577 fa582 fa583

attribute [go_sem] fa640 fa641 fa643 fa659 fa660 fa661


attribute [go_sem] fa782 fa783 fa794 fa795 fa796 fa797

attribute [go_sem] fa879
attribute [go_sem] fa880 fa886 fa887

attribute [go_sem] fa971 fa972 fa973 fa977 fa978 fa979 fa988 fa989 fa990 fa996 fa997
attribute [go_sem] fa1017 fa1018 fa1019 fa1023 fa1024 fa1025 fa1026
attribute [go_sem] fa1059 fa1060
attribute [go_sem] fa1102 fa1103 fa1104 fa1109
attribute [go_sem] fa1133 fa1135 fa1136 fa1142 fa1143 fa1159
attribute [go_sem] fa1167








attribute [go_sem] fa1558 fa1559
attribute [go_sem] fa1560 fa1561 fa1562 fa1563 fa1564 fa1565 fa1566 fa1567 fa1568 fa1569 fa1570 fa1571 fa1572 fa1573 fa1574 fa1575 fa1576 fa1577 fa1578 fa1579 fa1580 fa1581 fa1582 fa1583 fa1584 fa1585 fa1586 fa1587 fa1588 fa1589 fa1590 fa1591 fa1592 fa1593 fa1594 fa1595 fa1596 fa1597 fa1598 fa1599
attribute [go_sem] fa1600 fa1601 fa1602 fa1603 fa1604 fa1605 fa1606 fa1607 fa1608 fa1609 fa1610 fa1611 fa1612 fa1613 fa1614 fa1615 fa1616 fa1617 fa1618 fa1619 fa1620 fa1621 fa1622 fa1623 fa1624 fa1625 fa1626 fa1627 fa1628 fa1629 fa1630 fa1631 fa1632 fa1633 fa1634 fa1635 fa1636 fa1637 fa1638 fa1639
attribute [go_sem] fa1640 fa1641 fa1642 fa1643 fa1644 fa1645 fa1646 fa1647 fa1648 fa1649 fa1650 fa1651 fa1652 fa1653 fa1654 fa1655 fa1656 fa1662 fa1666 fa1672
end Go.Proofs.YtmjlhbkgljcnoaaGreatDoor
