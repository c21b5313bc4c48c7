/- Part R1 of the proof: the laws and contracts that the last text joins. Own work; no condition of its own. -/
import Derived.Test.YtfdkncmlnfenjaaGreatDoorF3
import Derived.Test.YtfdkncmlnfenjaaGreatDoorProg
set_option linter.all false
set_option maxRecDepth 100000
namespace Go.Pg
open Go.Proofs
def rf7 : RFn where
  ntmps := 38
  mt := []
  results := [.tmp 8]
  body := .seq (.region [⟨some 4, .boxI (.t 0), none⟩,
      ⟨some 5, .boxI (.t 1), none⟩,
      ⟨some 6, .boxI (.t 2), none⟩,
      ⟨some 7, .boxI (.t 3), none⟩,
      ⟨some 8, .mv (.c (.d (.bool false))), none⟩] false)
    (.seq (.region [⟨some 9, .ldc true 9 (.t 4), none⟩,
      ⟨some 10, .ldc true 9 (.t 5), none⟩,
      ⟨some 11, .call 20 [.t 9, .t 10], none⟩,
      ⟨some 12, .ldc true 9 (.t 4), none⟩,
      ⟨some 13, .ldc true 9 (.t 5), none⟩,
      ⟨some 14, .call 17 [.t 12, .t 13], none⟩,
      ⟨some 15, .bin true .eql (.t 11) (.t 14), none⟩,
      ⟨some 16, .mv (.t 15), none⟩,
      ⟨some 17, .ldc true 9 (.t 4), (some (16, true))⟩,
      ⟨some 18, .ldc true 9 (.t 4), (some (16, true))⟩,
      ⟨some 19, .call 20 [.t 17, .t 18], (some (16, true))⟩,
      ⟨some 20, .pick (.t 16) (.t 19) (.c (.d (.bool false))), none⟩,
      ⟨some 21, .mv (.t 20), none⟩,
      ⟨some 22, .ldc true 5 (.t 6), (some (21, true))⟩,
      ⟨some 23, .ldc true 5 (.t 7), (some (21, true))⟩,
      ⟨some 24, .call 21 [.t 22, .t 23], (some (21, true))⟩,
      ⟨some 25, .ldc true 5 (.t 6), (some (21, true))⟩,
      ⟨some 26, .ldc true 5 (.t 7), (some (21, true))⟩,
      ⟨some 27, .call 22 [.t 25, .t 26], (some (21, true))⟩,
      ⟨some 28, .bin true .eql (.t 24) (.t 27), (some (21, true))⟩,
      ⟨some 29, .pick (.t 21) (.t 28) (.c (.d (.bool false))), none⟩,
      ⟨some 30, .mv (.t 29), none⟩,
      ⟨some 31, .ldc true 5 (.t 6), (some (30, true))⟩,
      ⟨some 32, .ldc true 5 (.t 6), (some (30, true))⟩,
      ⟨some 33, .call 21 [.t 31, .t 32], (some (30, true))⟩,
      ⟨some 34, .pick (.t 30) (.t 33) (.c (.d (.bool false))), none⟩,
      ⟨some 35, .mv (.t 34), none⟩,
      ⟨some 36, .call 11 [], (some (35, true))⟩,
      ⟨some 37, .pick (.t 35) (.t 36) (.c (.d (.bool false))), none⟩,
      ⟨some 8, .mv (.t 37), none⟩] true)
    (.ret))
theorem ok7 : FnOK Tryz.prog 7 rf7 := ⟨Tryz.f7, _, Tryz.func7, rfl, by kernel_rfl, rfl, by kernel_rfl, by kernel_rfl⟩
def rf8 : RFn where
  ntmps := 47
  mt := []
  results := [.tmp 6]
  body := .seq (.region [⟨some 3, .boxI (.t 0), none⟩,
      ⟨some 4, .boxI (.t 1), none⟩,
      ⟨some 5, .boxI (.t 2), none⟩,
      ⟨some 6, .mv (.c (.d (.bool false))), none⟩] false)
    (.seq (.region [⟨some 10, .ldc true 9 (.t 3), none⟩,
      ⟨some 11, .ldc true 9 (.t 4), none⟩,
      ⟨some 12, .call 20 [.t 10, .t 11], none⟩,
      ⟨some 13, .ldc true 9 (.t 4), none⟩,
      ⟨some 14, .ldc true 9 (.t 5), none⟩,
      ⟨some 15, .call 20 [.t 13, .t 14], none⟩,
      ⟨some 16, .ldc true 9 (.t 3), none⟩,
      ⟨some 17, .ldc true 9 (.t 5), none⟩,
      ⟨some 18, .call 20 [.t 16, .t 17], none⟩,
      ⟨some 7, .mv (.t 12), none⟩,
      ⟨some 8, .mv (.t 15), none⟩,
      ⟨some 9, .mv (.t 18), none⟩] true)
    (.seq (.region [⟨some 19, .ldc true 9 (.t 4), none⟩,
      ⟨some 20, .ldc true 9 (.t 3), none⟩,
      ⟨some 21, .call 20 [.t 19, .t 20], none⟩,
      ⟨some 22, .mv (.t 7), none⟩,
      ⟨some 23, .bin true .eql (.t 21) (.t 22), none⟩,
      ⟨some 24, .mv (.t 23), none⟩,
      ⟨some 25, .mv (.t 7), (some (24, true))⟩,
      ⟨some 26, .not (.t 25), (some (24, true))⟩,
      ⟨some 27, .mv (.t 26), (some (24, true))⟩,
      ⟨some 28, .mv (.t 8), (some (27, false))⟩,
      ⟨some 29, .not (.t 28), (some (27, false))⟩,
      ⟨some 30, .pick (.t 27) (.c (.d (.bool true))) (.t 29), (some (24, true))⟩,
      ⟨some 31, .mv (.t 30), (some (24, true))⟩,
      ⟨some 32, .mv (.t 9), (some (31, false))⟩,
      ⟨some 33, .pick (.t 31) (.c (.d (.bool true))) (.t 32), (some (24, true))⟩,
      ⟨some 34, .pick (.t 24) (.t 33) (.c (.d (.bool false))), none⟩,
      ⟨some 35, .mv (.t 34), none⟩,
      ⟨some 36, .mv (.t 7), (some (35, true))⟩,
      ⟨some 37, .not (.t 36), (some (35, true))⟩,
      ⟨some 38, .mv (.t 37), (some (35, true))⟩,
      ⟨some 39, .mv (.t 8), (some (38, false))⟩,
      ⟨some 40, .mv (.t 9), (some (38, false))⟩,
      ⟨some 41, .bin true .eql (.t 39) (.t 40), (some (38, false))⟩,
      ⟨some 42, .pick (.t 38) (.c (.d (.bool true))) (.t 41), (some (35, true))⟩,
      ⟨some 43, .pick (.t 35) (.t 42) (.c (.d (.bool false))), none⟩,
      ⟨some 44, .mv (.t 43), none⟩,
      ⟨some 45, .call 11 [], (some (44, true))⟩,
      ⟨some 46, .pick (.t 44) (.t 45) (.c (.d (.bool false))), none⟩,
      ⟨some 6, .mv (.t 46), none⟩] false)
    (.ret)))
theorem ok8 : FnOK Tryz.prog 8 rf8 := ⟨Tryz.f8, _, Tryz.func8, rfl, by kernel_rfl, rfl, by kernel_rfl, by kernel_rfl⟩
def rf9 : RFn where
  ntmps := 67
  mt := [5, 15, 47, 54, 61]
  results := [.tmp 4]
  body := .seq (.region [⟨some 3, .boxI (.t 1), none⟩,
      ⟨some 4, .mv (.c (.d (.int .i64 0))), none⟩] false)
    (.seq (.region [⟨some 6, .mv (.t 0), none⟩,
      ⟨some 7, .build [.d (.int .i64 0)] [(0, 1, .t 6)], none⟩,
      ⟨some 5, .alloc 51 [.d (.int .i64 0)], none⟩,
      ⟨none, .st 1 (.t 5) (.t 7), none⟩] false)
    (.seq (.seq (.region [⟨some 8, .mv (.t 0), none⟩,
      ⟨some 9, .bin false .neq (.t 8) (.c (.d (.int .i64 0))), none⟩,
      ⟨some 10, .mv (.t 9), none⟩,
      ⟨some 11, .mv (.t 0), (some (10, true))⟩,
      ⟨some 12, .bin false .neq (.t 11) (.c (.d (.int .i64 1))), (some (10, true))⟩,
      ⟨some 13, .pick (.t 10) (.t 12) (.c (.d (.bool false))), none⟩,
      ⟨some 14, .mv (.t 13), none⟩,
      ⟨some 15, .ld true 1 (.t 5), (some (14, false))⟩,
      ⟨some 16, .fa 0 (.t 3), (some (14, false))⟩,
      ⟨some 17, .ldc false 1 (.t 16), (some (14, false))⟩,
      ⟨some 18, .call 23 [.t 15, .t 17], (some (14, false))⟩,
      ⟨some 19, .not (.t 18), (some (14, false))⟩,
      ⟨some 20, .pick (.t 14) (.c (.d (.bool true))) (.t 19), none⟩,
      ⟨some 21, .mv (.t 20), none⟩,
      ⟨some 22, .fa 1 (.t 3), (some (21, false))⟩,
      ⟨some 23, .ldc false 1 (.t 22), (some (21, false))⟩,
      ⟨some 24, .fa 2 (.t 3), (some (21, false))⟩,
      ⟨some 25, .ldc false 1 (.t 24), (some (21, false))⟩,
      ⟨some 26, .fa 3 (.t 3), (some (21, false))⟩,
      ⟨some 27, .ldc false 1 (.t 26), (some (21, false))⟩,
      ⟨some 28, .fa 8 (.t 3), (some (21, false))⟩,
      ⟨some 29, .ldc false 1 (.t 28), (some (21, false))⟩,
      ⟨some 30, .lit 22 1 [.t 23, .t 25, .t 27, .t 29], (some (21, false))⟩,
      ⟨some 31, .call 24 [.t 30], (some (21, false))⟩,
      ⟨some 32, .not (.t 31), (some (21, false))⟩,
      ⟨some 33, .pick (.t 21) (.c (.d (.bool true))) (.t 32), none⟩,
      ⟨some 34, .mv (.t 33), none⟩,
      ⟨some 35, .fa 4 (.t 3), (some (34, false))⟩,
      ⟨some 36, .ldc false 1 (.t 35), (some (34, false))⟩,
      ⟨some 37, .call 25 [.t 36], (some (34, false))⟩,
      ⟨some 38, .not (.t 37), (some (34, false))⟩,
      ⟨some 39, .pick (.t 34) (.c (.d (.bool true))) (.t 38), none⟩,
      ⟨some 40, .mv (.t 39), none⟩,
      ⟨some 41, .fa 4 (.t 3), (some (40, false))⟩,
      ⟨some 42, .ldc false 1 (.t 41), (some (40, false))⟩,
      ⟨some 43, .mkf 27 [] [.t 5], (some (40, false))⟩,
      ⟨some 44, .call 26 [.t 42, .t 43], (some (40, false))⟩,
      ⟨some 45, .pick (.t 40) (.c (.d (.bool true))) (.t 44), none⟩,
      ⟨some 46, .mv (.t 45), none⟩,
      ⟨some 47, .ld true 1 (.t 5), (some (46, false))⟩,
      ⟨some 48, .fa 5 (.t 3), (some (46, false))⟩,
      ⟨some 49, .ldc false 1 (.t 48), (some (46, false))⟩,
      ⟨some 50, .call 29 [.t 47, .t 49], (some (46, false))⟩,
      ⟨some 51, .not (.t 50), (some (46, false))⟩,
      ⟨some 52, .pick (.t 46) (.c (.d (.bool true))) (.t 51), none⟩,
      ⟨some 53, .mv (.t 52), none⟩,
      ⟨some 54, .ld true 1 (.t 5), (some (53, false))⟩,
      ⟨some 55, .fa 6 (.t 3), (some (53, false))⟩,
      ⟨some 56, .ldc false 1 (.t 55), (some (53, false))⟩,
      ⟨some 57, .call 30 [.t 54, .t 56, .c (.d (.int .i64 1))], (some (53, false))⟩,
      ⟨some 58, .not (.t 57), (some (53, false))⟩,
      ⟨some 59, .pick (.t 53) (.c (.d (.bool true))) (.t 58), none⟩,
      ⟨some 60, .mv (.t 59), none⟩,
      ⟨some 61, .ld true 1 (.t 5), (some (60, false))⟩,
      ⟨some 62, .fa 7 (.t 3), (some (60, false))⟩,
      ⟨some 63, .ldc false 1 (.t 62), (some (60, false))⟩,
      ⟨some 64, .call 31 [.t 61, .t 63, .c (.d (.int .i64 1))], (some (60, false))⟩,
      ⟨some 65, .not (.t 64), (some (60, false))⟩,
      ⟨some 66, .pick (.t 60) (.c (.d (.bool true))) (.t 65), none⟩] false)
    (.cond (.t 66) (.seq (.region [⟨some 4, .mv (.c (.d (.int .i64 1))), none⟩] false)
    (.ret))
    (.skip)))
    (.seq (.region [⟨some 4, .mv (.c (.d (.int .i64 0))), none⟩] false)
    (.ret))))
theorem ok9 : FnOK Tryz.prog 9 rf9 := ⟨Tryz.f9, _, Tryz.func9, rfl, by kernel_rfl, rfl, by kernel_rfl, by kernel_rfl⟩
def rf11 : RFn where
  ntmps := 28
  mt := [1, 2, 4, 8, 12, 18]
  results := [.tmp 0]
  body := .seq (.region [⟨some 0, .mv (.c (.d (.bool false))), none⟩] false)
    (.seq (.region [⟨some 3, .build [.d (.str []), .nil 9, .nil 9, .nil 9, .nil 59, .nil 98, .nil 103, .nil 107, .nil 9] [(0, 1, .c (.d (.str [112])))], none⟩,
      ⟨some 1, .alloc 28 [.d (.str []), .nil 9, .nil 9, .nil 9, .nil 59, .nil 98, .nil 103, .nil 107, .nil 9], none⟩,
      ⟨none, .st 9 (.t 1) (.t 3), none⟩] false)
    (.seq (.region [⟨some 4, .ld true 9 (.t 1), none⟩,
      ⟨some 5, .build [.d (.str []), .d (.str [])] [(0, 1, .c (.d (.str [112]))), (1, 1, .c (.d (.str [113])))], none⟩,
      ⟨some 6, .lit 39 2 [.t 5], none⟩,
      ⟨some 7, .call 16 [.t 4, .t 6], none⟩,
      ⟨some 2, .alloc 28 [.d (.str []), .nil 9, .nil 9, .nil 9, .nil 59, .nil 98, .nil 103, .nil 107, .nil 9], none⟩,
      ⟨none, .st 9 (.t 2) (.t 7), none⟩] false)
    (.seq (.region [⟨some 8, .ld true 9 (.t 1), none⟩,
      ⟨some 9, .call 9 [.c (.d (.int .i64 0)), .t 8], none⟩,
      ⟨some 10, .bin false .eql (.t 9) (.c (.d (.int .i64 0))), none⟩,
      ⟨some 11, .mv (.t 10), none⟩,
      ⟨some 12, .ld true 9 (.t 1), (some (11, true))⟩,
      ⟨some 13, .call 13 [.t 12], (some (11, true))⟩,
      ⟨some 14, .lit 9 1 [.c (.d (.str [112]))], (some (11, true))⟩,
      ⟨some 15, .call 12 [.t 13, .t 14], (some (11, true))⟩,
      ⟨some 16, .pick (.t 11) (.t 15) (.c (.d (.bool false))), none⟩,
      ⟨some 17, .mv (.t 16), none⟩,
      ⟨some 18, .ld true 9 (.t 2), (some (17, true))⟩,
      ⟨some 19, .call 13 [.t 18], (some (17, true))⟩,
      ⟨some 20, .lit 9 1 [.c (.d (.str [113]))], (some (17, true))⟩,
      ⟨some 21, .call 12 [.t 19, .t 20], (some (17, true))⟩,
      ⟨some 22, .pick (.t 17) (.t 21) (.c (.d (.bool false))), none⟩,
      ⟨some 23, .mv (.t 22), none⟩,
      ⟨some 24, .build [.d (.str []), .nil 9, .nil 9, .nil 9, .nil 59, .nil 98, .nil 103, .nil 107, .nil 9] [(0, 1, .c (.d (.str [98, 101, 103, 105, 110])))], (some (23, true))⟩,
      ⟨some 25, .call 9 [.c (.d (.int .i64 0)), .t 24], (some (23, true))⟩,
      ⟨some 26, .bin false .eql (.t 25) (.c (.d (.int .i64 1))), (some (23, true))⟩,
      ⟨some 27, .pick (.t 23) (.t 26) (.c (.d (.bool false))), none⟩,
      ⟨some 0, .mv (.t 27), none⟩] false)
    (.ret))))
theorem ok11 : FnOK Tryz.prog 11 rf11 := ⟨Tryz.f11, _, Tryz.func11, rfl, by kernel_rfl, rfl, by kernel_rfl, by kernel_rfl⟩
def rf12 : RFn where
  ntmps := 26
  mt := []
  results := [.tmp 4]
  body := .seq (.region [⟨some 4, .mv (.c (.d (.bool false))), none⟩] false)
    (.seq (.seq (.region [⟨some 6, .mv (.t 0), none⟩,
      ⟨some 7, .lenR 9 16 (.t 6), none⟩,
      ⟨some 8, .mv (.t 1), none⟩,
      ⟨some 9, .lenR 9 16 (.t 8), none⟩,
      ⟨some 10, .bin false .neq (.t 7) (.t 9), none⟩] false)
    (.cond (.t 10) (.seq (.region [⟨some 4, .mv (.c (.d (.bool false))), none⟩] false)
    (.ret))
    (.skip)))
    (.seq (.seq (.region [⟨some 5, .mv (.c (.d (.int .i64 0))), none⟩] false)
    (.block 0 (.loop (.seq (.seq (.region [⟨some 11, .mv (.t 5), none⟩,
      ⟨some 12, .mv (.t 0), none⟩,
      ⟨some 13, .lenR 9 16 (.t 12), none⟩,
      ⟨some 14, .bin false .lss (.t 11) (.t 13), none⟩] false)
    (.cond (.t 14) (.skip)
    (.exit 0)))
    (.seq (.block 1 (.seq (.region [⟨some 17, .mv (.t 0), none⟩,
      ⟨some 18, .mv (.t 5), none⟩,
      ⟨some 19, .ia 9 1 (.t 17) (.t 18), none⟩,
      ⟨some 20, .ldc false 1 (.t 19), none⟩,
      ⟨some 21, .mv (.t 1), none⟩,
      ⟨some 22, .mv (.t 5), none⟩,
      ⟨some 23, .ia 9 1 (.t 21) (.t 22), none⟩,
      ⟨some 24, .ldc false 1 (.t 23), none⟩,
      ⟨some 25, .bin false .neq (.t 20) (.t 24), none⟩] true)
    (.cond (.t 25) (.seq (.region [⟨some 4, .mv (.c (.d (.bool false))), none⟩] false)
    (.ret))
    (.skip))))
    (.region [⟨some 15, .mv (.t 5), none⟩,
      ⟨some 16, .bin false .add (.t 15) (.c (.d (.int .i64 1))), none⟩,
      ⟨some 5, .mv (.t 16), none⟩] false))))))
    (.seq (.region [⟨some 4, .mv (.c (.d (.bool true))), none⟩] false)
    (.ret))))
theorem ok12 : FnOK Tryz.prog 12 rf12 := ⟨Tryz.f12, _, Tryz.func12, rfl, by kernel_rfl, rfl, by kernel_rfl, by kernel_rfl⟩
def rf13 : RFn where
  ntmps := 11
  mt := [3, 4, 10]
  results := [.tmp 2]
  body := .seq (.region [⟨some 1, .boxI (.t 0), none⟩,
      ⟨some 2, .mv (.c (.nil 9)), none⟩] false)
    (.seq (.region [⟨some 3, .alloc 22 [.nil 9], none⟩] false)
    (.seq (.region [⟨some 5, .ef .mkMap [], none⟩,
      ⟨some 4, .alloc 73 [.nilmap], none⟩,
      ⟨none, .st 1 (.t 4) (.t 5), none⟩] false)
    (.seq (.region [⟨some 6, .mkf 38 [] [.t 4, .t 3], none⟩,
      ⟨some 7, .build [.any] [(0, 1, .t 6)], none⟩,
      ⟨some 8, .ldc true 9 (.t 1), none⟩,
      ⟨some 9, .call 39 [.t 7, .t 8], none⟩] false)
    (.seq (.region [⟨some 10, .ld false 1 (.t 3), none⟩,
      ⟨some 2, .mv (.t 10), none⟩] false)
    (.ret)))))
theorem ok13 : FnOK Tryz.prog 13 rf13 := ⟨Tryz.f13, _, Tryz.func13, rfl, by kernel_rfl, rfl, by kernel_rfl, by kernel_rfl⟩
def rf16 : RFn where
  ntmps := 9
  mt := [3, 4]
  results := [.cell true 9 4]
  body := .seq (.region [⟨some 2, .boxI (.t 0), none⟩,
      ⟨some 3, .boxM 36 (.t 1), none⟩,
      ⟨some 4, .alloc 28 [.d (.str []), .nil 9, .nil 9, .nil 9, .nil 59, .nil 98, .nil 103, .nil 107, .nil 9], none⟩] false)
    (.seq (.region [⟨some 5, .mkf 46 [] [.t 3], none⟩,
      ⟨some 6, .build [.any] [(0, 1, .t 5)], none⟩,
      ⟨some 7, .ldc true 9 (.t 2), none⟩,
      ⟨some 8, .call 39 [.t 6, .t 7], none⟩,
      ⟨none, .st 9 (.t 4) (.t 8), none⟩] false)
    (.ret))
theorem ok16 : FnOK Tryz.prog 16 rf16 := ⟨Tryz.f16, _, Tryz.func16, rfl, by kernel_rfl, rfl, by kernel_rfl, by kernel_rfl⟩
def rf17 : RFn where
  ntmps := 172
  mt := [6, 7, 73, 75, 80, 82, 87, 89, 95, 98, 104, 110, 116, 125, 131, 140, 146]
  results := [.tmp 4]
  body := .seq (.region [⟨some 2, .boxI (.t 0), none⟩,
      ⟨some 3, .boxI (.t 1), none⟩,
      ⟨some 4, .mv (.c (.d (.bool false))), none⟩] false)
    (.seq (.seq (.region [⟨some 9, .fa 0 (.t 2), none⟩,
      ⟨some 10, .ldc false 1 (.t 9), none⟩,
      ⟨some 11, .fa 0 (.t 3), none⟩,
      ⟨some 12, .ldc false 1 (.t 11), none⟩,
      ⟨some 13, .bin false .neq (.t 10) (.t 12), none⟩,
      ⟨some 14, .mv (.t 13), none⟩,
      ⟨some 15, .fa 1 (.t 2), (some (14, false))⟩,
      ⟨some 16, .ldc false 1 (.t 15), (some (14, false))⟩,
      ⟨some 17, .fa 1 (.t 3), (some (14, false))⟩,
      ⟨some 18, .ldc false 1 (.t 17), (some (14, false))⟩,
      ⟨some 19, .call 12 [.t 16, .t 18], (some (14, false))⟩,
      ⟨some 20, .not (.t 19), (some (14, false))⟩,
      ⟨some 21, .pick (.t 14) (.c (.d (.bool true))) (.t 20), none⟩,
      ⟨some 22, .mv (.t 21), none⟩,
      ⟨some 23, .fa 2 (.t 2), (some (22, false))⟩,
      ⟨some 24, .ldc false 1 (.t 23), (some (22, false))⟩,
      ⟨some 25, .fa 2 (.t 3), (some (22, false))⟩,
      ⟨some 26, .ldc false 1 (.t 25), (some (22, false))⟩,
      ⟨some 27, .call 12 [.t 24, .t 26], (some (22, false))⟩,
      ⟨some 28, .not (.t 27), (some (22, false))⟩,
      ⟨some 29, .pick (.t 22) (.c (.d (.bool true))) (.t 28), none⟩,
      ⟨some 30, .mv (.t 29), none⟩,
      ⟨some 31, .fa 3 (.t 2), (some (30, false))⟩,
      ⟨some 32, .ldc false 1 (.t 31), (some (30, false))⟩,
      ⟨some 33, .fa 3 (.t 3), (some (30, false))⟩,
      ⟨some 34, .ldc false 1 (.t 33), (some (30, false))⟩,
      ⟨some 35, .call 12 [.t 32, .t 34], (some (30, false))⟩,
      ⟨some 36, .not (.t 35), (some (30, false))⟩,
      ⟨some 37, .pick (.t 30) (.c (.d (.bool true))) (.t 36), none⟩,
      ⟨some 38, .mv (.t 37), none⟩,
      ⟨some 39, .fa 8 (.t 2), (some (38, false))⟩,
      ⟨some 40, .ldc false 1 (.t 39), (some (38, false))⟩,
      ⟨some 41, .fa 8 (.t 3), (some (38, false))⟩,
      ⟨some 42, .ldc false 1 (.t 41), (some (38, false))⟩,
      ⟨some 43, .call 12 [.t 40, .t 42], (some (38, false))⟩,
      ⟨some 44, .not (.t 43), (some (38, false))⟩,
      ⟨some 45, .pick (.t 38) (.c (.d (.bool true))) (.t 44), none⟩,
      ⟨some 46, .mv (.t 45), none⟩,
      ⟨some 47, .fa 4 (.t 2), (some (46, false))⟩,
      ⟨some 48, .ldc false 1 (.t 47), (some (46, false))⟩,
      ⟨some 49, .lenR 59 112 (.t 48), (some (46, false))⟩,
      ⟨some 50, .fa 4 (.t 3), (some (46, false))⟩,
      ⟨some 51, .ldc false 1 (.t 50), (some (46, false))⟩,
      ⟨some 52, .lenR 59 112 (.t 51), (some (46, false))⟩,
      ⟨some 53, .bin false .neq (.t 49) (.t 52), (some (46, false))⟩,
      ⟨some 54, .pick (.t 46) (.c (.d (.bool true))) (.t 53), none⟩] false)
    (.cond (.t 54) (.seq (.region [⟨some 4, .mv (.c (.d (.bool false))), none⟩] false)
    (.ret))
    (.skip)))
    (.seq (.seq (.region [⟨some 5, .mv (.c (.d (.int .i64 0))), none⟩] false)
    (.block 0 (.loop (.seq (.seq (.region [⟨some 55, .mv (.t 5), none⟩,
      ⟨some 56, .fa 4 (.t 2), none⟩,
      ⟨some 57, .ldc false 1 (.t 56), none⟩,
      ⟨some 58, .lenR 59 112 (.t 57), none⟩,
      ⟨some 59, .bin false .lss (.t 55) (.t 58), none⟩] false)
    (.cond (.t 59) (.skip)
    (.exit 0)))
    (.seq (.block 1 (.seq (.regions [[⟨some 62, .fa 4 (.t 2), none⟩,
      ⟨some 63, .ldc false 1 (.t 62), none⟩,
      ⟨some 64, .mv (.t 5), none⟩,
      ⟨some 65, .ia 59 5 (.t 63) (.t 64), none⟩,
      ⟨some 66, .ldc true 5 (.t 65), none⟩,
      ⟨some 67, .fa 4 (.t 3), none⟩,
      ⟨some 68, .ldc false 1 (.t 67), none⟩,
      ⟨some 69, .mv (.t 5), none⟩,
      ⟨some 70, .ia 59 5 (.t 68) (.t 69), none⟩,
      ⟨some 71, .ldc true 5 (.t 70), none⟩,
      ⟨some 6, .alloc 59 [.nil 9, .nil 9, .d (.str []), .nil 69, .nil 9], none⟩,
      ⟨some 7, .alloc 59 [.nil 9, .nil 9, .d (.str []), .nil 69, .nil 9], none⟩,
      ⟨none, .st 5 (.t 6) (.t 66), none⟩,
      ⟨none, .st 5 (.t 7) (.t 71), none⟩],
     [⟨some 62, .fa 4 (.t 2), none⟩,
      ⟨some 63, .ldc false 1 (.t 62), none⟩,
      ⟨some 64, .mv (.t 5), none⟩,
      ⟨some 65, .ia 59 5 (.t 63) (.t 64), none⟩,
      ⟨some 66, .ldc true 5 (.t 65), none⟩,
      ⟨some 67, .fa 4 (.t 3), none⟩,
      ⟨some 68, .ldc false 1 (.t 67), none⟩,
      ⟨some 69, .mv (.t 5), none⟩,
      ⟨some 70, .ia 59 5 (.t 68) (.t 69), none⟩,
      ⟨some 71, .ldc true 5 (.t 70), none⟩,
      ⟨some 7, .alloc 59 [.nil 9, .nil 9, .d (.str []), .nil 69, .nil 9], none⟩,
      ⟨some 6, .alloc 59 [.nil 9, .nil 9, .d (.str []), .nil 69, .nil 9], none⟩,
      ⟨none, .st 5 (.t 6) (.t 66), none⟩,
      ⟨none, .st 5 (.t 7) (.t 71), none⟩]])
    (.seq (.seq (.region [⟨some 72, .fa 0 (.t 6), none⟩,
      ⟨some 73, .ld true 2 (.t 72), none⟩,
      ⟨some 74, .fa 0 (.t 7), none⟩,
      ⟨some 75, .ld true 2 (.t 74), none⟩,
      ⟨some 76, .call 47 [.t 73, .t 75], none⟩,
      ⟨some 77, .not (.t 76), none⟩,
      ⟨some 78, .mv (.t 77), none⟩,
      ⟨some 79, .fa 2 (.t 6), (some (78, false))⟩,
      ⟨some 80, .ld false 1 (.t 79), (some (78, false))⟩,
      ⟨some 81, .fa 2 (.t 7), (some (78, false))⟩,
      ⟨some 82, .ld false 1 (.t 81), (some (78, false))⟩,
      ⟨some 83, .bin false .neq (.t 80) (.t 82), (some (78, false))⟩,
      ⟨some 84, .pick (.t 78) (.c (.d (.bool true))) (.t 83), none⟩,
      ⟨some 85, .mv (.t 84), none⟩,
      ⟨some 86, .fa 4 (.t 6), (some (85, false))⟩,
      ⟨some 87, .ld false 1 (.t 86), (some (85, false))⟩,
      ⟨some 88, .fa 4 (.t 7), (some (85, false))⟩,
      ⟨some 89, .ld false 1 (.t 88), (some (85, false))⟩,
      ⟨some 90, .call 12 [.t 87, .t 89], (some (85, false))⟩,
      ⟨some 91, .not (.t 90), (some (85, false))⟩,
      ⟨some 92, .pick (.t 85) (.c (.d (.bool true))) (.t 91), none⟩,
      ⟨some 93, .mv (.t 92), none⟩,
      ⟨some 94, .fa 3 (.t 6), (some (93, false))⟩,
      ⟨some 95, .ld false 1 (.t 94), (some (93, false))⟩,
      ⟨some 96, .lenR 69 72 (.t 95), (some (93, false))⟩,
      ⟨some 97, .fa 3 (.t 7), (some (93, false))⟩,
      ⟨some 98, .ld false 1 (.t 97), (some (93, false))⟩,
      ⟨some 99, .lenR 69 72 (.t 98), (some (93, false))⟩,
      ⟨some 100, .bin false .neq (.t 96) (.t 99), (some (93, false))⟩,
      ⟨some 101, .pick (.t 93) (.c (.d (.bool true))) (.t 100), none⟩] false)
    (.cond (.t 101) (.seq (.region [⟨some 4, .mv (.c (.d (.bool false))), none⟩] false)
    (.ret))
    (.skip)))
    (.seq (.region [⟨some 8, .mv (.c (.d (.int .i64 0))), none⟩] false)
    (.block 2 (.loop (.seq (.seq (.region [⟨some 102, .mv (.t 8), none⟩,
      ⟨some 103, .fa 3 (.t 6), none⟩,
      ⟨some 104, .ld false 1 (.t 103), none⟩,
      ⟨some 105, .lenR 69 72 (.t 104), none⟩,
      ⟨some 106, .bin false .lss (.t 102) (.t 105), none⟩] false)
    (.cond (.t 106) (.skip)
    (.exit 2)))
    (.seq (.block 3 (.seq (.region [⟨some 109, .fa 3 (.t 6), none⟩,
      ⟨some 110, .ld false 1 (.t 109), none⟩,
      ⟨some 111, .mv (.t 8), none⟩,
      ⟨some 112, .ia 69 4 (.t 110) (.t 111), none⟩,
      ⟨some 113, .fa 0 (.t 112), none⟩,
      ⟨some 114, .ldc true 2 (.t 113), none⟩,
      ⟨some 115, .fa 3 (.t 7), none⟩,
      ⟨some 116, .ld false 1 (.t 115), none⟩,
      ⟨some 117, .mv (.t 8), none⟩,
      ⟨some 118, .ia 69 4 (.t 116) (.t 117), none⟩,
      ⟨some 119, .fa 0 (.t 118), none⟩,
      ⟨some 120, .ldc true 2 (.t 119), none⟩,
      ⟨some 121, .call 47 [.t 114, .t 120], none⟩,
      ⟨some 122, .not (.t 121), none⟩,
      ⟨some 123, .mv (.t 122), none⟩,
      ⟨some 124, .fa 3 (.t 6), (some (123, false))⟩,
      ⟨some 125, .ld false 1 (.t 124), (some (123, false))⟩,
      ⟨some 126, .mv (.t 8), (some (123, false))⟩,
      ⟨some 127, .ia 69 4 (.t 125) (.t 126), (some (123, false))⟩,
      ⟨some 128, .fa 2 (.t 127), (some (123, false))⟩,
      ⟨some 129, .ldc false 1 (.t 128), (some (123, false))⟩,
      ⟨some 130, .fa 3 (.t 7), (some (123, false))⟩,
      ⟨some 131, .ld false 1 (.t 130), (some (123, false))⟩,
      ⟨some 132, .mv (.t 8), (some (123, false))⟩,
      ⟨some 133, .ia 69 4 (.t 131) (.t 132), (some (123, false))⟩,
      ⟨some 134, .fa 2 (.t 133), (some (123, false))⟩,
      ⟨some 135, .ldc false 1 (.t 134), (some (123, false))⟩,
      ⟨some 136, .bin false .neq (.t 129) (.t 135), (some (123, false))⟩,
      ⟨some 137, .pick (.t 123) (.c (.d (.bool true))) (.t 136), none⟩,
      ⟨some 138, .mv (.t 137), none⟩,
      ⟨some 139, .fa 3 (.t 6), (some (138, false))⟩,
      ⟨some 140, .ld false 1 (.t 139), (some (138, false))⟩,
      ⟨some 141, .mv (.t 8), (some (138, false))⟩,
      ⟨some 142, .ia 69 4 (.t 140) (.t 141), (some (138, false))⟩,
      ⟨some 143, .fa 3 (.t 142), (some (138, false))⟩,
      ⟨some 144, .ldc false 1 (.t 143), (some (138, false))⟩,
      ⟨some 145, .fa 3 (.t 7), (some (138, false))⟩,
      ⟨some 146, .ld false 1 (.t 145), (some (138, false))⟩,
      ⟨some 147, .mv (.t 8), (some (138, false))⟩,
      ⟨some 148, .ia 69 4 (.t 146) (.t 147), (some (138, false))⟩,
      ⟨some 149, .fa 3 (.t 148), (some (138, false))⟩,
      ⟨some 150, .ldc false 1 (.t 149), (some (138, false))⟩,
      ⟨some 151, .bin false .neq (.t 144) (.t 150), (some (138, false))⟩,
      ⟨some 152, .pick (.t 138) (.c (.d (.bool true))) (.t 151), none⟩] true)
    (.cond (.t 152) (.seq (.region [⟨some 4, .mv (.c (.d (.bool false))), none⟩] false)
    (.ret))
    (.skip))))
    (.region [⟨some 107, .mv (.t 8), none⟩,
      ⟨some 108, .bin false .add (.t 107) (.c (.d (.int .i64 1))), none⟩,
      ⟨some 8, .mv (.t 108), none⟩] false)))))))))
    (.region [⟨some 60, .mv (.t 5), none⟩,
      ⟨some 61, .bin false .add (.t 60) (.c (.d (.int .i64 1))), none⟩,
      ⟨some 5, .mv (.t 61), none⟩] false))))))
    (.seq (.region [⟨some 153, .fa 5 (.t 2), none⟩,
      ⟨some 154, .ldc false 1 (.t 153), none⟩,
      ⟨some 155, .fa 5 (.t 3), none⟩,
      ⟨some 156, .ldc false 1 (.t 155), none⟩,
      ⟨some 157, .call 48 [.t 154, .t 156], none⟩,
      ⟨some 158, .mv (.t 157), none⟩,
      ⟨some 159, .fa 6 (.t 2), (some (158, true))⟩,
      ⟨some 160, .ldc false 1 (.t 159), (some (158, true))⟩,
      ⟨some 161, .fa 6 (.t 3), (some (158, true))⟩,
      ⟨some 162, .ldc false 1 (.t 161), (some (158, true))⟩,
      ⟨some 163, .call 49 [.t 160, .t 162], (some (158, true))⟩,
      ⟨some 164, .pick (.t 158) (.t 163) (.c (.d (.bool false))), none⟩,
      ⟨some 165, .mv (.t 164), none⟩,
      ⟨some 166, .fa 7 (.t 2), (some (165, true))⟩,
      ⟨some 167, .ldc false 1 (.t 166), (some (165, true))⟩,
      ⟨some 168, .fa 7 (.t 3), (some (165, true))⟩,
      ⟨some 169, .ldc false 1 (.t 168), (some (165, true))⟩,
      ⟨some 170, .call 50 [.t 167, .t 169], (some (165, true))⟩,
      ⟨some 171, .pick (.t 165) (.t 170) (.c (.d (.bool false))), none⟩,
      ⟨some 4, .mv (.t 171), none⟩] false)
    (.ret))))
theorem ok17 : FnOK Tryz.prog 17 rf17 := ⟨Tryz.f17, _, Tryz.func17, rfl, by kernel_rfl, rfl, by kernel_rfl, by kernel_rfl⟩
def rf20 : RFn where
  ntmps := 66
  mt := []
  results := [.tmp 4]
  body := .seq (.region [⟨some 2, .boxI (.t 0), none⟩,
      ⟨some 3, .boxI (.t 1), none⟩,
      ⟨some 4, .mv (.c (.d (.bool false))), none⟩] false)
    (.seq (.region [⟨some 5, .fa 0 (.t 2), none⟩,
      ⟨some 6, .ldc false 1 (.t 5), none⟩,
      ⟨some 7, .fa 0 (.t 3), none⟩,
      ⟨some 8, .ldc false 1 (.t 7), none⟩,
      ⟨some 9, .bin false .eql (.t 6) (.t 8), none⟩,
      ⟨some 10, .mv (.t 9), none⟩,
      ⟨some 11, .fa 1 (.t 2), (some (10, true))⟩,
      ⟨some 12, .ldc false 1 (.t 11), (some (10, true))⟩,
      ⟨some 13, .fa 1 (.t 3), (some (10, true))⟩,
      ⟨some 14, .ldc false 1 (.t 13), (some (10, true))⟩,
      ⟨some 15, .call 54 [.t 12, .t 14], (some (10, true))⟩,
      ⟨some 16, .pick (.t 10) (.t 15) (.c (.d (.bool false))), none⟩,
      ⟨some 17, .mv (.t 16), none⟩,
      ⟨some 18, .fa 2 (.t 2), (some (17, true))⟩,
      ⟨some 19, .ldc false 1 (.t 18), (some (17, true))⟩,
      ⟨some 20, .fa 2 (.t 3), (some (17, true))⟩,
      ⟨some 21, .ldc false 1 (.t 20), (some (17, true))⟩,
      ⟨some 22, .call 54 [.t 19, .t 21], (some (17, true))⟩,
      ⟨some 23, .pick (.t 17) (.t 22) (.c (.d (.bool false))), none⟩,
      ⟨some 24, .mv (.t 23), none⟩,
      ⟨some 25, .fa 3 (.t 2), (some (24, true))⟩,
      ⟨some 26, .ldc false 1 (.t 25), (some (24, true))⟩,
      ⟨some 27, .fa 3 (.t 3), (some (24, true))⟩,
      ⟨some 28, .ldc false 1 (.t 27), (some (24, true))⟩,
      ⟨some 29, .call 54 [.t 26, .t 28], (some (24, true))⟩,
      ⟨some 30, .pick (.t 24) (.t 29) (.c (.d (.bool false))), none⟩,
      ⟨some 31, .mv (.t 30), none⟩,
      ⟨some 32, .fa 4 (.t 2), (some (31, true))⟩,
      ⟨some 33, .ldc false 1 (.t 32), (some (31, true))⟩,
      ⟨some 34, .fa 4 (.t 3), (some (31, true))⟩,
      ⟨some 35, .ldc false 1 (.t 34), (some (31, true))⟩,
      ⟨some 36, .call 55 [.t 33, .t 35, .c (.clo 56 [] [])], (some (31, true))⟩,
      ⟨some 37, .pick (.t 31) (.t 36) (.c (.d (.bool false))), none⟩,
      ⟨some 38, .mv (.t 37), none⟩,
      ⟨some 39, .fa 5 (.t 2), (some (38, true))⟩,
      ⟨some 40, .ldc false 1 (.t 39), (some (38, true))⟩,
      ⟨some 41, .fa 5 (.t 3), (some (38, true))⟩,
      ⟨some 42, .ldc false 1 (.t 41), (some (38, true))⟩,
      ⟨some 43, .call 57 [.t 40, .t 42, .c (.clo 58 [] [])], (some (38, true))⟩,
      ⟨some 44, .pick (.t 38) (.t 43) (.c (.d (.bool false))), none⟩,
      ⟨some 45, .mv (.t 44), none⟩,
      ⟨some 46, .fa 6 (.t 2), (some (45, true))⟩,
      ⟨some 47, .ldc false 1 (.t 46), (some (45, true))⟩,
      ⟨some 48, .fa 6 (.t 3), (some (45, true))⟩,
      ⟨some 49, .ldc false 1 (.t 48), (some (45, true))⟩,
      ⟨some 50, .call 59 [.t 47, .t 49, .c (.clo 60 [] [])], (some (45, true))⟩,
      ⟨some 51, .pick (.t 45) (.t 50) (.c (.d (.bool false))), none⟩,
      ⟨some 52, .mv (.t 51), none⟩,
      ⟨some 53, .fa 7 (.t 2), (some (52, true))⟩,
      ⟨some 54, .ldc false 1 (.t 53), (some (52, true))⟩,
      ⟨some 55, .fa 7 (.t 3), (some (52, true))⟩,
      ⟨some 56, .ldc false 1 (.t 55), (some (52, true))⟩,
      ⟨some 57, .call 61 [.t 54, .t 56, .c (.clo 62 [] [])], (some (52, true))⟩,
      ⟨some 58, .pick (.t 52) (.t 57) (.c (.d (.bool false))), none⟩,
      ⟨some 59, .mv (.t 58), none⟩,
      ⟨some 60, .fa 8 (.t 2), (some (59, true))⟩,
      ⟨some 61, .ldc false 1 (.t 60), (some (59, true))⟩,
      ⟨some 62, .fa 8 (.t 3), (some (59, true))⟩,
      ⟨some 63, .ldc false 1 (.t 62), (some (59, true))⟩,
      ⟨some 64, .call 54 [.t 61, .t 63], (some (59, true))⟩,
      ⟨some 65, .pick (.t 59) (.t 64) (.c (.d (.bool false))), none⟩,
      ⟨some 4, .mv (.t 65), none⟩] false)
    (.ret))
theorem ok20 : FnOK Tryz.prog 20 rf20 := ⟨Tryz.f20, _, Tryz.func20, rfl, by kernel_rfl, rfl, by kernel_rfl, by kernel_rfl⟩
def rf21 : RFn where
  ntmps := 38
  mt := []
  results := [.tmp 4]
  body := .seq (.region [⟨some 2, .boxI (.t 0), none⟩,
      ⟨some 3, .boxI (.t 1), none⟩,
      ⟨some 4, .mv (.c (.d (.bool false))), none⟩] false)
    (.seq (.region [⟨some 5, .fa 0 (.t 2), none⟩,
      ⟨some 6, .ldc false 1 (.t 5), none⟩,
      ⟨some 7, .fa 0 (.t 3), none⟩,
      ⟨some 8, .ldc false 1 (.t 7), none⟩,
      ⟨some 9, .bin false .eql (.t 6) (.t 8), none⟩,
      ⟨some 10, .mv (.t 9), none⟩,
      ⟨some 11, .fa 1 (.t 2), (some (10, true))⟩,
      ⟨some 12, .ldc false 1 (.t 11), (some (10, true))⟩,
      ⟨some 13, .fa 1 (.t 3), (some (10, true))⟩,
      ⟨some 14, .ldc false 1 (.t 13), (some (10, true))⟩,
      ⟨some 15, .bin false .eql (.t 12) (.t 14), (some (10, true))⟩,
      ⟨some 16, .pick (.t 10) (.t 15) (.c (.d (.bool false))), none⟩,
      ⟨some 17, .mv (.t 16), none⟩,
      ⟨some 18, .fa 2 (.t 2), (some (17, true))⟩,
      ⟨some 19, .ldc false 1 (.t 18), (some (17, true))⟩,
      ⟨some 20, .fa 2 (.t 3), (some (17, true))⟩,
      ⟨some 21, .ldc false 1 (.t 20), (some (17, true))⟩,
      ⟨some 22, .bin false .eql (.t 19) (.t 21), (some (17, true))⟩,
      ⟨some 23, .pick (.t 17) (.t 22) (.c (.d (.bool false))), none⟩,
      ⟨some 24, .mv (.t 23), none⟩,
      ⟨some 25, .fa 3 (.t 2), (some (24, true))⟩,
      ⟨some 26, .ldc false 1 (.t 25), (some (24, true))⟩,
      ⟨some 27, .fa 3 (.t 3), (some (24, true))⟩,
      ⟨some 28, .ldc false 1 (.t 27), (some (24, true))⟩,
      ⟨some 29, .bin false .eql (.t 26) (.t 28), (some (24, true))⟩,
      ⟨some 30, .pick (.t 24) (.t 29) (.c (.d (.bool false))), none⟩,
      ⟨some 31, .mv (.t 30), none⟩,
      ⟨some 32, .fa 4 (.t 2), (some (31, true))⟩,
      ⟨some 33, .ldc false 1 (.t 32), (some (31, true))⟩,
      ⟨some 34, .fa 4 (.t 3), (some (31, true))⟩,
      ⟨some 35, .ldc false 1 (.t 34), (some (31, true))⟩,
      ⟨some 36, .call 63 [.t 33, .t 35, .c (.clo 21 [] [])], (some (31, true))⟩,
      ⟨some 37, .pick (.t 31) (.t 36) (.c (.d (.bool false))), none⟩,
      ⟨some 4, .mv (.t 37), none⟩] false)
    (.ret))
theorem ok21 : FnOK Tryz.prog 21 rf21 := ⟨Tryz.f21, _, Tryz.func21, rfl, by kernel_rfl, rfl, by kernel_rfl, by kernel_rfl⟩
def rf22 : RFn where
  ntmps := 38
  mt := []
  results := [.tmp 4]
  body := .seq (.region [⟨some 2, .boxI (.t 0), none⟩,
      ⟨some 3, .boxI (.t 1), none⟩,
      ⟨some 4, .mv (.c (.d (.bool false))), none⟩] false)
    (.seq (.region [⟨some 5, .fa 0 (.t 2), none⟩,
      ⟨some 6, .ldc false 1 (.t 5), none⟩,
      ⟨some 7, .fa 0 (.t 3), none⟩,
      ⟨some 8, .ldc false 1 (.t 7), none⟩,
      ⟨some 9, .bin false .eql (.t 6) (.t 8), none⟩,
      ⟨some 10, .mv (.t 9), none⟩,
      ⟨some 11, .fa 1 (.t 2), (some (10, true))⟩,
      ⟨some 12, .ldc false 1 (.t 11), (some (10, true))⟩,
      ⟨some 13, .fa 1 (.t 3), (some (10, true))⟩,
      ⟨some 14, .ldc false 1 (.t 13), (some (10, true))⟩,
      ⟨some 15, .bin false .eql (.t 12) (.t 14), (some (10, true))⟩,
      ⟨some 16, .pick (.t 10) (.t 15) (.c (.d (.bool false))), none⟩,
      ⟨some 17, .mv (.t 16), none⟩,
      ⟨some 18, .fa 2 (.t 2), (some (17, true))⟩,
      ⟨some 19, .ldc false 1 (.t 18), (some (17, true))⟩,
      ⟨some 20, .fa 2 (.t 3), (some (17, true))⟩,
      ⟨some 21, .ldc false 1 (.t 20), (some (17, true))⟩,
      ⟨some 22, .bin false .eql (.t 19) (.t 21), (some (17, true))⟩,
      ⟨some 23, .pick (.t 17) (.t 22) (.c (.d (.bool false))), none⟩,
      ⟨some 24, .mv (.t 23), none⟩,
      ⟨some 25, .fa 3 (.t 2), (some (24, true))⟩,
      ⟨some 26, .ldc false 1 (.t 25), (some (24, true))⟩,
      ⟨some 27, .fa 3 (.t 3), (some (24, true))⟩,
      ⟨some 28, .ldc false 1 (.t 27), (some (24, true))⟩,
      ⟨some 29, .bin false .eql (.t 26) (.t 28), (some (24, true))⟩,
      ⟨some 30, .pick (.t 24) (.t 29) (.c (.d (.bool false))), none⟩,
      ⟨some 31, .mv (.t 30), none⟩,
      ⟨some 32, .fa 4 (.t 2), (some (31, true))⟩,
      ⟨some 33, .ldc false 1 (.t 32), (some (31, true))⟩,
      ⟨some 34, .fa 4 (.t 3), (some (31, true))⟩,
      ⟨some 35, .ldc false 1 (.t 34), (some (31, true))⟩,
      ⟨some 36, .call 64 [.t 33, .t 35], (some (31, true))⟩,
      ⟨some 37, .pick (.t 31) (.t 36) (.c (.d (.bool false))), none⟩,
      ⟨some 4, .mv (.t 37), none⟩] false)
    (.ret))
theorem ok22 : FnOK Tryz.prog 22 rf22 := ⟨Tryz.f22, _, Tryz.func22, rfl, by kernel_rfl, rfl, by kernel_rfl, by kernel_rfl⟩
def rf23 : RFn where
  ntmps := 15
  mt := []
  results := [.tmp 4]
  body := .seq (.region [⟨some 2, .boxI (.t 0), none⟩,
      ⟨some 4, .mv (.c (.d (.bool false))), none⟩] false)
    (.seq (.region [⟨some 5, .mv (.t 1), none⟩,
      ⟨some 6, .call 65 [.t 5], none⟩,
      ⟨some 7, .bin false .eql (.t 6) (.c (.d (.int .i64 0))), none⟩,
      ⟨some 8, .mv (.t 7), none⟩,
      ⟨some 9, .fa 0 (.t 2), (some (8, true))⟩,
      ⟨some 10, .ldc false 1 (.t 9), (some (8, true))⟩,
      ⟨some 11, .mv (.t 1), (some (8, true))⟩,
      ⟨some 12, .call 66 [.t 10, .t 11], (some (8, true))⟩,
      ⟨some 13, .not (.t 12), (some (8, true))⟩,
      ⟨some 14, .pick (.t 8) (.t 13) (.c (.d (.bool false))), none⟩,
      ⟨some 4, .mv (.t 14), none⟩] false)
    (.ret))
theorem ok23 : FnOK Tryz.prog 23 rf23 := ⟨Tryz.f23, _, Tryz.func23, rfl, by kernel_rfl, rfl, by kernel_rfl, by kernel_rfl⟩
def rf24 : RFn where
  ntmps := 33
  mt := []
  results := [.tmp 2]
  body := .seq (.region [⟨some 2, .mv (.c (.d (.bool false))), none⟩] false)
    (.seq (.seq (.region [⟨some 9, .mv (.t 0), none⟩,
      ⟨some 10, .lenR 22 24 (.t 9), none⟩,
      ⟨some 11, .mv (.c (.d (.int .i64 0))), none⟩] false)
    (.block 0 (.loop (.seq (.region [⟨some 12, .bin false .lss (.t 11) (.t 10), none⟩] false)
    (.seq (.cond (.t 12) (.skip)
    (.exit 0))
    (.seq (.block 1 (.seq (.region [⟨some 13, .ia 22 1 (.t 9) (.t 11), none⟩,
      ⟨some 14, .ldc false 1 (.t 13), none⟩,
      ⟨some 4, .mv (.t 14), none⟩] false)
    (.seq (.seq (.region [⟨some 15, .mv (.t 4), none⟩,
      ⟨some 16, .call 67 [.t 15], none⟩,
      ⟨some 17, .not (.t 16), none⟩] false)
    (.cond (.t 17) (.seq (.region [⟨some 2, .mv (.c (.d (.bool false))), none⟩] false)
    (.ret))
    (.skip)))
    (.seq (.region [⟨some 18, .mv (.t 4), none⟩,
      ⟨some 19, .lenR 9 16 (.t 18), none⟩,
      ⟨some 20, .mv (.c (.d (.int .i64 0))), none⟩] false)
    (.block 2 (.loop (.seq (.region [⟨some 21, .bin false .lss (.t 20) (.t 19), none⟩] false)
    (.seq (.cond (.t 21) (.skip)
    (.exit 2))
    (.seq (.block 3 (.seq (.region [⟨some 22, .ia 9 1 (.t 18) (.t 20), none⟩,
      ⟨some 23, .ldc false 1 (.t 22), none⟩,
      ⟨some 6, .mv (.t 23), none⟩] false)
    (.seq (.region [⟨some 25, .mv (.t 6), none⟩,
      ⟨some 26, .call 68 [.c (.d (.int .i64 0)), .t 25], none⟩,
      ⟨some 24, .mv (.t 26), none⟩,
      ⟨some 27, .ext 0 (.t 24), none⟩,
      ⟨some 28, .ext 1 (.t 24), none⟩,
      ⟨some 7, .mv (.t 27), none⟩,
      ⟨some 8, .mv (.t 28), none⟩] false)
    (.seq (.region [⟨some 29, .mv (.t 8), none⟩,
      ⟨some 30, .bin false .neq (.t 29) (.c (.d (.int .i64 0))), none⟩] false)
    (.cond (.t 30) (.seq (.region [⟨some 2, .mv (.c (.d (.bool false))), none⟩] false)
    (.ret))
    (.skip))))))
    (.region [⟨some 31, .bin false .add (.t 20) (.c (.d (.int .i64 1))), none⟩,
      ⟨some 20, .mv (.t 31), none⟩] false))))))))))
    (.region [⟨some 32, .bin false .add (.t 11) (.c (.d (.int .i64 1))), none⟩,
      ⟨some 11, .mv (.t 32), none⟩] false)))))))
    (.seq (.region [⟨some 2, .mv (.c (.d (.bool true))), none⟩] false)
    (.ret)))
theorem ok24 : FnOK Tryz.prog 24 rf24 := ⟨Tryz.f24, _, Tryz.func24, rfl, by kernel_rfl, rfl, by kernel_rfl, by kernel_rfl⟩
def rf25 : RFn where
  ntmps := 6
  mt := []
  results := [.tmp 2]
  body := .seq (.region [⟨some 2, .mv (.c (.d (.bool false))), none⟩] false)
    (.seq (.region [⟨some 3, .mv (.t 0), none⟩,
      ⟨some 4, .lenR 59 112 (.t 3), none⟩,
      ⟨some 5, .bin false .leq (.t 4) (.c (.d (.int .i64 512))), none⟩,
      ⟨some 2, .mv (.t 5), none⟩] false)
    (.ret))
theorem ok25 : FnOK Tryz.prog 25 rf25 := ⟨Tryz.f25, _, Tryz.func25, rfl, by kernel_rfl, rfl, by kernel_rfl, by kernel_rfl⟩
def rf26 : RFn where
  ntmps := 9
  mt := []
  results := [.tmp 4]
  body := .seq (.region [⟨some 4, .mv (.c (.d (.bool false))), none⟩] false)
    (.seq (.region [⟨some 5, .mv (.t 0), none⟩,
      ⟨some 6, .mv (.t 1), none⟩,
      ⟨some 7, .call 69 [.t 5, .t 6], none⟩,
      ⟨some 8, .bin false .geq (.t 7) (.c (.d (.int .i64 0))), none⟩,
      ⟨some 4, .mv (.t 8), none⟩] false)
    (.ret))
theorem ok26 : FnOK Tryz.prog 26 rf26 := ⟨Tryz.f26, _, Tryz.func26, rfl, by kernel_rfl, rfl, by kernel_rfl, by kernel_rfl⟩
def rf27 : RFn where
  ntmps := 8
  mt := [4]
  results := [.tmp 3]
  body := .seq (.region [⟨some 2, .boxI (.t 0), none⟩,
      ⟨some 3, .mv (.c (.d (.bool false))), none⟩] false)
    (.seq (.region [⟨some 4, .ld true 1 (.t 1), none⟩,
      ⟨some 5, .ldc true 5 (.t 2), none⟩,
      ⟨some 6, .call 28 [.t 4, .t 5], none⟩,
      ⟨some 7, .not (.t 6), none⟩,
      ⟨some 3, .mv (.t 7), none⟩] false)
    (.ret))
theorem ok27 : FnOK Tryz.prog 27 rf27 := ⟨Tryz.f27, _, Tryz.func27, rfl, by kernel_rfl, rfl, by kernel_rfl, by kernel_rfl⟩
def rf28 : RFn where
  ntmps := 39
  mt := [2, 16]
  results := [.tmp 4]
  body := .seq (.region [⟨some 2, .boxM 51 (.t 0), none⟩,
      ⟨some 3, .boxI (.t 1), none⟩,
      ⟨some 4, .mv (.c (.d (.bool false))), none⟩] false)
    (.seq (.region [⟨some 5, .fa 0 (.t 3), none⟩,
      ⟨some 6, .fa 0 (.t 5), none⟩,
      ⟨some 7, .ldc false 1 (.t 6), none⟩,
      ⟨some 8, .fa 0 (.t 3), none⟩,
      ⟨some 9, .fa 1 (.t 8), none⟩,
      ⟨some 10, .ldc false 1 (.t 9), none⟩,
      ⟨some 11, .fa 4 (.t 3), none⟩,
      ⟨some 12, .ldc false 1 (.t 11), none⟩,
      ⟨some 13, .lit 22 1 [.t 7, .t 10, .t 12], none⟩,
      ⟨some 14, .call 24 [.t 13], none⟩,
      ⟨some 15, .mv (.t 14), none⟩,
      ⟨some 16, .ld true 1 (.t 2), (some (15, true))⟩,
      ⟨some 17, .fa 2 (.t 3), (some (15, true))⟩,
      ⟨some 18, .ldc false 1 (.t 17), (some (15, true))⟩,
      ⟨some 19, .call 23 [.t 16, .t 18], (some (15, true))⟩,
      ⟨some 20, .pick (.t 15) (.t 19) (.c (.d (.bool false))), none⟩,
      ⟨some 21, .mv (.t 20), none⟩,
      ⟨some 22, .fa 3 (.t 3), (some (21, true))⟩,
      ⟨some 23, .ldc false 1 (.t 22), (some (21, true))⟩,
      ⟨some 24, .call 70 [.t 23], (some (21, true))⟩,
      ⟨some 25, .pick (.t 21) (.t 24) (.c (.d (.bool false))), none⟩,
      ⟨some 26, .mv (.t 25), none⟩,
      ⟨some 27, .fa 3 (.t 3), (some (26, true))⟩,
      ⟨some 28, .ldc false 1 (.t 27), (some (26, true))⟩,
      ⟨some 29, .lenR 69 72 (.t 28), (some (26, true))⟩,
      ⟨some 30, .bin false .gtr (.t 29) (.c (.d (.int .i64 0))), (some (26, true))⟩,
      ⟨some 31, .pick (.t 26) (.t 30) (.c (.d (.bool false))), none⟩,
      ⟨some 32, .mv (.t 31), none⟩,
      ⟨some 33, .fa 3 (.t 3), (some (32, true))⟩,
      ⟨some 34, .ldc false 1 (.t 33), (some (32, true))⟩,
      ⟨some 35, .mkf 72 [] [.t 2], (some (32, true))⟩,
      ⟨some 36, .call 71 [.t 34, .t 35], (some (32, true))⟩,
      ⟨some 37, .not (.t 36), (some (32, true))⟩,
      ⟨some 38, .pick (.t 32) (.t 37) (.c (.d (.bool false))), none⟩,
      ⟨some 4, .mv (.t 38), none⟩] false)
    (.ret))
theorem ok28 : FnOK Tryz.prog 28 rf28 := ⟨Tryz.f28, _, Tryz.func28, rfl, by kernel_rfl, rfl, by kernel_rfl, by kernel_rfl⟩
def rf29 : RFn where
  ntmps := 13
  mt := [2]
  results := [.tmp 4]
  body := .seq (.region [⟨some 2, .boxM 51 (.t 0), none⟩,
      ⟨some 4, .mv (.c (.d (.bool false))), none⟩] false)
    (.seq (.region [⟨some 5, .mv (.t 1), none⟩,
      ⟨some 6, .call 74 [.t 5], none⟩,
      ⟨some 7, .mv (.t 6), none⟩,
      ⟨some 8, .mv (.t 1), (some (7, true))⟩,
      ⟨some 9, .mkf 76 [] [.t 2], (some (7, true))⟩,
      ⟨some 10, .call 75 [.t 8, .t 9], (some (7, true))⟩,
      ⟨some 11, .not (.t 10), (some (7, true))⟩,
      ⟨some 12, .pick (.t 7) (.t 11) (.c (.d (.bool false))), none⟩,
      ⟨some 4, .mv (.t 12), none⟩] false)
    (.ret))
theorem ok29 : FnOK Tryz.prog 29 rf29 := ⟨Tryz.f29, _, Tryz.func29, rfl, by kernel_rfl, rfl, by kernel_rfl, by kernel_rfl⟩
def rf30 : RFn where
  ntmps := 19
  mt := [3, 5]
  results := [.tmp 6]
  body := .seq (.region [⟨some 3, .boxM 51 (.t 0), none⟩,
      ⟨some 5, .boxM 3 (.t 2), none⟩,
      ⟨some 6, .mv (.c (.d (.bool false))), none⟩] false)
    (.seq (.region [⟨some 7, .mv (.t 1), none⟩,
      ⟨some 8, .call 78 [.t 7], none⟩,
      ⟨some 9, .mv (.t 8), none⟩,
      ⟨some 10, .mv (.t 1), (some (9, true))⟩,
      ⟨some 11, .call 79 [.t 10], (some (9, true))⟩,
      ⟨some 12, .pick (.t 9) (.t 11) (.c (.d (.bool false))), none⟩,
      ⟨some 13, .mv (.t 12), none⟩,
      ⟨some 14, .mv (.t 1), (some (13, true))⟩,
      ⟨some 15, .mkf 81 [] [.t 5, .t 3], (some (13, true))⟩,
      ⟨some 16, .call 80 [.t 14, .t 15], (some (13, true))⟩,
      ⟨some 17, .not (.t 16), (some (13, true))⟩,
      ⟨some 18, .pick (.t 13) (.t 17) (.c (.d (.bool false))), none⟩,
      ⟨some 6, .mv (.t 18), none⟩] false)
    (.ret))
theorem ok30 : FnOK Tryz.prog 30 rf30 := ⟨Tryz.f30, _, Tryz.func30, rfl, by kernel_rfl, rfl, by kernel_rfl, by kernel_rfl⟩
def rf31 : RFn where
  ntmps := 15
  mt := [3, 5]
  results := [.tmp 6]
  body := .seq (.region [⟨some 3, .boxM 51 (.t 0), none⟩,
      ⟨some 5, .boxM 3 (.t 2), none⟩,
      ⟨some 6, .mv (.c (.d (.bool false))), none⟩] false)
    (.seq (.region [⟨some 7, .mv (.t 1), none⟩,
      ⟨some 8, .call 84 [.t 7], none⟩,
      ⟨some 9, .mv (.t 8), none⟩,
      ⟨some 10, .mv (.t 1), (some (9, true))⟩,
      ⟨some 11, .mkf 86 [] [.t 3, .t 5], (some (9, true))⟩,
      ⟨some 12, .call 85 [.t 10, .t 11], (some (9, true))⟩,
      ⟨some 13, .not (.t 12), (some (9, true))⟩,
      ⟨some 14, .pick (.t 9) (.t 13) (.c (.d (.bool false))), none⟩,
      ⟨some 6, .mv (.t 14), none⟩] false)
    (.ret))
theorem ok31 : FnOK Tryz.prog 31 rf31 := ⟨Tryz.f31, _, Tryz.func31, rfl, by kernel_rfl, rfl, by kernel_rfl, by kernel_rfl⟩
def rf32 : RFn where
  ntmps := 14
  mt := []
  results := [.tmp 4]
  body := .seq (.region [⟨some 4, .mv (.c (.d (.bool false))), none⟩] false)
    (.seq (.region [⟨some 5, .mv (.t 1), none⟩,
      ⟨some 6, .call 88 [.t 5], none⟩,
      ⟨some 7, .bin false .eql (.t 6) (.c (.d (.int .i64 0))), none⟩,
      ⟨some 8, .mv (.t 7), none⟩,
      ⟨some 9, .mv (.t 0), (some (8, true))⟩,
      ⟨some 10, .mv (.t 1), (some (8, true))⟩,
      ⟨some 11, .call 89 [.t 9, .t 10], (some (8, true))⟩,
      ⟨some 12, .not (.t 11), (some (8, true))⟩,
      ⟨some 13, .pick (.t 8) (.t 12) (.c (.d (.bool false))), none⟩,
      ⟨some 4, .mv (.t 13), none⟩] false)
    (.ret))
theorem ok32 : FnOK Tryz.prog 32 rf32 := ⟨Tryz.f32, _, Tryz.func32, rfl, by kernel_rfl, rfl, by kernel_rfl, by kernel_rfl⟩
def rf38 : RFn where
  ntmps := 16
  mt := [5, 9, 11]
  results := [.tmp 4]
  body := .seq (.region [⟨some 4, .mv (.c (.d (.str []))), none⟩] false)
    (.seq (.seq (.region [⟨some 5, .ld false 1 (.t 1), none⟩,
      ⟨some 6, .mv (.t 0), none⟩,
      ⟨some 7, .ef (.look (.d (.bool false)) false) [.t 5, .t 6], none⟩,
      ⟨some 8, .not (.t 7), none⟩] false)
    (.cond (.t 8) (.seq (.region [⟨some 9, .ld false 1 (.t 1), none⟩,
      ⟨some 10, .mv (.t 0), none⟩,
      ⟨none, .ef .mapUpd [.t 9, .t 10, .c (.d (.bool true))], none⟩] false)
    (.region [⟨some 11, .ld false 1 (.t 2), none⟩,
      ⟨some 12, .mv (.t 0), none⟩,
      ⟨some 13, .lit 9 1 [.t 12], none⟩,
      ⟨some 14, .app 9 1 16 (.t 11) (.t 13), none⟩,
      ⟨none, .st 1 (.t 2) (.t 14), none⟩] false))
    (.skip)))
    (.seq (.region [⟨some 15, .mv (.t 0), none⟩,
      ⟨some 4, .mv (.t 15), none⟩] false)
    (.ret)))
theorem ok38 : FnOK Tryz.prog 38 rf38 := ⟨Tryz.f38, _, Tryz.func38, rfl, by kernel_rfl, rfl, by kernel_rfl, by kernel_rfl⟩
def rf39 : RFn where
  ntmps := 51
  mt := [2, 3, 4, 5, 7, 11, 14, 17, 20, 27, 28, 33, 34, 39, 40, 45, 46, 50]
  results := [.cell true 9 4]
  body := .seq (.region [⟨some 2, .boxM 76 (.t 0), none⟩,
      ⟨some 3, .boxM 28 (.t 1), none⟩,
      ⟨some 4, .alloc 28 [.d (.str []), .nil 9, .nil 9, .nil 9, .nil 59, .nil 98, .nil 103, .nil 107, .nil 9], none⟩] false)
    (.seq (.region [⟨some 5, .ld true 1 (.t 2), none⟩,
      ⟨some 6, .fa 0 (.t 3), none⟩,
      ⟨some 7, .ld false 1 (.t 6), none⟩,
      ⟨some 8, .call 95 [.t 5, .t 7], none⟩,
      ⟨some 9, .fa 0 (.t 3), none⟩,
      ⟨none, .st 1 (.t 9) (.t 8), none⟩] false)
    (.seq (.regions [[⟨some 10, .fa 1 (.t 3), none⟩,
      ⟨some 11, .ld false 1 (.t 10), none⟩,
      ⟨some 13, .fa 2 (.t 3), none⟩,
      ⟨some 16, .fa 3 (.t 3), none⟩,
      ⟨some 19, .fa 8 (.t 3), none⟩,
      ⟨some 22, .fa 1 (.t 3), none⟩,
      ⟨some 23, .fa 2 (.t 3), none⟩,
      ⟨some 24, .fa 3 (.t 3), none⟩,
      ⟨some 25, .fa 8 (.t 3), none⟩,
      ⟨some 12, .call 96 [.t 11], none⟩,
      ⟨some 14, .ld false 1 (.t 13), none⟩,
      ⟨some 15, .call 96 [.t 14], none⟩,
      ⟨some 17, .ld false 1 (.t 16), none⟩,
      ⟨some 18, .call 96 [.t 17], none⟩,
      ⟨some 20, .ld false 1 (.t 19), none⟩,
      ⟨some 21, .call 96 [.t 20], none⟩,
      ⟨none, .st 1 (.t 22) (.t 12), none⟩,
      ⟨none, .st 1 (.t 23) (.t 15), none⟩,
      ⟨none, .st 1 (.t 24) (.t 18), none⟩,
      ⟨none, .st 1 (.t 25) (.t 21), none⟩],
     [⟨some 10, .fa 1 (.t 3), none⟩,
      ⟨some 11, .ld false 1 (.t 10), none⟩,
      ⟨some 13, .fa 2 (.t 3), none⟩,
      ⟨some 16, .fa 3 (.t 3), none⟩,
      ⟨some 19, .fa 8 (.t 3), none⟩,
      ⟨some 22, .fa 1 (.t 3), none⟩,
      ⟨some 23, .fa 2 (.t 3), none⟩,
      ⟨some 24, .fa 3 (.t 3), none⟩,
      ⟨some 25, .fa 8 (.t 3), none⟩,
      ⟨some 12, .call 96 [.t 11], none⟩,
      ⟨some 14, .ld false 1 (.t 13), none⟩,
      ⟨some 15, .call 96 [.t 14], none⟩,
      ⟨some 17, .ld false 1 (.t 16), none⟩,
      ⟨some 20, .ld false 1 (.t 19), none⟩,
      ⟨some 18, .call 96 [.t 17], none⟩,
      ⟨some 21, .call 96 [.t 20], none⟩,
      ⟨none, .st 1 (.t 22) (.t 12), none⟩,
      ⟨none, .st 1 (.t 23) (.t 15), none⟩,
      ⟨none, .st 1 (.t 24) (.t 18), none⟩,
      ⟨none, .st 1 (.t 25) (.t 21), none⟩],
     [⟨some 10, .fa 1 (.t 3), none⟩,
      ⟨some 11, .ld false 1 (.t 10), none⟩,
      ⟨some 13, .fa 2 (.t 3), none⟩,
      ⟨some 16, .fa 3 (.t 3), none⟩,
      ⟨some 19, .fa 8 (.t 3), none⟩,
      ⟨some 22, .fa 1 (.t 3), none⟩,
      ⟨some 23, .fa 2 (.t 3), none⟩,
      ⟨some 24, .fa 3 (.t 3), none⟩,
      ⟨some 25, .fa 8 (.t 3), none⟩,
      ⟨some 12, .call 96 [.t 11], none⟩,
      ⟨some 14, .ld false 1 (.t 13), none⟩,
      ⟨some 17, .ld false 1 (.t 16), none⟩,
      ⟨some 15, .call 96 [.t 14], none⟩,
      ⟨some 18, .call 96 [.t 17], none⟩,
      ⟨some 20, .ld false 1 (.t 19), none⟩,
      ⟨some 21, .call 96 [.t 20], none⟩,
      ⟨none, .st 1 (.t 22) (.t 12), none⟩,
      ⟨none, .st 1 (.t 23) (.t 15), none⟩,
      ⟨none, .st 1 (.t 24) (.t 18), none⟩,
      ⟨none, .st 1 (.t 25) (.t 21), none⟩],
     [⟨some 10, .fa 1 (.t 3), none⟩,
      ⟨some 11, .ld false 1 (.t 10), none⟩,
      ⟨some 13, .fa 2 (.t 3), none⟩,
      ⟨some 16, .fa 3 (.t 3), none⟩,
      ⟨some 19, .fa 8 (.t 3), none⟩,
      ⟨some 22, .fa 1 (.t 3), none⟩,
      ⟨some 23, .fa 2 (.t 3), none⟩,
      ⟨some 24, .fa 3 (.t 3), none⟩,
      ⟨some 25, .fa 8 (.t 3), none⟩,
      ⟨some 12, .call 96 [.t 11], none⟩,
      ⟨some 14, .ld false 1 (.t 13), none⟩,
      ⟨some 17, .ld false 1 (.t 16), none⟩,
      ⟨some 15, .call 96 [.t 14], none⟩,
      ⟨some 20, .ld false 1 (.t 19), none⟩,
      ⟨some 18, .call 96 [.t 17], none⟩,
      ⟨some 21, .call 96 [.t 20], none⟩,
      ⟨none, .st 1 (.t 22) (.t 12), none⟩,
      ⟨none, .st 1 (.t 23) (.t 15), none⟩,
      ⟨none, .st 1 (.t 24) (.t 18), none⟩,
      ⟨none, .st 1 (.t 25) (.t 21), none⟩],
     [⟨some 10, .fa 1 (.t 3), none⟩,
      ⟨some 11, .ld false 1 (.t 10), none⟩,
      ⟨some 13, .fa 2 (.t 3), none⟩,
      ⟨some 16, .fa 3 (.t 3), none⟩,
      ⟨some 19, .fa 8 (.t 3), none⟩,
      ⟨some 22, .fa 1 (.t 3), none⟩,
      ⟨some 23, .fa 2 (.t 3), none⟩,
      ⟨some 24, .fa 3 (.t 3), none⟩,
      ⟨some 25, .fa 8 (.t 3), none⟩,
      ⟨some 12, .call 96 [.t 11], none⟩,
      ⟨some 14, .ld false 1 (.t 13), none⟩,
      ⟨some 17, .ld false 1 (.t 16), none⟩,
      ⟨some 20, .ld false 1 (.t 19), none⟩,
      ⟨some 15, .call 96 [.t 14], none⟩,
      ⟨some 18, .call 96 [.t 17], none⟩,
      ⟨some 21, .call 96 [.t 20], none⟩,
      ⟨none, .st 1 (.t 22) (.t 12), none⟩,
      ⟨none, .st 1 (.t 23) (.t 15), none⟩,
      ⟨none, .st 1 (.t 24) (.t 18), none⟩,
      ⟨none, .st 1 (.t 25) (.t 21), none⟩],
     [⟨some 10, .fa 1 (.t 3), none⟩,
      ⟨some 11, .ld false 1 (.t 10), none⟩,
      ⟨some 13, .fa 2 (.t 3), none⟩,
      ⟨some 16, .fa 3 (.t 3), none⟩,
      ⟨some 19, .fa 8 (.t 3), none⟩,
      ⟨some 22, .fa 1 (.t 3), none⟩,
      ⟨some 23, .fa 2 (.t 3), none⟩,
      ⟨some 24, .fa 3 (.t 3), none⟩,
      ⟨some 25, .fa 8 (.t 3), none⟩,
      ⟨some 12, .call 96 [.t 11], none⟩,
      ⟨some 14, .ld false 1 (.t 13), none⟩,
      ⟨some 20, .ld false 1 (.t 19), none⟩,
      ⟨some 15, .call 96 [.t 14], none⟩,
      ⟨some 17, .ld false 1 (.t 16), none⟩,
      ⟨some 18, .call 96 [.t 17], none⟩,
      ⟨some 21, .call 96 [.t 20], none⟩,
      ⟨none, .st 1 (.t 22) (.t 12), none⟩,
      ⟨none, .st 1 (.t 23) (.t 15), none⟩,
      ⟨none, .st 1 (.t 24) (.t 18), none⟩,
      ⟨none, .st 1 (.t 25) (.t 21), none⟩],
     [⟨some 10, .fa 1 (.t 3), none⟩,
      ⟨some 11, .ld false 1 (.t 10), none⟩,
      ⟨some 13, .fa 2 (.t 3), none⟩,
      ⟨some 16, .fa 3 (.t 3), none⟩,
      ⟨some 19, .fa 8 (.t 3), none⟩,
      ⟨some 22, .fa 1 (.t 3), none⟩,
      ⟨some 23, .fa 2 (.t 3), none⟩,
      ⟨some 24, .fa 3 (.t 3), none⟩,
      ⟨some 25, .fa 8 (.t 3), none⟩,
      ⟨some 12, .call 96 [.t 11], none⟩,
      ⟨some 14, .ld false 1 (.t 13), none⟩,
      ⟨some 20, .ld false 1 (.t 19), none⟩,
      ⟨some 17, .ld false 1 (.t 16), none⟩,
      ⟨some 15, .call 96 [.t 14], none⟩,
      ⟨some 18, .call 96 [.t 17], none⟩,
      ⟨some 21, .call 96 [.t 20], none⟩,
      ⟨none, .st 1 (.t 22) (.t 12), none⟩,
      ⟨none, .st 1 (.t 23) (.t 15), none⟩,
      ⟨none, .st 1 (.t 24) (.t 18), none⟩,
      ⟨none, .st 1 (.t 25) (.t 21), none⟩],
     [⟨some 10, .fa 1 (.t 3), none⟩,
      ⟨some 11, .ld false 1 (.t 10), none⟩,
      ⟨some 13, .fa 2 (.t 3), none⟩,
      ⟨some 16, .fa 3 (.t 3), none⟩,
      ⟨some 19, .fa 8 (.t 3), none⟩,
      ⟨some 22, .fa 1 (.t 3), none⟩,
      ⟨some 23, .fa 2 (.t 3), none⟩,
      ⟨some 24, .fa 3 (.t 3), none⟩,
      ⟨some 25, .fa 8 (.t 3), none⟩,
      ⟨some 14, .ld false 1 (.t 13), none⟩,
      ⟨some 12, .call 96 [.t 11], none⟩,
      ⟨some 15, .call 96 [.t 14], none⟩,
      ⟨some 17, .ld false 1 (.t 16), none⟩,
      ⟨some 18, .call 96 [.t 17], none⟩,
      ⟨some 20, .ld false 1 (.t 19), none⟩,
      ⟨some 21, .call 96 [.t 20], none⟩,
      ⟨none, .st 1 (.t 22) (.t 12), none⟩,
      ⟨none, .st 1 (.t 23) (.t 15), none⟩,
      ⟨none, .st 1 (.t 24) (.t 18), none⟩,
      ⟨none, .st 1 (.t 25) (.t 21), none⟩],
     [⟨some 10, .fa 1 (.t 3), none⟩,
      ⟨some 11, .ld false 1 (.t 10), none⟩,
      ⟨some 13, .fa 2 (.t 3), none⟩,
      ⟨some 16, .fa 3 (.t 3), none⟩,
      ⟨some 19, .fa 8 (.t 3), none⟩,
      ⟨some 22, .fa 1 (.t 3), none⟩,
      ⟨some 23, .fa 2 (.t 3), none⟩,
      ⟨some 24, .fa 3 (.t 3), none⟩,
      ⟨some 25, .fa 8 (.t 3), none⟩,
      ⟨some 14, .ld false 1 (.t 13), none⟩,
      ⟨some 12, .call 96 [.t 11], none⟩,
      ⟨some 15, .call 96 [.t 14], none⟩,
      ⟨some 17, .ld false 1 (.t 16), none⟩,
      ⟨some 20, .ld false 1 (.t 19), none⟩,
      ⟨some 18, .call 96 [.t 17], none⟩,
      ⟨some 21, .call 96 [.t 20], none⟩,
      ⟨none, .st 1 (.t 22) (.t 12), none⟩,
      ⟨none, .st 1 (.t 23) (.t 15), none⟩,
      ⟨none, .st 1 (.t 24) (.t 18), none⟩,
      ⟨none, .st 1 (.t 25) (.t 21), none⟩],
     [⟨some 10, .fa 1 (.t 3), none⟩,
      ⟨some 11, .ld false 1 (.t 10), none⟩,
      ⟨some 13, .fa 2 (.t 3), none⟩,
      ⟨some 16, .fa 3 (.t 3), none⟩,
      ⟨some 19, .fa 8 (.t 3), none⟩,
      ⟨some 22, .fa 1 (.t 3), none⟩,
      ⟨some 23, .fa 2 (.t 3), none⟩,
      ⟨some 24, .fa 3 (.t 3), none⟩,
      ⟨some 25, .fa 8 (.t 3), none⟩,
      ⟨some 14, .ld false 1 (.t 13), none⟩,
      ⟨some 12, .call 96 [.t 11], none⟩,
      ⟨some 17, .ld false 1 (.t 16), none⟩,
      ⟨some 15, .call 96 [.t 14], none⟩,
      ⟨some 18, .call 96 [.t 17], none⟩,
      ⟨some 20, .ld false 1 (.t 19), none⟩,
      ⟨some 21, .call 96 [.t 20], none⟩,
      ⟨none, .st 1 (.t 22) (.t 12), none⟩,
      ⟨none, .st 1 (.t 23) (.t 15), none⟩,
      ⟨none, .st 1 (.t 24) (.t 18), none⟩,
      ⟨none, .st 1 (.t 25) (.t 21), none⟩],
     [⟨some 10, .fa 1 (.t 3), none⟩,
      ⟨some 11, .ld false 1 (.t 10), none⟩,
      ⟨some 13, .fa 2 (.t 3), none⟩,
      ⟨some 16, .fa 3 (.t 3), none⟩,
      ⟨some 19, .fa 8 (.t 3), none⟩,
      ⟨some 22, .fa 1 (.t 3), none⟩,
      ⟨some 23, .fa 2 (.t 3), none⟩,
      ⟨some 24, .fa 3 (.t 3), none⟩,
      ⟨some 25, .fa 8 (.t 3), none⟩,
      ⟨some 14, .ld false 1 (.t 13), none⟩,
      ⟨some 12, .call 96 [.t 11], none⟩,
      ⟨some 17, .ld false 1 (.t 16), none⟩,
      ⟨some 15, .call 96 [.t 14], none⟩,
      ⟨some 20, .ld false 1 (.t 19), none⟩,
      ⟨some 18, .call 96 [.t 17], none⟩,
      ⟨some 21, .call 96 [.t 20], none⟩,
      ⟨none, .st 1 (.t 22) (.t 12), none⟩,
      ⟨none, .st 1 (.t 23) (.t 15), none⟩,
      ⟨none, .st 1 (.t 24) (.t 18), none⟩,
      ⟨none, .st 1 (.t 25) (.t 21), none⟩],
     [⟨some 10, .fa 1 (.t 3), none⟩,
      ⟨some 11, .ld false 1 (.t 10), none⟩,
      ⟨some 13, .fa 2 (.t 3), none⟩,
      ⟨some 16, .fa 3 (.t 3), none⟩,
      ⟨some 19, .fa 8 (.t 3), none⟩,
      ⟨some 22, .fa 1 (.t 3), none⟩,
      ⟨some 23, .fa 2 (.t 3), none⟩,
      ⟨some 24, .fa 3 (.t 3), none⟩,
      ⟨some 25, .fa 8 (.t 3), none⟩,
      ⟨some 14, .ld false 1 (.t 13), none⟩,
      ⟨some 12, .call 96 [.t 11], none⟩,
      ⟨some 17, .ld false 1 (.t 16), none⟩,
      ⟨some 20, .ld false 1 (.t 19), none⟩,
      ⟨some 15, .call 96 [.t 14], none⟩,
      ⟨some 18, .call 96 [.t 17], none⟩,
      ⟨some 21, .call 96 [.t 20], none⟩,
      ⟨none, .st 1 (.t 22) (.t 12), none⟩,
      ⟨none, .st 1 (.t 23) (.t 15), none⟩,
      ⟨none, .st 1 (.t 24) (.t 18), none⟩,
      ⟨none, .st 1 (.t 25) (.t 21), none⟩],
     [⟨some 10, .fa 1 (.t 3), none⟩,
      ⟨some 11, .ld false 1 (.t 10), none⟩,
      ⟨some 13, .fa 2 (.t 3), none⟩,
      ⟨some 16, .fa 3 (.t 3), none⟩,
      ⟨some 19, .fa 8 (.t 3), none⟩,
      ⟨some 22, .fa 1 (.t 3), none⟩,
      ⟨some 23, .fa 2 (.t 3), none⟩,
      ⟨some 24, .fa 3 (.t 3), none⟩,
      ⟨some 25, .fa 8 (.t 3), none⟩,
      ⟨some 14, .ld false 1 (.t 13), none⟩,
      ⟨some 12, .call 96 [.t 11], none⟩,
      ⟨some 20, .ld false 1 (.t 19), none⟩,
      ⟨some 15, .call 96 [.t 14], none⟩,
      ⟨some 17, .ld false 1 (.t 16), none⟩,
      ⟨some 18, .call 96 [.t 17], none⟩,
      ⟨some 21, .call 96 [.t 20], none⟩,
      ⟨none, .st 1 (.t 22) (.t 12), none⟩,
      ⟨none, .st 1 (.t 23) (.t 15), none⟩,
      ⟨none, .st 1 (.t 24) (.t 18), none⟩,
      ⟨none, .st 1 (.t 25) (.t 21), none⟩],
     [⟨some 10, .fa 1 (.t 3), none⟩,
      ⟨some 11, .ld false 1 (.t 10), none⟩,
      ⟨some 13, .fa 2 (.t 3), none⟩,
      ⟨some 16, .fa 3 (.t 3), none⟩,
      ⟨some 19, .fa 8 (.t 3), none⟩,
      ⟨some 22, .fa 1 (.t 3), none⟩,
      ⟨some 23, .fa 2 (.t 3), none⟩,
      ⟨some 24, .fa 3 (.t 3), none⟩,
      ⟨some 25, .fa 8 (.t 3), none⟩,
      ⟨some 14, .ld false 1 (.t 13), none⟩,
      ⟨some 12, .call 96 [.t 11], none⟩,
      ⟨some 20, .ld false 1 (.t 19), none⟩,
      ⟨some 17, .ld false 1 (.t 16), none⟩,
      ⟨some 15, .call 96 [.t 14], none⟩,
      ⟨some 18, .call 96 [.t 17], none⟩,
      ⟨some 21, .call 96 [.t 20], none⟩,
      ⟨none, .st 1 (.t 22) (.t 12), none⟩,
      ⟨none, .st 1 (.t 23) (.t 15), none⟩,
      ⟨none, .st 1 (.t 24) (.t 18), none⟩,
      ⟨none, .st 1 (.t 25) (.t 21), none⟩],
     [⟨some 10, .fa 1 (.t 3), none⟩,
      ⟨some 11, .ld false 1 (.t 10), none⟩,
      ⟨some 13, .fa 2 (.t 3), none⟩,
      ⟨some 16, .fa 3 (.t 3), none⟩,
      ⟨some 19, .fa 8 (.t 3), none⟩,
      ⟨some 22, .fa 1 (.t 3), none⟩,
      ⟨some 23, .fa 2 (.t 3), none⟩,
      ⟨some 24, .fa 3 (.t 3), none⟩,
      ⟨some 25, .fa 8 (.t 3), none⟩,
      ⟨some 14, .ld false 1 (.t 13), none⟩,
      ⟨some 17, .ld false 1 (.t 16), none⟩,
      ⟨some 12, .call 96 [.t 11], none⟩,
      ⟨some 15, .call 96 [.t 14], none⟩,
      ⟨some 18, .call 96 [.t 17], none⟩,
      ⟨some 20, .ld false 1 (.t 19), none⟩,
      ⟨some 21, .call 96 [.t 20], none⟩,
      ⟨none, .st 1 (.t 22) (.t 12), none⟩,
      ⟨none, .st 1 (.t 23) (.t 15), none⟩,
      ⟨none, .st 1 (.t 24) (.t 18), none⟩,
      ⟨none, .st 1 (.t 25) (.t 21), none⟩],
     [⟨some 10, .fa 1 (.t 3), none⟩,
      ⟨some 11, .ld false 1 (.t 10), none⟩,
      ⟨some 13, .fa 2 (.t 3), none⟩,
      ⟨some 16, .fa 3 (.t 3), none⟩,
      ⟨some 19, .fa 8 (.t 3), none⟩,
      ⟨some 22, .fa 1 (.t 3), none⟩,
      ⟨some 23, .fa 2 (.t 3), none⟩,
      ⟨some 24, .fa 3 (.t 3), none⟩,
      ⟨some 25, .fa 8 (.t 3), none⟩,
      ⟨some 14, .ld false 1 (.t 13), none⟩,
      ⟨some 17, .ld false 1 (.t 16), none⟩,
      ⟨some 12, .call 96 [.t 11], none⟩,
      ⟨some 15, .call 96 [.t 14], none⟩,
      ⟨some 20, .ld false 1 (.t 19), none⟩,
      ⟨some 18, .call 96 [.t 17], none⟩,
      ⟨some 21, .call 96 [.t 20], none⟩,
      ⟨none, .st 1 (.t 22) (.t 12), none⟩,
      ⟨none, .st 1 (.t 23) (.t 15), none⟩,
      ⟨none, .st 1 (.t 24) (.t 18), none⟩,
      ⟨none, .st 1 (.t 25) (.t 21), none⟩],
     [⟨some 10, .fa 1 (.t 3), none⟩,
      ⟨some 11, .ld false 1 (.t 10), none⟩,
      ⟨some 13, .fa 2 (.t 3), none⟩,
      ⟨some 16, .fa 3 (.t 3), none⟩,
      ⟨some 19, .fa 8 (.t 3), none⟩,
      ⟨some 22, .fa 1 (.t 3), none⟩,
      ⟨some 23, .fa 2 (.t 3), none⟩,
      ⟨some 24, .fa 3 (.t 3), none⟩,
      ⟨some 25, .fa 8 (.t 3), none⟩,
      ⟨some 14, .ld false 1 (.t 13), none⟩,
      ⟨some 17, .ld false 1 (.t 16), none⟩,
      ⟨some 12, .call 96 [.t 11], none⟩,
      ⟨some 20, .ld false 1 (.t 19), none⟩,
      ⟨some 15, .call 96 [.t 14], none⟩,
      ⟨some 18, .call 96 [.t 17], none⟩,
      ⟨some 21, .call 96 [.t 20], none⟩,
      ⟨none, .st 1 (.t 22) (.t 12), none⟩,
      ⟨none, .st 1 (.t 23) (.t 15), none⟩,
      ⟨none, .st 1 (.t 24) (.t 18), none⟩,
      ⟨none, .st 1 (.t 25) (.t 21), none⟩],
     [⟨some 10, .fa 1 (.t 3), none⟩,
      ⟨some 11, .ld false 1 (.t 10), none⟩,
      ⟨some 13, .fa 2 (.t 3), none⟩,
      ⟨some 16, .fa 3 (.t 3), none⟩,
      ⟨some 19, .fa 8 (.t 3), none⟩,
      ⟨some 22, .fa 1 (.t 3), none⟩,
      ⟨some 23, .fa 2 (.t 3), none⟩,
      ⟨some 24, .fa 3 (.t 3), none⟩,
      ⟨some 25, .fa 8 (.t 3), none⟩,
      ⟨some 14, .ld false 1 (.t 13), none⟩,
      ⟨some 17, .ld false 1 (.t 16), none⟩,
      ⟨some 20, .ld false 1 (.t 19), none⟩,
      ⟨some 12, .call 96 [.t 11], none⟩,
      ⟨some 15, .call 96 [.t 14], none⟩,
      ⟨some 18, .call 96 [.t 17], none⟩,
      ⟨some 21, .call 96 [.t 20], none⟩,
      ⟨none, .st 1 (.t 22) (.t 12), none⟩,
      ⟨none, .st 1 (.t 23) (.t 15), none⟩,
      ⟨none, .st 1 (.t 24) (.t 18), none⟩,
      ⟨none, .st 1 (.t 25) (.t 21), none⟩],
     [⟨some 10, .fa 1 (.t 3), none⟩,
      ⟨some 11, .ld false 1 (.t 10), none⟩,
      ⟨some 13, .fa 2 (.t 3), none⟩,
      ⟨some 16, .fa 3 (.t 3), none⟩,
      ⟨some 19, .fa 8 (.t 3), none⟩,
      ⟨some 22, .fa 1 (.t 3), none⟩,
      ⟨some 23, .fa 2 (.t 3), none⟩,
      ⟨some 24, .fa 3 (.t 3), none⟩,
      ⟨some 25, .fa 8 (.t 3), none⟩,
      ⟨some 14, .ld false 1 (.t 13), none⟩,
      ⟨some 20, .ld false 1 (.t 19), none⟩,
      ⟨some 12, .call 96 [.t 11], none⟩,
      ⟨some 15, .call 96 [.t 14], none⟩,
      ⟨some 17, .ld false 1 (.t 16), none⟩,
      ⟨some 18, .call 96 [.t 17], none⟩,
      ⟨some 21, .call 96 [.t 20], none⟩,
      ⟨none, .st 1 (.t 22) (.t 12), none⟩,
      ⟨none, .st 1 (.t 23) (.t 15), none⟩,
      ⟨none, .st 1 (.t 24) (.t 18), none⟩,
      ⟨none, .st 1 (.t 25) (.t 21), none⟩],
     [⟨some 10, .fa 1 (.t 3), none⟩,
      ⟨some 11, .ld false 1 (.t 10), none⟩,
      ⟨some 13, .fa 2 (.t 3), none⟩,
      ⟨some 16, .fa 3 (.t 3), none⟩,
      ⟨some 19, .fa 8 (.t 3), none⟩,
      ⟨some 22, .fa 1 (.t 3), none⟩,
      ⟨some 23, .fa 2 (.t 3), none⟩,
      ⟨some 24, .fa 3 (.t 3), none⟩,
      ⟨some 25, .fa 8 (.t 3), none⟩,
      ⟨some 14, .ld false 1 (.t 13), none⟩,
      ⟨some 20, .ld false 1 (.t 19), none⟩,
      ⟨some 12, .call 96 [.t 11], none⟩,
      ⟨some 17, .ld false 1 (.t 16), none⟩,
      ⟨some 15, .call 96 [.t 14], none⟩,
      ⟨some 18, .call 96 [.t 17], none⟩,
      ⟨some 21, .call 96 [.t 20], none⟩,
      ⟨none, .st 1 (.t 22) (.t 12), none⟩,
      ⟨none, .st 1 (.t 23) (.t 15), none⟩,
      ⟨none, .st 1 (.t 24) (.t 18), none⟩,
      ⟨none, .st 1 (.t 25) (.t 21), none⟩],
     [⟨some 10, .fa 1 (.t 3), none⟩,
      ⟨some 11, .ld false 1 (.t 10), none⟩,
      ⟨some 13, .fa 2 (.t 3), none⟩,
      ⟨some 16, .fa 3 (.t 3), none⟩,
      ⟨some 19, .fa 8 (.t 3), none⟩,
      ⟨some 22, .fa 1 (.t 3), none⟩,
      ⟨some 23, .fa 2 (.t 3), none⟩,
      ⟨some 24, .fa 3 (.t 3), none⟩,
      ⟨some 25, .fa 8 (.t 3), none⟩,
      ⟨some 14, .ld false 1 (.t 13), none⟩,
      ⟨some 20, .ld false 1 (.t 19), none⟩,
      ⟨some 17, .ld false 1 (.t 16), none⟩,
      ⟨some 12, .call 96 [.t 11], none⟩,
      ⟨some 15, .call 96 [.t 14], none⟩,
      ⟨some 18, .call 96 [.t 17], none⟩,
      ⟨some 21, .call 96 [.t 20], none⟩,
      ⟨none, .st 1 (.t 22) (.t 12), none⟩,
      ⟨none, .st 1 (.t 23) (.t 15), none⟩,
      ⟨none, .st 1 (.t 24) (.t 18), none⟩,
      ⟨none, .st 1 (.t 25) (.t 21), none⟩],
     [⟨some 10, .fa 1 (.t 3), none⟩,
      ⟨some 11, .ld false 1 (.t 10), none⟩,
      ⟨some 13, .fa 2 (.t 3), none⟩,
      ⟨some 16, .fa 3 (.t 3), none⟩,
      ⟨some 19, .fa 8 (.t 3), none⟩,
      ⟨some 22, .fa 1 (.t 3), none⟩,
      ⟨some 23, .fa 2 (.t 3), none⟩,
      ⟨some 24, .fa 3 (.t 3), none⟩,
      ⟨some 25, .fa 8 (.t 3), none⟩,
      ⟨some 17, .ld false 1 (.t 16), none⟩,
      ⟨some 12, .call 96 [.t 11], none⟩,
      ⟨some 14, .ld false 1 (.t 13), none⟩,
      ⟨some 15, .call 96 [.t 14], none⟩,
      ⟨some 18, .call 96 [.t 17], none⟩,
      ⟨some 20, .ld false 1 (.t 19), none⟩,
      ⟨some 21, .call 96 [.t 20], none⟩,
      ⟨none, .st 1 (.t 22) (.t 12), none⟩,
      ⟨none, .st 1 (.t 23) (.t 15), none⟩,
      ⟨none, .st 1 (.t 24) (.t 18), none⟩,
      ⟨none, .st 1 (.t 25) (.t 21), none⟩],
     [⟨some 10, .fa 1 (.t 3), none⟩,
      ⟨some 11, .ld false 1 (.t 10), none⟩,
      ⟨some 13, .fa 2 (.t 3), none⟩,
      ⟨some 16, .fa 3 (.t 3), none⟩,
      ⟨some 19, .fa 8 (.t 3), none⟩,
      ⟨some 22, .fa 1 (.t 3), none⟩,
      ⟨some 23, .fa 2 (.t 3), none⟩,
      ⟨some 24, .fa 3 (.t 3), none⟩,
      ⟨some 25, .fa 8 (.t 3), none⟩,
      ⟨some 17, .ld false 1 (.t 16), none⟩,
      ⟨some 12, .call 96 [.t 11], none⟩,
      ⟨some 14, .ld false 1 (.t 13), none⟩,
      ⟨some 15, .call 96 [.t 14], none⟩,
      ⟨some 20, .ld false 1 (.t 19), none⟩,
      ⟨some 18, .call 96 [.t 17], none⟩,
      ⟨some 21, .call 96 [.t 20], none⟩,
      ⟨none, .st 1 (.t 22) (.t 12), none⟩,
      ⟨none, .st 1 (.t 23) (.t 15), none⟩,
      ⟨none, .st 1 (.t 24) (.t 18), none⟩,
      ⟨none, .st 1 (.t 25) (.t 21), none⟩],
     [⟨some 10, .fa 1 (.t 3), none⟩,
      ⟨some 11, .ld false 1 (.t 10), none⟩,
      ⟨some 13, .fa 2 (.t 3), none⟩,
      ⟨some 16, .fa 3 (.t 3), none⟩,
      ⟨some 19, .fa 8 (.t 3), none⟩,
      ⟨some 22, .fa 1 (.t 3), none⟩,
      ⟨some 23, .fa 2 (.t 3), none⟩,
      ⟨some 24, .fa 3 (.t 3), none⟩,
      ⟨some 25, .fa 8 (.t 3), none⟩,
      ⟨some 17, .ld false 1 (.t 16), none⟩,
      ⟨some 12, .call 96 [.t 11], none⟩,
      ⟨some 14, .ld false 1 (.t 13), none⟩,
      ⟨some 20, .ld false 1 (.t 19), none⟩,
      ⟨some 15, .call 96 [.t 14], none⟩,
      ⟨some 18, .call 96 [.t 17], none⟩,
      ⟨some 21, .call 96 [.t 20], none⟩,
      ⟨none, .st 1 (.t 22) (.t 12), none⟩,
      ⟨none, .st 1 (.t 23) (.t 15), none⟩,
      ⟨none, .st 1 (.t 24) (.t 18), none⟩,
      ⟨none, .st 1 (.t 25) (.t 21), none⟩],
     [⟨some 10, .fa 1 (.t 3), none⟩,
      ⟨some 11, .ld false 1 (.t 10), none⟩,
      ⟨some 13, .fa 2 (.t 3), none⟩,
      ⟨some 16, .fa 3 (.t 3), none⟩,
      ⟨some 19, .fa 8 (.t 3), none⟩,
      ⟨some 22, .fa 1 (.t 3), none⟩,
      ⟨some 23, .fa 2 (.t 3), none⟩,
      ⟨some 24, .fa 3 (.t 3), none⟩,
      ⟨some 25, .fa 8 (.t 3), none⟩,
      ⟨some 17, .ld false 1 (.t 16), none⟩,
      ⟨some 14, .ld false 1 (.t 13), none⟩,
      ⟨some 12, .call 96 [.t 11], none⟩,
      ⟨some 15, .call 96 [.t 14], none⟩,
      ⟨some 18, .call 96 [.t 17], none⟩,
      ⟨some 20, .ld false 1 (.t 19), none⟩,
      ⟨some 21, .call 96 [.t 20], none⟩,
      ⟨none, .st 1 (.t 22) (.t 12), none⟩,
      ⟨none, .st 1 (.t 23) (.t 15), none⟩,
      ⟨none, .st 1 (.t 24) (.t 18), none⟩,
      ⟨none, .st 1 (.t 25) (.t 21), none⟩],
     [⟨some 10, .fa 1 (.t 3), none⟩,
      ⟨some 11, .ld false 1 (.t 10), none⟩,
      ⟨some 13, .fa 2 (.t 3), none⟩,
      ⟨some 16, .fa 3 (.t 3), none⟩,
      ⟨some 19, .fa 8 (.t 3), none⟩,
      ⟨some 22, .fa 1 (.t 3), none⟩,
      ⟨some 23, .fa 2 (.t 3), none⟩,
      ⟨some 24, .fa 3 (.t 3), none⟩,
      ⟨some 25, .fa 8 (.t 3), none⟩,
      ⟨some 17, .ld false 1 (.t 16), none⟩,
      ⟨some 14, .ld false 1 (.t 13), none⟩,
      ⟨some 12, .call 96 [.t 11], none⟩,
      ⟨some 15, .call 96 [.t 14], none⟩,
      ⟨some 20, .ld false 1 (.t 19), none⟩,
      ⟨some 18, .call 96 [.t 17], none⟩,
      ⟨some 21, .call 96 [.t 20], none⟩,
      ⟨none, .st 1 (.t 22) (.t 12), none⟩,
      ⟨none, .st 1 (.t 23) (.t 15), none⟩,
      ⟨none, .st 1 (.t 24) (.t 18), none⟩,
      ⟨none, .st 1 (.t 25) (.t 21), none⟩],
     [⟨some 10, .fa 1 (.t 3), none⟩,
      ⟨some 11, .ld false 1 (.t 10), none⟩,
      ⟨some 13, .fa 2 (.t 3), none⟩,
      ⟨some 16, .fa 3 (.t 3), none⟩,
      ⟨some 19, .fa 8 (.t 3), none⟩,
      ⟨some 22, .fa 1 (.t 3), none⟩,
      ⟨some 23, .fa 2 (.t 3), none⟩,
      ⟨some 24, .fa 3 (.t 3), none⟩,
      ⟨some 25, .fa 8 (.t 3), none⟩,
      ⟨some 17, .ld false 1 (.t 16), none⟩,
      ⟨some 14, .ld false 1 (.t 13), none⟩,
      ⟨some 12, .call 96 [.t 11], none⟩,
      ⟨some 20, .ld false 1 (.t 19), none⟩,
      ⟨some 15, .call 96 [.t 14], none⟩,
      ⟨some 18, .call 96 [.t 17], none⟩,
      ⟨some 21, .call 96 [.t 20], none⟩,
      ⟨none, .st 1 (.t 22) (.t 12), none⟩,
      ⟨none, .st 1 (.t 23) (.t 15), none⟩,
      ⟨none, .st 1 (.t 24) (.t 18), none⟩,
      ⟨none, .st 1 (.t 25) (.t 21), none⟩],
     [⟨some 10, .fa 1 (.t 3), none⟩,
      ⟨some 11, .ld false 1 (.t 10), none⟩,
      ⟨some 13, .fa 2 (.t 3), none⟩,
      ⟨some 16, .fa 3 (.t 3), none⟩,
      ⟨some 19, .fa 8 (.t 3), none⟩,
      ⟨some 22, .fa 1 (.t 3), none⟩,
      ⟨some 23, .fa 2 (.t 3), none⟩,
      ⟨some 24, .fa 3 (.t 3), none⟩,
      ⟨some 25, .fa 8 (.t 3), none⟩,
      ⟨some 17, .ld false 1 (.t 16), none⟩,
      ⟨some 14, .ld false 1 (.t 13), none⟩,
      ⟨some 20, .ld false 1 (.t 19), none⟩,
      ⟨some 12, .call 96 [.t 11], none⟩,
      ⟨some 15, .call 96 [.t 14], none⟩,
      ⟨some 18, .call 96 [.t 17], none⟩,
      ⟨some 21, .call 96 [.t 20], none⟩,
      ⟨none, .st 1 (.t 22) (.t 12), none⟩,
      ⟨none, .st 1 (.t 23) (.t 15), none⟩,
      ⟨none, .st 1 (.t 24) (.t 18), none⟩,
      ⟨none, .st 1 (.t 25) (.t 21), none⟩],
     [⟨some 10, .fa 1 (.t 3), none⟩,
      ⟨some 11, .ld false 1 (.t 10), none⟩,
      ⟨some 13, .fa 2 (.t 3), none⟩,
      ⟨some 16, .fa 3 (.t 3), none⟩,
      ⟨some 19, .fa 8 (.t 3), none⟩,
      ⟨some 22, .fa 1 (.t 3), none⟩,
      ⟨some 23, .fa 2 (.t 3), none⟩,
      ⟨some 24, .fa 3 (.t 3), none⟩,
      ⟨some 25, .fa 8 (.t 3), none⟩,
      ⟨some 17, .ld false 1 (.t 16), none⟩,
      ⟨some 20, .ld false 1 (.t 19), none⟩,
      ⟨some 12, .call 96 [.t 11], none⟩,
      ⟨some 14, .ld false 1 (.t 13), none⟩,
      ⟨some 15, .call 96 [.t 14], none⟩,
      ⟨some 18, .call 96 [.t 17], none⟩,
      ⟨some 21, .call 96 [.t 20], none⟩,
      ⟨none, .st 1 (.t 22) (.t 12), none⟩,
      ⟨none, .st 1 (.t 23) (.t 15), none⟩,
      ⟨none, .st 1 (.t 24) (.t 18), none⟩,
      ⟨none, .st 1 (.t 25) (.t 21), none⟩],
     [⟨some 10, .fa 1 (.t 3), none⟩,
      ⟨some 11, .ld false 1 (.t 10), none⟩,
      ⟨some 13, .fa 2 (.t 3), none⟩,
      ⟨some 16, .fa 3 (.t 3), none⟩,
      ⟨some 19, .fa 8 (.t 3), none⟩,
      ⟨some 22, .fa 1 (.t 3), none⟩,
      ⟨some 23, .fa 2 (.t 3), none⟩,
      ⟨some 24, .fa 3 (.t 3), none⟩,
      ⟨some 25, .fa 8 (.t 3), none⟩,
      ⟨some 17, .ld false 1 (.t 16), none⟩,
      ⟨some 20, .ld false 1 (.t 19), none⟩,
      ⟨some 14, .ld false 1 (.t 13), none⟩,
      ⟨some 12, .call 96 [.t 11], none⟩,
      ⟨some 15, .call 96 [.t 14], none⟩,
      ⟨some 18, .call 96 [.t 17], none⟩,
      ⟨some 21, .call 96 [.t 20], none⟩,
      ⟨none, .st 1 (.t 22) (.t 12), none⟩,
      ⟨none, .st 1 (.t 23) (.t 15), none⟩,
      ⟨none, .st 1 (.t 24) (.t 18), none⟩,
      ⟨none, .st 1 (.t 25) (.t 21), none⟩],
     [⟨some 10, .fa 1 (.t 3), none⟩,
      ⟨some 11, .ld false 1 (.t 10), none⟩,
      ⟨some 13, .fa 2 (.t 3), none⟩,
      ⟨some 16, .fa 3 (.t 3), none⟩,
      ⟨some 19, .fa 8 (.t 3), none⟩,
      ⟨some 22, .fa 1 (.t 3), none⟩,
      ⟨some 23, .fa 2 (.t 3), none⟩,
      ⟨some 24, .fa 3 (.t 3), none⟩,
      ⟨some 25, .fa 8 (.t 3), none⟩,
      ⟨some 20, .ld false 1 (.t 19), none⟩,
      ⟨some 12, .call 96 [.t 11], none⟩,
      ⟨some 14, .ld false 1 (.t 13), none⟩,
      ⟨some 15, .call 96 [.t 14], none⟩,
      ⟨some 17, .ld false 1 (.t 16), none⟩,
      ⟨some 18, .call 96 [.t 17], none⟩,
      ⟨some 21, .call 96 [.t 20], none⟩,
      ⟨none, .st 1 (.t 22) (.t 12), none⟩,
      ⟨none, .st 1 (.t 23) (.t 15), none⟩,
      ⟨none, .st 1 (.t 24) (.t 18), none⟩,
      ⟨none, .st 1 (.t 25) (.t 21), none⟩],
     [⟨some 10, .fa 1 (.t 3), none⟩,
      ⟨some 11, .ld false 1 (.t 10), none⟩,
      ⟨some 13, .fa 2 (.t 3), none⟩,
      ⟨some 16, .fa 3 (.t 3), none⟩,
      ⟨some 19, .fa 8 (.t 3), none⟩,
      ⟨some 22, .fa 1 (.t 3), none⟩,
      ⟨some 23, .fa 2 (.t 3), none⟩,
      ⟨some 24, .fa 3 (.t 3), none⟩,
      ⟨some 25, .fa 8 (.t 3), none⟩,
      ⟨some 20, .ld false 1 (.t 19), none⟩,
      ⟨some 12, .call 96 [.t 11], none⟩,
      ⟨some 14, .ld false 1 (.t 13), none⟩,
      ⟨some 17, .ld false 1 (.t 16), none⟩,
      ⟨some 15, .call 96 [.t 14], none⟩,
      ⟨some 18, .call 96 [.t 17], none⟩,
      ⟨some 21, .call 96 [.t 20], none⟩,
      ⟨none, .st 1 (.t 22) (.t 12), none⟩,
      ⟨none, .st 1 (.t 23) (.t 15), none⟩,
      ⟨none, .st 1 (.t 24) (.t 18), none⟩,
      ⟨none, .st 1 (.t 25) (.t 21), none⟩],
     [⟨some 10, .fa 1 (.t 3), none⟩,
      ⟨some 11, .ld false 1 (.t 10), none⟩,
      ⟨some 13, .fa 2 (.t 3), none⟩,
      ⟨some 16, .fa 3 (.t 3), none⟩,
      ⟨some 19, .fa 8 (.t 3), none⟩,
      ⟨some 22, .fa 1 (.t 3), none⟩,
      ⟨some 23, .fa 2 (.t 3), none⟩,
      ⟨some 24, .fa 3 (.t 3), none⟩,
      ⟨some 25, .fa 8 (.t 3), none⟩,
      ⟨some 20, .ld false 1 (.t 19), none⟩,
      ⟨some 14, .ld false 1 (.t 13), none⟩,
      ⟨some 12, .call 96 [.t 11], none⟩,
      ⟨some 15, .call 96 [.t 14], none⟩,
      ⟨some 17, .ld false 1 (.t 16), none⟩,
      ⟨some 18, .call 96 [.t 17], none⟩,
      ⟨some 21, .call 96 [.t 20], none⟩,
      ⟨none, .st 1 (.t 22) (.t 12), none⟩,
      ⟨none, .st 1 (.t 23) (.t 15), none⟩,
      ⟨none, .st 1 (.t 24) (.t 18), none⟩,
      ⟨none, .st 1 (.t 25) (.t 21), none⟩],
     [⟨some 10, .fa 1 (.t 3), none⟩,
      ⟨some 11, .ld false 1 (.t 10), none⟩,
      ⟨some 13, .fa 2 (.t 3), none⟩,
      ⟨some 16, .fa 3 (.t 3), none⟩,
      ⟨some 19, .fa 8 (.t 3), none⟩,
      ⟨some 22, .fa 1 (.t 3), none⟩,
      ⟨some 23, .fa 2 (.t 3), none⟩,
      ⟨some 24, .fa 3 (.t 3), none⟩,
      ⟨some 25, .fa 8 (.t 3), none⟩,
      ⟨some 20, .ld false 1 (.t 19), none⟩,
      ⟨some 14, .ld false 1 (.t 13), none⟩,
      ⟨some 12, .call 96 [.t 11], none⟩,
      ⟨some 17, .ld false 1 (.t 16), none⟩,
      ⟨some 15, .call 96 [.t 14], none⟩,
      ⟨some 18, .call 96 [.t 17], none⟩,
      ⟨some 21, .call 96 [.t 20], none⟩,
      ⟨none, .st 1 (.t 22) (.t 12), none⟩,
      ⟨none, .st 1 (.t 23) (.t 15), none⟩,
      ⟨none, .st 1 (.t 24) (.t 18), none⟩,
      ⟨none, .st 1 (.t 25) (.t 21), none⟩],
     [⟨some 10, .fa 1 (.t 3), none⟩,
      ⟨some 11, .ld false 1 (.t 10), none⟩,
      ⟨some 13, .fa 2 (.t 3), none⟩,
      ⟨some 16, .fa 3 (.t 3), none⟩,
      ⟨some 19, .fa 8 (.t 3), none⟩,
      ⟨some 22, .fa 1 (.t 3), none⟩,
      ⟨some 23, .fa 2 (.t 3), none⟩,
      ⟨some 24, .fa 3 (.t 3), none⟩,
      ⟨some 25, .fa 8 (.t 3), none⟩,
      ⟨some 20, .ld false 1 (.t 19), none⟩,
      ⟨some 14, .ld false 1 (.t 13), none⟩,
      ⟨some 17, .ld false 1 (.t 16), none⟩,
      ⟨some 12, .call 96 [.t 11], none⟩,
      ⟨some 15, .call 96 [.t 14], none⟩,
      ⟨some 18, .call 96 [.t 17], none⟩,
      ⟨some 21, .call 96 [.t 20], none⟩,
      ⟨none, .st 1 (.t 22) (.t 12), none⟩,
      ⟨none, .st 1 (.t 23) (.t 15), none⟩,
      ⟨none, .st 1 (.t 24) (.t 18), none⟩,
      ⟨none, .st 1 (.t 25) (.t 21), none⟩],
     [⟨some 10, .fa 1 (.t 3), none⟩,
      ⟨some 11, .ld false 1 (.t 10), none⟩,
      ⟨some 13, .fa 2 (.t 3), none⟩,
      ⟨some 16, .fa 3 (.t 3), none⟩,
      ⟨some 19, .fa 8 (.t 3), none⟩,
      ⟨some 22, .fa 1 (.t 3), none⟩,
      ⟨some 23, .fa 2 (.t 3), none⟩,
      ⟨some 24, .fa 3 (.t 3), none⟩,
      ⟨some 25, .fa 8 (.t 3), none⟩,
      ⟨some 20, .ld false 1 (.t 19), none⟩,
      ⟨some 17, .ld false 1 (.t 16), none⟩,
      ⟨some 12, .call 96 [.t 11], none⟩,
      ⟨some 14, .ld false 1 (.t 13), none⟩,
      ⟨some 15, .call 96 [.t 14], none⟩,
      ⟨some 18, .call 96 [.t 17], none⟩,
      ⟨some 21, .call 96 [.t 20], none⟩,
      ⟨none, .st 1 (.t 22) (.t 12), none⟩,
      ⟨none, .st 1 (.t 23) (.t 15), none⟩,
      ⟨none, .st 1 (.t 24) (.t 18), none⟩,
      ⟨none, .st 1 (.t 25) (.t 21), none⟩],
     [⟨some 10, .fa 1 (.t 3), none⟩,
      ⟨some 11, .ld false 1 (.t 10), none⟩,
      ⟨some 13, .fa 2 (.t 3), none⟩,
      ⟨some 16, .fa 3 (.t 3), none⟩,
      ⟨some 19, .fa 8 (.t 3), none⟩,
      ⟨some 22, .fa 1 (.t 3), none⟩,
      ⟨some 23, .fa 2 (.t 3), none⟩,
      ⟨some 24, .fa 3 (.t 3), none⟩,
      ⟨some 25, .fa 8 (.t 3), none⟩,
      ⟨some 20, .ld false 1 (.t 19), none⟩,
      ⟨some 17, .ld false 1 (.t 16), none⟩,
      ⟨some 14, .ld false 1 (.t 13), none⟩,
      ⟨some 12, .call 96 [.t 11], none⟩,
      ⟨some 15, .call 96 [.t 14], none⟩,
      ⟨some 18, .call 96 [.t 17], none⟩,
      ⟨some 21, .call 96 [.t 20], none⟩,
      ⟨none, .st 1 (.t 22) (.t 12), none⟩,
      ⟨none, .st 1 (.t 23) (.t 15), none⟩,
      ⟨none, .st 1 (.t 24) (.t 18), none⟩,
      ⟨none, .st 1 (.t 25) (.t 21), none⟩]])
    (.seq (.region [⟨some 26, .fa 4 (.t 3), none⟩,
      ⟨some 27, .ld false 1 (.t 26), none⟩,
      ⟨some 28, .ld true 1 (.t 2), none⟩,
      ⟨some 29, .mkf 98 [.t 28] [], none⟩,
      ⟨some 30, .call 97 [.t 27, .t 29], none⟩,
      ⟨some 31, .fa 4 (.t 3), none⟩,
      ⟨none, .st 1 (.t 31) (.t 30), none⟩] false)
    (.seq (.region [⟨some 32, .fa 5 (.t 3), none⟩,
      ⟨some 33, .ld false 1 (.t 32), none⟩,
      ⟨some 34, .ld true 1 (.t 2), none⟩,
      ⟨some 35, .mkf 100 [.t 34] [], none⟩,
      ⟨some 36, .call 99 [.t 33, .t 35], none⟩,
      ⟨some 37, .fa 5 (.t 3), none⟩,
      ⟨none, .st 1 (.t 37) (.t 36), none⟩] false)
    (.seq (.region [⟨some 38, .fa 6 (.t 3), none⟩,
      ⟨some 39, .ld false 1 (.t 38), none⟩,
      ⟨some 40, .ld true 1 (.t 2), none⟩,
      ⟨some 41, .mkf 102 [.t 40] [], none⟩,
      ⟨some 42, .call 101 [.t 39, .t 41], none⟩,
      ⟨some 43, .fa 6 (.t 3), none⟩,
      ⟨none, .st 1 (.t 43) (.t 42), none⟩] false)
    (.seq (.region [⟨some 44, .fa 7 (.t 3), none⟩,
      ⟨some 45, .ld false 1 (.t 44), none⟩,
      ⟨some 46, .ld true 1 (.t 2), none⟩,
      ⟨some 47, .mkf 104 [.t 46] [], none⟩,
      ⟨some 48, .call 103 [.t 45, .t 47], none⟩,
      ⟨some 49, .fa 7 (.t 3), none⟩,
      ⟨none, .st 1 (.t 49) (.t 48), none⟩] false)
    (.seq (.region [⟨some 50, .ld true 9 (.t 3), none⟩,
      ⟨none, .st 9 (.t 4) (.t 50), none⟩] false)
    (.ret))))))))
theorem ok39 : FnOK Tryz.prog 39 rf39 := ⟨Tryz.f39, _, Tryz.func39, rfl, by kernel_rfl, rfl, by kernel_rfl, by kernel_rfl⟩
def rf44 : RFn where
  ntmps := 18
  mt := []
  results := [.tmp 4]
  body := .seq (.region [⟨some 4, .mv (.c (.d (.bool false))), none⟩] false)
    (.seq (.seq (.region [⟨some 5, .mv (.c (.d (.int .i64 0))), none⟩] false)
    (.block 0 (.loop (.seq (.seq (.region [⟨some 6, .mv (.t 5), none⟩,
      ⟨some 7, .mv (.t 0), none⟩,
      ⟨some 8, .lenR 9 16 (.t 7), none⟩,
      ⟨some 9, .bin false .lss (.t 6) (.t 8), none⟩] false)
    (.cond (.t 9) (.skip)
    (.exit 0)))
    (.seq (.block 1 (.seq (.region [⟨some 12, .mv (.t 0), none⟩,
      ⟨some 13, .mv (.t 5), none⟩,
      ⟨some 14, .ia 9 1 (.t 12) (.t 13), none⟩,
      ⟨some 15, .ldc false 1 (.t 14), none⟩,
      ⟨some 16, .mv (.t 1), none⟩,
      ⟨some 17, .bin false .eql (.t 15) (.t 16), none⟩] false)
    (.cond (.t 17) (.seq (.region [⟨some 4, .mv (.c (.d (.bool true))), none⟩] false)
    (.ret))
    (.skip))))
    (.region [⟨some 10, .mv (.t 5), none⟩,
      ⟨some 11, .bin false .add (.t 10) (.c (.d (.int .i64 1))), none⟩,
      ⟨some 5, .mv (.t 11), none⟩] false))))))
    (.seq (.region [⟨some 4, .mv (.c (.d (.bool false))), none⟩] false)
    (.ret)))
theorem ok44 : FnOK Tryz.prog 44 rf44 := ⟨Tryz.f44, _, Tryz.func44, rfl, by kernel_rfl, rfl, by kernel_rfl, by kernel_rfl⟩
def rf46 : RFn where
  ntmps := 20
  mt := [5, 6, 13, 17]
  results := [.tmp 3]
  body := .seq (.region [⟨some 3, .mv (.c (.d (.str []))), none⟩] false)
    (.seq (.seq (.region [⟨some 6, .ld false 1 (.t 1), none⟩,
      ⟨some 7, .lenR 39 32 (.t 6), none⟩,
      ⟨some 8, .mv (.c (.d (.int .i64 0))), none⟩] false)
    (.block 0 (.loop (.seq (.region [⟨some 9, .bin false .lss (.t 8) (.t 7), none⟩] false)
    (.seq (.cond (.t 9) (.skip)
    (.exit 0))
    (.seq (.block 1 (.seq (.region [⟨some 10, .ia 39 2 (.t 6) (.t 8), none⟩,
      ⟨some 11, .ldc true 2 (.t 10), none⟩,
      ⟨some 5, .alloc 39 [.d (.str []), .d (.str [])], none⟩,
      ⟨none, .st 2 (.t 5) (.t 11), none⟩] false)
    (.seq (.region [⟨some 12, .fa 0 (.t 5), none⟩,
      ⟨some 13, .ld false 1 (.t 12), none⟩,
      ⟨some 14, .mv (.t 0), none⟩,
      ⟨some 15, .bin false .eql (.t 13) (.t 14), none⟩] false)
    (.cond (.t 15) (.seq (.region [⟨some 16, .fa 1 (.t 5), none⟩,
      ⟨some 17, .ld false 1 (.t 16), none⟩,
      ⟨some 3, .mv (.t 17), none⟩] false)
    (.ret))
    (.skip)))))
    (.region [⟨some 18, .bin false .add (.t 8) (.c (.d (.int .i64 1))), none⟩,
      ⟨some 8, .mv (.t 18), none⟩] false)))))))
    (.seq (.region [⟨some 19, .mv (.t 0), none⟩,
      ⟨some 3, .mv (.t 19), none⟩] false)
    (.ret)))
theorem ok46 : FnOK Tryz.prog 46 rf46 := ⟨Tryz.f46, _, Tryz.func46, rfl, by kernel_rfl, rfl, by kernel_rfl, by kernel_rfl⟩
def rf47 : RFn where
  ntmps := 17
  mt := []
  results := [.tmp 4]
  body := .seq (.region [⟨some 2, .boxI (.t 0), none⟩,
      ⟨some 3, .boxI (.t 1), none⟩,
      ⟨some 4, .mv (.c (.d (.bool false))), none⟩] false)
    (.seq (.region [⟨some 5, .fa 0 (.t 2), none⟩,
      ⟨some 6, .ldc false 1 (.t 5), none⟩,
      ⟨some 7, .fa 0 (.t 3), none⟩,
      ⟨some 8, .ldc false 1 (.t 7), none⟩,
      ⟨some 9, .call 12 [.t 6, .t 8], none⟩,
      ⟨some 10, .mv (.t 9), none⟩,
      ⟨some 11, .fa 1 (.t 2), (some (10, true))⟩,
      ⟨some 12, .ldc false 1 (.t 11), (some (10, true))⟩,
      ⟨some 13, .fa 1 (.t 3), (some (10, true))⟩,
      ⟨some 14, .ldc false 1 (.t 13), (some (10, true))⟩,
      ⟨some 15, .call 12 [.t 12, .t 14], (some (10, true))⟩,
      ⟨some 16, .pick (.t 10) (.t 15) (.c (.d (.bool false))), none⟩,
      ⟨some 4, .mv (.t 16), none⟩] false)
    (.ret))
theorem ok47 : FnOK Tryz.prog 47 rf47 := ⟨Tryz.f47, _, Tryz.func47, rfl, by kernel_rfl, rfl, by kernel_rfl, by kernel_rfl⟩
def rf48 : RFn where
  ntmps := 55
  mt := []
  results := [.tmp 4]
  body := .seq (.region [⟨some 4, .mv (.c (.d (.bool false))), none⟩] false)
    (.seq (.seq (.region [⟨some 6, .mv (.t 0), none⟩,
      ⟨some 7, .lenR 98 96 (.t 6), none⟩,
      ⟨some 8, .mv (.t 1), none⟩,
      ⟨some 9, .lenR 98 96 (.t 8), none⟩,
      ⟨some 10, .bin false .neq (.t 7) (.t 9), none⟩] false)
    (.cond (.t 10) (.seq (.region [⟨some 4, .mv (.c (.d (.bool false))), none⟩] false)
    (.ret))
    (.skip)))
    (.seq (.seq (.region [⟨some 5, .mv (.c (.d (.int .i64 0))), none⟩] false)
    (.block 0 (.loop (.seq (.seq (.region [⟨some 11, .mv (.t 5), none⟩,
      ⟨some 12, .mv (.t 0), none⟩,
      ⟨some 13, .lenR 98 96 (.t 12), none⟩,
      ⟨some 14, .bin false .lss (.t 11) (.t 13), none⟩] false)
    (.cond (.t 14) (.skip)
    (.exit 0)))
    (.seq (.block 1 (.seq (.region [⟨some 17, .mv (.t 0), none⟩,
      ⟨some 18, .mv (.t 5), none⟩,
      ⟨some 19, .ia 98 6 (.t 17) (.t 18), none⟩,
      ⟨some 20, .fa 0 (.t 19), none⟩,
      ⟨some 21, .ldc true 2 (.t 20), none⟩,
      ⟨some 22, .mv (.t 1), none⟩,
      ⟨some 23, .mv (.t 5), none⟩,
      ⟨some 24, .ia 98 6 (.t 22) (.t 23), none⟩,
      ⟨some 25, .fa 0 (.t 24), none⟩,
      ⟨some 26, .ldc true 2 (.t 25), none⟩,
      ⟨some 27, .call 47 [.t 21, .t 26], none⟩,
      ⟨some 28, .not (.t 27), none⟩,
      ⟨some 29, .mv (.t 28), none⟩,
      ⟨some 30, .mv (.t 0), (some (29, false))⟩,
      ⟨some 31, .mv (.t 5), (some (29, false))⟩,
      ⟨some 32, .ia 98 6 (.t 30) (.t 31), (some (29, false))⟩,
      ⟨some 33, .fa 2 (.t 32), (some (29, false))⟩,
      ⟨some 34, .ldc false 1 (.t 33), (some (29, false))⟩,
      ⟨some 35, .mv (.t 1), (some (29, false))⟩,
      ⟨some 36, .mv (.t 5), (some (29, false))⟩,
      ⟨some 37, .ia 98 6 (.t 35) (.t 36), (some (29, false))⟩,
      ⟨some 38, .fa 2 (.t 37), (some (29, false))⟩,
      ⟨some 39, .ldc false 1 (.t 38), (some (29, false))⟩,
      ⟨some 40, .bin false .neq (.t 34) (.t 39), (some (29, false))⟩,
      ⟨some 41, .pick (.t 29) (.c (.d (.bool true))) (.t 40), none⟩,
      ⟨some 42, .mv (.t 41), none⟩,
      ⟨some 43, .mv (.t 0), (some (42, false))⟩,
      ⟨some 44, .mv (.t 5), (some (42, false))⟩,
      ⟨some 45, .ia 98 6 (.t 43) (.t 44), (some (42, false))⟩,
      ⟨some 46, .fa 3 (.t 45), (some (42, false))⟩,
      ⟨some 47, .ldc true 3 (.t 46), (some (42, false))⟩,
      ⟨some 48, .mv (.t 1), (some (42, false))⟩,
      ⟨some 49, .mv (.t 5), (some (42, false))⟩,
      ⟨some 50, .ia 98 6 (.t 48) (.t 49), (some (42, false))⟩,
      ⟨some 51, .fa 3 (.t 50), (some (42, false))⟩,
      ⟨some 52, .ldc true 3 (.t 51), (some (42, false))⟩,
      ⟨some 53, .pr (.eqAgg [.i, .i, .s] true) [.t 47, .t 52], (some (42, false))⟩,
      ⟨some 54, .pick (.t 42) (.c (.d (.bool true))) (.t 53), none⟩] true)
    (.cond (.t 54) (.seq (.region [⟨some 4, .mv (.c (.d (.bool false))), none⟩] false)
    (.ret))
    (.skip))))
    (.region [⟨some 15, .mv (.t 5), none⟩,
      ⟨some 16, .bin false .add (.t 15) (.c (.d (.int .i64 1))), none⟩,
      ⟨some 5, .mv (.t 16), none⟩] false))))))
    (.seq (.region [⟨some 4, .mv (.c (.d (.bool true))), none⟩] false)
    (.ret))))
theorem ok48 : FnOK Tryz.prog 48 rf48 := ⟨Tryz.f48, _, Tryz.func48, rfl, by kernel_rfl, rfl, by kernel_rfl, by kernel_rfl⟩
def rf49 : RFn where
  ntmps := 105
  mt := [6, 7, 29, 31, 36, 38, 43, 45, 50, 53, 59, 61, 67, 73, 78, 84, 86, 91, 93, 99, 101]
  results := [.tmp 4]
  body := .seq (.region [⟨some 4, .mv (.c (.d (.bool false))), none⟩] false)
    (.seq (.seq (.region [⟨some 9, .mv (.t 0), none⟩,
      ⟨some 10, .lenR 103 192 (.t 9), none⟩,
      ⟨some 11, .mv (.t 1), none⟩,
      ⟨some 12, .lenR 103 192 (.t 11), none⟩,
      ⟨some 13, .bin false .neq (.t 10) (.t 12), none⟩] false)
    (.cond (.t 13) (.seq (.region [⟨some 4, .mv (.c (.d (.bool false))), none⟩] false)
    (.ret))
    (.skip)))
    (.seq (.seq (.region [⟨some 5, .mv (.c (.d (.int .i64 0))), none⟩] false)
    (.block 0 (.loop (.seq (.seq (.region [⟨some 14, .mv (.t 5), none⟩,
      ⟨some 15, .mv (.t 0), none⟩,
      ⟨some 16, .lenR 103 192 (.t 15), none⟩,
      ⟨some 17, .bin false .lss (.t 14) (.t 16), none⟩] false)
    (.cond (.t 17) (.skip)
    (.exit 0)))
    (.seq (.block 1 (.seq (.regions [[⟨some 20, .mv (.t 0), none⟩,
      ⟨some 21, .mv (.t 5), none⟩,
      ⟨some 22, .ia 103 9 (.t 20) (.t 21), none⟩,
      ⟨some 23, .ldc true 9 (.t 22), none⟩,
      ⟨some 24, .mv (.t 1), none⟩,
      ⟨some 25, .mv (.t 5), none⟩,
      ⟨some 26, .ia 103 9 (.t 24) (.t 25), none⟩,
      ⟨some 27, .ldc true 9 (.t 26), none⟩,
      ⟨some 6, .alloc 103 [.nil 9, .nil 9, .d (.str []), .d (.int .i64 0), .nil 145, .nil 98, .nil 103, .nil 107, .nil 9], none⟩,
      ⟨some 7, .alloc 103 [.nil 9, .nil 9, .d (.str []), .d (.int .i64 0), .nil 145, .nil 98, .nil 103, .nil 107, .nil 9], none⟩,
      ⟨none, .st 9 (.t 6) (.t 23), none⟩,
      ⟨none, .st 9 (.t 7) (.t 27), none⟩],
     [⟨some 20, .mv (.t 0), none⟩,
      ⟨some 21, .mv (.t 5), none⟩,
      ⟨some 22, .ia 103 9 (.t 20) (.t 21), none⟩,
      ⟨some 23, .ldc true 9 (.t 22), none⟩,
      ⟨some 24, .mv (.t 1), none⟩,
      ⟨some 25, .mv (.t 5), none⟩,
      ⟨some 26, .ia 103 9 (.t 24) (.t 25), none⟩,
      ⟨some 27, .ldc true 9 (.t 26), none⟩,
      ⟨some 7, .alloc 103 [.nil 9, .nil 9, .d (.str []), .d (.int .i64 0), .nil 145, .nil 98, .nil 103, .nil 107, .nil 9], none⟩,
      ⟨some 6, .alloc 103 [.nil 9, .nil 9, .d (.str []), .d (.int .i64 0), .nil 145, .nil 98, .nil 103, .nil 107, .nil 9], none⟩,
      ⟨none, .st 9 (.t 6) (.t 23), none⟩,
      ⟨none, .st 9 (.t 7) (.t 27), none⟩]])
    (.seq (.seq (.region [⟨some 28, .fa 0 (.t 6), none⟩,
      ⟨some 29, .ld true 2 (.t 28), none⟩,
      ⟨some 30, .fa 0 (.t 7), none⟩,
      ⟨some 31, .ld true 2 (.t 30), none⟩,
      ⟨some 32, .call 47 [.t 29, .t 31], none⟩,
      ⟨some 33, .not (.t 32), none⟩,
      ⟨some 34, .mv (.t 33), none⟩,
      ⟨some 35, .fa 2 (.t 6), (some (34, false))⟩,
      ⟨some 36, .ld false 1 (.t 35), (some (34, false))⟩,
      ⟨some 37, .fa 2 (.t 7), (some (34, false))⟩,
      ⟨some 38, .ld false 1 (.t 37), (some (34, false))⟩,
      ⟨some 39, .bin false .neq (.t 36) (.t 38), (some (34, false))⟩,
      ⟨some 40, .pick (.t 34) (.c (.d (.bool true))) (.t 39), none⟩,
      ⟨some 41, .mv (.t 40), none⟩,
      ⟨some 42, .fa 3 (.t 6), (some (41, false))⟩,
      ⟨some 43, .ld false 1 (.t 42), (some (41, false))⟩,
      ⟨some 44, .fa 3 (.t 7), (some (41, false))⟩,
      ⟨some 45, .ld false 1 (.t 44), (some (41, false))⟩,
      ⟨some 46, .bin false .neq (.t 43) (.t 45), (some (41, false))⟩,
      ⟨some 47, .pick (.t 41) (.c (.d (.bool true))) (.t 46), none⟩,
      ⟨some 48, .mv (.t 47), none⟩,
      ⟨some 49, .fa 4 (.t 6), (some (48, false))⟩,
      ⟨some 50, .ld false 1 (.t 49), (some (48, false))⟩,
      ⟨some 51, .lenR 145 56 (.t 50), (some (48, false))⟩,
      ⟨some 52, .fa 4 (.t 7), (some (48, false))⟩,
      ⟨some 53, .ld false 1 (.t 52), (some (48, false))⟩,
      ⟨some 54, .lenR 145 56 (.t 53), (some (48, false))⟩,
      ⟨some 55, .bin false .neq (.t 51) (.t 54), (some (48, false))⟩,
      ⟨some 56, .pick (.t 48) (.c (.d (.bool true))) (.t 55), none⟩,
      ⟨some 57, .mv (.t 56), none⟩,
      ⟨some 58, .fa 8 (.t 6), (some (57, false))⟩,
      ⟨some 59, .ld false 1 (.t 58), (some (57, false))⟩,
      ⟨some 60, .fa 8 (.t 7), (some (57, false))⟩,
      ⟨some 61, .ld false 1 (.t 60), (some (57, false))⟩,
      ⟨some 62, .call 12 [.t 59, .t 61], (some (57, false))⟩,
      ⟨some 63, .not (.t 62), (some (57, false))⟩,
      ⟨some 64, .pick (.t 57) (.c (.d (.bool true))) (.t 63), none⟩] false)
    (.cond (.t 64) (.seq (.region [⟨some 4, .mv (.c (.d (.bool false))), none⟩] false)
    (.ret))
    (.skip)))
    (.seq (.seq (.region [⟨some 8, .mv (.c (.d (.int .i64 0))), none⟩] false)
    (.block 2 (.loop (.seq (.seq (.region [⟨some 65, .mv (.t 8), none⟩,
      ⟨some 66, .fa 4 (.t 6), none⟩,
      ⟨some 67, .ld false 1 (.t 66), none⟩,
      ⟨some 68, .lenR 145 56 (.t 67), none⟩,
      ⟨some 69, .bin false .lss (.t 65) (.t 68), none⟩] false)
    (.cond (.t 69) (.skip)
    (.exit 2)))
    (.seq (.block 3 (.seq (.region [⟨some 72, .fa 4 (.t 6), none⟩,
      ⟨some 73, .ld false 1 (.t 72), none⟩,
      ⟨some 74, .mv (.t 8), none⟩,
      ⟨some 75, .ia 145 5 (.t 73) (.t 74), none⟩,
      ⟨some 76, .ldc true 5 (.t 75), none⟩,
      ⟨some 77, .fa 4 (.t 7), none⟩,
      ⟨some 78, .ld false 1 (.t 77), none⟩,
      ⟨some 79, .mv (.t 8), none⟩,
      ⟨some 80, .ia 145 5 (.t 78) (.t 79), none⟩,
      ⟨some 81, .ldc true 5 (.t 80), none⟩,
      ⟨some 82, .pr (.eqAgg [.s, .i, .i, .s, .i] true) [.t 76, .t 81], none⟩] true)
    (.cond (.t 82) (.seq (.region [⟨some 4, .mv (.c (.d (.bool false))), none⟩] false)
    (.ret))
    (.skip))))
    (.region [⟨some 70, .mv (.t 8), none⟩,
      ⟨some 71, .bin false .add (.t 70) (.c (.d (.int .i64 1))), none⟩,
      ⟨some 8, .mv (.t 71), none⟩] false))))))
    (.seq (.region [⟨some 83, .fa 5 (.t 6), none⟩,
      ⟨some 84, .ld false 1 (.t 83), none⟩,
      ⟨some 85, .fa 5 (.t 7), none⟩,
      ⟨some 86, .ld false 1 (.t 85), none⟩,
      ⟨some 87, .call 48 [.t 84, .t 86], none⟩,
      ⟨some 88, .not (.t 87), none⟩,
      ⟨some 89, .mv (.t 88), none⟩,
      ⟨some 90, .fa 6 (.t 6), (some (89, false))⟩,
      ⟨some 91, .ld false 1 (.t 90), (some (89, false))⟩,
      ⟨some 92, .fa 6 (.t 7), (some (89, false))⟩,
      ⟨some 93, .ld false 1 (.t 92), (some (89, false))⟩,
      ⟨some 94, .call 49 [.t 91, .t 93], (some (89, false))⟩,
      ⟨some 95, .not (.t 94), (some (89, false))⟩,
      ⟨some 96, .pick (.t 89) (.c (.d (.bool true))) (.t 95), none⟩,
      ⟨some 97, .mv (.t 96), none⟩,
      ⟨some 98, .fa 7 (.t 6), (some (97, false))⟩,
      ⟨some 99, .ld false 1 (.t 98), (some (97, false))⟩,
      ⟨some 100, .fa 7 (.t 7), (some (97, false))⟩,
      ⟨some 101, .ld false 1 (.t 100), (some (97, false))⟩,
      ⟨some 102, .call 50 [.t 99, .t 101], (some (97, false))⟩,
      ⟨some 103, .not (.t 102), (some (97, false))⟩,
      ⟨some 104, .pick (.t 97) (.c (.d (.bool true))) (.t 103), none⟩] false)
    (.cond (.t 104) (.seq (.region [⟨some 4, .mv (.c (.d (.bool false))), none⟩] false)
    (.ret))
    (.skip)))))))
    (.region [⟨some 18, .mv (.t 5), none⟩,
      ⟨some 19, .bin false .add (.t 18) (.c (.d (.int .i64 1))), none⟩,
      ⟨some 5, .mv (.t 19), none⟩] false))))))
    (.seq (.region [⟨some 4, .mv (.c (.d (.bool true))), none⟩] false)
    (.ret))))
theorem ok49 : FnOK Tryz.prog 49 rf49 := ⟨Tryz.f49, _, Tryz.func49, rfl, by kernel_rfl, rfl, by kernel_rfl, by kernel_rfl⟩
def rf50 : RFn where
  ntmps := 107
  mt := [6, 7, 28, 30, 35, 37, 42, 44, 49, 51, 56, 58, 63, 65, 71, 73, 78, 80, 85, 87, 93, 95, 101, 103]
  results := [.tmp 4]
  body := .seq (.region [⟨some 4, .mv (.c (.d (.bool false))), none⟩] false)
    (.seq (.seq (.region [⟨some 8, .mv (.t 0), none⟩,
      ⟨some 9, .lenR 107 272 (.t 8), none⟩,
      ⟨some 10, .mv (.t 1), none⟩,
      ⟨some 11, .lenR 107 272 (.t 10), none⟩,
      ⟨some 12, .bin false .neq (.t 9) (.t 11), none⟩] false)
    (.cond (.t 12) (.seq (.region [⟨some 4, .mv (.c (.d (.bool false))), none⟩] false)
    (.ret))
    (.skip)))
    (.seq (.seq (.region [⟨some 5, .mv (.c (.d (.int .i64 0))), none⟩] false)
    (.block 0 (.loop (.seq (.seq (.region [⟨some 13, .mv (.t 5), none⟩,
      ⟨some 14, .mv (.t 0), none⟩,
      ⟨some 15, .lenR 107 272 (.t 14), none⟩,
      ⟨some 16, .bin false .lss (.t 13) (.t 15), none⟩] false)
    (.cond (.t 16) (.skip)
    (.exit 0)))
    (.seq (.block 1 (.seq (.regions [[⟨some 19, .mv (.t 0), none⟩,
      ⟨some 20, .mv (.t 5), none⟩,
      ⟨some 21, .ia 107 16 (.t 19) (.t 20), none⟩,
      ⟨some 22, .ldc true 16 (.t 21), none⟩,
      ⟨some 23, .mv (.t 1), none⟩,
      ⟨some 24, .mv (.t 5), none⟩,
      ⟨some 25, .ia 107 16 (.t 23) (.t 24), none⟩,
      ⟨some 26, .ldc true 16 (.t 25), none⟩,
      ⟨some 6, .alloc 107 [.nil 9, .nil 9, .d (.int .i64 0), .d (.str []), .d (.int .i64 0), .d (.int .i64 0), .d (.str []), .d (.str []), .nil 44, .nil 44, .d (.bool false), .d (.bool false), .nil 107, .nil 107, .nil 9, .nil 9], none⟩,
      ⟨some 7, .alloc 107 [.nil 9, .nil 9, .d (.int .i64 0), .d (.str []), .d (.int .i64 0), .d (.int .i64 0), .d (.str []), .d (.str []), .nil 44, .nil 44, .d (.bool false), .d (.bool false), .nil 107, .nil 107, .nil 9, .nil 9], none⟩,
      ⟨none, .st 16 (.t 6) (.t 22), none⟩,
      ⟨none, .st 16 (.t 7) (.t 26), none⟩],
     [⟨some 19, .mv (.t 0), none⟩,
      ⟨some 20, .mv (.t 5), none⟩,
      ⟨some 21, .ia 107 16 (.t 19) (.t 20), none⟩,
      ⟨some 22, .ldc true 16 (.t 21), none⟩,
      ⟨some 23, .mv (.t 1), none⟩,
      ⟨some 24, .mv (.t 5), none⟩,
      ⟨some 25, .ia 107 16 (.t 23) (.t 24), none⟩,
      ⟨some 26, .ldc true 16 (.t 25), none⟩,
      ⟨some 7, .alloc 107 [.nil 9, .nil 9, .d (.int .i64 0), .d (.str []), .d (.int .i64 0), .d (.int .i64 0), .d (.str []), .d (.str []), .nil 44, .nil 44, .d (.bool false), .d (.bool false), .nil 107, .nil 107, .nil 9, .nil 9], none⟩,
      ⟨some 6, .alloc 107 [.nil 9, .nil 9, .d (.int .i64 0), .d (.str []), .d (.int .i64 0), .d (.int .i64 0), .d (.str []), .d (.str []), .nil 44, .nil 44, .d (.bool false), .d (.bool false), .nil 107, .nil 107, .nil 9, .nil 9], none⟩,
      ⟨none, .st 16 (.t 6) (.t 22), none⟩,
      ⟨none, .st 16 (.t 7) (.t 26), none⟩]])
    (.seq (.seq (.region [⟨some 27, .fa 0 (.t 6), none⟩,
      ⟨some 28, .ld true 2 (.t 27), none⟩,
      ⟨some 29, .fa 0 (.t 7), none⟩,
      ⟨some 30, .ld true 2 (.t 29), none⟩,
      ⟨some 31, .call 47 [.t 28, .t 30], none⟩,
      ⟨some 32, .not (.t 31), none⟩,
      ⟨some 33, .mv (.t 32), none⟩,
      ⟨some 34, .fa 2 (.t 6), (some (33, false))⟩,
      ⟨some 35, .ld false 1 (.t 34), (some (33, false))⟩,
      ⟨some 36, .fa 2 (.t 7), (some (33, false))⟩,
      ⟨some 37, .ld false 1 (.t 36), (some (33, false))⟩,
      ⟨some 38, .bin false .neq (.t 35) (.t 37), (some (33, false))⟩,
      ⟨some 39, .pick (.t 33) (.c (.d (.bool true))) (.t 38), none⟩,
      ⟨some 40, .mv (.t 39), none⟩,
      ⟨some 41, .fa 3 (.t 6), (some (40, false))⟩,
      ⟨some 42, .ld false 1 (.t 41), (some (40, false))⟩,
      ⟨some 43, .fa 3 (.t 7), (some (40, false))⟩,
      ⟨some 44, .ld false 1 (.t 43), (some (40, false))⟩,
      ⟨some 45, .bin false .neq (.t 42) (.t 44), (some (40, false))⟩,
      ⟨some 46, .pick (.t 40) (.c (.d (.bool true))) (.t 45), none⟩,
      ⟨some 47, .mv (.t 46), none⟩,
      ⟨some 48, .fa 10 (.t 6), (some (47, false))⟩,
      ⟨some 49, .ld false 1 (.t 48), (some (47, false))⟩,
      ⟨some 50, .fa 10 (.t 7), (some (47, false))⟩,
      ⟨some 51, .ld false 1 (.t 50), (some (47, false))⟩,
      ⟨some 52, .bin true .neq (.t 49) (.t 51), (some (47, false))⟩,
      ⟨some 53, .pick (.t 47) (.c (.d (.bool true))) (.t 52), none⟩,
      ⟨some 54, .mv (.t 53), none⟩,
      ⟨some 55, .fa 11 (.t 6), (some (54, false))⟩,
      ⟨some 56, .ld false 1 (.t 55), (some (54, false))⟩,
      ⟨some 57, .fa 11 (.t 7), (some (54, false))⟩,
      ⟨some 58, .ld false 1 (.t 57), (some (54, false))⟩,
      ⟨some 59, .bin true .neq (.t 56) (.t 58), (some (54, false))⟩,
      ⟨some 60, .pick (.t 54) (.c (.d (.bool true))) (.t 59), none⟩,
      ⟨some 61, .mv (.t 60), none⟩,
      ⟨some 62, .fa 4 (.t 6), (some (61, false))⟩,
      ⟨some 63, .ld true 5 (.t 62), (some (61, false))⟩,
      ⟨some 64, .fa 4 (.t 7), (some (61, false))⟩,
      ⟨some 65, .ld true 5 (.t 64), (some (61, false))⟩,
      ⟨some 66, .call 22 [.t 63, .t 65], (some (61, false))⟩,
      ⟨some 67, .not (.t 66), (some (61, false))⟩,
      ⟨some 68, .pick (.t 61) (.c (.d (.bool true))) (.t 67), none⟩,
      ⟨some 69, .mv (.t 68), none⟩,
      ⟨some 70, .fa 9 (.t 6), (some (69, false))⟩,
      ⟨some 71, .ld false 1 (.t 70), (some (69, false))⟩,
      ⟨some 72, .fa 9 (.t 7), (some (69, false))⟩,
      ⟨some 73, .ld false 1 (.t 72), (some (69, false))⟩,
      ⟨some 74, .call 64 [.t 71, .t 73], (some (69, false))⟩,
      ⟨some 75, .not (.t 74), (some (69, false))⟩,
      ⟨some 76, .pick (.t 69) (.c (.d (.bool true))) (.t 75), none⟩] false)
    (.cond (.t 76) (.seq (.region [⟨some 4, .mv (.c (.d (.bool false))), none⟩] false)
    (.ret))
    (.skip)))
    (.seq (.region [⟨some 77, .fa 14 (.t 6), none⟩,
      ⟨some 78, .ld false 1 (.t 77), none⟩,
      ⟨some 79, .fa 14 (.t 7), none⟩,
      ⟨some 80, .ld false 1 (.t 79), none⟩,
      ⟨some 81, .call 12 [.t 78, .t 80], none⟩,
      ⟨some 82, .not (.t 81), none⟩,
      ⟨some 83, .mv (.t 82), none⟩,
      ⟨some 84, .fa 15 (.t 6), (some (83, false))⟩,
      ⟨some 85, .ld false 1 (.t 84), (some (83, false))⟩,
      ⟨some 86, .fa 15 (.t 7), (some (83, false))⟩,
      ⟨some 87, .ld false 1 (.t 86), (some (83, false))⟩,
      ⟨some 88, .call 12 [.t 85, .t 87], (some (83, false))⟩,
      ⟨some 89, .not (.t 88), (some (83, false))⟩,
      ⟨some 90, .pick (.t 83) (.c (.d (.bool true))) (.t 89), none⟩,
      ⟨some 91, .mv (.t 90), none⟩,
      ⟨some 92, .fa 12 (.t 6), (some (91, false))⟩,
      ⟨some 93, .ld false 1 (.t 92), (some (91, false))⟩,
      ⟨some 94, .fa 12 (.t 7), (some (91, false))⟩,
      ⟨some 95, .ld false 1 (.t 94), (some (91, false))⟩,
      ⟨some 96, .call 50 [.t 93, .t 95], (some (91, false))⟩,
      ⟨some 97, .not (.t 96), (some (91, false))⟩,
      ⟨some 98, .pick (.t 91) (.c (.d (.bool true))) (.t 97), none⟩,
      ⟨some 99, .mv (.t 98), none⟩,
      ⟨some 100, .fa 13 (.t 6), (some (99, false))⟩,
      ⟨some 101, .ld false 1 (.t 100), (some (99, false))⟩,
      ⟨some 102, .fa 13 (.t 7), (some (99, false))⟩,
      ⟨some 103, .ld false 1 (.t 102), (some (99, false))⟩,
      ⟨some 104, .call 50 [.t 101, .t 103], (some (99, false))⟩,
      ⟨some 105, .not (.t 104), (some (99, false))⟩,
      ⟨some 106, .pick (.t 99) (.c (.d (.bool true))) (.t 105), none⟩] false)
    (.cond (.t 106) (.seq (.region [⟨some 4, .mv (.c (.d (.bool false))), none⟩] false)
    (.ret))
    (.skip))))))
    (.region [⟨some 17, .mv (.t 5), none⟩,
      ⟨some 18, .bin false .add (.t 17) (.c (.d (.int .i64 1))), none⟩,
      ⟨some 5, .mv (.t 18), none⟩] false))))))
    (.seq (.region [⟨some 4, .mv (.c (.d (.bool true))), none⟩] false)
    (.ret))))
theorem ok50 : FnOK Tryz.prog 50 rf50 := ⟨Tryz.f50, _, Tryz.func50, rfl, by kernel_rfl, rfl, by kernel_rfl, by kernel_rfl⟩
def rf54 : RFn where
  ntmps := 26
  mt := []
  results := [.tmp 4]
  body := .seq (.region [⟨some 4, .mv (.c (.d (.bool false))), none⟩] false)
    (.seq (.seq (.region [⟨some 6, .mv (.t 0), none⟩,
      ⟨some 7, .lenR 9 16 (.t 6), none⟩,
      ⟨some 8, .mv (.t 1), none⟩,
      ⟨some 9, .lenR 9 16 (.t 8), none⟩,
      ⟨some 10, .bin false .neq (.t 7) (.t 9), none⟩] false)
    (.cond (.t 10) (.seq (.region [⟨some 4, .mv (.c (.d (.bool false))), none⟩] false)
    (.ret))
    (.skip)))
    (.seq (.seq (.region [⟨some 11, .mv (.t 0), none⟩,
      ⟨some 12, .lenR 9 16 (.t 11), none⟩,
      ⟨some 13, .mv (.c (.d (.int .i64 0))), none⟩] false)
    (.block 0 (.loop (.seq (.region [⟨some 14, .bin false .lss (.t 13) (.t 12), none⟩] false)
    (.seq (.cond (.t 14) (.skip)
    (.exit 0))
    (.seq (.block 1 (.seq (.region [⟨some 15, .mv (.t 13), none⟩,
      ⟨some 5, .mv (.t 15), none⟩] false)
    (.seq (.region [⟨some 16, .mv (.t 0), none⟩,
      ⟨some 17, .mv (.t 5), none⟩,
      ⟨some 18, .ia 9 1 (.t 16) (.t 17), none⟩,
      ⟨some 19, .ldc false 1 (.t 18), none⟩,
      ⟨some 20, .mv (.t 1), none⟩,
      ⟨some 21, .mv (.t 5), none⟩,
      ⟨some 22, .ia 9 1 (.t 20) (.t 21), none⟩,
      ⟨some 23, .ldc false 1 (.t 22), none⟩,
      ⟨some 24, .bin false .neq (.t 19) (.t 23), none⟩] true)
    (.cond (.t 24) (.seq (.region [⟨some 4, .mv (.c (.d (.bool false))), none⟩] false)
    (.ret))
    (.skip)))))
    (.region [⟨some 25, .bin false .add (.t 13) (.c (.d (.int .i64 1))), none⟩,
      ⟨some 13, .mv (.t 25), none⟩] false)))))))
    (.seq (.region [⟨some 4, .mv (.c (.d (.bool true))), none⟩] false)
    (.ret))))
theorem ok54 : FnOK Tryz.prog 54 rf54 := ⟨Tryz.f54, _, Tryz.func54, rfl, by kernel_rfl, rfl, by kernel_rfl, by kernel_rfl⟩
def rf55 : RFn where
  ntmps := 32
  mt := [8, 9, 27, 28]
  results := [.tmp 6]
  body := .seq (.region [⟨some 6, .mv (.c (.d (.bool false))), none⟩] false)
    (.seq (.seq (.region [⟨some 10, .mv (.t 0), none⟩,
      ⟨some 11, .lenR 59 112 (.t 10), none⟩,
      ⟨some 12, .mv (.t 1), none⟩,
      ⟨some 13, .lenR 59 112 (.t 12), none⟩,
      ⟨some 14, .bin false .neq (.t 11) (.t 13), none⟩] false)
    (.cond (.t 14) (.seq (.region [⟨some 6, .mv (.c (.d (.bool false))), none⟩] false)
    (.ret))
    (.skip)))
    (.seq (.seq (.region [⟨some 15, .mv (.t 0), none⟩,
      ⟨some 16, .lenR 59 112 (.t 15), none⟩,
      ⟨some 17, .mv (.c (.d (.int .i64 0))), none⟩] false)
    (.block 0 (.loop (.seq (.region [⟨some 18, .bin false .lss (.t 17) (.t 16), none⟩] false)
    (.seq (.cond (.t 18) (.skip)
    (.exit 0))
    (.seq (.block 1 (.seq (.region [⟨some 19, .mv (.t 17), none⟩,
      ⟨some 20, .ia 59 5 (.t 15) (.t 17), none⟩,
      ⟨some 21, .ldc true 5 (.t 20), none⟩,
      ⟨some 8, .alloc 59 [.nil 9, .nil 9, .d (.str []), .nil 69, .nil 9], none⟩,
      ⟨some 7, .mv (.t 19), none⟩,
      ⟨none, .st 5 (.t 8) (.t 21), none⟩] false)
    (.seq (.region [⟨some 22, .mv (.t 1), none⟩,
      ⟨some 23, .mv (.t 7), none⟩,
      ⟨some 24, .ia 59 5 (.t 22) (.t 23), none⟩,
      ⟨some 25, .ldc true 5 (.t 24), none⟩,
      ⟨some 9, .alloc 59 [.nil 9, .nil 9, .d (.str []), .nil 69, .nil 9], none⟩,
      ⟨none, .st 5 (.t 9) (.t 25), none⟩] false)
    (.seq (.region [⟨some 26, .mv (.t 2), none⟩,
      ⟨some 27, .ld true 5 (.t 8), none⟩,
      ⟨some 28, .ld true 5 (.t 9), none⟩,
      ⟨some 29, .callv (.t 26) [.t 27, .t 28], none⟩,
      ⟨some 30, .not (.t 29), none⟩] false)
    (.cond (.t 30) (.seq (.region [⟨some 6, .mv (.c (.d (.bool false))), none⟩] false)
    (.ret))
    (.skip))))))
    (.region [⟨some 31, .bin false .add (.t 17) (.c (.d (.int .i64 1))), none⟩,
      ⟨some 17, .mv (.t 31), none⟩] false)))))))
    (.seq (.region [⟨some 6, .mv (.c (.d (.bool true))), none⟩] false)
    (.ret))))
theorem ok55 : FnOK Tryz.prog 55 rf55 := ⟨Tryz.f55, _, Tryz.func55, rfl, by kernel_rfl, rfl, by kernel_rfl, by kernel_rfl⟩
def rf56 : RFn where
  ntmps := 31
  mt := []
  results := [.tmp 4]
  body := .seq (.region [⟨some 2, .boxI (.t 0), none⟩,
      ⟨some 3, .boxI (.t 1), none⟩,
      ⟨some 4, .mv (.c (.d (.bool false))), none⟩] false)
    (.seq (.region [⟨some 5, .fa 0 (.t 2), none⟩,
      ⟨some 6, .ldc true 2 (.t 5), none⟩,
      ⟨some 7, .fa 0 (.t 3), none⟩,
      ⟨some 8, .ldc true 2 (.t 7), none⟩,
      ⟨some 9, .call 109 [.t 6, .t 8], none⟩,
      ⟨some 10, .mv (.t 9), none⟩,
      ⟨some 11, .fa 2 (.t 2), (some (10, true))⟩,
      ⟨some 12, .ldc false 1 (.t 11), (some (10, true))⟩,
      ⟨some 13, .fa 2 (.t 3), (some (10, true))⟩,
      ⟨some 14, .ldc false 1 (.t 13), (some (10, true))⟩,
      ⟨some 15, .bin false .eql (.t 12) (.t 14), (some (10, true))⟩,
      ⟨some 16, .pick (.t 10) (.t 15) (.c (.d (.bool false))), none⟩,
      ⟨some 17, .mv (.t 16), none⟩,
      ⟨some 18, .fa 4 (.t 2), (some (17, true))⟩,
      ⟨some 19, .ldc false 1 (.t 18), (some (17, true))⟩,
      ⟨some 20, .fa 4 (.t 3), (some (17, true))⟩,
      ⟨some 21, .ldc false 1 (.t 20), (some (17, true))⟩,
      ⟨some 22, .call 54 [.t 19, .t 21], (some (17, true))⟩,
      ⟨some 23, .pick (.t 17) (.t 22) (.c (.d (.bool false))), none⟩,
      ⟨some 24, .mv (.t 23), none⟩,
      ⟨some 25, .fa 3 (.t 2), (some (24, true))⟩,
      ⟨some 26, .ldc false 1 (.t 25), (some (24, true))⟩,
      ⟨some 27, .fa 3 (.t 3), (some (24, true))⟩,
      ⟨some 28, .ldc false 1 (.t 27), (some (24, true))⟩,
      ⟨some 29, .call 110 [.t 26, .t 28, .c (.clo 111 [] [])], (some (24, true))⟩,
      ⟨some 30, .pick (.t 24) (.t 29) (.c (.d (.bool false))), none⟩,
      ⟨some 4, .mv (.t 30), none⟩] false)
    (.ret))
theorem ok56 : FnOK Tryz.prog 56 rf56 := ⟨Tryz.f56, _, Tryz.func56, rfl, by kernel_rfl, rfl, by kernel_rfl, by kernel_rfl⟩
def rf57 : RFn where
  ntmps := 32
  mt := [8, 9, 27, 28]
  results := [.tmp 6]
  body := .seq (.region [⟨some 6, .mv (.c (.d (.bool false))), none⟩] false)
    (.seq (.seq (.region [⟨some 10, .mv (.t 0), none⟩,
      ⟨some 11, .lenR 98 96 (.t 10), none⟩,
      ⟨some 12, .mv (.t 1), none⟩,
      ⟨some 13, .lenR 98 96 (.t 12), none⟩,
      ⟨some 14, .bin false .neq (.t 11) (.t 13), none⟩] false)
    (.cond (.t 14) (.seq (.region [⟨some 6, .mv (.c (.d (.bool false))), none⟩] false)
    (.ret))
    (.skip)))
    (.seq (.seq (.region [⟨some 15, .mv (.t 0), none⟩,
      ⟨some 16, .lenR 98 96 (.t 15), none⟩,
      ⟨some 17, .mv (.c (.d (.int .i64 0))), none⟩] false)
    (.block 0 (.loop (.seq (.region [⟨some 18, .bin false .lss (.t 17) (.t 16), none⟩] false)
    (.seq (.cond (.t 18) (.skip)
    (.exit 0))
    (.seq (.block 1 (.seq (.region [⟨some 19, .mv (.t 17), none⟩,
      ⟨some 20, .ia 98 6 (.t 15) (.t 17), none⟩,
      ⟨some 21, .ldc true 6 (.t 20), none⟩,
      ⟨some 8, .alloc 98 [.nil 9, .nil 9, .d (.str []), .d (.int .i64 0), .d (.int .i64 0), .d (.str [])], none⟩,
      ⟨some 7, .mv (.t 19), none⟩,
      ⟨none, .st 6 (.t 8) (.t 21), none⟩] false)
    (.seq (.region [⟨some 22, .mv (.t 1), none⟩,
      ⟨some 23, .mv (.t 7), none⟩,
      ⟨some 24, .ia 98 6 (.t 22) (.t 23), none⟩,
      ⟨some 25, .ldc true 6 (.t 24), none⟩,
      ⟨some 9, .alloc 98 [.nil 9, .nil 9, .d (.str []), .d (.int .i64 0), .d (.int .i64 0), .d (.str [])], none⟩,
      ⟨none, .st 6 (.t 9) (.t 25), none⟩] false)
    (.seq (.region [⟨some 26, .mv (.t 2), none⟩,
      ⟨some 27, .ld true 6 (.t 8), none⟩,
      ⟨some 28, .ld true 6 (.t 9), none⟩,
      ⟨some 29, .callv (.t 26) [.t 27, .t 28], none⟩,
      ⟨some 30, .not (.t 29), none⟩] false)
    (.cond (.t 30) (.seq (.region [⟨some 6, .mv (.c (.d (.bool false))), none⟩] false)
    (.ret))
    (.skip))))))
    (.region [⟨some 31, .bin false .add (.t 17) (.c (.d (.int .i64 1))), none⟩,
      ⟨some 17, .mv (.t 31), none⟩] false)))))))
    (.seq (.region [⟨some 6, .mv (.c (.d (.bool true))), none⟩] false)
    (.ret))))
theorem ok57 : FnOK Tryz.prog 57 rf57 := ⟨Tryz.f57, _, Tryz.func57, rfl, by kernel_rfl, rfl, by kernel_rfl, by kernel_rfl⟩
def rf58 : RFn where
  ntmps := 24
  mt := []
  results := [.tmp 4]
  body := .seq (.region [⟨some 2, .boxI (.t 0), none⟩,
      ⟨some 3, .boxI (.t 1), none⟩,
      ⟨some 4, .mv (.c (.d (.bool false))), none⟩] false)
    (.seq (.region [⟨some 5, .fa 0 (.t 2), none⟩,
      ⟨some 6, .ldc true 2 (.t 5), none⟩,
      ⟨some 7, .fa 0 (.t 3), none⟩,
      ⟨some 8, .ldc true 2 (.t 7), none⟩,
      ⟨some 9, .call 109 [.t 6, .t 8], none⟩,
      ⟨some 10, .mv (.t 9), none⟩,
      ⟨some 11, .fa 2 (.t 2), (some (10, true))⟩,
      ⟨some 12, .ldc false 1 (.t 11), (some (10, true))⟩,
      ⟨some 13, .fa 2 (.t 3), (some (10, true))⟩,
      ⟨some 14, .ldc false 1 (.t 13), (some (10, true))⟩,
      ⟨some 15, .bin false .eql (.t 12) (.t 14), (some (10, true))⟩,
      ⟨some 16, .pick (.t 10) (.t 15) (.c (.d (.bool false))), none⟩,
      ⟨some 17, .mv (.t 16), none⟩,
      ⟨some 18, .fa 3 (.t 2), (some (17, true))⟩,
      ⟨some 19, .ldc true 3 (.t 18), (some (17, true))⟩,
      ⟨some 20, .fa 3 (.t 3), (some (17, true))⟩,
      ⟨some 21, .ldc true 3 (.t 20), (some (17, true))⟩,
      ⟨some 22, .pr (.eqAgg [.i, .i, .s] false) [.t 19, .t 21], (some (17, true))⟩,
      ⟨some 23, .pick (.t 17) (.t 22) (.c (.d (.bool false))), none⟩,
      ⟨some 4, .mv (.t 23), none⟩] false)
    (.ret))
theorem ok58 : FnOK Tryz.prog 58 rf58 := ⟨Tryz.f58, _, Tryz.func58, rfl, by kernel_rfl, rfl, by kernel_rfl, by kernel_rfl⟩
def rf59 : RFn where
  ntmps := 32
  mt := [8, 9, 27, 28]
  results := [.tmp 6]
  body := .seq (.region [⟨some 6, .mv (.c (.d (.bool false))), none⟩] false)
    (.seq (.seq (.region [⟨some 10, .mv (.t 0), none⟩,
      ⟨some 11, .lenR 103 192 (.t 10), none⟩,
      ⟨some 12, .mv (.t 1), none⟩,
      ⟨some 13, .lenR 103 192 (.t 12), none⟩,
      ⟨some 14, .bin false .neq (.t 11) (.t 13), none⟩] false)
    (.cond (.t 14) (.seq (.region [⟨some 6, .mv (.c (.d (.bool false))), none⟩] false)
    (.ret))
    (.skip)))
    (.seq (.seq (.region [⟨some 15, .mv (.t 0), none⟩,
      ⟨some 16, .lenR 103 192 (.t 15), none⟩,
      ⟨some 17, .mv (.c (.d (.int .i64 0))), none⟩] false)
    (.block 0 (.loop (.seq (.region [⟨some 18, .bin false .lss (.t 17) (.t 16), none⟩] false)
    (.seq (.cond (.t 18) (.skip)
    (.exit 0))
    (.seq (.block 1 (.seq (.region [⟨some 19, .mv (.t 17), none⟩,
      ⟨some 20, .ia 103 9 (.t 15) (.t 17), none⟩,
      ⟨some 21, .ldc true 9 (.t 20), none⟩,
      ⟨some 8, .alloc 103 [.nil 9, .nil 9, .d (.str []), .d (.int .i64 0), .nil 145, .nil 98, .nil 103, .nil 107, .nil 9], none⟩,
      ⟨some 7, .mv (.t 19), none⟩,
      ⟨none, .st 9 (.t 8) (.t 21), none⟩] false)
    (.seq (.region [⟨some 22, .mv (.t 1), none⟩,
      ⟨some 23, .mv (.t 7), none⟩,
      ⟨some 24, .ia 103 9 (.t 22) (.t 23), none⟩,
      ⟨some 25, .ldc true 9 (.t 24), none⟩,
      ⟨some 9, .alloc 103 [.nil 9, .nil 9, .d (.str []), .d (.int .i64 0), .nil 145, .nil 98, .nil 103, .nil 107, .nil 9], none⟩,
      ⟨none, .st 9 (.t 9) (.t 25), none⟩] false)
    (.seq (.region [⟨some 26, .mv (.t 2), none⟩,
      ⟨some 27, .ld true 9 (.t 8), none⟩,
      ⟨some 28, .ld true 9 (.t 9), none⟩,
      ⟨some 29, .callv (.t 26) [.t 27, .t 28], none⟩,
      ⟨some 30, .not (.t 29), none⟩] false)
    (.cond (.t 30) (.seq (.region [⟨some 6, .mv (.c (.d (.bool false))), none⟩] false)
    (.ret))
    (.skip))))))
    (.region [⟨some 31, .bin false .add (.t 17) (.c (.d (.int .i64 1))), none⟩,
      ⟨some 17, .mv (.t 31), none⟩] false)))))))
    (.seq (.region [⟨some 6, .mv (.c (.d (.bool true))), none⟩] false)
    (.ret))))
theorem ok59 : FnOK Tryz.prog 59 rf59 := ⟨Tryz.f59, _, Tryz.func59, rfl, by kernel_rfl, rfl, by kernel_rfl, by kernel_rfl⟩
def rf60 : RFn where
  ntmps := 59
  mt := []
  results := [.tmp 4]
  body := .seq (.region [⟨some 2, .boxI (.t 0), none⟩,
      ⟨some 3, .boxI (.t 1), none⟩,
      ⟨some 4, .mv (.c (.d (.bool false))), none⟩] false)
    (.seq (.region [⟨some 5, .fa 0 (.t 2), none⟩,
      ⟨some 6, .ldc true 2 (.t 5), none⟩,
      ⟨some 7, .fa 0 (.t 3), none⟩,
      ⟨some 8, .ldc true 2 (.t 7), none⟩,
      ⟨some 9, .call 109 [.t 6, .t 8], none⟩,
      ⟨some 10, .mv (.t 9), none⟩,
      ⟨some 11, .fa 2 (.t 2), (some (10, true))⟩,
      ⟨some 12, .ldc false 1 (.t 11), (some (10, true))⟩,
      ⟨some 13, .fa 2 (.t 3), (some (10, true))⟩,
      ⟨some 14, .ldc false 1 (.t 13), (some (10, true))⟩,
      ⟨some 15, .bin false .eql (.t 12) (.t 14), (some (10, true))⟩,
      ⟨some 16, .pick (.t 10) (.t 15) (.c (.d (.bool false))), none⟩,
      ⟨some 17, .mv (.t 16), none⟩,
      ⟨some 18, .fa 3 (.t 2), (some (17, true))⟩,
      ⟨some 19, .ldc false 1 (.t 18), (some (17, true))⟩,
      ⟨some 20, .fa 3 (.t 3), (some (17, true))⟩,
      ⟨some 21, .ldc false 1 (.t 20), (some (17, true))⟩,
      ⟨some 22, .bin false .eql (.t 19) (.t 21), (some (17, true))⟩,
      ⟨some 23, .pick (.t 17) (.t 22) (.c (.d (.bool false))), none⟩,
      ⟨some 24, .mv (.t 23), none⟩,
      ⟨some 25, .fa 4 (.t 2), (some (24, true))⟩,
      ⟨some 26, .ldc false 1 (.t 25), (some (24, true))⟩,
      ⟨some 27, .fa 4 (.t 3), (some (24, true))⟩,
      ⟨some 28, .ldc false 1 (.t 27), (some (24, true))⟩,
      ⟨some 29, .call 112 [.t 26, .t 28], (some (24, true))⟩,
      ⟨some 30, .pick (.t 24) (.t 29) (.c (.d (.bool false))), none⟩,
      ⟨some 31, .mv (.t 30), none⟩,
      ⟨some 32, .fa 5 (.t 2), (some (31, true))⟩,
      ⟨some 33, .ldc false 1 (.t 32), (some (31, true))⟩,
      ⟨some 34, .fa 5 (.t 3), (some (31, true))⟩,
      ⟨some 35, .ldc false 1 (.t 34), (some (31, true))⟩,
      ⟨some 36, .call 57 [.t 33, .t 35, .c (.clo 58 [] [])], (some (31, true))⟩,
      ⟨some 37, .pick (.t 31) (.t 36) (.c (.d (.bool false))), none⟩,
      ⟨some 38, .mv (.t 37), none⟩,
      ⟨some 39, .fa 6 (.t 2), (some (38, true))⟩,
      ⟨some 40, .ldc false 1 (.t 39), (some (38, true))⟩,
      ⟨some 41, .fa 6 (.t 3), (some (38, true))⟩,
      ⟨some 42, .ldc false 1 (.t 41), (some (38, true))⟩,
      ⟨some 43, .call 59 [.t 40, .t 42, .c (.clo 60 [] [])], (some (38, true))⟩,
      ⟨some 44, .pick (.t 38) (.t 43) (.c (.d (.bool false))), none⟩,
      ⟨some 45, .mv (.t 44), none⟩,
      ⟨some 46, .fa 7 (.t 2), (some (45, true))⟩,
      ⟨some 47, .ldc false 1 (.t 46), (some (45, true))⟩,
      ⟨some 48, .fa 7 (.t 3), (some (45, true))⟩,
      ⟨some 49, .ldc false 1 (.t 48), (some (45, true))⟩,
      ⟨some 50, .call 61 [.t 47, .t 49, .c (.clo 62 [] [])], (some (45, true))⟩,
      ⟨some 51, .pick (.t 45) (.t 50) (.c (.d (.bool false))), none⟩,
      ⟨some 52, .mv (.t 51), none⟩,
      ⟨some 53, .fa 8 (.t 2), (some (52, true))⟩,
      ⟨some 54, .ldc false 1 (.t 53), (some (52, true))⟩,
      ⟨some 55, .fa 8 (.t 3), (some (52, true))⟩,
      ⟨some 56, .ldc false 1 (.t 55), (some (52, true))⟩,
      ⟨some 57, .call 54 [.t 54, .t 56], (some (52, true))⟩,
      ⟨some 58, .pick (.t 52) (.t 57) (.c (.d (.bool false))), none⟩,
      ⟨some 4, .mv (.t 58), none⟩] false)
    (.ret))
theorem ok60 : FnOK Tryz.prog 60 rf60 := ⟨Tryz.f60, _, Tryz.func60, rfl, by kernel_rfl, rfl, by kernel_rfl, by kernel_rfl⟩
def rf61 : RFn where
  ntmps := 32
  mt := [8, 9, 27, 28]
  results := [.tmp 6]
  body := .seq (.region [⟨some 6, .mv (.c (.d (.bool false))), none⟩] false)
    (.seq (.seq (.region [⟨some 10, .mv (.t 0), none⟩,
      ⟨some 11, .lenR 107 272 (.t 10), none⟩,
      ⟨some 12, .mv (.t 1), none⟩,
      ⟨some 13, .lenR 107 272 (.t 12), none⟩,
      ⟨some 14, .bin false .neq (.t 11) (.t 13), none⟩] false)
    (.cond (.t 14) (.seq (.region [⟨some 6, .mv (.c (.d (.bool false))), none⟩] false)
    (.ret))
    (.skip)))
    (.seq (.seq (.region [⟨some 15, .mv (.t 0), none⟩,
      ⟨some 16, .lenR 107 272 (.t 15), none⟩,
      ⟨some 17, .mv (.c (.d (.int .i64 0))), none⟩] false)
    (.block 0 (.loop (.seq (.region [⟨some 18, .bin false .lss (.t 17) (.t 16), none⟩] false)
    (.seq (.cond (.t 18) (.skip)
    (.exit 0))
    (.seq (.block 1 (.seq (.region [⟨some 19, .mv (.t 17), none⟩,
      ⟨some 20, .ia 107 16 (.t 15) (.t 17), none⟩,
      ⟨some 21, .ldc true 16 (.t 20), none⟩,
      ⟨some 8, .alloc 107 [.nil 9, .nil 9, .d (.int .i64 0), .d (.str []), .d (.int .i64 0), .d (.int .i64 0), .d (.str []), .d (.str []), .nil 44, .nil 44, .d (.bool false), .d (.bool false), .nil 107, .nil 107, .nil 9, .nil 9], none⟩,
      ⟨some 7, .mv (.t 19), none⟩,
      ⟨none, .st 16 (.t 8) (.t 21), none⟩] false)
    (.seq (.region [⟨some 22, .mv (.t 1), none⟩,
      ⟨some 23, .mv (.t 7), none⟩,
      ⟨some 24, .ia 107 16 (.t 22) (.t 23), none⟩,
      ⟨some 25, .ldc true 16 (.t 24), none⟩,
      ⟨some 9, .alloc 107 [.nil 9, .nil 9, .d (.int .i64 0), .d (.str []), .d (.int .i64 0), .d (.int .i64 0), .d (.str []), .d (.str []), .nil 44, .nil 44, .d (.bool false), .d (.bool false), .nil 107, .nil 107, .nil 9, .nil 9], none⟩,
      ⟨none, .st 16 (.t 9) (.t 25), none⟩] false)
    (.seq (.region [⟨some 26, .mv (.t 2), none⟩,
      ⟨some 27, .ld true 16 (.t 8), none⟩,
      ⟨some 28, .ld true 16 (.t 9), none⟩,
      ⟨some 29, .callv (.t 26) [.t 27, .t 28], none⟩,
      ⟨some 30, .not (.t 29), none⟩] false)
    (.cond (.t 30) (.seq (.region [⟨some 6, .mv (.c (.d (.bool false))), none⟩] false)
    (.ret))
    (.skip))))))
    (.region [⟨some 31, .bin false .add (.t 17) (.c (.d (.int .i64 1))), none⟩,
      ⟨some 17, .mv (.t 31), none⟩] false)))))))
    (.seq (.region [⟨some 6, .mv (.c (.d (.bool true))), none⟩] false)
    (.ret))))
theorem ok61 : FnOK Tryz.prog 61 rf61 := ⟨Tryz.f61, _, Tryz.func61, rfl, by kernel_rfl, rfl, by kernel_rfl, by kernel_rfl⟩
def rf62 : RFn where
  ntmps := 80
  mt := []
  results := [.tmp 4]
  body := .seq (.region [⟨some 2, .boxI (.t 0), none⟩,
      ⟨some 3, .boxI (.t 1), none⟩,
      ⟨some 4, .mv (.c (.d (.bool false))), none⟩] false)
    (.seq (.region [⟨some 5, .fa 0 (.t 2), none⟩,
      ⟨some 6, .ldc true 2 (.t 5), none⟩,
      ⟨some 7, .fa 0 (.t 3), none⟩,
      ⟨some 8, .ldc true 2 (.t 7), none⟩,
      ⟨some 9, .call 109 [.t 6, .t 8], none⟩,
      ⟨some 10, .mv (.t 9), none⟩,
      ⟨some 11, .fa 2 (.t 2), (some (10, true))⟩,
      ⟨some 12, .ldc false 1 (.t 11), (some (10, true))⟩,
      ⟨some 13, .fa 2 (.t 3), (some (10, true))⟩,
      ⟨some 14, .ldc false 1 (.t 13), (some (10, true))⟩,
      ⟨some 15, .bin false .eql (.t 12) (.t 14), (some (10, true))⟩,
      ⟨some 16, .pick (.t 10) (.t 15) (.c (.d (.bool false))), none⟩,
      ⟨some 17, .mv (.t 16), none⟩,
      ⟨some 18, .fa 3 (.t 2), (some (17, true))⟩,
      ⟨some 19, .ldc false 1 (.t 18), (some (17, true))⟩,
      ⟨some 20, .fa 3 (.t 3), (some (17, true))⟩,
      ⟨some 21, .ldc false 1 (.t 20), (some (17, true))⟩,
      ⟨some 22, .bin false .eql (.t 19) (.t 21), (some (17, true))⟩,
      ⟨some 23, .pick (.t 17) (.t 22) (.c (.d (.bool false))), none⟩,
      ⟨some 24, .mv (.t 23), none⟩,
      ⟨some 25, .fa 4 (.t 2), (some (24, true))⟩,
      ⟨some 26, .ldc true 5 (.t 25), (some (24, true))⟩,
      ⟨some 27, .fa 4 (.t 3), (some (24, true))⟩,
      ⟨some 28, .ldc true 5 (.t 27), (some (24, true))⟩,
      ⟨some 29, .call 21 [.t 26, .t 28], (some (24, true))⟩,
      ⟨some 30, .pick (.t 24) (.t 29) (.c (.d (.bool false))), none⟩,
      ⟨some 31, .mv (.t 30), none⟩,
      ⟨some 32, .fa 9 (.t 2), (some (31, true))⟩,
      ⟨some 33, .ldc false 1 (.t 32), (some (31, true))⟩,
      ⟨some 34, .fa 9 (.t 3), (some (31, true))⟩,
      ⟨some 35, .ldc false 1 (.t 34), (some (31, true))⟩,
      ⟨some 36, .call 63 [.t 33, .t 35, .c (.clo 21 [] [])], (some (31, true))⟩,
      ⟨some 37, .pick (.t 31) (.t 36) (.c (.d (.bool false))), none⟩,
      ⟨some 38, .mv (.t 37), none⟩,
      ⟨some 39, .fa 10 (.t 2), (some (38, true))⟩,
      ⟨some 40, .ldc false 1 (.t 39), (some (38, true))⟩,
      ⟨some 41, .fa 10 (.t 3), (some (38, true))⟩,
      ⟨some 42, .ldc false 1 (.t 41), (some (38, true))⟩,
      ⟨some 43, .bin true .eql (.t 40) (.t 42), (some (38, true))⟩,
      ⟨some 44, .pick (.t 38) (.t 43) (.c (.d (.bool false))), none⟩,
      ⟨some 45, .mv (.t 44), none⟩,
      ⟨some 46, .fa 11 (.t 2), (some (45, true))⟩,
      ⟨some 47, .ldc false 1 (.t 46), (some (45, true))⟩,
      ⟨some 48, .fa 11 (.t 3), (some (45, true))⟩,
      ⟨some 49, .ldc false 1 (.t 48), (some (45, true))⟩,
      ⟨some 50, .bin true .eql (.t 47) (.t 49), (some (45, true))⟩,
      ⟨some 51, .pick (.t 45) (.t 50) (.c (.d (.bool false))), none⟩,
      ⟨some 52, .mv (.t 51), none⟩,
      ⟨some 53, .fa 12 (.t 2), (some (52, true))⟩,
      ⟨some 54, .ldc false 1 (.t 53), (some (52, true))⟩,
      ⟨some 55, .fa 12 (.t 3), (some (52, true))⟩,
      ⟨some 56, .ldc false 1 (.t 55), (some (52, true))⟩,
      ⟨some 57, .call 61 [.t 54, .t 56, .c (.clo 62 [] [])], (some (52, true))⟩,
      ⟨some 58, .pick (.t 52) (.t 57) (.c (.d (.bool false))), none⟩,
      ⟨some 59, .mv (.t 58), none⟩,
      ⟨some 60, .fa 13 (.t 2), (some (59, true))⟩,
      ⟨some 61, .ldc false 1 (.t 60), (some (59, true))⟩,
      ⟨some 62, .fa 13 (.t 3), (some (59, true))⟩,
      ⟨some 63, .ldc false 1 (.t 62), (some (59, true))⟩,
      ⟨some 64, .call 61 [.t 61, .t 63, .c (.clo 62 [] [])], (some (59, true))⟩,
      ⟨some 65, .pick (.t 59) (.t 64) (.c (.d (.bool false))), none⟩,
      ⟨some 66, .mv (.t 65), none⟩,
      ⟨some 67, .fa 14 (.t 2), (some (66, true))⟩,
      ⟨some 68, .ldc false 1 (.t 67), (some (66, true))⟩,
      ⟨some 69, .fa 14 (.t 3), (some (66, true))⟩,
      ⟨some 70, .ldc false 1 (.t 69), (some (66, true))⟩,
      ⟨some 71, .call 54 [.t 68, .t 70], (some (66, true))⟩,
      ⟨some 72, .pick (.t 66) (.t 71) (.c (.d (.bool false))), none⟩,
      ⟨some 73, .mv (.t 72), none⟩,
      ⟨some 74, .fa 15 (.t 2), (some (73, true))⟩,
      ⟨some 75, .ldc false 1 (.t 74), (some (73, true))⟩,
      ⟨some 76, .fa 15 (.t 3), (some (73, true))⟩,
      ⟨some 77, .ldc false 1 (.t 76), (some (73, true))⟩,
      ⟨some 78, .call 54 [.t 75, .t 77], (some (73, true))⟩,
      ⟨some 79, .pick (.t 73) (.t 78) (.c (.d (.bool false))), none⟩,
      ⟨some 4, .mv (.t 79), none⟩] false)
    (.ret))
theorem ok62 : FnOK Tryz.prog 62 rf62 := ⟨Tryz.f62, _, Tryz.func62, rfl, by kernel_rfl, rfl, by kernel_rfl, by kernel_rfl⟩
def rf63 : RFn where
  ntmps := 32
  mt := [8, 9, 27, 28]
  results := [.tmp 6]
  body := .seq (.region [⟨some 6, .mv (.c (.d (.bool false))), none⟩] false)
    (.seq (.seq (.region [⟨some 10, .mv (.t 0), none⟩,
      ⟨some 11, .lenR 44 72 (.t 10), none⟩,
      ⟨some 12, .mv (.t 1), none⟩,
      ⟨some 13, .lenR 44 72 (.t 12), none⟩,
      ⟨some 14, .bin false .neq (.t 11) (.t 13), none⟩] false)
    (.cond (.t 14) (.seq (.region [⟨some 6, .mv (.c (.d (.bool false))), none⟩] false)
    (.ret))
    (.skip)))
    (.seq (.seq (.region [⟨some 15, .mv (.t 0), none⟩,
      ⟨some 16, .lenR 44 72 (.t 15), none⟩,
      ⟨some 17, .mv (.c (.d (.int .i64 0))), none⟩] false)
    (.block 0 (.loop (.seq (.region [⟨some 18, .bin false .lss (.t 17) (.t 16), none⟩] false)
    (.seq (.cond (.t 18) (.skip)
    (.exit 0))
    (.seq (.block 1 (.seq (.region [⟨some 19, .mv (.t 17), none⟩,
      ⟨some 20, .ia 44 5 (.t 15) (.t 17), none⟩,
      ⟨some 21, .ldc true 5 (.t 20), none⟩,
      ⟨some 8, .alloc 44 [.d (.int .i64 0), .d (.int .i64 0), .d (.str []), .d (.str []), .nil 44], none⟩,
      ⟨some 7, .mv (.t 19), none⟩,
      ⟨none, .st 5 (.t 8) (.t 21), none⟩] false)
    (.seq (.region [⟨some 22, .mv (.t 1), none⟩,
      ⟨some 23, .mv (.t 7), none⟩,
      ⟨some 24, .ia 44 5 (.t 22) (.t 23), none⟩,
      ⟨some 25, .ldc true 5 (.t 24), none⟩,
      ⟨some 9, .alloc 44 [.d (.int .i64 0), .d (.int .i64 0), .d (.str []), .d (.str []), .nil 44], none⟩,
      ⟨none, .st 5 (.t 9) (.t 25), none⟩] false)
    (.seq (.region [⟨some 26, .mv (.t 2), none⟩,
      ⟨some 27, .ld true 5 (.t 8), none⟩,
      ⟨some 28, .ld true 5 (.t 9), none⟩,
      ⟨some 29, .callv (.t 26) [.t 27, .t 28], none⟩,
      ⟨some 30, .not (.t 29), none⟩] false)
    (.cond (.t 30) (.seq (.region [⟨some 6, .mv (.c (.d (.bool false))), none⟩] false)
    (.ret))
    (.skip))))))
    (.region [⟨some 31, .bin false .add (.t 17) (.c (.d (.int .i64 1))), none⟩,
      ⟨some 17, .mv (.t 31), none⟩] false)))))))
    (.seq (.region [⟨some 6, .mv (.c (.d (.bool true))), none⟩] false)
    (.ret))))
theorem ok63 : FnOK Tryz.prog 63 rf63 := ⟨Tryz.f63, _, Tryz.func63, rfl, by kernel_rfl, rfl, by kernel_rfl, by kernel_rfl⟩
end Go.Pg
