/- Part R2 of the proof: the laws and contracts that the last text joins. Own work; no condition of its own. -/
import Derived.Test.YtfdkncmlnfenjaaGreatDoorF3
import Derived.Test.YtfdkncmlnfenjaaGreatDoorProg
set_option linter.all false
set_option maxRecDepth 100000
namespace Go.Pg
open Go.Proofs
def rf64 : RFn where
  ntmps := 27
  mt := []
  results := [.tmp 4]
  body := .seq (.region [⟨some 4, .mv (.c (.d (.bool false))), none⟩] false)
    (.seq (.seq (.region [⟨some 6, .mv (.t 0), none⟩,
      ⟨some 7, .lenR 44 72 (.t 6), none⟩,
      ⟨some 8, .mv (.t 1), none⟩,
      ⟨some 9, .lenR 44 72 (.t 8), none⟩,
      ⟨some 10, .bin false .neq (.t 7) (.t 9), none⟩] false)
    (.cond (.t 10) (.seq (.region [⟨some 4, .mv (.c (.d (.bool false))), none⟩] false)
    (.ret))
    (.skip)))
    (.seq (.seq (.region [⟨some 5, .mv (.c (.d (.int .i64 0))), none⟩] false)
    (.block 0 (.loop (.seq (.seq (.region [⟨some 11, .mv (.t 5), none⟩,
      ⟨some 12, .mv (.t 0), none⟩,
      ⟨some 13, .lenR 44 72 (.t 12), none⟩,
      ⟨some 14, .bin false .lss (.t 11) (.t 13), none⟩] false)
    (.cond (.t 14) (.skip)
    (.exit 0)))
    (.seq (.block 1 (.seq (.region [⟨some 17, .mv (.t 0), none⟩,
      ⟨some 18, .mv (.t 5), none⟩,
      ⟨some 19, .ia 44 5 (.t 17) (.t 18), none⟩,
      ⟨some 20, .ldc true 5 (.t 19), none⟩,
      ⟨some 21, .mv (.t 1), none⟩,
      ⟨some 22, .mv (.t 5), none⟩,
      ⟨some 23, .ia 44 5 (.t 21) (.t 22), none⟩,
      ⟨some 24, .ldc true 5 (.t 23), none⟩,
      ⟨some 25, .call 22 [.t 20, .t 24], none⟩,
      ⟨some 26, .not (.t 25), none⟩] true)
    (.cond (.t 26) (.seq (.region [⟨some 4, .mv (.c (.d (.bool false))), none⟩] false)
    (.ret))
    (.skip))))
    (.region [⟨some 15, .mv (.t 5), none⟩,
      ⟨some 16, .bin false .add (.t 15) (.c (.d (.int .i64 1))), none⟩,
      ⟨some 5, .mv (.t 16), none⟩] false))))))
    (.seq (.region [⟨some 4, .mv (.c (.d (.bool true))), none⟩] false)
    (.ret))))
theorem ok64 : FnOK Tryz.prog 64 rf64 := ⟨Tryz.f64, _, Tryz.func64, rfl, by kernel_rfl, rfl, by kernel_rfl, by kernel_rfl⟩
def rf65 : RFn where
  ntmps := 24
  mt := []
  results := [.tmp 2]
  body := .seq (.region [⟨some 2, .mv (.c (.d (.int .i64 0))), none⟩] false)
    (.seq (.seq (.region [⟨some 4, .mv (.t 0), none⟩,
      ⟨some 5, .lenS (.t 4), none⟩,
      ⟨some 6, .mv (.c (.d (.int .i64 0))), none⟩] false)
    (.block 0 (.loop (.seq (.region [⟨some 7, .bin false .lss (.t 6) (.t 5), none⟩] false)
    (.seq (.cond (.t 7) (.skip)
    (.exit 0))
    (.seq (.block 1 (.seq (.region [⟨some 8, .mv (.t 6), none⟩,
      ⟨some 3, .mv (.t 8), none⟩] false)
    (.seq (.region [⟨some 9, .mv (.t 0), none⟩,
      ⟨some 10, .mv (.t 3), none⟩,
      ⟨some 11, .ixs (.t 9) (.t 10), none⟩,
      ⟨some 12, .mv (.t 3), none⟩,
      ⟨some 13, .bin false .eql (.t 12) (.c (.d (.int .i64 0))), none⟩,
      ⟨some 14, .call 113 [.t 11, .t 13], none⟩,
      ⟨some 15, .not (.t 14), none⟩] false)
    (.cond (.t 15) (.seq (.region [⟨some 2, .mv (.c (.d (.int .i64 11))), none⟩] false)
    (.ret))
    (.skip)))))
    (.region [⟨some 16, .bin false .add (.t 6) (.c (.d (.int .i64 1))), none⟩,
      ⟨some 6, .mv (.t 16), none⟩] false)))))))
    (.seq (.block 2 (.seq (.region [⟨some 18, .mv (.t 0), none⟩,
      ⟨some 19, .bin false .eql (.t 18) (.c (.d (.str []))), none⟩,
      ⟨some 17, .mv (.t 19), none⟩] false)
    (.cond (.t 17) (.seq (.region [⟨some 2, .mv (.c (.d (.int .i64 11))), none⟩] false)
    (.ret))
    (.seq (.region [⟨some 21, .mv (.t 0), none⟩,
      ⟨some 22, .lenS (.t 21), none⟩,
      ⟨some 23, .bin false .gtr (.t 22) (.c (.d (.int .i64 32))), none⟩,
      ⟨some 20, .mv (.t 23), none⟩] false)
    (.cond (.t 20) (.seq (.region [⟨some 2, .mv (.c (.d (.int .i64 3))), none⟩] false)
    (.ret))
    (.skip))))))
    (.seq (.region [⟨some 2, .mv (.c (.d (.int .i64 0))), none⟩] false)
    (.ret))))
theorem ok65 : FnOK Tryz.prog 65 rf65 := ⟨Tryz.f65, _, Tryz.func65, rfl, by kernel_rfl, rfl, by kernel_rfl, by kernel_rfl⟩
def rf66 : RFn where
  ntmps := 15
  mt := []
  results := [.tmp 4]
  body := .seq (.region [⟨some 4, .mv (.c (.d (.bool false))), none⟩] false)
    (.seq (.region [⟨some 8, .mv (.t 0), none⟩,
      ⟨some 9, .call 115 [.t 8], none⟩,
      ⟨some 10, .mv (.t 1), none⟩,
      ⟨some 11, .call 114 [.t 9, .t 10], none⟩,
      ⟨some 7, .mv (.t 11), none⟩,
      ⟨some 12, .ext 0 (.t 7), none⟩,
      ⟨some 13, .ext 1 (.t 7), none⟩,
      ⟨some 5, .mv (.t 12), none⟩,
      ⟨some 6, .mv (.t 13), none⟩] false)
    (.seq (.region [⟨some 14, .mv (.t 6), none⟩,
      ⟨some 4, .mv (.t 14), none⟩] false)
    (.ret)))
theorem ok66 : FnOK Tryz.prog 66 rf66 := ⟨Tryz.f66, _, Tryz.func66, rfl, by kernel_rfl, rfl, by kernel_rfl, by kernel_rfl⟩
def rf67 : RFn where
  ntmps := 6
  mt := []
  results := [.tmp 2]
  body := .seq (.region [⟨some 2, .mv (.c (.d (.bool false))), none⟩] false)
    (.seq (.region [⟨some 3, .mv (.t 0), none⟩,
      ⟨some 4, .lenR 9 16 (.t 3), none⟩,
      ⟨some 5, .bin false .leq (.t 4) (.c (.d (.int .i64 512))), none⟩,
      ⟨some 2, .mv (.t 5), none⟩] false)
    (.ret))
theorem ok67 : FnOK Tryz.prog 67 rf67 := ⟨Tryz.f67, _, Tryz.func67, rfl, by kernel_rfl, rfl, by kernel_rfl, by kernel_rfl⟩
def rf68 : RFn where
  ntmps := 56
  mt := [6, 8, 23, 44, 53]
  results := [.tmp 4, .tmp 5]
  body := .seq (.region [⟨some 4, .mv (.c (.d (.str []))), none⟩,
      ⟨some 5, .mv (.c (.d (.int .i64 0))), none⟩] false)
    (.seq (.region [⟨some 11, .mv (.t 0), none⟩,
      ⟨some 12, .call 116 [.t 11], none⟩,
      ⟨some 10, .mv (.t 12), none⟩,
      ⟨some 13, .ext 0 (.t 10), none⟩,
      ⟨some 14, .ext 1 (.t 10), none⟩,
      ⟨some 6, .alloc 157 [.d (.str []), .d (.str []), .d (.str [])], none⟩,
      ⟨none, .st 3 (.t 6) (.t 13), none⟩,
      ⟨some 7, .mv (.t 14), none⟩] false)
    (.seq (.block 0 (.seq (.region [⟨some 16, .mv (.t 7), none⟩,
      ⟨some 17, .not (.t 16), none⟩,
      ⟨some 15, .mv (.t 17), none⟩] false)
    (.cond (.t 15) (.seq (.region [⟨some 4, .mv (.c (.d (.str []))), none⟩,
      ⟨some 5, .mv (.c (.d (.int .i64 1))), none⟩] false)
    (.ret))
    (.seq (.region [⟨some 19, .mv (.t 1), none⟩,
      ⟨some 20, .lenS (.t 19), none⟩,
      ⟨some 21, .bin false .gtr (.t 20) (.c (.d (.int .i64 1024))), none⟩,
      ⟨some 18, .mv (.t 21), none⟩] false)
    (.cond (.t 18) (.seq (.region [⟨some 4, .mv (.c (.d (.str []))), none⟩,
      ⟨some 5, .mv (.c (.d (.int .i64 3))), none⟩] false)
    (.ret))
    (.skip))))))
    (.seq (.region [⟨some 8, .alloc 163 [.nilp, .nil 5], none⟩] false)
    (.seq (.region [⟨some 22, .fa 0 (.t 6), none⟩,
      ⟨some 23, .ld false 1 (.t 22), none⟩,
      ⟨some 24, .call 117 [.t 8, .t 23], none⟩] false)
    (.seq (.seq (.region [⟨some 25, .mv (.t 1), none⟩,
      ⟨some 26, .ef .rangeS [.t 25], none⟩] false)
    (.block 1 (.loop (.seq (.region [⟨some 27, .ef .nextS [.t 26], none⟩,
      ⟨some 28, .ext 0 (.t 27), none⟩] false)
    (.seq (.cond (.t 28) (.skip)
    (.exit 1))
    (.block 2 (.seq (.region [⟨some 29, .ext 1 (.t 27), none⟩,
      ⟨some 9, .mv (.t 29), none⟩] false)
    (.seq (.seq (.region [⟨some 30, .mv (.t 1), none⟩,
      ⟨some 31, .mv (.t 9), none⟩,
      ⟨some 32, .ixs (.t 30) (.t 31), none⟩,
      ⟨some 33, .call 118 [.t 32], none⟩,
      ⟨some 34, .not (.t 33), none⟩] false)
    (.cond (.t 34) (.seq (.region [⟨some 4, .mv (.c (.d (.str []))), none⟩,
      ⟨some 5, .mv (.c (.d (.int .i64 8))), none⟩] false)
    (.ret))
    (.skip)))
    (.seq (.seq (.region [⟨some 35, .mv (.t 1), none⟩,
      ⟨some 36, .mv (.t 9), none⟩,
      ⟨some 37, .ixs (.t 35) (.t 36), none⟩,
      ⟨some 38, .bin false .eql (.t 37) (.c (.d (.int .u8 92))), none⟩,
      ⟨some 39, .mv (.t 38), none⟩,
      ⟨some 40, .mv (.t 1), (some (39, false))⟩,
      ⟨some 41, .mv (.t 9), (some (39, false))⟩,
      ⟨some 42, .slS (.t 40) (some (.t 41)) none, (some (39, false))⟩,
      ⟨some 43, .fa 1 (.t 6), (some (39, false))⟩,
      ⟨some 44, .ld false 1 (.t 43), (some (39, false))⟩,
      ⟨some 45, .call 119 [.t 42, .t 44], (some (39, false))⟩,
      ⟨some 46, .pick (.t 39) (.c (.d (.bool true))) (.t 45), none⟩] true)
    (.cond (.t 46) (.region [⟨some 47, .call 120 [.t 8, .c (.d (.int .u8 92))], none⟩] false)
    (.skip)))
    (.region [⟨some 48, .mv (.t 1), none⟩,
      ⟨some 49, .mv (.t 9), none⟩,
      ⟨some 50, .ixs (.t 48) (.t 49), none⟩,
      ⟨some 51, .call 120 [.t 8, .t 50], none⟩] false))))))))))
    (.seq (.region [⟨some 52, .fa 1 (.t 6), none⟩,
      ⟨some 53, .ld false 1 (.t 52), none⟩,
      ⟨some 54, .call 117 [.t 8, .t 53], none⟩] false)
    (.seq (.region [⟨some 55, .call 121 [.t 8], none⟩,
      ⟨some 4, .mv (.t 55), none⟩,
      ⟨some 5, .mv (.c (.d (.int .i64 0))), none⟩] false)
    (.ret))))))))
theorem ok68 : FnOK Tryz.prog 68 rf68 := ⟨Tryz.f68, _, Tryz.func68, rfl, by kernel_rfl, rfl, by kernel_rfl, by kernel_rfl⟩
def rf69 : RFn where
  ntmps := 19
  mt := []
  results := [.tmp 4]
  body := .seq (.region [⟨some 4, .mv (.c (.d (.int .i64 0))), none⟩] false)
    (.seq (.seq (.region [⟨some 6, .mv (.t 0), none⟩,
      ⟨some 7, .lenR 59 112 (.t 6), none⟩,
      ⟨some 8, .mv (.c (.d (.int .i64 0))), none⟩] false)
    (.block 0 (.loop (.seq (.region [⟨some 9, .bin false .lss (.t 8) (.t 7), none⟩] false)
    (.seq (.cond (.t 9) (.skip)
    (.exit 0))
    (.seq (.block 1 (.seq (.region [⟨some 10, .mv (.t 8), none⟩,
      ⟨some 5, .mv (.t 10), none⟩] false)
    (.seq (.region [⟨some 11, .mv (.t 1), none⟩,
      ⟨some 12, .mv (.t 0), none⟩,
      ⟨some 13, .mv (.t 5), none⟩,
      ⟨some 14, .ia 59 5 (.t 12) (.t 13), none⟩,
      ⟨some 15, .ldc true 5 (.t 14), none⟩,
      ⟨some 16, .callv (.t 11) [.t 15], none⟩] false)
    (.cond (.t 16) (.seq (.region [⟨some 17, .mv (.t 5), none⟩,
      ⟨some 4, .mv (.t 17), none⟩] false)
    (.ret))
    (.skip)))))
    (.region [⟨some 18, .bin false .add (.t 8) (.c (.d (.int .i64 1))), none⟩,
      ⟨some 8, .mv (.t 18), none⟩] false)))))))
    (.seq (.region [⟨some 4, .mv (.c (.d (.int .i64 (-1)))), none⟩] false)
    (.ret)))
theorem ok69 : FnOK Tryz.prog 69 rf69 := ⟨Tryz.f69, _, Tryz.func69, rfl, by kernel_rfl, rfl, by kernel_rfl, by kernel_rfl⟩
def rf70 : RFn where
  ntmps := 6
  mt := []
  results := [.tmp 2]
  body := .seq (.region [⟨some 2, .mv (.c (.d (.bool false))), none⟩] false)
    (.seq (.region [⟨some 3, .mv (.t 0), none⟩,
      ⟨some 4, .lenR 69 72 (.t 3), none⟩,
      ⟨some 5, .bin false .leq (.t 4) (.c (.d (.int .i64 512))), none⟩,
      ⟨some 2, .mv (.t 5), none⟩] false)
    (.ret))
theorem ok70 : FnOK Tryz.prog 70 rf70 := ⟨Tryz.f70, _, Tryz.func70, rfl, by kernel_rfl, rfl, by kernel_rfl, by kernel_rfl⟩
def rf71 : RFn where
  ntmps := 9
  mt := []
  results := [.tmp 4]
  body := .seq (.region [⟨some 4, .mv (.c (.d (.bool false))), none⟩] false)
    (.seq (.region [⟨some 5, .mv (.t 0), none⟩,
      ⟨some 6, .mv (.t 1), none⟩,
      ⟨some 7, .call 122 [.t 5, .t 6], none⟩,
      ⟨some 8, .bin false .geq (.t 7) (.c (.d (.int .i64 0))), none⟩,
      ⟨some 4, .mv (.t 8), none⟩] false)
    (.ret))
theorem ok71 : FnOK Tryz.prog 71 rf71 := ⟨Tryz.f71, _, Tryz.func71, rfl, by kernel_rfl, rfl, by kernel_rfl, by kernel_rfl⟩
def rf72 : RFn where
  ntmps := 26
  mt := [14]
  results := [.tmp 3]
  body := .seq (.region [⟨some 2, .boxI (.t 0), none⟩,
      ⟨some 3, .mv (.c (.d (.bool false))), none⟩] false)
    (.seq (.region [⟨some 4, .fa 0 (.t 2), none⟩,
      ⟨some 5, .fa 0 (.t 4), none⟩,
      ⟨some 6, .ldc false 1 (.t 5), none⟩,
      ⟨some 7, .fa 0 (.t 2), none⟩,
      ⟨some 8, .fa 1 (.t 7), none⟩,
      ⟨some 9, .ldc false 1 (.t 8), none⟩,
      ⟨some 10, .lit 22 1 [.t 6, .t 9], none⟩,
      ⟨some 11, .call 24 [.t 10], none⟩,
      ⟨some 12, .not (.t 11), none⟩,
      ⟨some 13, .mv (.t 12), none⟩,
      ⟨some 14, .ld true 1 (.t 1), (some (13, false))⟩,
      ⟨some 15, .fa 2 (.t 2), (some (13, false))⟩,
      ⟨some 16, .ldc false 1 (.t 15), (some (13, false))⟩,
      ⟨some 17, .call 23 [.t 14, .t 16], (some (13, false))⟩,
      ⟨some 18, .not (.t 17), (some (13, false))⟩,
      ⟨some 19, .pick (.t 13) (.c (.d (.bool true))) (.t 18), none⟩,
      ⟨some 20, .mv (.t 19), none⟩,
      ⟨some 21, .fa 3 (.t 2), (some (20, false))⟩,
      ⟨some 22, .ldc false 1 (.t 21), (some (20, false))⟩,
      ⟨some 23, .call 73 [.t 22], (some (20, false))⟩,
      ⟨some 24, .not (.t 23), (some (20, false))⟩,
      ⟨some 25, .pick (.t 20) (.c (.d (.bool true))) (.t 24), none⟩,
      ⟨some 3, .mv (.t 25), none⟩] false)
    (.ret))
theorem ok72 : FnOK Tryz.prog 72 rf72 := ⟨Tryz.f72, _, Tryz.func72, rfl, by kernel_rfl, rfl, by kernel_rfl, by kernel_rfl⟩
def rf73 : RFn where
  ntmps := 9
  mt := []
  results := [.tmp 2]
  body := .seq (.region [⟨some 2, .mv (.c (.d (.bool false))), none⟩] false)
    (.seq (.region [⟨some 3, .mv (.t 0), none⟩,
      ⟨some 4, .bin false .geq (.t 3) (.c (.d (.int .i64 1))), none⟩,
      ⟨some 5, .mv (.t 4), none⟩,
      ⟨some 6, .mv (.t 0), (some (5, true))⟩,
      ⟨some 7, .bin false .leq (.t 6) (.c (.d (.int .i64 3))), (some (5, true))⟩,
      ⟨some 8, .pick (.t 5) (.t 7) (.c (.d (.bool false))), none⟩,
      ⟨some 2, .mv (.t 8), none⟩] false)
    (.ret))
theorem ok73 : FnOK Tryz.prog 73 rf73 := ⟨Tryz.f73, _, Tryz.func73, rfl, by kernel_rfl, rfl, by kernel_rfl, by kernel_rfl⟩
def rf74 : RFn where
  ntmps := 6
  mt := []
  results := [.tmp 2]
  body := .seq (.region [⟨some 2, .mv (.c (.d (.bool false))), none⟩] false)
    (.seq (.region [⟨some 3, .mv (.t 0), none⟩,
      ⟨some 4, .lenR 98 96 (.t 3), none⟩,
      ⟨some 5, .bin false .leq (.t 4) (.c (.d (.int .i64 512))), none⟩,
      ⟨some 2, .mv (.t 5), none⟩] false)
    (.ret))
theorem ok74 : FnOK Tryz.prog 74 rf74 := ⟨Tryz.f74, _, Tryz.func74, rfl, by kernel_rfl, rfl, by kernel_rfl, by kernel_rfl⟩
def rf75 : RFn where
  ntmps := 9
  mt := []
  results := [.tmp 4]
  body := .seq (.region [⟨some 4, .mv (.c (.d (.bool false))), none⟩] false)
    (.seq (.region [⟨some 5, .mv (.t 0), none⟩,
      ⟨some 6, .mv (.t 1), none⟩,
      ⟨some 7, .call 123 [.t 5, .t 6], none⟩,
      ⟨some 8, .bin false .geq (.t 7) (.c (.d (.int .i64 0))), none⟩,
      ⟨some 4, .mv (.t 8), none⟩] false)
    (.ret))
theorem ok75 : FnOK Tryz.prog 75 rf75 := ⟨Tryz.f75, _, Tryz.func75, rfl, by kernel_rfl, rfl, by kernel_rfl, by kernel_rfl⟩
def rf76 : RFn where
  ntmps := 27
  mt := [14, 21]
  results := [.tmp 3]
  body := .seq (.region [⟨some 2, .boxI (.t 0), none⟩,
      ⟨some 3, .mv (.c (.d (.bool false))), none⟩] false)
    (.seq (.region [⟨some 4, .fa 0 (.t 2), none⟩,
      ⟨some 5, .fa 0 (.t 4), none⟩,
      ⟨some 6, .ldc false 1 (.t 5), none⟩,
      ⟨some 7, .fa 0 (.t 2), none⟩,
      ⟨some 8, .fa 1 (.t 7), none⟩,
      ⟨some 9, .ldc false 1 (.t 8), none⟩,
      ⟨some 10, .lit 22 1 [.t 6, .t 9], none⟩,
      ⟨some 11, .call 24 [.t 10], none⟩,
      ⟨some 12, .not (.t 11), none⟩,
      ⟨some 13, .mv (.t 12), none⟩,
      ⟨some 14, .ld true 1 (.t 1), (some (13, false))⟩,
      ⟨some 15, .fa 2 (.t 2), (some (13, false))⟩,
      ⟨some 16, .ldc false 1 (.t 15), (some (13, false))⟩,
      ⟨some 17, .call 23 [.t 14, .t 16], (some (13, false))⟩,
      ⟨some 18, .not (.t 17), (some (13, false))⟩,
      ⟨some 19, .pick (.t 13) (.c (.d (.bool true))) (.t 18), none⟩,
      ⟨some 20, .mv (.t 19), none⟩,
      ⟨some 21, .ld true 1 (.t 1), (some (20, false))⟩,
      ⟨some 22, .fa 3 (.t 2), (some (20, false))⟩,
      ⟨some 23, .ldc true 3 (.t 22), (some (20, false))⟩,
      ⟨some 24, .call 77 [.t 21, .t 23], (some (20, false))⟩,
      ⟨some 25, .not (.t 24), (some (20, false))⟩,
      ⟨some 26, .pick (.t 20) (.c (.d (.bool true))) (.t 25), none⟩,
      ⟨some 3, .mv (.t 26), none⟩] false)
    (.ret))
theorem ok76 : FnOK Tryz.prog 76 rf76 := ⟨Tryz.f76, _, Tryz.func76, rfl, by kernel_rfl, rfl, by kernel_rfl, by kernel_rfl⟩
def rf77 : RFn where
  ntmps := 35
  mt := []
  results := [.tmp 4]
  body := .seq (.region [⟨some 2, .boxI (.t 0), none⟩,
      ⟨some 3, .boxI (.t 1), none⟩,
      ⟨some 4, .mv (.c (.d (.bool false))), none⟩] false)
    (.seq (.seq (.region [⟨some 5, .fa 0 (.t 3), none⟩,
      ⟨some 6, .ldc false 1 (.t 5), none⟩,
      ⟨some 7, .bin false .eql (.t 6) (.c (.d (.int .i64 4))), none⟩] false)
    (.cond (.t 7) (.seq (.region [⟨some 8, .fa 1 (.t 3), none⟩,
      ⟨some 9, .ldc false 1 (.t 8), none⟩,
      ⟨some 10, .bin false .eql (.t 9) (.c (.d (.int .i64 0))), none⟩,
      ⟨some 11, .mv (.t 10), none⟩,
      ⟨some 12, .ldc true 1 (.t 2), (some (11, true))⟩,
      ⟨some 13, .fa 2 (.t 3), (some (11, true))⟩,
      ⟨some 14, .ldc false 1 (.t 13), (some (11, true))⟩,
      ⟨some 15, .call 23 [.t 12, .t 14], (some (11, true))⟩,
      ⟨some 16, .pick (.t 11) (.t 15) (.c (.d (.bool false))), none⟩,
      ⟨some 4, .mv (.t 16), none⟩] false)
    (.ret))
    (.skip)))
    (.seq (.region [⟨some 17, .fa 0 (.t 3), none⟩,
      ⟨some 18, .ldc false 1 (.t 17), none⟩,
      ⟨some 19, .call 73 [.t 18], none⟩,
      ⟨some 20, .mv (.t 19), none⟩,
      ⟨some 21, .fa 1 (.t 3), (some (20, true))⟩,
      ⟨some 22, .ldc false 1 (.t 21), (some (20, true))⟩,
      ⟨some 23, .bin false .geq (.t 22) (.c (.d (.int .i64 0))), (some (20, true))⟩,
      ⟨some 24, .pick (.t 20) (.t 23) (.c (.d (.bool false))), none⟩,
      ⟨some 25, .mv (.t 24), none⟩,
      ⟨some 26, .fa 1 (.t 3), (some (25, true))⟩,
      ⟨some 27, .ldc false 1 (.t 26), (some (25, true))⟩,
      ⟨some 28, .bin false .leq (.t 27) (.c (.d (.int .i64 64))), (some (25, true))⟩,
      ⟨some 29, .pick (.t 25) (.t 28) (.c (.d (.bool false))), none⟩,
      ⟨some 30, .mv (.t 29), none⟩,
      ⟨some 31, .fa 2 (.t 3), (some (30, true))⟩,
      ⟨some 32, .ldc false 1 (.t 31), (some (30, true))⟩,
      ⟨some 33, .bin false .eql (.t 32) (.c (.d (.str []))), (some (30, true))⟩,
      ⟨some 34, .pick (.t 30) (.t 33) (.c (.d (.bool false))), none⟩,
      ⟨some 4, .mv (.t 34), none⟩] false)
    (.ret)))
theorem ok77 : FnOK Tryz.prog 77 rf77 := ⟨Tryz.f77, _, Tryz.func77, rfl, by kernel_rfl, rfl, by kernel_rfl, by kernel_rfl⟩
def rf78 : RFn where
  ntmps := 6
  mt := []
  results := [.tmp 2]
  body := .seq (.region [⟨some 2, .mv (.c (.d (.bool false))), none⟩] false)
    (.seq (.region [⟨some 3, .mv (.t 0), none⟩,
      ⟨some 4, .lenR 103 192 (.t 3), none⟩,
      ⟨some 5, .bin false .leq (.t 4) (.c (.d (.int .i64 512))), none⟩,
      ⟨some 2, .mv (.t 5), none⟩] false)
    (.ret))
theorem ok78 : FnOK Tryz.prog 78 rf78 := ⟨Tryz.f78, _, Tryz.func78, rfl, by kernel_rfl, rfl, by kernel_rfl, by kernel_rfl⟩
def rf79 : RFn where
  ntmps := 21
  mt := [5, 15, 19]
  results := [.tmp 2]
  body := .seq (.region [⟨some 2, .mv (.c (.d (.bool false))), none⟩] false)
    (.seq (.region [⟨some 6, .ef .mkMap [], none⟩,
      ⟨some 3, .mv (.t 6), none⟩] false)
    (.seq (.seq (.region [⟨some 7, .mv (.t 0), none⟩,
      ⟨some 8, .lenR 103 192 (.t 7), none⟩,
      ⟨some 9, .mv (.c (.d (.int .i64 0))), none⟩] false)
    (.block 0 (.loop (.seq (.region [⟨some 10, .bin false .lss (.t 9) (.t 8), none⟩] false)
    (.seq (.cond (.t 10) (.skip)
    (.exit 0))
    (.seq (.block 1 (.seq (.region [⟨some 11, .ia 103 9 (.t 7) (.t 9), none⟩,
      ⟨some 12, .ldc true 9 (.t 11), none⟩,
      ⟨some 5, .alloc 103 [.nil 9, .nil 9, .d (.str []), .d (.int .i64 0), .nil 145, .nil 98, .nil 103, .nil 107, .nil 9], none⟩,
      ⟨none, .st 9 (.t 5) (.t 12), none⟩] false)
    (.seq (.seq (.region [⟨some 13, .mv (.t 3), none⟩,
      ⟨some 14, .fa 2 (.t 5), none⟩,
      ⟨some 15, .ld false 1 (.t 14), none⟩,
      ⟨some 16, .ef (.look (.d (.bool false)) false) [.t 13, .t 15], none⟩] false)
    (.cond (.t 16) (.seq (.region [⟨some 2, .mv (.c (.d (.bool false))), none⟩] false)
    (.ret))
    (.skip)))
    (.region [⟨some 17, .mv (.t 3), none⟩,
      ⟨some 18, .fa 2 (.t 5), none⟩,
      ⟨some 19, .ld false 1 (.t 18), none⟩,
      ⟨none, .ef .mapUpd [.t 17, .t 19, .c (.d (.bool true))], none⟩] false))))
    (.region [⟨some 20, .bin false .add (.t 9) (.c (.d (.int .i64 1))), none⟩,
      ⟨some 9, .mv (.t 20), none⟩] false)))))))
    (.seq (.region [⟨some 2, .mv (.c (.d (.bool true))), none⟩] false)
    (.ret))))
theorem ok79 : FnOK Tryz.prog 79 rf79 := ⟨Tryz.f79, _, Tryz.func79, rfl, by kernel_rfl, rfl, by kernel_rfl, by kernel_rfl⟩
def rf80 : RFn where
  ntmps := 9
  mt := []
  results := [.tmp 4]
  body := .seq (.region [⟨some 4, .mv (.c (.d (.bool false))), none⟩] false)
    (.seq (.region [⟨some 5, .mv (.t 0), none⟩,
      ⟨some 6, .mv (.t 1), none⟩,
      ⟨some 7, .call 124 [.t 5, .t 6], none⟩,
      ⟨some 8, .bin false .geq (.t 7) (.c (.d (.int .i64 0))), none⟩,
      ⟨some 4, .mv (.t 8), none⟩] false)
    (.ret))
theorem ok80 : FnOK Tryz.prog 80 rf80 := ⟨Tryz.f80, _, Tryz.func80, rfl, by kernel_rfl, rfl, by kernel_rfl, by kernel_rfl⟩
def rf84 : RFn where
  ntmps := 6
  mt := []
  results := [.tmp 2]
  body := .seq (.region [⟨some 2, .mv (.c (.d (.bool false))), none⟩] false)
    (.seq (.region [⟨some 3, .mv (.t 0), none⟩,
      ⟨some 4, .lenR 107 272 (.t 3), none⟩,
      ⟨some 5, .bin false .leq (.t 4) (.c (.d (.int .i64 512))), none⟩,
      ⟨some 2, .mv (.t 5), none⟩] false)
    (.ret))
theorem ok84 : FnOK Tryz.prog 84 rf84 := ⟨Tryz.f84, _, Tryz.func84, rfl, by kernel_rfl, rfl, by kernel_rfl, by kernel_rfl⟩
def rf85 : RFn where
  ntmps := 9
  mt := []
  results := [.tmp 4]
  body := .seq (.region [⟨some 4, .mv (.c (.d (.bool false))), none⟩] false)
    (.seq (.region [⟨some 5, .mv (.t 0), none⟩,
      ⟨some 6, .mv (.t 1), none⟩,
      ⟨some 7, .call 127 [.t 5, .t 6], none⟩,
      ⟨some 8, .bin false .geq (.t 7) (.c (.d (.int .i64 0))), none⟩,
      ⟨some 4, .mv (.t 8), none⟩] false)
    (.ret))
theorem ok85 : FnOK Tryz.prog 85 rf85 := ⟨Tryz.f85, _, Tryz.func85, rfl, by kernel_rfl, rfl, by kernel_rfl, by kernel_rfl⟩
def rf88 : RFn where
  ntmps := 22
  mt := []
  results := [.tmp 2]
  body := .seq (.region [⟨some 2, .mv (.c (.d (.int .i64 0))), none⟩] false)
    (.seq (.seq (.region [⟨some 4, .mv (.t 0), none⟩,
      ⟨some 5, .bin false .eql (.t 4) (.c (.d (.str []))), none⟩] false)
    (.cond (.t 5) (.seq (.region [⟨some 2, .mv (.c (.d (.int .i64 11))), none⟩] false)
    (.ret))
    (.skip)))
    (.seq (.seq (.region [⟨some 3, .mv (.c (.d (.int .i64 0))), none⟩] false)
    (.block 0 (.loop (.seq (.seq (.region [⟨some 6, .mv (.t 3), none⟩,
      ⟨some 7, .mv (.t 0), none⟩,
      ⟨some 8, .lenS (.t 7), none⟩,
      ⟨some 9, .bin false .lss (.t 6) (.t 8), none⟩] false)
    (.cond (.t 9) (.skip)
    (.exit 0)))
    (.seq (.block 1 (.seq (.region [⟨some 12, .mv (.t 0), none⟩,
      ⟨some 13, .mv (.t 3), none⟩,
      ⟨some 14, .ixs (.t 12) (.t 13), none⟩,
      ⟨some 15, .mv (.t 3), none⟩,
      ⟨some 16, .bin false .eql (.t 15) (.c (.d (.int .i64 0))), none⟩,
      ⟨some 17, .call 131 [.t 14, .t 16], none⟩,
      ⟨some 18, .not (.t 17), none⟩] false)
    (.cond (.t 18) (.seq (.region [⟨some 2, .mv (.c (.d (.int .i64 11))), none⟩] false)
    (.ret))
    (.skip))))
    (.region [⟨some 10, .mv (.t 3), none⟩,
      ⟨some 11, .bin false .add (.t 10) (.c (.d (.int .i64 1))), none⟩,
      ⟨some 3, .mv (.t 11), none⟩] false))))))
    (.seq (.seq (.region [⟨some 19, .mv (.t 0), none⟩,
      ⟨some 20, .lenS (.t 19), none⟩,
      ⟨some 21, .bin false .gtr (.t 20) (.c (.d (.int .i64 32))), none⟩] false)
    (.cond (.t 21) (.seq (.region [⟨some 2, .mv (.c (.d (.int .i64 3))), none⟩] false)
    (.ret))
    (.skip)))
    (.seq (.region [⟨some 2, .mv (.c (.d (.int .i64 0))), none⟩] false)
    (.ret)))))
theorem ok88 : FnOK Tryz.prog 88 rf88 := ⟨Tryz.f88, _, Tryz.func88, rfl, by kernel_rfl, rfl, by kernel_rfl, by kernel_rfl⟩
def rf89 : RFn where
  ntmps := 9
  mt := []
  results := [.tmp 4]
  body := .seq (.region [⟨some 4, .mv (.c (.d (.bool false))), none⟩] false)
    (.seq (.region [⟨some 5, .mv (.t 0), none⟩,
      ⟨some 6, .call 132 [.t 5], none⟩,
      ⟨some 7, .mv (.t 1), none⟩,
      ⟨some 8, .call 44 [.t 6, .t 7], none⟩,
      ⟨some 4, .mv (.t 8), none⟩] false)
    (.ret))
theorem ok89 : FnOK Tryz.prog 89 rf89 := ⟨Tryz.f89, _, Tryz.func89, rfl, by kernel_rfl, rfl, by kernel_rfl, by kernel_rfl⟩
def rf90 : RFn where
  ntmps := 18
  mt := []
  results := [.tmp 2]
  body := .seq (.region [⟨some 2, .mv (.c (.d (.int .i64 0))), none⟩] false)
    (.seq (.seq (.region [⟨some 4, .mv (.t 0), none⟩,
      ⟨some 5, .lenS (.t 4), none⟩,
      ⟨some 6, .bin false .gtr (.t 5) (.c (.d (.int .i64 1024))), none⟩] false)
    (.cond (.t 6) (.seq (.region [⟨some 2, .mv (.c (.d (.int .i64 3))), none⟩] false)
    (.ret))
    (.skip)))
    (.seq (.seq (.region [⟨some 3, .mv (.c (.d (.int .i64 0))), none⟩] false)
    (.block 0 (.loop (.seq (.seq (.region [⟨some 7, .mv (.t 3), none⟩,
      ⟨some 8, .mv (.t 0), none⟩,
      ⟨some 9, .lenS (.t 8), none⟩,
      ⟨some 10, .bin false .lss (.t 7) (.t 9), none⟩] false)
    (.cond (.t 10) (.skip)
    (.exit 0)))
    (.seq (.block 1 (.seq (.region [⟨some 13, .mv (.t 0), none⟩,
      ⟨some 14, .mv (.t 3), none⟩,
      ⟨some 15, .ixs (.t 13) (.t 14), none⟩,
      ⟨some 16, .call 133 [.t 15], none⟩,
      ⟨some 17, .not (.t 16), none⟩] false)
    (.cond (.t 17) (.seq (.region [⟨some 2, .mv (.c (.d (.int .i64 8))), none⟩] false)
    (.ret))
    (.skip))))
    (.region [⟨some 11, .mv (.t 3), none⟩,
      ⟨some 12, .bin false .add (.t 11) (.c (.d (.int .i64 1))), none⟩,
      ⟨some 3, .mv (.t 12), none⟩] false))))))
    (.seq (.region [⟨some 2, .mv (.c (.d (.int .i64 0))), none⟩] false)
    (.ret))))
theorem ok90 : FnOK Tryz.prog 90 rf90 := ⟨Tryz.f90, _, Tryz.func90, rfl, by kernel_rfl, rfl, by kernel_rfl, by kernel_rfl⟩
def rf91 : RFn where
  ntmps := 40
  mt := []
  results := [.tmp 4]
  body := .seq (.region [⟨some 3, .boxI (.t 1), none⟩,
      ⟨some 4, .mv (.c (.d (.bool false))), none⟩] false)
    (.seq (.seq (.region [⟨some 5, .fa 0 (.t 3), none⟩,
      ⟨some 6, .ldc false 1 (.t 5), none⟩,
      ⟨some 7, .bin false .eql (.t 6) (.c (.d (.int .i64 4))), none⟩] false)
    (.cond (.t 7) (.seq (.region [⟨some 8, .fa 1 (.t 3), none⟩,
      ⟨some 9, .ldc false 1 (.t 8), none⟩,
      ⟨some 10, .bin false .eql (.t 9) (.c (.d (.int .i64 0))), none⟩,
      ⟨some 11, .mv (.t 10), none⟩,
      ⟨some 12, .mv (.t 0), (some (11, true))⟩,
      ⟨some 13, .fa 2 (.t 3), (some (11, true))⟩,
      ⟨some 14, .ldc false 1 (.t 13), (some (11, true))⟩,
      ⟨some 15, .call 32 [.t 12, .t 14], (some (11, true))⟩,
      ⟨some 16, .pick (.t 11) (.t 15) (.c (.d (.bool false))), none⟩,
      ⟨some 4, .mv (.t 16), none⟩] false)
    (.ret))
    (.skip)))
    (.seq (.region [⟨some 17, .fa 0 (.t 3), none⟩,
      ⟨some 18, .ldc false 1 (.t 17), none⟩,
      ⟨some 19, .bin false .geq (.t 18) (.c (.d (.int .i64 1))), none⟩,
      ⟨some 20, .mv (.t 19), none⟩,
      ⟨some 21, .fa 0 (.t 3), (some (20, true))⟩,
      ⟨some 22, .ldc false 1 (.t 21), (some (20, true))⟩,
      ⟨some 23, .bin false .leq (.t 22) (.c (.d (.int .i64 3))), (some (20, true))⟩,
      ⟨some 24, .pick (.t 20) (.t 23) (.c (.d (.bool false))), none⟩,
      ⟨some 25, .mv (.t 24), none⟩,
      ⟨some 26, .fa 1 (.t 3), (some (25, true))⟩,
      ⟨some 27, .ldc false 1 (.t 26), (some (25, true))⟩,
      ⟨some 28, .bin false .geq (.t 27) (.c (.d (.int .i64 0))), (some (25, true))⟩,
      ⟨some 29, .pick (.t 25) (.t 28) (.c (.d (.bool false))), none⟩,
      ⟨some 30, .mv (.t 29), none⟩,
      ⟨some 31, .fa 1 (.t 3), (some (30, true))⟩,
      ⟨some 32, .ldc false 1 (.t 31), (some (30, true))⟩,
      ⟨some 33, .bin false .leq (.t 32) (.c (.d (.int .i64 64))), (some (30, true))⟩,
      ⟨some 34, .pick (.t 30) (.t 33) (.c (.d (.bool false))), none⟩,
      ⟨some 35, .mv (.t 34), none⟩,
      ⟨some 36, .fa 2 (.t 3), (some (35, true))⟩,
      ⟨some 37, .ldc false 1 (.t 36), (some (35, true))⟩,
      ⟨some 38, .bin false .eql (.t 37) (.c (.d (.str []))), (some (35, true))⟩,
      ⟨some 39, .pick (.t 35) (.t 38) (.c (.d (.bool false))), none⟩,
      ⟨some 4, .mv (.t 39), none⟩] false)
    (.ret)))
theorem ok91 : FnOK Tryz.prog 91 rf91 := ⟨Tryz.f91, _, Tryz.func91, rfl, by kernel_rfl, rfl, by kernel_rfl, by kernel_rfl⟩
def rf95 : RFn where
  ntmps := 31
  mt := [2, 18, 24]
  results := [.tmp 4]
  body := .seq (.region [⟨some 2, .boxM 76 (.t 0), none⟩,
      ⟨some 4, .mv (.c (.d (.str []))), none⟩] false)
    (.seq (.seq (.region [⟨some 8, .mv (.t 1), none⟩,
      ⟨some 9, .bin false .eql (.t 8) (.c (.d (.str []))), none⟩] false)
    (.cond (.t 9) (.seq (.region [⟨some 4, .mv (.c (.d (.str []))), none⟩] false)
    (.ret))
    (.skip)))
    (.seq (.region [⟨some 10, .mv (.t 1), none⟩,
      ⟨some 11, .call 136 [.t 10, .c (.d (.str [36]))], none⟩,
      ⟨some 5, .mv (.t 11), none⟩] false)
    (.seq (.seq (.region [⟨some 12, .mv (.t 5), none⟩,
      ⟨some 13, .lenR 9 16 (.t 12), none⟩,
      ⟨some 14, .mv (.c (.d (.int .i64 0))), none⟩] false)
    (.block 0 (.loop (.seq (.region [⟨some 15, .bin false .lss (.t 14) (.t 13), none⟩] false)
    (.seq (.cond (.t 15) (.skip)
    (.exit 0))
    (.seq (.block 1 (.seq (.region [⟨some 16, .mv (.t 14), none⟩,
      ⟨some 17, .ia 9 1 (.t 12) (.t 14), none⟩,
      ⟨some 18, .ld false 1 (.t 17), none⟩,
      ⟨some 6, .mv (.t 16), none⟩,
      ⟨some 7, .mv (.t 18), none⟩] false)
    (.seq (.region [⟨some 19, .mv (.t 7), none⟩,
      ⟨some 20, .bin false .neq (.t 19) (.c (.d (.str []))), none⟩] false)
    (.cond (.t 20) (.region [⟨some 21, .mv (.t 5), none⟩,
      ⟨some 22, .mv (.t 6), none⟩,
      ⟨some 23, .fa 0 (.t 2), none⟩,
      ⟨some 24, .ld false 1 (.t 23), none⟩,
      ⟨some 25, .mv (.t 7), none⟩,
      ⟨some 26, .callv (.t 24) [.t 25], none⟩,
      ⟨some 27, .ia 9 1 (.t 21) (.t 22), none⟩,
      ⟨none, .st 1 (.t 27) (.t 26), none⟩] false)
    (.skip)))))
    (.region [⟨some 28, .bin false .add (.t 14) (.c (.d (.int .i64 1))), none⟩,
      ⟨some 14, .mv (.t 28), none⟩] false)))))))
    (.seq (.region [⟨some 29, .mv (.t 5), none⟩,
      ⟨some 30, .call 137 [.t 29, .c (.d (.str [36]))], none⟩,
      ⟨some 4, .mv (.t 30), none⟩] false)
    (.ret)))))
theorem ok95 : FnOK Tryz.prog 95 rf95 := ⟨Tryz.f95, _, Tryz.func95, rfl, by kernel_rfl, rfl, by kernel_rfl, by kernel_rfl⟩
def rf96 : RFn where
  ntmps := 8
  mt := [5]
  results := [.tmp 2]
  body := .seq (.region [⟨some 2, .mv (.c (.nil 9)), none⟩] false)
    (.seq (.seq (.region [⟨some 3, .mv (.t 0), none⟩,
      ⟨some 4, .ef (.nilEq false) [.t 3], none⟩] false)
    (.cond (.t 4) (.seq (.region [⟨some 2, .mv (.c (.nil 9)), none⟩] false)
    (.ret))
    (.skip)))
    (.seq (.region [⟨some 5, .litO 9 1 [], none⟩,
      ⟨some 6, .mv (.t 0), none⟩,
      ⟨some 7, .app 9 1 16 (.t 5) (.t 6), none⟩,
      ⟨some 2, .mv (.t 7), none⟩] false)
    (.ret)))
theorem ok96 : FnOK Tryz.prog 96 rf96 := ⟨Tryz.f96, _, Tryz.func96, rfl, by kernel_rfl, rfl, by kernel_rfl, by kernel_rfl⟩
def rf97 : RFn where
  ntmps := 22
  mt := [7, 16]
  results := [.tmp 4]
  body := .seq (.region [⟨some 4, .mv (.c (.nil 59)), none⟩] false)
    (.seq (.region [⟨some 5, .mv (.c (.nil 59)), none⟩] false)
    (.seq (.seq (.region [⟨some 8, .mv (.t 0), none⟩,
      ⟨some 9, .lenR 59 112 (.t 8), none⟩,
      ⟨some 10, .mv (.c (.d (.int .i64 0))), none⟩] false)
    (.block 0 (.loop (.seq (.region [⟨some 11, .bin false .lss (.t 10) (.t 9), none⟩] false)
    (.seq (.cond (.t 11) (.skip)
    (.exit 0))
    (.seq (.block 1 (.seq (.region [⟨some 12, .ia 59 5 (.t 8) (.t 10), none⟩,
      ⟨some 13, .ldc true 5 (.t 12), none⟩,
      ⟨some 7, .alloc 59 [.nil 9, .nil 9, .d (.str []), .nil 69, .nil 9], none⟩,
      ⟨none, .st 5 (.t 7) (.t 13), none⟩] false)
    (.region [⟨some 14, .mv (.t 5), none⟩,
      ⟨some 15, .mv (.t 1), none⟩,
      ⟨some 16, .ld true 5 (.t 7), none⟩,
      ⟨some 17, .callv (.t 15) [.t 16], none⟩,
      ⟨some 18, .lit 59 5 [.t 17], none⟩,
      ⟨some 19, .app 59 5 112 (.t 14) (.t 18), none⟩,
      ⟨some 5, .mv (.t 19), none⟩] false)))
    (.region [⟨some 20, .bin false .add (.t 10) (.c (.d (.int .i64 1))), none⟩,
      ⟨some 10, .mv (.t 20), none⟩] false)))))))
    (.seq (.region [⟨some 21, .mv (.t 5), none⟩,
      ⟨some 4, .mv (.t 21), none⟩] false)
    (.ret))))
theorem ok97 : FnOK Tryz.prog 97 rf97 := ⟨Tryz.f97, _, Tryz.func97, rfl, by kernel_rfl, rfl, by kernel_rfl, by kernel_rfl⟩
def rf98 : RFn where
  ntmps := 25
  mt := [2, 3, 4, 5, 7, 10, 12, 16, 21, 24]
  results := [.cell true 5 4]
  body := .seq (.region [⟨some 2, .boxM 76 (.t 0), none⟩,
      ⟨some 3, .boxM 59 (.t 1), none⟩,
      ⟨some 4, .alloc 59 [.nil 9, .nil 9, .d (.str []), .nil 69, .nil 9], none⟩] false)
    (.seq (.region [⟨some 5, .ld true 1 (.t 2), none⟩,
      ⟨some 6, .fa 0 (.t 3), none⟩,
      ⟨some 7, .ld true 2 (.t 6), none⟩,
      ⟨some 8, .call 138 [.t 5, .t 7], none⟩,
      ⟨some 9, .fa 0 (.t 3), none⟩,
      ⟨none, .st 2 (.t 9) (.t 8), none⟩] false)
    (.seq (.region [⟨some 10, .ld true 1 (.t 2), none⟩,
      ⟨some 11, .fa 2 (.t 3), none⟩,
      ⟨some 12, .ld false 1 (.t 11), none⟩,
      ⟨some 13, .call 95 [.t 10, .t 12], none⟩,
      ⟨some 14, .fa 2 (.t 3), none⟩,
      ⟨none, .st 1 (.t 14) (.t 13), none⟩] false)
    (.seq (.region [⟨some 15, .fa 3 (.t 3), none⟩,
      ⟨some 16, .ld false 1 (.t 15), none⟩,
      ⟨some 17, .mkf 140 [] [.t 2], none⟩,
      ⟨some 18, .call 139 [.t 16, .t 17], none⟩,
      ⟨some 19, .fa 3 (.t 3), none⟩,
      ⟨none, .st 1 (.t 19) (.t 18), none⟩] false)
    (.seq (.region [⟨some 20, .fa 4 (.t 3), none⟩,
      ⟨some 21, .ld false 1 (.t 20), none⟩,
      ⟨some 22, .call 96 [.t 21], none⟩,
      ⟨some 23, .fa 4 (.t 3), none⟩,
      ⟨none, .st 1 (.t 23) (.t 22), none⟩] false)
    (.seq (.region [⟨some 24, .ld true 5 (.t 3), none⟩,
      ⟨none, .st 5 (.t 4) (.t 24), none⟩] false)
    (.ret))))))
theorem ok98 : FnOK Tryz.prog 98 rf98 := ⟨Tryz.f98, _, Tryz.func98, rfl, by kernel_rfl, rfl, by kernel_rfl, by kernel_rfl⟩
def rf99 : RFn where
  ntmps := 22
  mt := [7, 16]
  results := [.tmp 4]
  body := .seq (.region [⟨some 4, .mv (.c (.nil 98)), none⟩] false)
    (.seq (.region [⟨some 5, .mv (.c (.nil 98)), none⟩] false)
    (.seq (.seq (.region [⟨some 8, .mv (.t 0), none⟩,
      ⟨some 9, .lenR 98 96 (.t 8), none⟩,
      ⟨some 10, .mv (.c (.d (.int .i64 0))), none⟩] false)
    (.block 0 (.loop (.seq (.region [⟨some 11, .bin false .lss (.t 10) (.t 9), none⟩] false)
    (.seq (.cond (.t 11) (.skip)
    (.exit 0))
    (.seq (.block 1 (.seq (.region [⟨some 12, .ia 98 6 (.t 8) (.t 10), none⟩,
      ⟨some 13, .ldc true 6 (.t 12), none⟩,
      ⟨some 7, .alloc 98 [.nil 9, .nil 9, .d (.str []), .d (.int .i64 0), .d (.int .i64 0), .d (.str [])], none⟩,
      ⟨none, .st 6 (.t 7) (.t 13), none⟩] false)
    (.region [⟨some 14, .mv (.t 5), none⟩,
      ⟨some 15, .mv (.t 1), none⟩,
      ⟨some 16, .ld true 6 (.t 7), none⟩,
      ⟨some 17, .callv (.t 15) [.t 16], none⟩,
      ⟨some 18, .lit 98 6 [.t 17], none⟩,
      ⟨some 19, .app 98 6 96 (.t 14) (.t 18), none⟩,
      ⟨some 5, .mv (.t 19), none⟩] false)))
    (.region [⟨some 20, .bin false .add (.t 10) (.c (.d (.int .i64 1))), none⟩,
      ⟨some 10, .mv (.t 20), none⟩] false)))))))
    (.seq (.region [⟨some 21, .mv (.t 5), none⟩,
      ⟨some 4, .mv (.t 21), none⟩] false)
    (.ret))))
theorem ok99 : FnOK Tryz.prog 99 rf99 := ⟨Tryz.f99, _, Tryz.func99, rfl, by kernel_rfl, rfl, by kernel_rfl, by kernel_rfl⟩
def rf100 : RFn where
  ntmps := 21
  mt := [2, 3, 4, 5, 7, 10, 12, 15, 17, 20]
  results := [.cell true 6 4]
  body := .seq (.region [⟨some 2, .boxM 76 (.t 0), none⟩,
      ⟨some 3, .boxM 98 (.t 1), none⟩,
      ⟨some 4, .alloc 98 [.nil 9, .nil 9, .d (.str []), .d (.int .i64 0), .d (.int .i64 0), .d (.str [])], none⟩] false)
    (.seq (.region [⟨some 5, .ld true 1 (.t 2), none⟩,
      ⟨some 6, .fa 0 (.t 3), none⟩,
      ⟨some 7, .ld true 2 (.t 6), none⟩,
      ⟨some 8, .call 138 [.t 5, .t 7], none⟩,
      ⟨some 9, .fa 0 (.t 3), none⟩,
      ⟨none, .st 2 (.t 9) (.t 8), none⟩] false)
    (.seq (.region [⟨some 10, .ld true 1 (.t 2), none⟩,
      ⟨some 11, .fa 2 (.t 3), none⟩,
      ⟨some 12, .ld false 1 (.t 11), none⟩,
      ⟨some 13, .call 95 [.t 10, .t 12], none⟩,
      ⟨some 14, .fa 2 (.t 3), none⟩,
      ⟨none, .st 1 (.t 14) (.t 13), none⟩] false)
    (.seq (.region [⟨some 15, .ld true 1 (.t 2), none⟩,
      ⟨some 16, .fa 3 (.t 3), none⟩,
      ⟨some 17, .ld true 3 (.t 16), none⟩,
      ⟨some 18, .call 141 [.t 15, .t 17], none⟩,
      ⟨some 19, .fa 3 (.t 3), none⟩,
      ⟨none, .st 3 (.t 19) (.t 18), none⟩] false)
    (.seq (.region [⟨some 20, .ld true 6 (.t 3), none⟩,
      ⟨none, .st 6 (.t 4) (.t 20), none⟩] false)
    (.ret)))))
theorem ok100 : FnOK Tryz.prog 100 rf100 := ⟨Tryz.f100, _, Tryz.func100, rfl, by kernel_rfl, rfl, by kernel_rfl, by kernel_rfl⟩
def rf101 : RFn where
  ntmps := 22
  mt := [7, 16]
  results := [.tmp 4]
  body := .seq (.region [⟨some 4, .mv (.c (.nil 103)), none⟩] false)
    (.seq (.region [⟨some 5, .mv (.c (.nil 103)), none⟩] false)
    (.seq (.seq (.region [⟨some 8, .mv (.t 0), none⟩,
      ⟨some 9, .lenR 103 192 (.t 8), none⟩,
      ⟨some 10, .mv (.c (.d (.int .i64 0))), none⟩] false)
    (.block 0 (.loop (.seq (.region [⟨some 11, .bin false .lss (.t 10) (.t 9), none⟩] false)
    (.seq (.cond (.t 11) (.skip)
    (.exit 0))
    (.seq (.block 1 (.seq (.region [⟨some 12, .ia 103 9 (.t 8) (.t 10), none⟩,
      ⟨some 13, .ldc true 9 (.t 12), none⟩,
      ⟨some 7, .alloc 103 [.nil 9, .nil 9, .d (.str []), .d (.int .i64 0), .nil 145, .nil 98, .nil 103, .nil 107, .nil 9], none⟩,
      ⟨none, .st 9 (.t 7) (.t 13), none⟩] false)
    (.region [⟨some 14, .mv (.t 5), none⟩,
      ⟨some 15, .mv (.t 1), none⟩,
      ⟨some 16, .ld true 9 (.t 7), none⟩,
      ⟨some 17, .callv (.t 15) [.t 16], none⟩,
      ⟨some 18, .lit 103 9 [.t 17], none⟩,
      ⟨some 19, .app 103 9 192 (.t 14) (.t 18), none⟩,
      ⟨some 5, .mv (.t 19), none⟩] false)))
    (.region [⟨some 20, .bin false .add (.t 10) (.c (.d (.int .i64 1))), none⟩,
      ⟨some 10, .mv (.t 20), none⟩] false)))))))
    (.seq (.region [⟨some 21, .mv (.t 5), none⟩,
      ⟨some 4, .mv (.t 21), none⟩] false)
    (.ret))))
theorem ok101 : FnOK Tryz.prog 101 rf101 := ⟨Tryz.f101, _, Tryz.func101, rfl, by kernel_rfl, rfl, by kernel_rfl, by kernel_rfl⟩
def rf102 : RFn where
  ntmps := 43
  mt := [2, 3, 4, 5, 7, 10, 12, 16, 21, 22, 27, 28, 33, 34, 39, 42]
  results := [.cell true 9 4]
  body := .seq (.region [⟨some 2, .boxM 76 (.t 0), none⟩,
      ⟨some 3, .boxM 103 (.t 1), none⟩,
      ⟨some 4, .alloc 103 [.nil 9, .nil 9, .d (.str []), .d (.int .i64 0), .nil 145, .nil 98, .nil 103, .nil 107, .nil 9], none⟩] false)
    (.seq (.region [⟨some 5, .ld true 1 (.t 2), none⟩,
      ⟨some 6, .fa 0 (.t 3), none⟩,
      ⟨some 7, .ld true 2 (.t 6), none⟩,
      ⟨some 8, .call 138 [.t 5, .t 7], none⟩,
      ⟨some 9, .fa 0 (.t 3), none⟩,
      ⟨none, .st 2 (.t 9) (.t 8), none⟩] false)
    (.seq (.region [⟨some 10, .ld true 1 (.t 2), none⟩,
      ⟨some 11, .fa 2 (.t 3), none⟩,
      ⟨some 12, .ld false 1 (.t 11), none⟩,
      ⟨some 13, .call 95 [.t 10, .t 12], none⟩,
      ⟨some 14, .fa 2 (.t 3), none⟩,
      ⟨none, .st 1 (.t 14) (.t 13), none⟩] false)
    (.seq (.region [⟨some 15, .fa 4 (.t 3), none⟩,
      ⟨some 16, .ld false 1 (.t 15), none⟩,
      ⟨some 17, .mkf 143 [] [.t 2], none⟩,
      ⟨some 18, .call 142 [.t 16, .t 17], none⟩,
      ⟨some 19, .fa 4 (.t 3), none⟩,
      ⟨none, .st 1 (.t 19) (.t 18), none⟩] false)
    (.seq (.region [⟨some 20, .fa 5 (.t 3), none⟩,
      ⟨some 21, .ld false 1 (.t 20), none⟩,
      ⟨some 22, .ld true 1 (.t 2), none⟩,
      ⟨some 23, .mkf 100 [.t 22] [], none⟩,
      ⟨some 24, .call 99 [.t 21, .t 23], none⟩,
      ⟨some 25, .fa 5 (.t 3), none⟩,
      ⟨none, .st 1 (.t 25) (.t 24), none⟩] false)
    (.seq (.region [⟨some 26, .fa 6 (.t 3), none⟩,
      ⟨some 27, .ld false 1 (.t 26), none⟩,
      ⟨some 28, .ld true 1 (.t 2), none⟩,
      ⟨some 29, .mkf 102 [.t 28] [], none⟩,
      ⟨some 30, .call 101 [.t 27, .t 29], none⟩,
      ⟨some 31, .fa 6 (.t 3), none⟩,
      ⟨none, .st 1 (.t 31) (.t 30), none⟩] false)
    (.seq (.region [⟨some 32, .fa 7 (.t 3), none⟩,
      ⟨some 33, .ld false 1 (.t 32), none⟩,
      ⟨some 34, .ld true 1 (.t 2), none⟩,
      ⟨some 35, .mkf 104 [.t 34] [], none⟩,
      ⟨some 36, .call 103 [.t 33, .t 35], none⟩,
      ⟨some 37, .fa 7 (.t 3), none⟩,
      ⟨none, .st 1 (.t 37) (.t 36), none⟩] false)
    (.seq (.region [⟨some 38, .fa 8 (.t 3), none⟩,
      ⟨some 39, .ld false 1 (.t 38), none⟩,
      ⟨some 40, .call 96 [.t 39], none⟩,
      ⟨some 41, .fa 8 (.t 3), none⟩,
      ⟨none, .st 1 (.t 41) (.t 40), none⟩] false)
    (.seq (.region [⟨some 42, .ld true 9 (.t 3), none⟩,
      ⟨none, .st 9 (.t 4) (.t 42), none⟩] false)
    (.ret)))))))))
theorem ok102 : FnOK Tryz.prog 102 rf102 := ⟨Tryz.f102, _, Tryz.func102, rfl, by kernel_rfl, rfl, by kernel_rfl, by kernel_rfl⟩
def rf103 : RFn where
  ntmps := 22
  mt := [7, 16]
  results := [.tmp 4]
  body := .seq (.region [⟨some 4, .mv (.c (.nil 107)), none⟩] false)
    (.seq (.region [⟨some 5, .mv (.c (.nil 107)), none⟩] false)
    (.seq (.seq (.region [⟨some 8, .mv (.t 0), none⟩,
      ⟨some 9, .lenR 107 272 (.t 8), none⟩,
      ⟨some 10, .mv (.c (.d (.int .i64 0))), none⟩] false)
    (.block 0 (.loop (.seq (.region [⟨some 11, .bin false .lss (.t 10) (.t 9), none⟩] false)
    (.seq (.cond (.t 11) (.skip)
    (.exit 0))
    (.seq (.block 1 (.seq (.region [⟨some 12, .ia 107 16 (.t 8) (.t 10), none⟩,
      ⟨some 13, .ldc true 16 (.t 12), none⟩,
      ⟨some 7, .alloc 107 [.nil 9, .nil 9, .d (.int .i64 0), .d (.str []), .d (.int .i64 0), .d (.int .i64 0), .d (.str []), .d (.str []), .nil 44, .nil 44, .d (.bool false), .d (.bool false), .nil 107, .nil 107, .nil 9, .nil 9], none⟩,
      ⟨none, .st 16 (.t 7) (.t 13), none⟩] false)
    (.region [⟨some 14, .mv (.t 5), none⟩,
      ⟨some 15, .mv (.t 1), none⟩,
      ⟨some 16, .ld true 16 (.t 7), none⟩,
      ⟨some 17, .callv (.t 15) [.t 16], none⟩,
      ⟨some 18, .lit 107 16 [.t 17], none⟩,
      ⟨some 19, .app 107 16 272 (.t 14) (.t 18), none⟩,
      ⟨some 5, .mv (.t 19), none⟩] false)))
    (.region [⟨some 20, .bin false .add (.t 10) (.c (.d (.int .i64 1))), none⟩,
      ⟨some 10, .mv (.t 20), none⟩] false)))))))
    (.seq (.region [⟨some 21, .mv (.t 5), none⟩,
      ⟨some 4, .mv (.t 21), none⟩] false)
    (.ret))))
theorem ok103 : FnOK Tryz.prog 103 rf103 := ⟨Tryz.f103, _, Tryz.func103, rfl, by kernel_rfl, rfl, by kernel_rfl, by kernel_rfl⟩
def rf104 : RFn where
  ntmps := 47
  mt := [2, 3, 4, 5, 7, 10, 12, 15, 17, 21, 22, 27, 28, 33, 34, 39, 42, 46]
  results := [.cell true 16 4]
  body := .seq (.region [⟨some 2, .boxM 76 (.t 0), none⟩,
      ⟨some 3, .boxM 107 (.t 1), none⟩,
      ⟨some 4, .alloc 107 [.nil 9, .nil 9, .d (.int .i64 0), .d (.str []), .d (.int .i64 0), .d (.int .i64 0), .d (.str []), .d (.str []), .nil 44, .nil 44, .d (.bool false), .d (.bool false), .nil 107, .nil 107, .nil 9, .nil 9], none⟩] false)
    (.seq (.region [⟨some 5, .ld true 1 (.t 2), none⟩,
      ⟨some 6, .fa 0 (.t 3), none⟩,
      ⟨some 7, .ld true 2 (.t 6), none⟩,
      ⟨some 8, .call 138 [.t 5, .t 7], none⟩,
      ⟨some 9, .fa 0 (.t 3), none⟩,
      ⟨none, .st 2 (.t 9) (.t 8), none⟩] false)
    (.seq (.region [⟨some 10, .ld true 1 (.t 2), none⟩,
      ⟨some 11, .fa 3 (.t 3), none⟩,
      ⟨some 12, .ld false 1 (.t 11), none⟩,
      ⟨some 13, .call 95 [.t 10, .t 12], none⟩,
      ⟨some 14, .fa 3 (.t 3), none⟩,
      ⟨none, .st 1 (.t 14) (.t 13), none⟩] false)
    (.seq (.region [⟨some 15, .ld true 1 (.t 2), none⟩,
      ⟨some 16, .fa 4 (.t 3), none⟩,
      ⟨some 17, .ld true 5 (.t 16), none⟩,
      ⟨some 18, .call 144 [.t 15, .t 17], none⟩,
      ⟨some 19, .fa 4 (.t 3), none⟩,
      ⟨none, .st 5 (.t 19) (.t 18), none⟩] false)
    (.seq (.region [⟨some 20, .fa 9 (.t 3), none⟩,
      ⟨some 21, .ld false 1 (.t 20), none⟩,
      ⟨some 22, .ld true 1 (.t 2), none⟩,
      ⟨some 23, .mkf 144 [.t 22] [], none⟩,
      ⟨some 24, .call 145 [.t 21, .t 23], none⟩,
      ⟨some 25, .fa 9 (.t 3), none⟩,
      ⟨none, .st 1 (.t 25) (.t 24), none⟩] false)
    (.seq (.region [⟨some 26, .fa 12 (.t 3), none⟩,
      ⟨some 27, .ld false 1 (.t 26), none⟩,
      ⟨some 28, .ld true 1 (.t 2), none⟩,
      ⟨some 29, .mkf 104 [.t 28] [], none⟩,
      ⟨some 30, .call 103 [.t 27, .t 29], none⟩,
      ⟨some 31, .fa 12 (.t 3), none⟩,
      ⟨none, .st 1 (.t 31) (.t 30), none⟩] false)
    (.seq (.region [⟨some 32, .fa 13 (.t 3), none⟩,
      ⟨some 33, .ld false 1 (.t 32), none⟩,
      ⟨some 34, .ld true 1 (.t 2), none⟩,
      ⟨some 35, .mkf 104 [.t 34] [], none⟩,
      ⟨some 36, .call 103 [.t 33, .t 35], none⟩,
      ⟨some 37, .fa 13 (.t 3), none⟩,
      ⟨none, .st 1 (.t 37) (.t 36), none⟩] false)
    (.seq (.regions [[⟨some 38, .fa 14 (.t 3), none⟩,
      ⟨some 39, .ld false 1 (.t 38), none⟩,
      ⟨some 41, .fa 15 (.t 3), none⟩,
      ⟨some 44, .fa 14 (.t 3), none⟩,
      ⟨some 45, .fa 15 (.t 3), none⟩,
      ⟨some 40, .call 96 [.t 39], none⟩,
      ⟨some 42, .ld false 1 (.t 41), none⟩,
      ⟨some 43, .call 96 [.t 42], none⟩,
      ⟨none, .st 1 (.t 44) (.t 40), none⟩,
      ⟨none, .st 1 (.t 45) (.t 43), none⟩],
     [⟨some 38, .fa 14 (.t 3), none⟩,
      ⟨some 39, .ld false 1 (.t 38), none⟩,
      ⟨some 41, .fa 15 (.t 3), none⟩,
      ⟨some 44, .fa 14 (.t 3), none⟩,
      ⟨some 45, .fa 15 (.t 3), none⟩,
      ⟨some 42, .ld false 1 (.t 41), none⟩,
      ⟨some 40, .call 96 [.t 39], none⟩,
      ⟨some 43, .call 96 [.t 42], none⟩,
      ⟨none, .st 1 (.t 44) (.t 40), none⟩,
      ⟨none, .st 1 (.t 45) (.t 43), none⟩]])
    (.seq (.region [⟨some 46, .ld true 16 (.t 3), none⟩,
      ⟨none, .st 16 (.t 4) (.t 46), none⟩] false)
    (.ret)))))))))
theorem ok104 : FnOK Tryz.prog 104 rf104 := ⟨Tryz.f104, _, Tryz.func104, rfl, by kernel_rfl, rfl, by kernel_rfl, by kernel_rfl⟩
def rf106 : RFn where
  ntmps := 6
  mt := []
  results := [.tmp 2]
  body := .seq (.region [⟨some 2, .mv (.c (.d (.bool false))), none⟩] false)
    (.seq (.region [⟨some 3, .mv (.t 0), none⟩,
      ⟨some 4, .lenR 44 72 (.t 3), none⟩,
      ⟨some 5, .bin false .leq (.t 4) (.c (.d (.int .i64 512))), none⟩,
      ⟨some 2, .mv (.t 5), none⟩] false)
    (.ret))
theorem ok106 : FnOK Tryz.prog 106 rf106 := ⟨Tryz.f106, _, Tryz.func106, rfl, by kernel_rfl, rfl, by kernel_rfl, by kernel_rfl⟩
def rf109 : RFn where
  ntmps := 17
  mt := []
  results := [.tmp 4]
  body := .seq (.region [⟨some 2, .boxI (.t 0), none⟩,
      ⟨some 3, .boxI (.t 1), none⟩,
      ⟨some 4, .mv (.c (.d (.bool false))), none⟩] false)
    (.seq (.region [⟨some 5, .fa 0 (.t 2), none⟩,
      ⟨some 6, .ldc false 1 (.t 5), none⟩,
      ⟨some 7, .fa 0 (.t 3), none⟩,
      ⟨some 8, .ldc false 1 (.t 7), none⟩,
      ⟨some 9, .call 54 [.t 6, .t 8], none⟩,
      ⟨some 10, .mv (.t 9), none⟩,
      ⟨some 11, .fa 1 (.t 2), (some (10, true))⟩,
      ⟨some 12, .ldc false 1 (.t 11), (some (10, true))⟩,
      ⟨some 13, .fa 1 (.t 3), (some (10, true))⟩,
      ⟨some 14, .ldc false 1 (.t 13), (some (10, true))⟩,
      ⟨some 15, .call 54 [.t 12, .t 14], (some (10, true))⟩,
      ⟨some 16, .pick (.t 10) (.t 15) (.c (.d (.bool false))), none⟩,
      ⟨some 4, .mv (.t 16), none⟩] false)
    (.ret))
theorem ok109 : FnOK Tryz.prog 109 rf109 := ⟨Tryz.f109, _, Tryz.func109, rfl, by kernel_rfl, rfl, by kernel_rfl, by kernel_rfl⟩
def rf110 : RFn where
  ntmps := 32
  mt := [8, 9, 27, 28]
  results := [.tmp 6]
  body := .seq (.region [⟨some 6, .mv (.c (.d (.bool false))), none⟩] false)
    (.seq (.seq (.region [⟨some 10, .mv (.t 0), none⟩,
      ⟨some 11, .lenR 69 72 (.t 10), none⟩,
      ⟨some 12, .mv (.t 1), none⟩,
      ⟨some 13, .lenR 69 72 (.t 12), none⟩,
      ⟨some 14, .bin false .neq (.t 11) (.t 13), none⟩] false)
    (.cond (.t 14) (.seq (.region [⟨some 6, .mv (.c (.d (.bool false))), none⟩] false)
    (.ret))
    (.skip)))
    (.seq (.seq (.region [⟨some 15, .mv (.t 0), none⟩,
      ⟨some 16, .lenR 69 72 (.t 15), none⟩,
      ⟨some 17, .mv (.c (.d (.int .i64 0))), none⟩] false)
    (.block 0 (.loop (.seq (.region [⟨some 18, .bin false .lss (.t 17) (.t 16), none⟩] false)
    (.seq (.cond (.t 18) (.skip)
    (.exit 0))
    (.seq (.block 1 (.seq (.region [⟨some 19, .mv (.t 17), none⟩,
      ⟨some 20, .ia 69 4 (.t 15) (.t 17), none⟩,
      ⟨some 21, .ldc true 4 (.t 20), none⟩,
      ⟨some 8, .alloc 69 [.nil 9, .nil 9, .d (.str []), .d (.int .i64 0)], none⟩,
      ⟨some 7, .mv (.t 19), none⟩,
      ⟨none, .st 4 (.t 8) (.t 21), none⟩] false)
    (.seq (.region [⟨some 22, .mv (.t 1), none⟩,
      ⟨some 23, .mv (.t 7), none⟩,
      ⟨some 24, .ia 69 4 (.t 22) (.t 23), none⟩,
      ⟨some 25, .ldc true 4 (.t 24), none⟩,
      ⟨some 9, .alloc 69 [.nil 9, .nil 9, .d (.str []), .d (.int .i64 0)], none⟩,
      ⟨none, .st 4 (.t 9) (.t 25), none⟩] false)
    (.seq (.region [⟨some 26, .mv (.t 2), none⟩,
      ⟨some 27, .ld true 4 (.t 8), none⟩,
      ⟨some 28, .ld true 4 (.t 9), none⟩,
      ⟨some 29, .callv (.t 26) [.t 27, .t 28], none⟩,
      ⟨some 30, .not (.t 29), none⟩] false)
    (.cond (.t 30) (.seq (.region [⟨some 6, .mv (.c (.d (.bool false))), none⟩] false)
    (.ret))
    (.skip))))))
    (.region [⟨some 31, .bin false .add (.t 17) (.c (.d (.int .i64 1))), none⟩,
      ⟨some 17, .mv (.t 31), none⟩] false)))))))
    (.seq (.region [⟨some 6, .mv (.c (.d (.bool true))), none⟩] false)
    (.ret))))
theorem ok110 : FnOK Tryz.prog 110 rf110 := ⟨Tryz.f110, _, Tryz.func110, rfl, by kernel_rfl, rfl, by kernel_rfl, by kernel_rfl⟩
def rf111 : RFn where
  ntmps := 24
  mt := []
  results := [.tmp 4]
  body := .seq (.region [⟨some 2, .boxI (.t 0), none⟩,
      ⟨some 3, .boxI (.t 1), none⟩,
      ⟨some 4, .mv (.c (.d (.bool false))), none⟩] false)
    (.seq (.region [⟨some 5, .fa 0 (.t 2), none⟩,
      ⟨some 6, .ldc true 2 (.t 5), none⟩,
      ⟨some 7, .fa 0 (.t 3), none⟩,
      ⟨some 8, .ldc true 2 (.t 7), none⟩,
      ⟨some 9, .call 109 [.t 6, .t 8], none⟩,
      ⟨some 10, .mv (.t 9), none⟩,
      ⟨some 11, .fa 2 (.t 2), (some (10, true))⟩,
      ⟨some 12, .ldc false 1 (.t 11), (some (10, true))⟩,
      ⟨some 13, .fa 2 (.t 3), (some (10, true))⟩,
      ⟨some 14, .ldc false 1 (.t 13), (some (10, true))⟩,
      ⟨some 15, .bin false .eql (.t 12) (.t 14), (some (10, true))⟩,
      ⟨some 16, .pick (.t 10) (.t 15) (.c (.d (.bool false))), none⟩,
      ⟨some 17, .mv (.t 16), none⟩,
      ⟨some 18, .fa 3 (.t 2), (some (17, true))⟩,
      ⟨some 19, .ldc false 1 (.t 18), (some (17, true))⟩,
      ⟨some 20, .fa 3 (.t 3), (some (17, true))⟩,
      ⟨some 21, .ldc false 1 (.t 20), (some (17, true))⟩,
      ⟨some 22, .bin false .eql (.t 19) (.t 21), (some (17, true))⟩,
      ⟨some 23, .pick (.t 17) (.t 22) (.c (.d (.bool false))), none⟩,
      ⟨some 4, .mv (.t 23), none⟩] false)
    (.ret))
theorem ok111 : FnOK Tryz.prog 111 rf111 := ⟨Tryz.f111, _, Tryz.func111, rfl, by kernel_rfl, rfl, by kernel_rfl, by kernel_rfl⟩
def rf112 : RFn where
  ntmps := 26
  mt := []
  results := [.tmp 4]
  body := .seq (.region [⟨some 4, .mv (.c (.d (.bool false))), none⟩] false)
    (.seq (.seq (.region [⟨some 6, .mv (.t 0), none⟩,
      ⟨some 7, .lenR 145 56 (.t 6), none⟩,
      ⟨some 8, .mv (.t 1), none⟩,
      ⟨some 9, .lenR 145 56 (.t 8), none⟩,
      ⟨some 10, .bin false .neq (.t 7) (.t 9), none⟩] false)
    (.cond (.t 10) (.seq (.region [⟨some 4, .mv (.c (.d (.bool false))), none⟩] false)
    (.ret))
    (.skip)))
    (.seq (.seq (.region [⟨some 11, .mv (.t 0), none⟩,
      ⟨some 12, .lenR 145 56 (.t 11), none⟩,
      ⟨some 13, .mv (.c (.d (.int .i64 0))), none⟩] false)
    (.block 0 (.loop (.seq (.region [⟨some 14, .bin false .lss (.t 13) (.t 12), none⟩] false)
    (.seq (.cond (.t 14) (.skip)
    (.exit 0))
    (.seq (.block 1 (.seq (.region [⟨some 15, .mv (.t 13), none⟩,
      ⟨some 5, .mv (.t 15), none⟩] false)
    (.seq (.region [⟨some 16, .mv (.t 0), none⟩,
      ⟨some 17, .mv (.t 5), none⟩,
      ⟨some 18, .ia 145 5 (.t 16) (.t 17), none⟩,
      ⟨some 19, .ldc true 5 (.t 18), none⟩,
      ⟨some 20, .mv (.t 1), none⟩,
      ⟨some 21, .mv (.t 5), none⟩,
      ⟨some 22, .ia 145 5 (.t 20) (.t 21), none⟩,
      ⟨some 23, .ldc true 5 (.t 22), none⟩,
      ⟨some 24, .pr (.eqAgg [.s, .i, .i, .s, .i] true) [.t 19, .t 23], none⟩] true)
    (.cond (.t 24) (.seq (.region [⟨some 4, .mv (.c (.d (.bool false))), none⟩] false)
    (.ret))
    (.skip)))))
    (.region [⟨some 25, .bin false .add (.t 13) (.c (.d (.int .i64 1))), none⟩,
      ⟨some 13, .mv (.t 25), none⟩] false)))))))
    (.seq (.region [⟨some 4, .mv (.c (.d (.bool true))), none⟩] false)
    (.ret))))
theorem ok112 : FnOK Tryz.prog 112 rf112 := ⟨Tryz.f112, _, Tryz.func112, rfl, by kernel_rfl, rfl, by kernel_rfl, by kernel_rfl⟩
def rf113 : RFn where
  ntmps := 27
  mt := []
  results := [.tmp 4]
  body := .seq (.region [⟨some 4, .mv (.c (.d (.bool false))), none⟩] false)
    (.seq (.region [⟨some 5, .mv (.t 0), none⟩,
      ⟨some 6, .bin false .geq (.t 5) (.c (.d (.int .u8 97))), none⟩,
      ⟨some 7, .mv (.t 6), none⟩,
      ⟨some 8, .mv (.t 0), (some (7, true))⟩,
      ⟨some 9, .bin false .leq (.t 8) (.c (.d (.int .u8 122))), (some (7, true))⟩,
      ⟨some 10, .pick (.t 7) (.t 9) (.c (.d (.bool false))), none⟩,
      ⟨some 11, .mv (.t 10), none⟩,
      ⟨some 12, .mv (.t 1), (some (11, false))⟩,
      ⟨some 13, .not (.t 12), (some (11, false))⟩,
      ⟨some 14, .mv (.t 13), (some (11, false))⟩,
      ⟨some 15, .mv (.t 0), (some (14, true))⟩,
      ⟨some 16, .bin false .eql (.t 15) (.c (.d (.int .u8 95))), (some (14, true))⟩,
      ⟨some 17, .mv (.t 16), (some (14, true))⟩,
      ⟨some 18, .mv (.t 0), (some (17, false))⟩,
      ⟨some 19, .bin false .geq (.t 18) (.c (.d (.int .u8 48))), (some (17, false))⟩,
      ⟨some 20, .mv (.t 19), (some (17, false))⟩,
      ⟨some 21, .mv (.t 0), (some (20, true))⟩,
      ⟨some 22, .bin false .leq (.t 21) (.c (.d (.int .u8 57))), (some (20, true))⟩,
      ⟨some 23, .pick (.t 20) (.t 22) (.c (.d (.bool false))), (some (17, false))⟩,
      ⟨some 24, .pick (.t 17) (.c (.d (.bool true))) (.t 23), (some (14, true))⟩,
      ⟨some 25, .pick (.t 14) (.t 24) (.c (.d (.bool false))), (some (11, false))⟩,
      ⟨some 26, .pick (.t 11) (.c (.d (.bool true))) (.t 25), none⟩,
      ⟨some 4, .mv (.t 26), none⟩] false)
    (.ret))
theorem ok113 : FnOK Tryz.prog 113 rf113 := ⟨Tryz.f113, _, Tryz.func113, rfl, by kernel_rfl, rfl, by kernel_rfl, by kernel_rfl⟩
def rf114 : RFn where
  ntmps := 54
  mt := []
  results := [.tmp 4, .tmp 5]
  body := .seq (.region [⟨some 4, .mv (.c (.d (.int .i64 0))), none⟩,
      ⟨some 5, .mv (.c (.d (.bool false))), none⟩] false)
    (.seq (.region [⟨some 10, .mv (.t 0), none⟩,
      ⟨some 11, .lenR 9 16 (.t 10), none⟩,
      ⟨some 6, .mv (.t 11), none⟩] false)
    (.seq (.region [⟨some 12, .mv (.t 6), none⟩,
      ⟨some 7, .mv (.c (.d (.int .i64 0))), none⟩,
      ⟨some 8, .mv (.t 12), none⟩] false)
    (.seq (.block 0 (.loop (.seq (.seq (.region [⟨some 13, .mv (.t 7), none⟩,
      ⟨some 14, .mv (.t 8), none⟩,
      ⟨some 15, .bin false .lss (.t 13) (.t 14), none⟩] false)
    (.cond (.t 15) (.skip)
    (.exit 0)))
    (.block 1 (.seq (.region [⟨some 16, .mv (.t 7), none⟩,
      ⟨some 17, .mv (.t 8), none⟩,
      ⟨some 18, .bin false .add (.t 16) (.t 17), none⟩,
      ⟨some 19, .conv .u64 (.t 18), none⟩,
      ⟨some 20, .pr .shr [.t 19, .c (.d (.int .u64 1))], none⟩,
      ⟨some 21, .conv .i64 (.t 20), none⟩,
      ⟨some 9, .mv (.t 21), none⟩] false)
    (.seq (.region [⟨some 22, .mv (.t 0), none⟩,
      ⟨some 23, .mv (.t 9), none⟩,
      ⟨some 24, .ia 9 1 (.t 22) (.t 23), none⟩,
      ⟨some 25, .ldc false 1 (.t 24), none⟩,
      ⟨some 26, .mv (.t 1), none⟩,
      ⟨some 27, .call 146 [.t 25, .t 26], none⟩] false)
    (.cond (.t 27) (.region [⟨some 28, .mv (.t 9), none⟩,
      ⟨some 29, .bin false .add (.t 28) (.c (.d (.int .i64 1))), none⟩,
      ⟨some 7, .mv (.t 29), none⟩] false)
    (.region [⟨some 30, .mv (.t 9), none⟩,
      ⟨some 8, .mv (.t 30), none⟩] false))))))))
    (.seq (.region [⟨some 31, .mv (.t 7), none⟩,
      ⟨some 32, .mv (.t 7), none⟩,
      ⟨some 33, .mv (.t 6), none⟩,
      ⟨some 34, .bin false .lss (.t 32) (.t 33), none⟩,
      ⟨some 35, .mv (.t 34), none⟩,
      ⟨some 36, .mv (.t 0), (some (35, true))⟩,
      ⟨some 37, .mv (.t 7), (some (35, true))⟩,
      ⟨some 38, .ia 9 1 (.t 36) (.t 37), (some (35, true))⟩,
      ⟨some 39, .ldc false 1 (.t 38), (some (35, true))⟩,
      ⟨some 40, .mv (.t 1), (some (35, true))⟩,
      ⟨some 41, .bin false .eql (.t 39) (.t 40), (some (35, true))⟩,
      ⟨some 42, .mv (.t 41), (some (35, true))⟩,
      ⟨some 43, .mv (.t 0), (some (42, false))⟩,
      ⟨some 44, .mv (.t 7), (some (42, false))⟩,
      ⟨some 45, .ia 9 1 (.t 43) (.t 44), (some (42, false))⟩,
      ⟨some 46, .ldc false 1 (.t 45), (some (42, false))⟩,
      ⟨some 47, .call 147 [.t 46], (some (42, false))⟩,
      ⟨some 48, .mv (.t 47), (some (42, false))⟩,
      ⟨some 49, .mv (.t 1), (some (48, true))⟩,
      ⟨some 50, .call 147 [.t 49], (some (48, true))⟩,
      ⟨some 51, .pick (.t 48) (.t 50) (.c (.d (.bool false))), (some (42, false))⟩,
      ⟨some 52, .pick (.t 42) (.c (.d (.bool true))) (.t 51), (some (35, true))⟩,
      ⟨some 53, .pick (.t 35) (.t 52) (.c (.d (.bool false))), none⟩,
      ⟨some 4, .mv (.t 31), none⟩,
      ⟨some 5, .mv (.t 53), none⟩] false)
    (.ret)))))
theorem ok114 : FnOK Tryz.prog 114 rf114 := ⟨Tryz.f114, _, Tryz.func114, rfl, by kernel_rfl, rfl, by kernel_rfl, by kernel_rfl⟩
def rf115 : RFn where
  ntmps := 10
  mt := []
  results := [.tmp 2]
  body := .seq (.region [⟨some 2, .mv (.c (.nil 9)), none⟩] false)
    (.seq (.seq (.region [⟨some 3, .mv (.t 0), none⟩] false)
    (.block 0 (.seq (.region [⟨some 5, .bin false .eql (.t 3) (.c (.d (.int .i64 0))), none⟩,
      ⟨some 4, .mv (.t 5), none⟩] false)
    (.cond (.t 4) (.seq (.region [⟨some 6, .call 148 [.c (.d (.str [97, 110, 100, 32, 97, 114, 114, 97, 121, 32, 98, 101, 103, 105, 110, 32, 98, 111, 111, 108, 101, 97, 110, 32, 99, 104, 97, 114, 32, 100, 105, 118, 32, 100, 111, 32, 100, 111, 119, 110, 116, 111, 32, 101, 108, 115, 101, 32, 101, 110, 100, 32, 102, 97, 108, 115, 101, 32, 102, 111, 114, 32, 102, 111, 114, 119, 97, 114, 100, 32, 102, 117, 110, 99, 116, 105, 111, 110, 32, 105, 102, 32, 105, 110, 116, 101, 103, 101, 114, 32, 109, 111, 100, 32, 110, 111, 116, 32, 111, 102, 32, 111, 114, 32, 112, 114, 111, 99, 101, 100, 117, 114, 101, 32, 112, 114, 111, 103, 114, 97, 109, 32, 114, 101, 97, 100, 32, 114, 101, 99, 111, 114, 100, 32, 114, 101, 112, 101, 97, 116, 32, 114, 101, 116, 117, 114, 110, 32, 116, 104, 101, 110, 32, 116, 111, 32, 116, 114, 117, 101, 32, 116, 121, 112, 101, 32, 117, 110, 116, 105, 108, 32, 118, 97, 114, 32, 119, 104, 105, 108, 101, 32, 119, 114, 105, 116, 101]))], none⟩,
      ⟨some 2, .mv (.t 6), none⟩] false)
    (.ret))
    (.seq (.region [⟨some 8, .bin false .eql (.t 3) (.c (.d (.int .i64 1))), none⟩,
      ⟨some 7, .mv (.t 8), none⟩] false)
    (.cond (.t 7) (.seq (.region [⟨some 9, .call 148 [.c (.d (.str [98, 111, 111, 108, 32, 99, 104, 97, 114, 32, 100, 111, 32, 100, 111, 119, 110, 116, 111, 32, 101, 108, 115, 101, 32, 102, 97, 108, 115, 101, 32, 102, 111, 114, 32, 103, 101, 116, 32, 105, 102, 32, 105, 110, 116, 32, 109, 97, 105, 110, 32, 112, 114, 111, 103, 114, 97, 109, 32, 112, 117, 116, 32, 114, 101, 116, 117, 114, 110, 32, 115, 116, 114, 117, 99, 116, 32, 116, 111, 32, 116, 114, 117, 101, 32, 117, 110, 116, 105, 108, 32, 117, 112, 32, 118, 111, 105, 100, 32, 119, 104, 105, 108, 101]))], none⟩,
      ⟨some 2, .mv (.t 9), none⟩] false)
    (.ret))
    (.skip)))))))
    (.seq (.region [⟨some 2, .mv (.c (.nil 9)), none⟩] false)
    (.ret)))
theorem ok115 : FnOK Tryz.prog 115 rf115 := ⟨Tryz.f115, _, Tryz.func115, rfl, by kernel_rfl, rfl, by kernel_rfl, by kernel_rfl⟩
def rf116 : RFn where
  ntmps := 12
  mt := [2]
  results := [.cell true 3 2, .tmp 3]
  body := .seq (.region [⟨some 2, .alloc 157 [.d (.str []), .d (.str []), .d (.str [])], none⟩,
      ⟨some 3, .mv (.c (.d (.bool false))), none⟩] false)
    (.seq (.seq (.region [⟨some 4, .mv (.t 0), none⟩] false)
    (.block 0 (.seq (.region [⟨some 6, .bin false .eql (.t 4) (.c (.d (.int .i64 0))), none⟩,
      ⟨some 5, .mv (.t 6), none⟩] false)
    (.cond (.t 5) (.seq (.region [⟨some 7, .build [.d (.str []), .d (.str []), .d (.str [])] [(0, 1, .c (.d (.str [123]))), (1, 1, .c (.d (.str [125]))), (2, 1, .c (.d (.str [92, 125])))], none⟩,
      ⟨none, .st 3 (.t 2) (.t 7), none⟩,
      ⟨some 3, .mv (.c (.d (.bool true))), none⟩] false)
    (.ret))
    (.seq (.region [⟨some 9, .bin false .eql (.t 4) (.c (.d (.int .i64 1))), none⟩,
      ⟨some 8, .mv (.t 9), none⟩] false)
    (.cond (.t 8) (.seq (.region [⟨some 10, .build [.d (.str []), .d (.str []), .d (.str [])] [(0, 1, .c (.d (.str [47, 42]))), (1, 1, .c (.d (.str [42, 47]))), (2, 1, .c (.d (.str [92, 42])))], none⟩,
      ⟨none, .st 3 (.t 2) (.t 10), none⟩,
      ⟨some 3, .mv (.c (.d (.bool true))), none⟩] false)
    (.ret))
    (.skip)))))))
    (.seq (.region [⟨some 11, .build [.d (.str []), .d (.str []), .d (.str [])] [], none⟩,
      ⟨none, .st 3 (.t 2) (.t 11), none⟩,
      ⟨some 3, .mv (.c (.d (.bool false))), none⟩] false)
    (.ret)))
theorem ok116 : FnOK Tryz.prog 116 rf116 := ⟨Tryz.f116, _, Tryz.func116, rfl, by kernel_rfl, rfl, by kernel_rfl, by kernel_rfl⟩
def rf117 : RFn where
  ntmps := 19
  mt := [12]
  results := [.tmp 4, .tmp 5]
  body := .seq (.region [⟨some 4, .mv (.c (.d (.int .i64 0))), none⟩,
      ⟨some 5, .mv (.c (.any)), none⟩] false)
    (.seq (.region [⟨some 6, .mv (.t 0), none⟩,
      ⟨some 7, .call 149 [.t 6], none⟩] false)
    (.seq (.region [⟨some 8, .mv (.t 0), none⟩,
      ⟨some 9, .mv (.t 0), none⟩,
      ⟨some 10, .nck (.t 9), none⟩,
      ⟨some 11, .fa 1 (.t 10), none⟩,
      ⟨some 12, .ld false 1 (.t 11), none⟩,
      ⟨some 13, .mv (.t 1), none⟩,
      ⟨some 14, .ef (.appS 5) [.t 12, .t 13], none⟩,
      ⟨some 15, .nck (.t 8), none⟩,
      ⟨some 16, .fa 1 (.t 15), none⟩,
      ⟨none, .st 1 (.t 16) (.t 14), none⟩] false)
    (.seq (.region [⟨some 17, .mv (.t 1), none⟩,
      ⟨some 18, .lenS (.t 17), none⟩,
      ⟨some 4, .mv (.t 18), none⟩,
      ⟨some 5, .mv (.c (.any)), none⟩] false)
    (.ret))))
theorem ok117 : FnOK Tryz.prog 117 rf117 := ⟨Tryz.f117, _, Tryz.func117, rfl, by kernel_rfl, rfl, by kernel_rfl, by kernel_rfl⟩
def rf118 : RFn where
  ntmps := 17
  mt := []
  results := [.tmp 2]
  body := .seq (.region [⟨some 2, .mv (.c (.d (.bool false))), none⟩] false)
    (.seq (.region [⟨some 3, .mv (.t 0), none⟩,
      ⟨some 4, .bin false .eql (.t 3) (.c (.d (.int .u8 9))), none⟩,
      ⟨some 5, .mv (.t 4), none⟩,
      ⟨some 6, .mv (.t 0), (some (5, false))⟩,
      ⟨some 7, .bin false .eql (.t 6) (.c (.d (.int .u8 10))), (some (5, false))⟩,
      ⟨some 8, .pick (.t 5) (.c (.d (.bool true))) (.t 7), none⟩,
      ⟨some 9, .mv (.t 8), none⟩,
      ⟨some 10, .mv (.t 0), (some (9, false))⟩,
      ⟨some 11, .bin false .geq (.t 10) (.c (.d (.int .u8 32))), (some (9, false))⟩,
      ⟨some 12, .mv (.t 11), (some (9, false))⟩,
      ⟨some 13, .mv (.t 0), (some (12, true))⟩,
      ⟨some 14, .bin false .leq (.t 13) (.c (.d (.int .u8 126))), (some (12, true))⟩,
      ⟨some 15, .pick (.t 12) (.t 14) (.c (.d (.bool false))), (some (9, false))⟩,
      ⟨some 16, .pick (.t 9) (.c (.d (.bool true))) (.t 15), none⟩,
      ⟨some 2, .mv (.t 16), none⟩] false)
    (.ret))
theorem ok118 : FnOK Tryz.prog 118 rf118 := ⟨Tryz.f118, _, Tryz.func118, rfl, by kernel_rfl, rfl, by kernel_rfl, by kernel_rfl⟩
def rf119 : RFn where
  ntmps := 8
  mt := []
  results := [.tmp 4]
  body := .seq (.region [⟨some 4, .mv (.c (.d (.bool false))), none⟩] false)
    (.seq (.region [⟨some 5, .mv (.t 0), none⟩,
      ⟨some 6, .mv (.t 1), none⟩,
      ⟨some 7, .call 150 [.t 5, .t 6], none⟩,
      ⟨some 4, .mv (.t 7), none⟩] false)
    (.ret))
theorem ok119 : FnOK Tryz.prog 119 rf119 := ⟨Tryz.f119, _, Tryz.func119, rfl, by kernel_rfl, rfl, by kernel_rfl, by kernel_rfl⟩
def rf120 : RFn where
  ntmps := 17
  mt := [11]
  results := [.tmp 4]
  body := .seq (.region [⟨some 4, .mv (.c (.any)), none⟩] false)
    (.seq (.region [⟨some 5, .mv (.t 0), none⟩,
      ⟨some 6, .call 149 [.t 5], none⟩] false)
    (.seq (.region [⟨some 7, .mv (.t 0), none⟩,
      ⟨some 8, .mv (.t 0), none⟩,
      ⟨some 9, .nck (.t 8), none⟩,
      ⟨some 10, .fa 1 (.t 9), none⟩,
      ⟨some 11, .ld false 1 (.t 10), none⟩,
      ⟨some 12, .mv (.t 1), none⟩,
      ⟨some 13, .lit 5 1 [.t 12], none⟩,
      ⟨some 14, .app 5 1 1 (.t 11) (.t 13), none⟩,
      ⟨some 15, .nck (.t 7), none⟩,
      ⟨some 16, .fa 1 (.t 15), none⟩,
      ⟨none, .st 1 (.t 16) (.t 14), none⟩] false)
    (.seq (.region [⟨some 4, .mv (.c (.any)), none⟩] false)
    (.ret))))
theorem ok120 : FnOK Tryz.prog 120 rf120 := ⟨Tryz.f120, _, Tryz.func120, rfl, by kernel_rfl, rfl, by kernel_rfl, by kernel_rfl⟩
def rf121 : RFn where
  ntmps := 14
  mt := [6, 11]
  results := [.tmp 2]
  body := .seq (.region [⟨some 2, .mv (.c (.d (.str []))), none⟩] false)
    (.seq (.regions [[⟨some 3, .mv (.t 0), none⟩,
      ⟨some 4, .nck (.t 3), none⟩,
      ⟨some 5, .fa 1 (.t 4), none⟩,
      ⟨some 6, .ld false 1 (.t 5), none⟩,
      ⟨some 8, .mv (.t 0), none⟩,
      ⟨some 9, .nck (.t 8), none⟩,
      ⟨some 10, .fa 1 (.t 9), none⟩,
      ⟨some 7, .ef (.sliceData 5) [.t 6], none⟩,
      ⟨some 11, .ld false 1 (.t 10), none⟩,
      ⟨some 12, .lenR 5 1 (.t 11), none⟩,
      ⟨some 13, .ef (.unsafeStr 5) [.t 7, .t 12], none⟩,
      ⟨some 2, .mv (.t 13), none⟩],
     [⟨some 3, .mv (.t 0), none⟩,
      ⟨some 4, .nck (.t 3), none⟩,
      ⟨some 5, .fa 1 (.t 4), none⟩,
      ⟨some 6, .ld false 1 (.t 5), none⟩,
      ⟨some 8, .mv (.t 0), none⟩,
      ⟨some 9, .nck (.t 8), none⟩,
      ⟨some 10, .fa 1 (.t 9), none⟩,
      ⟨some 11, .ld false 1 (.t 10), none⟩,
      ⟨some 7, .ef (.sliceData 5) [.t 6], none⟩,
      ⟨some 12, .lenR 5 1 (.t 11), none⟩,
      ⟨some 13, .ef (.unsafeStr 5) [.t 7, .t 12], none⟩,
      ⟨some 2, .mv (.t 13), none⟩]])
    (.ret))
theorem ok121 : FnOK Tryz.prog 121 rf121 := ⟨Tryz.f121, _, Tryz.func121, rfl, by kernel_rfl, rfl, by kernel_rfl, by kernel_rfl⟩
def rf122 : RFn where
  ntmps := 19
  mt := []
  results := [.tmp 4]
  body := .seq (.region [⟨some 4, .mv (.c (.d (.int .i64 0))), none⟩] false)
    (.seq (.seq (.region [⟨some 6, .mv (.t 0), none⟩,
      ⟨some 7, .lenR 69 72 (.t 6), none⟩,
      ⟨some 8, .mv (.c (.d (.int .i64 0))), none⟩] false)
    (.block 0 (.loop (.seq (.region [⟨some 9, .bin false .lss (.t 8) (.t 7), none⟩] false)
    (.seq (.cond (.t 9) (.skip)
    (.exit 0))
    (.seq (.block 1 (.seq (.region [⟨some 10, .mv (.t 8), none⟩,
      ⟨some 5, .mv (.t 10), none⟩] false)
    (.seq (.region [⟨some 11, .mv (.t 1), none⟩,
      ⟨some 12, .mv (.t 0), none⟩,
      ⟨some 13, .mv (.t 5), none⟩,
      ⟨some 14, .ia 69 4 (.t 12) (.t 13), none⟩,
      ⟨some 15, .ldc true 4 (.t 14), none⟩,
      ⟨some 16, .callv (.t 11) [.t 15], none⟩] false)
    (.cond (.t 16) (.seq (.region [⟨some 17, .mv (.t 5), none⟩,
      ⟨some 4, .mv (.t 17), none⟩] false)
    (.ret))
    (.skip)))))
    (.region [⟨some 18, .bin false .add (.t 8) (.c (.d (.int .i64 1))), none⟩,
      ⟨some 8, .mv (.t 18), none⟩] false)))))))
    (.seq (.region [⟨some 4, .mv (.c (.d (.int .i64 (-1)))), none⟩] false)
    (.ret)))
theorem ok122 : FnOK Tryz.prog 122 rf122 := ⟨Tryz.f122, _, Tryz.func122, rfl, by kernel_rfl, rfl, by kernel_rfl, by kernel_rfl⟩
def rf123 : RFn where
  ntmps := 19
  mt := []
  results := [.tmp 4]
  body := .seq (.region [⟨some 4, .mv (.c (.d (.int .i64 0))), none⟩] false)
    (.seq (.seq (.region [⟨some 6, .mv (.t 0), none⟩,
      ⟨some 7, .lenR 98 96 (.t 6), none⟩,
      ⟨some 8, .mv (.c (.d (.int .i64 0))), none⟩] false)
    (.block 0 (.loop (.seq (.region [⟨some 9, .bin false .lss (.t 8) (.t 7), none⟩] false)
    (.seq (.cond (.t 9) (.skip)
    (.exit 0))
    (.seq (.block 1 (.seq (.region [⟨some 10, .mv (.t 8), none⟩,
      ⟨some 5, .mv (.t 10), none⟩] false)
    (.seq (.region [⟨some 11, .mv (.t 1), none⟩,
      ⟨some 12, .mv (.t 0), none⟩,
      ⟨some 13, .mv (.t 5), none⟩,
      ⟨some 14, .ia 98 6 (.t 12) (.t 13), none⟩,
      ⟨some 15, .ldc true 6 (.t 14), none⟩,
      ⟨some 16, .callv (.t 11) [.t 15], none⟩] false)
    (.cond (.t 16) (.seq (.region [⟨some 17, .mv (.t 5), none⟩,
      ⟨some 4, .mv (.t 17), none⟩] false)
    (.ret))
    (.skip)))))
    (.region [⟨some 18, .bin false .add (.t 8) (.c (.d (.int .i64 1))), none⟩,
      ⟨some 8, .mv (.t 18), none⟩] false)))))))
    (.seq (.region [⟨some 4, .mv (.c (.d (.int .i64 (-1)))), none⟩] false)
    (.ret)))
theorem ok123 : FnOK Tryz.prog 123 rf123 := ⟨Tryz.f123, _, Tryz.func123, rfl, by kernel_rfl, rfl, by kernel_rfl, by kernel_rfl⟩
def rf124 : RFn where
  ntmps := 19
  mt := []
  results := [.tmp 4]
  body := .seq (.region [⟨some 4, .mv (.c (.d (.int .i64 0))), none⟩] false)
    (.seq (.seq (.region [⟨some 6, .mv (.t 0), none⟩,
      ⟨some 7, .lenR 103 192 (.t 6), none⟩,
      ⟨some 8, .mv (.c (.d (.int .i64 0))), none⟩] false)
    (.block 0 (.loop (.seq (.region [⟨some 9, .bin false .lss (.t 8) (.t 7), none⟩] false)
    (.seq (.cond (.t 9) (.skip)
    (.exit 0))
    (.seq (.block 1 (.seq (.region [⟨some 10, .mv (.t 8), none⟩,
      ⟨some 5, .mv (.t 10), none⟩] false)
    (.seq (.region [⟨some 11, .mv (.t 1), none⟩,
      ⟨some 12, .mv (.t 0), none⟩,
      ⟨some 13, .mv (.t 5), none⟩,
      ⟨some 14, .ia 103 9 (.t 12) (.t 13), none⟩,
      ⟨some 15, .ldc true 9 (.t 14), none⟩,
      ⟨some 16, .callv (.t 11) [.t 15], none⟩] false)
    (.cond (.t 16) (.seq (.region [⟨some 17, .mv (.t 5), none⟩,
      ⟨some 4, .mv (.t 17), none⟩] false)
    (.ret))
    (.skip)))))
    (.region [⟨some 18, .bin false .add (.t 8) (.c (.d (.int .i64 1))), none⟩,
      ⟨some 8, .mv (.t 18), none⟩] false)))))))
    (.seq (.region [⟨some 4, .mv (.c (.d (.int .i64 (-1)))), none⟩] false)
    (.ret)))
theorem ok124 : FnOK Tryz.prog 124 rf124 := ⟨Tryz.f124, _, Tryz.func124, rfl, by kernel_rfl, rfl, by kernel_rfl, by kernel_rfl⟩
def rf126 : RFn where
  ntmps := 6
  mt := []
  results := [.tmp 2]
  body := .seq (.region [⟨some 2, .mv (.c (.d (.bool false))), none⟩] false)
    (.seq (.region [⟨some 3, .mv (.t 0), none⟩,
      ⟨some 4, .lenR 145 56 (.t 3), none⟩,
      ⟨some 5, .bin false .leq (.t 4) (.c (.d (.int .i64 512))), none⟩,
      ⟨some 2, .mv (.t 5), none⟩] false)
    (.ret))
theorem ok126 : FnOK Tryz.prog 126 rf126 := ⟨Tryz.f126, _, Tryz.func126, rfl, by kernel_rfl, rfl, by kernel_rfl, by kernel_rfl⟩
def rf127 : RFn where
  ntmps := 19
  mt := []
  results := [.tmp 4]
  body := .seq (.region [⟨some 4, .mv (.c (.d (.int .i64 0))), none⟩] false)
    (.seq (.seq (.region [⟨some 6, .mv (.t 0), none⟩,
      ⟨some 7, .lenR 107 272 (.t 6), none⟩,
      ⟨some 8, .mv (.c (.d (.int .i64 0))), none⟩] false)
    (.block 0 (.loop (.seq (.region [⟨some 9, .bin false .lss (.t 8) (.t 7), none⟩] false)
    (.seq (.cond (.t 9) (.skip)
    (.exit 0))
    (.seq (.block 1 (.seq (.region [⟨some 10, .mv (.t 8), none⟩,
      ⟨some 5, .mv (.t 10), none⟩] false)
    (.seq (.region [⟨some 11, .mv (.t 1), none⟩,
      ⟨some 12, .mv (.t 0), none⟩,
      ⟨some 13, .mv (.t 5), none⟩,
      ⟨some 14, .ia 107 16 (.t 12) (.t 13), none⟩,
      ⟨some 15, .ldc true 16 (.t 14), none⟩,
      ⟨some 16, .callv (.t 11) [.t 15], none⟩] false)
    (.cond (.t 16) (.seq (.region [⟨some 17, .mv (.t 5), none⟩,
      ⟨some 4, .mv (.t 17), none⟩] false)
    (.ret))
    (.skip)))))
    (.region [⟨some 18, .bin false .add (.t 8) (.c (.d (.int .i64 1))), none⟩,
      ⟨some 8, .mv (.t 18), none⟩] false)))))))
    (.seq (.region [⟨some 4, .mv (.c (.d (.int .i64 (-1)))), none⟩] false)
    (.ret)))
theorem ok127 : FnOK Tryz.prog 127 rf127 := ⟨Tryz.f127, _, Tryz.func127, rfl, by kernel_rfl, rfl, by kernel_rfl, by kernel_rfl⟩
def rf131 : RFn where
  ntmps := 25
  mt := []
  results := [.tmp 4]
  body := .seq (.region [⟨some 4, .mv (.c (.d (.bool false))), none⟩] false)
    (.seq (.seq (.region [⟨some 5, .mv (.t 0), none⟩,
      ⟨some 6, .bin false .geq (.t 5) (.c (.d (.int .u8 97))), none⟩,
      ⟨some 7, .mv (.t 6), none⟩,
      ⟨some 8, .mv (.t 0), (some (7, true))⟩,
      ⟨some 9, .bin false .leq (.t 8) (.c (.d (.int .u8 122))), (some (7, true))⟩,
      ⟨some 10, .pick (.t 7) (.t 9) (.c (.d (.bool false))), none⟩] false)
    (.cond (.t 10) (.seq (.region [⟨some 4, .mv (.c (.d (.bool true))), none⟩] false)
    (.ret))
    (.skip)))
    (.seq (.region [⟨some 11, .mv (.t 1), none⟩,
      ⟨some 12, .not (.t 11), none⟩,
      ⟨some 13, .mv (.t 12), none⟩,
      ⟨some 14, .mv (.t 0), (some (13, true))⟩,
      ⟨some 15, .bin false .eql (.t 14) (.c (.d (.int .u8 95))), (some (13, true))⟩,
      ⟨some 16, .mv (.t 15), (some (13, true))⟩,
      ⟨some 17, .mv (.t 0), (some (16, false))⟩,
      ⟨some 18, .bin false .geq (.t 17) (.c (.d (.int .u8 48))), (some (16, false))⟩,
      ⟨some 19, .mv (.t 18), (some (16, false))⟩,
      ⟨some 20, .mv (.t 0), (some (19, true))⟩,
      ⟨some 21, .bin false .leq (.t 20) (.c (.d (.int .u8 57))), (some (19, true))⟩,
      ⟨some 22, .pick (.t 19) (.t 21) (.c (.d (.bool false))), (some (16, false))⟩,
      ⟨some 23, .pick (.t 16) (.c (.d (.bool true))) (.t 22), (some (13, true))⟩,
      ⟨some 24, .pick (.t 13) (.t 23) (.c (.d (.bool false))), none⟩,
      ⟨some 4, .mv (.t 24), none⟩] false)
    (.ret)))
theorem ok131 : FnOK Tryz.prog 131 rf131 := ⟨Tryz.f131, _, Tryz.func131, rfl, by kernel_rfl, rfl, by kernel_rfl, by kernel_rfl⟩
def rf132 : RFn where
  ntmps := 10
  mt := []
  results := [.tmp 2]
  body := .seq (.region [⟨some 2, .mv (.c (.nil 9)), none⟩] false)
    (.seq (.seq (.region [⟨some 3, .mv (.t 0), none⟩] false)
    (.block 0 (.seq (.region [⟨some 5, .bin false .eql (.t 3) (.c (.d (.int .i64 0))), none⟩,
      ⟨some 4, .mv (.t 5), none⟩] false)
    (.cond (.t 4) (.seq (.region [⟨some 6, .lit 9 1 [.c (.d (.str [97, 110, 100])), .c (.d (.str [97, 114, 114, 97, 121])), .c (.d (.str [98, 101, 103, 105, 110])), .c (.d (.str [98, 111, 111, 108, 101, 97, 110])), .c (.d (.str [99, 104, 97, 114])), .c (.d (.str [100, 105, 118])), .c (.d (.str [100, 111])), .c (.d (.str [100, 111, 119, 110, 116, 111])), .c (.d (.str [101, 108, 115, 101])), .c (.d (.str [101, 110, 100])), .c (.d (.str [102, 97, 108, 115, 101])), .c (.d (.str [102, 111, 114])), .c (.d (.str [102, 111, 114, 119, 97, 114, 100])), .c (.d (.str [102, 117, 110, 99, 116, 105, 111, 110])), .c (.d (.str [105, 102])), .c (.d (.str [105, 110, 116, 101, 103, 101, 114])), .c (.d (.str [109, 111, 100])), .c (.d (.str [110, 111, 116])), .c (.d (.str [111, 102])), .c (.d (.str [111, 114])), .c (.d (.str [112, 114, 111, 99, 101, 100, 117, 114, 101])), .c (.d (.str [112, 114, 111, 103, 114, 97, 109])), .c (.d (.str [114, 101, 97, 100])), .c (.d (.str [114, 101, 99, 111, 114, 100])), .c (.d (.str [114, 101, 112, 101, 97, 116])), .c (.d (.str [114, 101, 116, 117, 114, 110])), .c (.d (.str [116, 104, 101, 110])), .c (.d (.str [116, 111])), .c (.d (.str [116, 114, 117, 101])), .c (.d (.str [116, 121, 112, 101])), .c (.d (.str [117, 110, 116, 105, 108])), .c (.d (.str [118, 97, 114])), .c (.d (.str [119, 104, 105, 108, 101])), .c (.d (.str [119, 114, 105, 116, 101]))], none⟩,
      ⟨some 2, .mv (.t 6), none⟩] false)
    (.ret))
    (.seq (.region [⟨some 8, .bin false .eql (.t 3) (.c (.d (.int .i64 1))), none⟩,
      ⟨some 7, .mv (.t 8), none⟩] false)
    (.cond (.t 7) (.seq (.region [⟨some 9, .lit 9 1 [.c (.d (.str [98, 111, 111, 108])), .c (.d (.str [99, 104, 97, 114])), .c (.d (.str [100, 111])), .c (.d (.str [100, 111, 119, 110, 116, 111])), .c (.d (.str [101, 108, 115, 101])), .c (.d (.str [102, 97, 108, 115, 101])), .c (.d (.str [102, 111, 114])), .c (.d (.str [103, 101, 116])), .c (.d (.str [105, 102])), .c (.d (.str [105, 110, 116])), .c (.d (.str [109, 97, 105, 110])), .c (.d (.str [112, 114, 111, 103, 114, 97, 109])), .c (.d (.str [112, 117, 116])), .c (.d (.str [114, 101, 116, 117, 114, 110])), .c (.d (.str [115, 116, 114, 117, 99, 116])), .c (.d (.str [116, 111])), .c (.d (.str [116, 114, 117, 101])), .c (.d (.str [117, 110, 116, 105, 108])), .c (.d (.str [117, 112])), .c (.d (.str [118, 111, 105, 100])), .c (.d (.str [119, 104, 105, 108, 101]))], none⟩,
      ⟨some 2, .mv (.t 9), none⟩] false)
    (.ret))
    (.skip)))))))
    (.seq (.region [⟨some 2, .mv (.c (.nil 9)), none⟩] false)
    (.ret)))
theorem ok132 : FnOK Tryz.prog 132 rf132 := ⟨Tryz.f132, _, Tryz.func132, rfl, by kernel_rfl, rfl, by kernel_rfl, by kernel_rfl⟩
def rf133 : RFn where
  ntmps := 17
  mt := []
  results := [.tmp 2]
  body := .seq (.region [⟨some 2, .mv (.c (.d (.bool false))), none⟩] false)
    (.seq (.region [⟨some 3, .mv (.t 0), none⟩,
      ⟨some 4, .bin false .eql (.t 3) (.c (.d (.int .u8 9))), none⟩,
      ⟨some 5, .mv (.t 4), none⟩,
      ⟨some 6, .mv (.t 0), (some (5, false))⟩,
      ⟨some 7, .bin false .eql (.t 6) (.c (.d (.int .u8 10))), (some (5, false))⟩,
      ⟨some 8, .pick (.t 5) (.c (.d (.bool true))) (.t 7), none⟩,
      ⟨some 9, .mv (.t 8), none⟩,
      ⟨some 10, .mv (.t 0), (some (9, false))⟩,
      ⟨some 11, .bin false .geq (.t 10) (.c (.d (.int .u8 32))), (some (9, false))⟩,
      ⟨some 12, .mv (.t 11), (some (9, false))⟩,
      ⟨some 13, .mv (.t 0), (some (12, true))⟩,
      ⟨some 14, .bin false .leq (.t 13) (.c (.d (.int .u8 126))), (some (12, true))⟩,
      ⟨some 15, .pick (.t 12) (.t 14) (.c (.d (.bool false))), (some (9, false))⟩,
      ⟨some 16, .pick (.t 9) (.c (.d (.bool true))) (.t 15), none⟩,
      ⟨some 2, .mv (.t 16), none⟩] false)
    (.ret))
theorem ok133 : FnOK Tryz.prog 133 rf133 := ⟨Tryz.f133, _, Tryz.func133, rfl, by kernel_rfl, rfl, by kernel_rfl, by kernel_rfl⟩
def rf136 : RFn where
  ntmps := 8
  mt := []
  results := [.tmp 4]
  body := .seq (.region [⟨some 4, .mv (.c (.nil 9)), none⟩] false)
    (.seq (.region [⟨some 5, .mv (.t 0), none⟩,
      ⟨some 6, .mv (.t 1), none⟩,
      ⟨some 7, .call 152 [.t 5, .t 6, .c (.d (.int .i64 0)), .c (.d (.int .i64 (-1)))], none⟩,
      ⟨some 4, .mv (.t 7), none⟩] false)
    (.ret))
theorem ok136 : FnOK Tryz.prog 136 rf136 := ⟨Tryz.f136, _, Tryz.func136, rfl, by kernel_rfl, rfl, by kernel_rfl, by kernel_rfl⟩
def rf137 : RFn where
  ntmps := 75
  mt := [8]
  results := [.tmp 4]
  body := .seq (.region [⟨some 4, .mv (.c (.d (.str []))), none⟩] false)
    (.seq (.seq (.region [⟨some 11, .mv (.t 0), none⟩,
      ⟨some 12, .lenR 9 16 (.t 11), none⟩] false)
    (.block 0 (.seq (.region [⟨some 14, .bin false .eql (.t 12) (.c (.d (.int .i64 0))), none⟩,
      ⟨some 13, .mv (.t 14), none⟩] false)
    (.cond (.t 13) (.seq (.region [⟨some 4, .mv (.c (.d (.str []))), none⟩] false)
    (.ret))
    (.seq (.region [⟨some 16, .bin false .eql (.t 12) (.c (.d (.int .i64 1))), none⟩,
      ⟨some 15, .mv (.t 16), none⟩] false)
    (.cond (.t 15) (.seq (.region [⟨some 17, .mv (.t 0), none⟩,
      ⟨some 18, .ia 9 1 (.t 17) (.c (.d (.int .i64 0))), none⟩,
      ⟨some 19, .ldc false 1 (.t 18), none⟩,
      ⟨some 4, .mv (.t 19), none⟩] false)
    (.ret))
    (.skip)))))))
    (.seq (.region [⟨some 5, .mv (.c (.d (.int .i64 0))), none⟩] false)
    (.seq (.seq (.region [⟨some 20, .mv (.t 1), none⟩,
      ⟨some 21, .lenS (.t 20), none⟩,
      ⟨some 22, .bin false .gtr (.t 21) (.c (.d (.int .i64 0))), none⟩] false)
    (.cond (.t 22) (.seq (.seq (.region [⟨some 23, .mv (.t 1), none⟩,
      ⟨some 24, .lenS (.t 23), none⟩,
      ⟨some 25, .mv (.t 0), none⟩,
      ⟨some 26, .lenR 9 16 (.t 25), none⟩,
      ⟨some 27, .bin false .sub (.t 26) (.c (.d (.int .i64 1))), none⟩,
      ⟨some 28, .bin false .quo (.c (.d (.int .i64 9223372036854775807))) (.t 27), none⟩,
      ⟨some 29, .bin false .geq (.t 24) (.t 28), none⟩] false)
    (.cond (.t 29) (.region [⟨some 30, .bad, none⟩,
      ⟨none, .bad, none⟩] false)
    (.skip)))
    (.region [⟨some 31, .mv (.t 5), none⟩,
      ⟨some 32, .mv (.t 1), none⟩,
      ⟨some 33, .lenS (.t 32), none⟩,
      ⟨some 34, .mv (.t 0), none⟩,
      ⟨some 35, .lenR 9 16 (.t 34), none⟩,
      ⟨some 36, .bin false .sub (.t 35) (.c (.d (.int .i64 1))), none⟩,
      ⟨some 37, .bin false .mul (.t 33) (.t 36), none⟩,
      ⟨some 38, .bin false .add (.t 31) (.t 37), none⟩,
      ⟨some 5, .mv (.t 38), none⟩] false))
    (.skip)))
    (.seq (.seq (.region [⟨some 39, .mv (.t 0), none⟩,
      ⟨some 40, .lenR 9 16 (.t 39), none⟩,
      ⟨some 41, .mv (.c (.d (.int .i64 0))), none⟩] false)
    (.block 1 (.loop (.seq (.region [⟨some 42, .bin false .lss (.t 41) (.t 40), none⟩] false)
    (.seq (.cond (.t 42) (.skip)
    (.exit 1))
    (.seq (.block 2 (.seq (.region [⟨some 43, .ia 9 1 (.t 39) (.t 41), none⟩,
      ⟨some 44, .ldc false 1 (.t 43), none⟩,
      ⟨some 7, .mv (.t 44), none⟩] false)
    (.seq (.seq (.region [⟨some 45, .mv (.t 7), none⟩,
      ⟨some 46, .lenS (.t 45), none⟩,
      ⟨some 47, .mv (.t 5), none⟩,
      ⟨some 48, .bin false .sub (.c (.d (.int .i64 9223372036854775807))) (.t 47), none⟩,
      ⟨some 49, .bin false .gtr (.t 46) (.t 48), none⟩] false)
    (.cond (.t 49) (.region [⟨some 50, .bad, none⟩,
      ⟨none, .bad, none⟩] false)
    (.skip)))
    (.region [⟨some 51, .mv (.t 5), none⟩,
      ⟨some 52, .mv (.t 7), none⟩,
      ⟨some 53, .lenS (.t 52), none⟩,
      ⟨some 54, .bin false .add (.t 51) (.t 53), none⟩,
      ⟨some 5, .mv (.t 54), none⟩] false))))
    (.region [⟨some 55, .bin false .add (.t 41) (.c (.d (.int .i64 1))), none⟩,
      ⟨some 41, .mv (.t 55), none⟩] false)))))))
    (.seq (.region [⟨some 8, .alloc 163 [.nilp, .nil 5], none⟩] false)
    (.seq (.region [⟨some 56, .mv (.t 5), none⟩,
      ⟨some 57, .call 153 [.t 8, .t 56], none⟩] false)
    (.seq (.region [⟨some 58, .mv (.t 0), none⟩,
      ⟨some 59, .ia 9 1 (.t 58) (.c (.d (.int .i64 0))), none⟩,
      ⟨some 60, .ldc false 1 (.t 59), none⟩,
      ⟨some 61, .call 117 [.t 8, .t 60], none⟩] false)
    (.seq (.seq (.region [⟨some 62, .mv (.t 0), none⟩,
      ⟨some 63, .slR 9 1 (.t 62) (some (.c (.d (.int .i64 1)))) none, none⟩,
      ⟨some 64, .lenR 9 16 (.t 63), none⟩,
      ⟨some 65, .mv (.c (.d (.int .i64 0))), none⟩] false)
    (.block 3 (.loop (.seq (.region [⟨some 66, .bin false .lss (.t 65) (.t 64), none⟩] false)
    (.seq (.cond (.t 66) (.skip)
    (.exit 3))
    (.seq (.block 4 (.seq (.region [⟨some 67, .ia 9 1 (.t 63) (.t 65), none⟩,
      ⟨some 68, .ldc false 1 (.t 67), none⟩,
      ⟨some 10, .mv (.t 68), none⟩] false)
    (.seq (.region [⟨some 69, .mv (.t 1), none⟩,
      ⟨some 70, .call 117 [.t 8, .t 69], none⟩] false)
    (.region [⟨some 71, .mv (.t 10), none⟩,
      ⟨some 72, .call 117 [.t 8, .t 71], none⟩] false))))
    (.region [⟨some 73, .bin false .add (.t 65) (.c (.d (.int .i64 1))), none⟩,
      ⟨some 65, .mv (.t 73), none⟩] false)))))))
    (.seq (.region [⟨some 74, .call 121 [.t 8], none⟩,
      ⟨some 4, .mv (.t 74), none⟩] false)
    (.ret))))))))))
theorem ok137 : FnOK Tryz.prog 137 rf137 := ⟨Tryz.f137, _, Tryz.func137, rfl, by kernel_rfl, rfl, by kernel_rfl, by kernel_rfl⟩
def rf138 : RFn where
  ntmps := 12
  mt := [2, 4]
  results := [.cell true 2 4]
  body := .seq (.region [⟨some 2, .boxM 76 (.t 0), none⟩,
      ⟨some 3, .boxI (.t 1), none⟩,
      ⟨some 4, .alloc 56 [.nil 9, .nil 9], none⟩] false)
    (.seq (.region [⟨some 5, .fa 0 (.t 3), none⟩,
      ⟨some 6, .ldc false 1 (.t 5), none⟩,
      ⟨some 7, .call 96 [.t 6], none⟩,
      ⟨some 8, .fa 1 (.t 3), none⟩,
      ⟨some 9, .ldc false 1 (.t 8), none⟩,
      ⟨some 10, .call 96 [.t 9], none⟩,
      ⟨some 11, .build [.nil 9, .nil 9] [(0, 1, .t 7), (1, 1, .t 10)], none⟩,
      ⟨none, .st 2 (.t 4) (.t 11), none⟩] true)
    (.ret))
theorem ok138 : FnOK Tryz.prog 138 rf138 := ⟨Tryz.f138, _, Tryz.func138, rfl, by kernel_rfl, rfl, by kernel_rfl, by kernel_rfl⟩
def rf139 : RFn where
  ntmps := 22
  mt := [7, 16]
  results := [.tmp 4]
  body := .seq (.region [⟨some 4, .mv (.c (.nil 69)), none⟩] false)
    (.seq (.region [⟨some 5, .mv (.c (.nil 69)), none⟩] false)
    (.seq (.seq (.region [⟨some 8, .mv (.t 0), none⟩,
      ⟨some 9, .lenR 69 72 (.t 8), none⟩,
      ⟨some 10, .mv (.c (.d (.int .i64 0))), none⟩] false)
    (.block 0 (.loop (.seq (.region [⟨some 11, .bin false .lss (.t 10) (.t 9), none⟩] false)
    (.seq (.cond (.t 11) (.skip)
    (.exit 0))
    (.seq (.block 1 (.seq (.region [⟨some 12, .ia 69 4 (.t 8) (.t 10), none⟩,
      ⟨some 13, .ldc true 4 (.t 12), none⟩,
      ⟨some 7, .alloc 69 [.nil 9, .nil 9, .d (.str []), .d (.int .i64 0)], none⟩,
      ⟨none, .st 4 (.t 7) (.t 13), none⟩] false)
    (.region [⟨some 14, .mv (.t 5), none⟩,
      ⟨some 15, .mv (.t 1), none⟩,
      ⟨some 16, .ld true 4 (.t 7), none⟩,
      ⟨some 17, .callv (.t 15) [.t 16], none⟩,
      ⟨some 18, .lit 69 4 [.t 17], none⟩,
      ⟨some 19, .app 69 4 72 (.t 14) (.t 18), none⟩,
      ⟨some 5, .mv (.t 19), none⟩] false)))
    (.region [⟨some 20, .bin false .add (.t 10) (.c (.d (.int .i64 1))), none⟩,
      ⟨some 10, .mv (.t 20), none⟩] false)))))))
    (.seq (.region [⟨some 21, .mv (.t 5), none⟩,
      ⟨some 4, .mv (.t 21), none⟩] false)
    (.ret))))
theorem ok139 : FnOK Tryz.prog 139 rf139 := ⟨Tryz.f139, _, Tryz.func139, rfl, by kernel_rfl, rfl, by kernel_rfl, by kernel_rfl⟩
def rf140 : RFn where
  ntmps := 15
  mt := [2, 3, 4, 6, 9, 11, 14]
  results := [.cell true 4 3]
  body := .seq (.region [⟨some 2, .boxM 69 (.t 0), none⟩,
      ⟨some 3, .alloc 69 [.nil 9, .nil 9, .d (.str []), .d (.int .i64 0)], none⟩] false)
    (.seq (.region [⟨some 4, .ld true 1 (.t 1), none⟩,
      ⟨some 5, .fa 0 (.t 2), none⟩,
      ⟨some 6, .ld true 2 (.t 5), none⟩,
      ⟨some 7, .call 138 [.t 4, .t 6], none⟩,
      ⟨some 8, .fa 0 (.t 2), none⟩,
      ⟨none, .st 2 (.t 8) (.t 7), none⟩] false)
    (.seq (.region [⟨some 9, .ld true 1 (.t 1), none⟩,
      ⟨some 10, .fa 2 (.t 2), none⟩,
      ⟨some 11, .ld false 1 (.t 10), none⟩,
      ⟨some 12, .call 95 [.t 9, .t 11], none⟩,
      ⟨some 13, .fa 2 (.t 2), none⟩,
      ⟨none, .st 1 (.t 13) (.t 12), none⟩] false)
    (.seq (.region [⟨some 14, .ld true 4 (.t 2), none⟩,
      ⟨none, .st 4 (.t 3) (.t 14), none⟩] false)
    (.ret))))
theorem ok140 : FnOK Tryz.prog 140 rf140 := ⟨Tryz.f140, _, Tryz.func140, rfl, by kernel_rfl, rfl, by kernel_rfl, by kernel_rfl⟩
def rf141 : RFn where
  ntmps := 11
  mt := [2, 3, 4, 5, 7, 10]
  results := [.cell true 3 4]
  body := .seq (.region [⟨some 2, .boxM 76 (.t 0), none⟩,
      ⟨some 3, .boxM 96 (.t 1), none⟩,
      ⟨some 4, .alloc 96 [.d (.int .i64 0), .d (.int .i64 0), .d (.str [])], none⟩] false)
    (.seq (.region [⟨some 5, .ld true 1 (.t 2), none⟩,
      ⟨some 6, .fa 2 (.t 3), none⟩,
      ⟨some 7, .ld false 1 (.t 6), none⟩,
      ⟨some 8, .call 95 [.t 5, .t 7], none⟩,
      ⟨some 9, .fa 2 (.t 3), none⟩,
      ⟨none, .st 1 (.t 9) (.t 8), none⟩] false)
    (.seq (.region [⟨some 10, .ld true 3 (.t 3), none⟩,
      ⟨none, .st 3 (.t 4) (.t 10), none⟩] false)
    (.ret)))
theorem ok141 : FnOK Tryz.prog 141 rf141 := ⟨Tryz.f141, _, Tryz.func141, rfl, by kernel_rfl, rfl, by kernel_rfl, by kernel_rfl⟩
def rf142 : RFn where
  ntmps := 22
  mt := [7, 16]
  results := [.tmp 4]
  body := .seq (.region [⟨some 4, .mv (.c (.nil 145)), none⟩] false)
    (.seq (.region [⟨some 5, .mv (.c (.nil 145)), none⟩] false)
    (.seq (.seq (.region [⟨some 8, .mv (.t 0), none⟩,
      ⟨some 9, .lenR 145 56 (.t 8), none⟩,
      ⟨some 10, .mv (.c (.d (.int .i64 0))), none⟩] false)
    (.block 0 (.loop (.seq (.region [⟨some 11, .bin false .lss (.t 10) (.t 9), none⟩] false)
    (.seq (.cond (.t 11) (.skip)
    (.exit 0))
    (.seq (.block 1 (.seq (.region [⟨some 12, .ia 145 5 (.t 8) (.t 10), none⟩,
      ⟨some 13, .ldc true 5 (.t 12), none⟩,
      ⟨some 7, .alloc 145 [.d (.str []), .d (.int .i64 0), .d (.int .i64 0), .d (.str []), .d (.int .i64 0)], none⟩,
      ⟨none, .st 5 (.t 7) (.t 13), none⟩] false)
    (.region [⟨some 14, .mv (.t 5), none⟩,
      ⟨some 15, .mv (.t 1), none⟩,
      ⟨some 16, .ld true 5 (.t 7), none⟩,
      ⟨some 17, .callv (.t 15) [.t 16], none⟩,
      ⟨some 18, .lit 145 5 [.t 17], none⟩,
      ⟨some 19, .app 145 5 56 (.t 14) (.t 18), none⟩,
      ⟨some 5, .mv (.t 19), none⟩] false)))
    (.region [⟨some 20, .bin false .add (.t 10) (.c (.d (.int .i64 1))), none⟩,
      ⟨some 10, .mv (.t 20), none⟩] false)))))))
    (.seq (.region [⟨some 21, .mv (.t 5), none⟩,
      ⟨some 4, .mv (.t 21), none⟩] false)
    (.ret))))
theorem ok142 : FnOK Tryz.prog 142 rf142 := ⟨Tryz.f142, _, Tryz.func142, rfl, by kernel_rfl, rfl, by kernel_rfl, by kernel_rfl⟩
def rf143 : RFn where
  ntmps := 15
  mt := [2, 3, 4, 6, 9, 11, 14]
  results := [.cell true 5 3]
  body := .seq (.region [⟨some 2, .boxM 145 (.t 0), none⟩,
      ⟨some 3, .alloc 145 [.d (.str []), .d (.int .i64 0), .d (.int .i64 0), .d (.str []), .d (.int .i64 0)], none⟩] false)
    (.seq (.region [⟨some 4, .ld true 1 (.t 1), none⟩,
      ⟨some 5, .fa 0 (.t 2), none⟩,
      ⟨some 6, .ld false 1 (.t 5), none⟩,
      ⟨some 7, .call 95 [.t 4, .t 6], none⟩,
      ⟨some 8, .fa 0 (.t 2), none⟩,
      ⟨none, .st 1 (.t 8) (.t 7), none⟩] false)
    (.seq (.region [⟨some 9, .ld true 1 (.t 1), none⟩,
      ⟨some 10, .fa 1 (.t 2), none⟩,
      ⟨some 11, .ld true 3 (.t 10), none⟩,
      ⟨some 12, .call 141 [.t 9, .t 11], none⟩,
      ⟨some 13, .fa 1 (.t 2), none⟩,
      ⟨none, .st 3 (.t 13) (.t 12), none⟩] false)
    (.seq (.region [⟨some 14, .ld true 5 (.t 2), none⟩,
      ⟨none, .st 5 (.t 3) (.t 14), none⟩] false)
    (.ret))))
theorem ok143 : FnOK Tryz.prog 143 rf143 := ⟨Tryz.f143, _, Tryz.func143, rfl, by kernel_rfl, rfl, by kernel_rfl, by kernel_rfl⟩
def rf144 : RFn where
  ntmps := 22
  mt := [2, 3, 4, 5, 7, 10, 12, 16, 17, 21]
  results := [.cell true 5 4]
  body := .seq (.region [⟨some 2, .boxM 76 (.t 0), none⟩,
      ⟨some 3, .boxM 44 (.t 1), none⟩,
      ⟨some 4, .alloc 44 [.d (.int .i64 0), .d (.int .i64 0), .d (.str []), .d (.str []), .nil 44], none⟩] false)
    (.seq (.region [⟨some 5, .ld true 1 (.t 2), none⟩,
      ⟨some 6, .fa 2 (.t 3), none⟩,
      ⟨some 7, .ld false 1 (.t 6), none⟩,
      ⟨some 8, .call 95 [.t 5, .t 7], none⟩,
      ⟨some 9, .fa 2 (.t 3), none⟩,
      ⟨none, .st 1 (.t 9) (.t 8), none⟩] false)
    (.seq (.region [⟨some 10, .ld true 1 (.t 2), none⟩,
      ⟨some 11, .fa 3 (.t 3), none⟩,
      ⟨some 12, .ld false 1 (.t 11), none⟩,
      ⟨some 13, .call 95 [.t 10, .t 12], none⟩,
      ⟨some 14, .fa 3 (.t 3), none⟩,
      ⟨none, .st 1 (.t 14) (.t 13), none⟩] false)
    (.seq (.region [⟨some 15, .fa 4 (.t 3), none⟩,
      ⟨some 16, .ld false 1 (.t 15), none⟩,
      ⟨some 17, .ld true 1 (.t 2), none⟩,
      ⟨some 18, .mkf 144 [.t 17] [], none⟩,
      ⟨some 19, .call 145 [.t 16, .t 18], none⟩,
      ⟨some 20, .fa 4 (.t 3), none⟩,
      ⟨none, .st 1 (.t 20) (.t 19), none⟩] false)
    (.seq (.region [⟨some 21, .ld true 5 (.t 3), none⟩,
      ⟨none, .st 5 (.t 4) (.t 21), none⟩] false)
    (.ret)))))
theorem ok144 : FnOK Tryz.prog 144 rf144 := ⟨Tryz.f144, _, Tryz.func144, rfl, by kernel_rfl, rfl, by kernel_rfl, by kernel_rfl⟩
def rf145 : RFn where
  ntmps := 22
  mt := [7, 16]
  results := [.tmp 4]
  body := .seq (.region [⟨some 4, .mv (.c (.nil 44)), none⟩] false)
    (.seq (.region [⟨some 5, .mv (.c (.nil 44)), none⟩] false)
    (.seq (.seq (.region [⟨some 8, .mv (.t 0), none⟩,
      ⟨some 9, .lenR 44 72 (.t 8), none⟩,
      ⟨some 10, .mv (.c (.d (.int .i64 0))), none⟩] false)
    (.block 0 (.loop (.seq (.region [⟨some 11, .bin false .lss (.t 10) (.t 9), none⟩] false)
    (.seq (.cond (.t 11) (.skip)
    (.exit 0))
    (.seq (.block 1 (.seq (.region [⟨some 12, .ia 44 5 (.t 8) (.t 10), none⟩,
      ⟨some 13, .ldc true 5 (.t 12), none⟩,
      ⟨some 7, .alloc 44 [.d (.int .i64 0), .d (.int .i64 0), .d (.str []), .d (.str []), .nil 44], none⟩,
      ⟨none, .st 5 (.t 7) (.t 13), none⟩] false)
    (.region [⟨some 14, .mv (.t 5), none⟩,
      ⟨some 15, .mv (.t 1), none⟩,
      ⟨some 16, .ld true 5 (.t 7), none⟩,
      ⟨some 17, .callv (.t 15) [.t 16], none⟩,
      ⟨some 18, .lit 44 5 [.t 17], none⟩,
      ⟨some 19, .app 44 5 72 (.t 14) (.t 18), none⟩,
      ⟨some 5, .mv (.t 19), none⟩] false)))
    (.region [⟨some 20, .bin false .add (.t 10) (.c (.d (.int .i64 1))), none⟩,
      ⟨some 10, .mv (.t 20), none⟩] false)))))))
    (.seq (.region [⟨some 21, .mv (.t 5), none⟩,
      ⟨some 4, .mv (.t 21), none⟩] false)
    (.ret))))
theorem ok145 : FnOK Tryz.prog 145 rf145 := ⟨Tryz.f145, _, Tryz.func145, rfl, by kernel_rfl, rfl, by kernel_rfl, by kernel_rfl⟩
def rf146 : RFn where
  ntmps := 17
  mt := []
  results := [.tmp 4]
  body := .seq (.region [⟨some 4, .mv (.c (.d (.bool false))), none⟩] false)
    (.seq (.region [⟨some 5, .mv (.t 0), none⟩,
      ⟨some 6, .call 154 [.t 5], none⟩,
      ⟨some 7, .mv (.t 6), none⟩,
      ⟨some 8, .mv (.t 1), (some (7, true))⟩,
      ⟨some 9, .call 154 [.t 8], (some (7, true))⟩,
      ⟨some 10, .not (.t 9), (some (7, true))⟩,
      ⟨some 11, .pick (.t 7) (.t 10) (.c (.d (.bool false))), none⟩,
      ⟨some 12, .mv (.t 11), none⟩,
      ⟨some 13, .mv (.t 0), (some (12, false))⟩,
      ⟨some 14, .mv (.t 1), (some (12, false))⟩,
      ⟨some 15, .bin false .lss (.t 13) (.t 14), (some (12, false))⟩,
      ⟨some 16, .pick (.t 12) (.c (.d (.bool true))) (.t 15), none⟩,
      ⟨some 4, .mv (.t 16), none⟩] false)
    (.ret))
theorem ok146 : FnOK Tryz.prog 146 rf146 := ⟨Tryz.f146, _, Tryz.func146, rfl, by kernel_rfl, rfl, by kernel_rfl, by kernel_rfl⟩
def rf147 : RFn where
  ntmps := 6
  mt := []
  results := [.tmp 2]
  body := .seq (.region [⟨some 2, .mv (.c (.d (.bool false))), none⟩] false)
    (.seq (.region [⟨some 3, .mv (.t 0), none⟩,
      ⟨some 4, .mv (.t 0), none⟩,
      ⟨some 5, .bin false .neq (.t 3) (.t 4), none⟩,
      ⟨some 2, .mv (.t 5), none⟩] false)
    (.ret))
theorem ok147 : FnOK Tryz.prog 147 rf147 := ⟨Tryz.f147, _, Tryz.func147, rfl, by kernel_rfl, rfl, by kernel_rfl, by kernel_rfl⟩
def rf148 : RFn where
  ntmps := 106
  mt := []
  results := [.tmp 2]
  body := .seq (.region [⟨some 2, .mv (.c (.nil 9)), none⟩] false)
    (.seq (.region [⟨some 3, .mv (.c (.d (.int .i64 0))), none⟩] false)
    (.seq (.region [⟨some 4, .mv (.c (.d (.int .i64 1))), none⟩] false)
    (.seq (.region [⟨some 5, .mv (.c (.d (.int .u8 0))), none⟩] false)
    (.seq (.seq (.region [⟨some 6, .mv (.c (.d (.int .i64 0))), none⟩] false)
    (.block 0 (.loop (.seq (.seq (.region [⟨some 13, .mv (.t 6), none⟩,
      ⟨some 14, .mv (.t 0), none⟩,
      ⟨some 15, .lenS (.t 14), none⟩,
      ⟨some 16, .bin false .lss (.t 13) (.t 15), none⟩] false)
    (.cond (.t 16) (.skip)
    (.exit 0)))
    (.seq (.block 1 (.seq (.region [⟨some 19, .mv (.t 0), none⟩,
      ⟨some 20, .mv (.t 6), none⟩,
      ⟨some 21, .ixs (.t 19) (.t 20), none⟩,
      ⟨some 7, .mv (.t 21), none⟩] false)
    (.seq (.region [⟨some 22, .mv (.t 5), none⟩,
      ⟨some 23, .mv (.t 7), none⟩,
      ⟨some 24, .pr (.bits .or) [.t 22, .t 23], none⟩,
      ⟨some 5, .mv (.t 24), none⟩] false)
    (.seq (.region [⟨some 25, .mv (.t 7), none⟩,
      ⟨some 26, .ef (.iaG 0 256) [.t 25], none⟩,
      ⟨some 27, .ldc false 1 (.t 26), none⟩,
      ⟨some 28, .conv .i64 (.t 27), none⟩,
      ⟨some 8, .mv (.t 28), none⟩] false)
    (.seq (.region [⟨some 29, .mv (.t 3), none⟩,
      ⟨some 30, .mv (.t 4), none⟩,
      ⟨some 31, .mv (.t 8), none⟩,
      ⟨some 32, .pr .notI [.t 31], none⟩,
      ⟨some 33, .pr (.bits .and) [.t 30, .t 32], none⟩,
      ⟨some 34, .bin false .add (.t 29) (.t 33), none⟩,
      ⟨some 3, .mv (.t 34), none⟩] false)
    (.region [⟨some 35, .mv (.t 8), none⟩,
      ⟨some 4, .mv (.t 35), none⟩] false))))))
    (.region [⟨some 17, .mv (.t 6), none⟩,
      ⟨some 18, .bin false .add (.t 17) (.c (.d (.int .i64 1))), none⟩,
      ⟨some 6, .mv (.t 18), none⟩] false))))))
    (.seq (.seq (.region [⟨some 36, .mv (.t 5), none⟩,
      ⟨some 37, .bin false .geq (.t 36) (.c (.d (.int .u8 128))), none⟩] false)
    (.cond (.t 37) (.seq (.region [⟨some 38, .mv (.t 0), none⟩,
      ⟨some 39, .call 155 [.t 38, .c (.clo 156 [] [])], none⟩,
      ⟨some 2, .mv (.t 39), none⟩] false)
    (.ret))
    (.skip)))
    (.seq (.region [⟨some 40, .mv (.t 3), none⟩,
      ⟨some 41, .ef (.mkSl 9 16 (.d (.str []))) [.t 40, .t 40], none⟩,
      ⟨some 9, .mv (.t 41), none⟩] false)
    (.seq (.region [⟨some 10, .mv (.c (.d (.int .i64 0))), none⟩] false)
    (.seq (.region [⟨some 11, .mv (.c (.d (.int .i64 0))), none⟩] false)
    (.seq (.region [⟨some 12, .mv (.c (.d (.int .i64 0))), none⟩] false)
    (.seq (.block 2 (.loop (.seq (.seq (.region [⟨some 42, .mv (.t 12), none⟩,
      ⟨some 43, .mv (.t 0), none⟩,
      ⟨some 44, .lenS (.t 43), none⟩,
      ⟨some 45, .bin false .lss (.t 42) (.t 44), none⟩,
      ⟨some 46, .mv (.t 45), none⟩,
      ⟨some 47, .mv (.t 0), (some (46, true))⟩,
      ⟨some 48, .mv (.t 12), (some (46, true))⟩,
      ⟨some 49, .ixs (.t 47) (.t 48), (some (46, true))⟩,
      ⟨some 50, .ef (.iaG 0 256) [.t 49], (some (46, true))⟩,
      ⟨some 51, .ldc false 1 (.t 50), (some (46, true))⟩,
      ⟨some 52, .bin false .neq (.t 51) (.c (.d (.int .u8 0))), (some (46, true))⟩,
      ⟨some 53, .pick (.t 46) (.t 52) (.c (.d (.bool false))), none⟩] false)
    (.cond (.t 53) (.skip)
    (.exit 2)))
    (.block 3 (.region [⟨some 54, .mv (.t 12), none⟩,
      ⟨some 55, .bin false .add (.t 54) (.c (.d (.int .i64 1))), none⟩,
      ⟨some 12, .mv (.t 55), none⟩] false)))))
    (.seq (.region [⟨some 56, .mv (.t 12), none⟩,
      ⟨some 11, .mv (.t 56), none⟩] false)
    (.seq (.block 4 (.loop (.seq (.seq (.region [⟨some 57, .mv (.t 12), none⟩,
      ⟨some 58, .mv (.t 0), none⟩,
      ⟨some 59, .lenS (.t 58), none⟩,
      ⟨some 60, .bin false .lss (.t 57) (.t 59), none⟩] false)
    (.cond (.t 60) (.skip)
    (.exit 4)))
    (.block 5 (.seq (.seq (.region [⟨some 61, .mv (.t 0), none⟩,
      ⟨some 62, .mv (.t 12), none⟩,
      ⟨some 63, .ixs (.t 61) (.t 62), none⟩,
      ⟨some 64, .ef (.iaG 0 256) [.t 63], none⟩,
      ⟨some 65, .ldc false 1 (.t 64), none⟩,
      ⟨some 66, .bin false .eql (.t 65) (.c (.d (.int .u8 0))), none⟩] false)
    (.cond (.t 66) (.seq (.region [⟨some 67, .mv (.t 12), none⟩,
      ⟨some 68, .bin false .add (.t 67) (.c (.d (.int .i64 1))), none⟩,
      ⟨some 12, .mv (.t 68), none⟩] false)
    (.exit 5))
    (.skip)))
    (.seq (.region [⟨some 69, .mv (.t 9), none⟩,
      ⟨some 70, .mv (.t 10), none⟩,
      ⟨some 71, .mv (.t 0), none⟩,
      ⟨some 72, .mv (.t 11), none⟩,
      ⟨some 73, .mv (.t 12), none⟩,
      ⟨some 74, .slS (.t 71) (some (.t 72)) (some (.t 73)), none⟩,
      ⟨some 75, .ia 9 1 (.t 69) (.t 70), none⟩,
      ⟨none, .st 1 (.t 75) (.t 74), none⟩] false)
    (.seq (.region [⟨some 76, .mv (.t 10), none⟩,
      ⟨some 77, .bin false .add (.t 76) (.c (.d (.int .i64 1))), none⟩,
      ⟨some 10, .mv (.t 77), none⟩] false)
    (.seq (.region [⟨some 78, .mv (.t 12), none⟩,
      ⟨some 79, .bin false .add (.t 78) (.c (.d (.int .i64 1))), none⟩,
      ⟨some 12, .mv (.t 79), none⟩] false)
    (.seq (.block 6 (.loop (.seq (.seq (.region [⟨some 80, .mv (.t 12), none⟩,
      ⟨some 81, .mv (.t 0), none⟩,
      ⟨some 82, .lenS (.t 81), none⟩,
      ⟨some 83, .bin false .lss (.t 80) (.t 82), none⟩,
      ⟨some 84, .mv (.t 83), none⟩,
      ⟨some 85, .mv (.t 0), (some (84, true))⟩,
      ⟨some 86, .mv (.t 12), (some (84, true))⟩,
      ⟨some 87, .ixs (.t 85) (.t 86), (some (84, true))⟩,
      ⟨some 88, .ef (.iaG 0 256) [.t 87], (some (84, true))⟩,
      ⟨some 89, .ldc false 1 (.t 88), (some (84, true))⟩,
      ⟨some 90, .bin false .neq (.t 89) (.c (.d (.int .u8 0))), (some (84, true))⟩,
      ⟨some 91, .pick (.t 84) (.t 90) (.c (.d (.bool false))), none⟩] false)
    (.cond (.t 91) (.skip)
    (.exit 6)))
    (.block 7 (.region [⟨some 92, .mv (.t 12), none⟩,
      ⟨some 93, .bin false .add (.t 92) (.c (.d (.int .i64 1))), none⟩,
      ⟨some 12, .mv (.t 93), none⟩] false)))))
    (.region [⟨some 94, .mv (.t 12), none⟩,
      ⟨some 11, .mv (.t 94), none⟩] false))))))))))
    (.seq (.seq (.region [⟨some 95, .mv (.t 11), none⟩,
      ⟨some 96, .mv (.t 0), none⟩,
      ⟨some 97, .lenS (.t 96), none⟩,
      ⟨some 98, .bin false .lss (.t 95) (.t 97), none⟩] false)
    (.cond (.t 98) (.region [⟨some 99, .mv (.t 9), none⟩,
      ⟨some 100, .mv (.t 10), none⟩,
      ⟨some 101, .mv (.t 0), none⟩,
      ⟨some 102, .mv (.t 11), none⟩,
      ⟨some 103, .slS (.t 101) (some (.t 102)) none, none⟩,
      ⟨some 104, .ia 9 1 (.t 99) (.t 100), none⟩,
      ⟨none, .st 1 (.t 104) (.t 103), none⟩] false)
    (.skip)))
    (.seq (.region [⟨some 105, .mv (.t 9), none⟩,
      ⟨some 2, .mv (.t 105), none⟩] false)
    (.ret)))))))))))))))
theorem ok148 : FnOK Tryz.prog 148 rf148 := ⟨Tryz.f148, _, Tryz.func148, rfl, by kernel_rfl, rfl, by kernel_rfl, by kernel_rfl⟩
def rf149 : RFn where
  ntmps := 20
  mt := [5, 17]
  results := []
  body := .seq (.region [⟨some 2, .mv (.t 0), none⟩,
      ⟨some 3, .nck (.t 2), none⟩,
      ⟨some 4, .fa 0 (.t 3), none⟩,
      ⟨some 5, .ld false 1 (.t 4), none⟩,
      ⟨some 6, .pr (.ptrEq false) [.t 5, .c (.nilp)], none⟩] false)
    (.cond (.t 6) (.region [⟨some 7, .mv (.t 0), none⟩,
      ⟨some 8, .mv (.t 0), none⟩,
      ⟨some 9, .ef .toU [.t 8], none⟩,
      ⟨some 10, .pr .idU [.t 9], none⟩,
      ⟨some 11, .ef (.ofU 163 2) [.t 10], none⟩,
      ⟨some 12, .nck (.t 7), none⟩,
      ⟨some 13, .fa 0 (.t 12), none⟩,
      ⟨none, .st 1 (.t 13) (.t 11), none⟩] false)
    (.seq (.region [⟨some 14, .mv (.t 0), none⟩,
      ⟨some 15, .nck (.t 14), none⟩,
      ⟨some 16, .fa 0 (.t 15), none⟩,
      ⟨some 17, .ld false 1 (.t 16), none⟩,
      ⟨some 18, .mv (.t 0), none⟩,
      ⟨some 19, .pr (.ptrEq true) [.t 17, .t 18], none⟩] false)
    (.cond (.t 19) (.bad)
    (.skip))))
theorem ok149 : FnOK Tryz.prog 149 rf149 := ⟨Tryz.f149, _, Tryz.func149, rfl, by kernel_rfl, rfl, by kernel_rfl, by kernel_rfl⟩
def rf150 : RFn where
  ntmps := 18
  mt := []
  results := [.tmp 4]
  body := .seq (.region [⟨some 4, .mv (.c (.d (.bool false))), none⟩] false)
    (.seq (.region [⟨some 5, .mv (.t 0), none⟩,
      ⟨some 6, .lenS (.t 5), none⟩,
      ⟨some 7, .mv (.t 1), none⟩,
      ⟨some 8, .lenS (.t 7), none⟩,
      ⟨some 9, .bin false .geq (.t 6) (.t 8), none⟩,
      ⟨some 10, .mv (.t 9), none⟩,
      ⟨some 11, .mv (.t 0), (some (10, true))⟩,
      ⟨some 12, .mv (.t 1), (some (10, true))⟩,
      ⟨some 13, .lenS (.t 12), (some (10, true))⟩,
      ⟨some 14, .slS (.t 11) none (some (.t 13)), (some (10, true))⟩,
      ⟨some 15, .mv (.t 1), (some (10, true))⟩,
      ⟨some 16, .bin false .eql (.t 14) (.t 15), (some (10, true))⟩,
      ⟨some 17, .pick (.t 10) (.t 16) (.c (.d (.bool false))), none⟩,
      ⟨some 4, .mv (.t 17), none⟩] false)
    (.ret))
theorem ok150 : FnOK Tryz.prog 150 rf150 := ⟨Tryz.f150, _, Tryz.func150, rfl, by kernel_rfl, rfl, by kernel_rfl, by kernel_rfl⟩
def rf152 : RFn where
  ntmps := 66
  mt := []
  results := [.tmp 8]
  body := .seq (.region [⟨some 8, .mv (.c (.nil 9)), none⟩] false)
    (.seq (.seq (.region [⟨some 12, .mv (.t 3), none⟩,
      ⟨some 13, .bin false .eql (.t 12) (.c (.d (.int .i64 0))), none⟩] false)
    (.cond (.t 13) (.seq (.region [⟨some 8, .mv (.c (.nil 9)), none⟩] false)
    (.ret))
    (.skip)))
    (.seq (.seq (.region [⟨some 14, .mv (.t 1), none⟩,
      ⟨some 15, .bin false .eql (.t 14) (.c (.d (.str []))), none⟩] false)
    (.cond (.t 15) (.seq (.region [⟨some 16, .mv (.t 0), none⟩,
      ⟨some 17, .mv (.t 3), none⟩,
      ⟨some 18, .call 161 [.t 16, .t 17], none⟩,
      ⟨some 8, .mv (.t 18), none⟩] false)
    (.ret))
    (.skip)))
    (.seq (.seq (.region [⟨some 19, .mv (.t 3), none⟩,
      ⟨some 20, .bin false .lss (.t 19) (.c (.d (.int .i64 0))), none⟩] false)
    (.cond (.t 20) (.region [⟨some 21, .mv (.t 0), none⟩,
      ⟨some 22, .mv (.t 1), none⟩,
      ⟨some 23, .call 162 [.t 21, .t 22], none⟩,
      ⟨some 24, .bin false .add (.t 23) (.c (.d (.int .i64 1))), none⟩,
      ⟨some 3, .mv (.t 24), none⟩] false)
    (.skip)))
    (.seq (.region [⟨some 25, .mv (.t 3), none⟩,
      ⟨some 26, .mv (.t 0), none⟩,
      ⟨some 27, .lenS (.t 26), none⟩,
      ⟨some 28, .bin false .add (.t 27) (.c (.d (.int .i64 1))), none⟩,
      ⟨some 29, .min (.t 25) (.t 28), none⟩,
      ⟨some 3, .mv (.t 29), none⟩] false)
    (.seq (.region [⟨some 30, .mv (.t 3), none⟩,
      ⟨some 31, .ef (.mkSl 9 16 (.d (.str []))) [.t 30, .t 30], none⟩,
      ⟨some 9, .mv (.t 31), none⟩] false)
    (.seq (.region [⟨some 32, .mv (.t 3), none⟩,
      ⟨some 33, .bin false .sub (.t 32) (.c (.d (.int .i64 1))), none⟩,
      ⟨some 3, .mv (.t 33), none⟩] false)
    (.seq (.region [⟨some 10, .mv (.c (.d (.int .i64 0))), none⟩] false)
    (.seq (.block 0 (.loop (.seq (.seq (.region [⟨some 34, .mv (.t 10), none⟩,
      ⟨some 35, .mv (.t 3), none⟩,
      ⟨some 36, .bin false .lss (.t 34) (.t 35), none⟩] false)
    (.cond (.t 36) (.skip)
    (.exit 0)))
    (.block 1 (.seq (.region [⟨some 37, .mv (.t 0), none⟩,
      ⟨some 38, .mv (.t 1), none⟩,
      ⟨some 39, .call 160 [.t 37, .t 38], none⟩,
      ⟨some 11, .mv (.t 39), none⟩] false)
    (.seq (.seq (.region [⟨some 40, .mv (.t 11), none⟩,
      ⟨some 41, .bin false .lss (.t 40) (.c (.d (.int .i64 0))), none⟩] false)
    (.cond (.t 41) (.exit 0)
    (.skip)))
    (.seq (.region [⟨some 42, .mv (.t 9), none⟩,
      ⟨some 43, .mv (.t 10), none⟩,
      ⟨some 44, .mv (.t 0), none⟩,
      ⟨some 45, .mv (.t 11), none⟩,
      ⟨some 46, .mv (.t 2), none⟩,
      ⟨some 47, .bin false .add (.t 45) (.t 46), none⟩,
      ⟨some 48, .slS (.t 44) none (some (.t 47)), none⟩,
      ⟨some 49, .ia 9 1 (.t 42) (.t 43), none⟩,
      ⟨none, .st 1 (.t 49) (.t 48), none⟩] false)
    (.seq (.region [⟨some 50, .mv (.t 0), none⟩,
      ⟨some 51, .mv (.t 11), none⟩,
      ⟨some 52, .mv (.t 1), none⟩,
      ⟨some 53, .lenS (.t 52), none⟩,
      ⟨some 54, .bin false .add (.t 51) (.t 53), none⟩,
      ⟨some 55, .slS (.t 50) (some (.t 54)) none, none⟩,
      ⟨some 0, .mv (.t 55), none⟩] false)
    (.region [⟨some 56, .mv (.t 10), none⟩,
      ⟨some 57, .bin false .add (.t 56) (.c (.d (.int .i64 1))), none⟩,
      ⟨some 10, .mv (.t 57), none⟩] false)))))))))
    (.seq (.region [⟨some 58, .mv (.t 9), none⟩,
      ⟨some 59, .mv (.t 10), none⟩,
      ⟨some 60, .mv (.t 0), none⟩,
      ⟨some 61, .ia 9 1 (.t 58) (.t 59), none⟩,
      ⟨none, .st 1 (.t 61) (.t 60), none⟩] false)
    (.seq (.region [⟨some 62, .mv (.t 9), none⟩,
      ⟨some 63, .mv (.t 10), none⟩,
      ⟨some 64, .bin false .add (.t 63) (.c (.d (.int .i64 1))), none⟩,
      ⟨some 65, .slR 9 1 (.t 62) none (some (.t 64)), none⟩,
      ⟨some 8, .mv (.t 65), none⟩] false)
    (.ret)))))))))))
theorem ok152 : FnOK Tryz.prog 152 rf152 := ⟨Tryz.f152, _, Tryz.func152, rfl, by kernel_rfl, rfl, by kernel_rfl, by kernel_rfl⟩
def rf153 : RFn where
  ntmps := 25
  mt := [12, 17]
  results := []
  body := .seq (.region [⟨some 4, .mv (.t 0), none⟩,
      ⟨some 5, .call 149 [.t 4], none⟩] false)
    (.seq (.seq (.region [⟨some 6, .mv (.t 1), none⟩,
      ⟨some 7, .bin false .lss (.t 6) (.c (.d (.int .i64 0))), none⟩] false)
    (.cond (.t 7) (.region [⟨some 8, .bad, none⟩,
      ⟨none, .bad, none⟩] false)
    (.skip)))
    (.seq (.regions [[⟨some 9, .mv (.t 0), none⟩,
      ⟨some 10, .nck (.t 9), none⟩,
      ⟨some 11, .fa 1 (.t 10), none⟩,
      ⟨some 12, .ld false 1 (.t 11), none⟩,
      ⟨some 14, .mv (.t 0), none⟩,
      ⟨some 15, .nck (.t 14), none⟩,
      ⟨some 16, .fa 1 (.t 15), none⟩,
      ⟨some 20, .mv (.t 1), none⟩,
      ⟨some 13, .ef .capN [.t 12], none⟩,
      ⟨some 17, .ld false 1 (.t 16), none⟩,
      ⟨some 18, .lenR 5 1 (.t 17), none⟩,
      ⟨some 19, .bin false .sub (.t 13) (.t 18), none⟩,
      ⟨some 21, .bin false .lss (.t 19) (.t 20), none⟩],
     [⟨some 9, .mv (.t 0), none⟩,
      ⟨some 10, .nck (.t 9), none⟩,
      ⟨some 11, .fa 1 (.t 10), none⟩,
      ⟨some 12, .ld false 1 (.t 11), none⟩,
      ⟨some 14, .mv (.t 0), none⟩,
      ⟨some 15, .nck (.t 14), none⟩,
      ⟨some 16, .fa 1 (.t 15), none⟩,
      ⟨some 20, .mv (.t 1), none⟩,
      ⟨some 17, .ld false 1 (.t 16), none⟩,
      ⟨some 13, .ef .capN [.t 12], none⟩,
      ⟨some 18, .lenR 5 1 (.t 17), none⟩,
      ⟨some 19, .bin false .sub (.t 13) (.t 18), none⟩,
      ⟨some 21, .bin false .lss (.t 19) (.t 20), none⟩]])
    (.cond (.t 21) (.region [⟨some 22, .mv (.t 0), none⟩,
      ⟨some 23, .mv (.t 1), none⟩,
      ⟨some 24, .call 163 [.t 22, .t 23], none⟩] false)
    (.skip))))
theorem ok153 : FnOK Tryz.prog 153 rf153 := ⟨Tryz.f153, _, Tryz.func153, rfl, by kernel_rfl, rfl, by kernel_rfl, by kernel_rfl⟩
def rf154 : RFn where
  ntmps := 6
  mt := []
  results := [.tmp 2]
  body := .seq (.region [⟨some 2, .mv (.c (.d (.bool false))), none⟩] false)
    (.seq (.region [⟨some 3, .mv (.t 0), none⟩,
      ⟨some 4, .mv (.t 0), none⟩,
      ⟨some 5, .bin false .neq (.t 3) (.t 4), none⟩,
      ⟨some 2, .mv (.t 5), none⟩] false)
    (.ret))
theorem ok154 : FnOK Tryz.prog 154 rf154 := ⟨Tryz.f154, _, Tryz.func154, rfl, by kernel_rfl, rfl, by kernel_rfl, by kernel_rfl⟩
def rf160 : RFn where
  ntmps := 8
  mt := []
  results := [.tmp 4]
  body := .seq (.region [⟨some 4, .mv (.c (.d (.int .i64 0))), none⟩] false)
    (.seq (.region [⟨some 5, .mv (.t 0), none⟩,
      ⟨some 6, .mv (.t 1), none⟩,
      ⟨some 7, .call 166 [.t 5, .t 6], none⟩,
      ⟨some 4, .mv (.t 7), none⟩] false)
    (.ret))
theorem ok160 : FnOK Tryz.prog 160 rf160 := ⟨Tryz.f160, _, Tryz.func160, rfl, by kernel_rfl, rfl, by kernel_rfl, by kernel_rfl⟩
def rf162 : RFn where
  ntmps := 34
  mt := []
  results := [.tmp 4]
  body := .seq (.region [⟨some 4, .mv (.c (.d (.int .i64 0))), none⟩] false)
    (.seq (.seq (.region [⟨some 7, .mv (.t 1), none⟩,
      ⟨some 8, .lenS (.t 7), none⟩,
      ⟨some 9, .bin false .eql (.t 8) (.c (.d (.int .i64 0))), none⟩] false)
    (.cond (.t 9) (.seq (.region [⟨some 10, .mv (.t 0), none⟩,
      ⟨some 11, .call 167 [.t 10], none⟩,
      ⟨some 12, .bin false .add (.t 11) (.c (.d (.int .i64 1))), none⟩,
      ⟨some 4, .mv (.t 12), none⟩] false)
    (.ret))
    (.skip)))
    (.seq (.seq (.region [⟨some 13, .mv (.t 1), none⟩,
      ⟨some 14, .lenS (.t 13), none⟩,
      ⟨some 15, .bin false .eql (.t 14) (.c (.d (.int .i64 1))), none⟩] false)
    (.cond (.t 15) (.seq (.region [⟨some 16, .mv (.t 0), none⟩,
      ⟨some 17, .mv (.t 1), none⟩,
      ⟨some 18, .ixs (.t 17) (.c (.d (.int .i64 0))), none⟩,
      ⟨some 19, .pr .cntS [.t 16, .t 18], none⟩,
      ⟨some 4, .mv (.t 19), none⟩] false)
    (.ret))
    (.skip)))
    (.seq (.region [⟨some 5, .mv (.c (.d (.int .i64 0))), none⟩] false)
    (.block 0 (.loop (.block 1 (.seq (.region [⟨some 20, .mv (.t 0), none⟩,
      ⟨some 21, .mv (.t 1), none⟩,
      ⟨some 22, .call 160 [.t 20, .t 21], none⟩,
      ⟨some 6, .mv (.t 22), none⟩] false)
    (.seq (.seq (.region [⟨some 23, .mv (.t 6), none⟩,
      ⟨some 24, .bin false .eql (.t 23) (.c (.d (.int .i64 (-1)))), none⟩] false)
    (.cond (.t 24) (.seq (.region [⟨some 25, .mv (.t 5), none⟩,
      ⟨some 4, .mv (.t 25), none⟩] false)
    (.ret))
    (.skip)))
    (.seq (.region [⟨some 26, .mv (.t 5), none⟩,
      ⟨some 27, .bin false .add (.t 26) (.c (.d (.int .i64 1))), none⟩,
      ⟨some 5, .mv (.t 27), none⟩] false)
    (.region [⟨some 28, .mv (.t 0), none⟩,
      ⟨some 29, .mv (.t 6), none⟩,
      ⟨some 30, .mv (.t 1), none⟩,
      ⟨some 31, .lenS (.t 30), none⟩,
      ⟨some 32, .bin false .add (.t 29) (.t 31), none⟩,
      ⟨some 33, .slS (.t 28) (some (.t 32)) none, none⟩,
      ⟨some 0, .mv (.t 33), none⟩] false))))))))))
theorem ok162 : FnOK Tryz.prog 162 rf162 := ⟨Tryz.f162, _, Tryz.func162, rfl, by kernel_rfl, rfl, by kernel_rfl, by kernel_rfl⟩
def rf163 : RFn where
  ntmps := 30
  mt := [8, 17, 24]
  results := []
  body := .seq (.regions [[⟨some 5, .mv (.t 0), none⟩,
      ⟨some 6, .nck (.t 5), none⟩,
      ⟨some 7, .fa 1 (.t 6), none⟩,
      ⟨some 8, .ld false 1 (.t 7), none⟩,
      ⟨some 11, .mv (.t 1), none⟩,
      ⟨some 14, .mv (.t 0), none⟩,
      ⟨some 15, .nck (.t 14), none⟩,
      ⟨some 16, .fa 1 (.t 15), none⟩,
      ⟨some 9, .ef .capN [.t 8], none⟩,
      ⟨some 10, .bin false .mul (.c (.d (.int .i64 2))) (.t 9), none⟩,
      ⟨some 12, .bin false .add (.t 10) (.t 11), none⟩,
      ⟨some 13, .ef (.mnz 5) [.t 12], none⟩,
      ⟨some 17, .ld false 1 (.t 16), none⟩,
      ⟨some 18, .lenR 5 1 (.t 17), none⟩,
      ⟨some 19, .slR 5 1 (.t 13) none (some (.t 18)), none⟩,
      ⟨some 4, .mv (.t 19), none⟩],
     [⟨some 5, .mv (.t 0), none⟩,
      ⟨some 6, .nck (.t 5), none⟩,
      ⟨some 7, .fa 1 (.t 6), none⟩,
      ⟨some 8, .ld false 1 (.t 7), none⟩,
      ⟨some 11, .mv (.t 1), none⟩,
      ⟨some 14, .mv (.t 0), none⟩,
      ⟨some 15, .nck (.t 14), none⟩,
      ⟨some 16, .fa 1 (.t 15), none⟩,
      ⟨some 9, .ef .capN [.t 8], none⟩,
      ⟨some 10, .bin false .mul (.c (.d (.int .i64 2))) (.t 9), none⟩,
      ⟨some 12, .bin false .add (.t 10) (.t 11), none⟩,
      ⟨some 17, .ld false 1 (.t 16), none⟩,
      ⟨some 13, .ef (.mnz 5) [.t 12], none⟩,
      ⟨some 18, .lenR 5 1 (.t 17), none⟩,
      ⟨some 19, .slR 5 1 (.t 13) none (some (.t 18)), none⟩,
      ⟨some 4, .mv (.t 19), none⟩],
     [⟨some 5, .mv (.t 0), none⟩,
      ⟨some 6, .nck (.t 5), none⟩,
      ⟨some 7, .fa 1 (.t 6), none⟩,
      ⟨some 8, .ld false 1 (.t 7), none⟩,
      ⟨some 11, .mv (.t 1), none⟩,
      ⟨some 14, .mv (.t 0), none⟩,
      ⟨some 15, .nck (.t 14), none⟩,
      ⟨some 16, .fa 1 (.t 15), none⟩,
      ⟨some 17, .ld false 1 (.t 16), none⟩,
      ⟨some 9, .ef .capN [.t 8], none⟩,
      ⟨some 10, .bin false .mul (.c (.d (.int .i64 2))) (.t 9), none⟩,
      ⟨some 12, .bin false .add (.t 10) (.t 11), none⟩,
      ⟨some 13, .ef (.mnz 5) [.t 12], none⟩,
      ⟨some 18, .lenR 5 1 (.t 17), none⟩,
      ⟨some 19, .slR 5 1 (.t 13) none (some (.t 18)), none⟩,
      ⟨some 4, .mv (.t 19), none⟩]])
    (.seq (.region [⟨some 20, .mv (.t 4), none⟩,
      ⟨some 21, .mv (.t 0), none⟩,
      ⟨some 22, .nck (.t 21), none⟩,
      ⟨some 23, .fa 1 (.t 22), none⟩,
      ⟨some 24, .ld false 1 (.t 23), none⟩,
      ⟨some 25, .ef .copyNil [.t 20, .t 24], none⟩] false)
    (.region [⟨some 26, .mv (.t 0), none⟩,
      ⟨some 27, .mv (.t 4), none⟩,
      ⟨some 28, .nck (.t 26), none⟩,
      ⟨some 29, .fa 1 (.t 28), none⟩,
      ⟨none, .st 1 (.t 29) (.t 27), none⟩] false))
theorem ok163 : FnOK Tryz.prog 163 rf163 := ⟨Tryz.f163, _, Tryz.func163, rfl, by kernel_rfl, rfl, by kernel_rfl, by kernel_rfl⟩
def rf166 : RFn where
  ntmps := 143
  mt := [38, 100, 119]
  results := [.tmp 4]
  body := .seq (.region [⟨some 4, .mv (.c (.d (.int .i64 0))), none⟩] false)
    (.seq (.region [⟨some 14, .mv (.t 1), none⟩,
      ⟨some 15, .lenS (.t 14), none⟩,
      ⟨some 5, .mv (.t 15), none⟩] false)
    (.seq (.block 0 (.seq (.region [⟨some 17, .mv (.t 5), none⟩,
      ⟨some 18, .bin false .eql (.t 17) (.c (.d (.int .i64 0))), none⟩,
      ⟨some 19, .mv (.t 18), none⟩,
      ⟨some 20, .mv (.t 1), (some (19, false))⟩,
      ⟨some 21, .mv (.t 0), (some (19, false))⟩,
      ⟨some 22, .bin false .eql (.t 20) (.t 21), (some (19, false))⟩,
      ⟨some 23, .pick (.t 19) (.c (.d (.bool true))) (.t 22), none⟩,
      ⟨some 16, .mv (.t 23), none⟩] false)
    (.cond (.t 16) (.seq (.region [⟨some 4, .mv (.c (.d (.int .i64 0))), none⟩] false)
    (.ret))
    (.seq (.region [⟨some 25, .mv (.t 5), none⟩,
      ⟨some 26, .bin false .eql (.t 25) (.c (.d (.int .i64 1))), none⟩,
      ⟨some 24, .mv (.t 26), none⟩] false)
    (.cond (.t 24) (.seq (.region [⟨some 27, .mv (.t 0), none⟩,
      ⟨some 28, .mv (.t 1), none⟩,
      ⟨some 29, .ixs (.t 28) (.c (.d (.int .i64 0))), none⟩,
      ⟨some 30, .call 172 [.t 27, .t 29], none⟩,
      ⟨some 4, .mv (.t 30), none⟩] false)
    (.ret))
    (.seq (.region [⟨some 32, .mv (.t 5), none⟩,
      ⟨some 33, .mv (.t 0), none⟩,
      ⟨some 34, .lenS (.t 33), none⟩,
      ⟨some 35, .bin false .geq (.t 32) (.t 34), none⟩,
      ⟨some 31, .mv (.t 35), none⟩] false)
    (.cond (.t 31) (.seq (.region [⟨some 4, .mv (.c (.d (.int .i64 (-1)))), none⟩] false)
    (.ret))
    (.seq (.region [⟨some 37, .mv (.t 5), none⟩,
      ⟨some 38, .bad, none⟩,
      ⟨some 39, .bin false .leq (.t 37) (.t 38), none⟩,
      ⟨some 40, .mv (.t 39), none⟩,
      ⟨some 41, .mv (.t 0), (some (40, true))⟩,
      ⟨some 42, .lenS (.t 41), (some (40, true))⟩,
      ⟨some 43, .bin false .leq (.t 42) (.c (.d (.int .i64 64))), (some (40, true))⟩,
      ⟨some 44, .pick (.t 40) (.t 43) (.c (.d (.bool false))), none⟩,
      ⟨some 36, .mv (.t 44), none⟩] false)
    (.cond (.t 36) (.seq (.region [⟨some 45, .mv (.t 0), none⟩,
      ⟨some 46, .mv (.t 1), none⟩,
      ⟨some 47, .call 173 [.t 45, .t 46], none⟩,
      ⟨some 4, .mv (.t 47), none⟩] false)
    (.ret))
    (.skip))))))))))
    (.seq (.region [⟨some 48, .mv (.t 1), none⟩,
      ⟨some 49, .ixs (.t 48) (.c (.d (.int .i64 0))), none⟩,
      ⟨some 6, .mv (.t 49), none⟩] false)
    (.seq (.region [⟨some 50, .mv (.t 1), none⟩,
      ⟨some 51, .ixs (.t 50) (.c (.d (.int .i64 1))), none⟩,
      ⟨some 7, .mv (.t 51), none⟩] false)
    (.seq (.region [⟨some 8, .mv (.c (.d (.int .i64 0))), none⟩] false)
    (.seq (.region [⟨some 52, .mv (.t 0), none⟩,
      ⟨some 53, .lenS (.t 52), none⟩,
      ⟨some 54, .mv (.t 5), none⟩,
      ⟨some 55, .bin false .sub (.t 53) (.t 54), none⟩,
      ⟨some 56, .bin false .add (.t 55) (.c (.d (.int .i64 1))), none⟩,
      ⟨some 9, .mv (.t 56), none⟩] false)
    (.seq (.region [⟨some 10, .mv (.c (.d (.int .i64 0))), none⟩] false)
    (.seq (.block 1 (.loop (.seq (.seq (.region [⟨some 57, .mv (.t 8), none⟩,
      ⟨some 58, .mv (.t 9), none⟩,
      ⟨some 59, .bin false .lss (.t 57) (.t 58), none⟩] false)
    (.cond (.t 59) (.skip)
    (.exit 1)))
    (.block 2 (.seq (.seq (.region [⟨some 60, .mv (.t 0), none⟩,
      ⟨some 61, .mv (.t 8), none⟩,
      ⟨some 62, .ixs (.t 60) (.t 61), none⟩,
      ⟨some 63, .mv (.t 6), none⟩,
      ⟨some 64, .bin false .neq (.t 62) (.t 63), none⟩] false)
    (.cond (.t 64) (.seq (.region [⟨some 65, .mv (.t 0), none⟩,
      ⟨some 66, .mv (.t 8), none⟩,
      ⟨some 67, .bin false .add (.t 66) (.c (.d (.int .i64 1))), none⟩,
      ⟨some 68, .mv (.t 9), none⟩,
      ⟨some 69, .slS (.t 65) (some (.t 67)) (some (.t 68)), none⟩,
      ⟨some 70, .mv (.t 6), none⟩,
      ⟨some 71, .call 172 [.t 69, .t 70], none⟩,
      ⟨some 11, .mv (.t 71), none⟩] false)
    (.seq (.seq (.region [⟨some 72, .mv (.t 11), none⟩,
      ⟨some 73, .bin false .lss (.t 72) (.c (.d (.int .i64 0))), none⟩] false)
    (.cond (.t 73) (.seq (.region [⟨some 4, .mv (.c (.d (.int .i64 (-1)))), none⟩] false)
    (.ret))
    (.skip)))
    (.region [⟨some 74, .mv (.t 8), none⟩,
      ⟨some 75, .mv (.t 11), none⟩,
      ⟨some 76, .bin false .add (.t 75) (.c (.d (.int .i64 1))), none⟩,
      ⟨some 77, .bin false .add (.t 74) (.t 76), none⟩,
      ⟨some 8, .mv (.t 77), none⟩] false)))
    (.skip)))
    (.seq (.seq (.region [⟨some 78, .mv (.t 0), none⟩,
      ⟨some 79, .mv (.t 8), none⟩,
      ⟨some 80, .bin false .add (.t 79) (.c (.d (.int .i64 1))), none⟩,
      ⟨some 81, .ixs (.t 78) (.t 80), none⟩,
      ⟨some 82, .mv (.t 7), none⟩,
      ⟨some 83, .bin false .eql (.t 81) (.t 82), none⟩,
      ⟨some 84, .mv (.t 83), none⟩,
      ⟨some 85, .mv (.t 0), (some (84, true))⟩,
      ⟨some 86, .mv (.t 8), (some (84, true))⟩,
      ⟨some 87, .mv (.t 8), (some (84, true))⟩,
      ⟨some 88, .mv (.t 5), (some (84, true))⟩,
      ⟨some 89, .bin false .add (.t 87) (.t 88), (some (84, true))⟩,
      ⟨some 90, .slS (.t 85) (some (.t 86)) (some (.t 89)), (some (84, true))⟩,
      ⟨some 91, .mv (.t 1), (some (84, true))⟩,
      ⟨some 92, .bin false .eql (.t 90) (.t 91), (some (84, true))⟩,
      ⟨some 93, .pick (.t 84) (.t 92) (.c (.d (.bool false))), none⟩] false)
    (.cond (.t 93) (.seq (.region [⟨some 94, .mv (.t 8), none⟩,
      ⟨some 4, .mv (.t 94), none⟩] false)
    (.ret))
    (.skip)))
    (.seq (.region [⟨some 95, .mv (.t 8), none⟩,
      ⟨some 96, .bin false .add (.t 95) (.c (.d (.int .i64 1))), none⟩,
      ⟨some 8, .mv (.t 96), none⟩] false)
    (.seq (.region [⟨some 97, .mv (.t 10), none⟩,
      ⟨some 98, .bin false .add (.t 97) (.c (.d (.int .i64 1))), none⟩,
      ⟨some 10, .mv (.t 98), none⟩] false)
    (.seq (.region [⟨some 99, .mv (.t 5), none⟩,
      ⟨some 100, .bad, none⟩,
      ⟨some 101, .bin false .leq (.t 99) (.t 100), none⟩,
      ⟨some 102, .mv (.t 101), none⟩,
      ⟨some 103, .mv (.t 10), (some (102, true))⟩,
      ⟨some 104, .mv (.t 8), (some (102, true))⟩,
      ⟨some 105, .call 174 [.t 104], (some (102, true))⟩,
      ⟨some 106, .bin false .gtr (.t 103) (.t 105), (some (102, true))⟩,
      ⟨some 107, .pick (.t 102) (.t 106) (.c (.d (.bool false))), none⟩] false)
    (.cond (.t 107) (.seq (.region [⟨some 108, .mv (.t 0), none⟩,
      ⟨some 109, .mv (.t 8), none⟩,
      ⟨some 110, .slS (.t 108) (some (.t 109)) none, none⟩,
      ⟨some 111, .mv (.t 1), none⟩,
      ⟨some 112, .call 173 [.t 110, .t 111], none⟩,
      ⟨some 12, .mv (.t 112), none⟩] false)
    (.seq (.seq (.region [⟨some 113, .mv (.t 12), none⟩,
      ⟨some 114, .bin false .geq (.t 113) (.c (.d (.int .i64 0))), none⟩] false)
    (.cond (.t 114) (.seq (.region [⟨some 115, .mv (.t 12), none⟩,
      ⟨some 116, .mv (.t 8), none⟩,
      ⟨some 117, .bin false .add (.t 115) (.t 116), none⟩,
      ⟨some 4, .mv (.t 117), none⟩] false)
    (.ret))
    (.skip)))
    (.seq (.region [⟨some 4, .mv (.c (.d (.int .i64 (-1)))), none⟩] false)
    (.ret))))
    (.seq (.region [⟨some 118, .mv (.t 5), none⟩,
      ⟨some 119, .bad, none⟩,
      ⟨some 120, .bin false .gtr (.t 118) (.t 119), none⟩,
      ⟨some 121, .mv (.t 120), none⟩,
      ⟨some 122, .mv (.t 10), (some (121, true))⟩,
      ⟨some 123, .mv (.t 8), (some (121, true))⟩,
      ⟨some 124, .pr .shr [.t 123, .c (.d (.int .u64 4))], (some (121, true))⟩,
      ⟨some 125, .bin false .add (.c (.d (.int .i64 4))) (.t 124), (some (121, true))⟩,
      ⟨some 126, .bin false .geq (.t 122) (.t 125), (some (121, true))⟩,
      ⟨some 127, .pick (.t 121) (.t 126) (.c (.d (.bool false))), none⟩,
      ⟨some 128, .mv (.t 127), none⟩,
      ⟨some 129, .mv (.t 8), (some (128, true))⟩,
      ⟨some 130, .mv (.t 9), (some (128, true))⟩,
      ⟨some 131, .bin false .lss (.t 129) (.t 130), (some (128, true))⟩,
      ⟨some 132, .pick (.t 128) (.t 131) (.c (.d (.bool false))), none⟩] false)
    (.cond (.t 132) (.seq (.region [⟨some 133, .mv (.t 0), none⟩,
      ⟨some 134, .mv (.t 8), none⟩,
      ⟨some 135, .slS (.t 133) (some (.t 134)) none, none⟩,
      ⟨some 136, .mv (.t 1), none⟩,
      ⟨some 137, .call 175 [.t 135, .t 136], none⟩,
      ⟨some 13, .mv (.t 137), none⟩] false)
    (.seq (.seq (.region [⟨some 138, .mv (.t 13), none⟩,
      ⟨some 139, .bin false .lss (.t 138) (.c (.d (.int .i64 0))), none⟩] false)
    (.cond (.t 139) (.seq (.region [⟨some 4, .mv (.c (.d (.int .i64 (-1)))), none⟩] false)
    (.ret))
    (.skip)))
    (.seq (.region [⟨some 140, .mv (.t 8), none⟩,
      ⟨some 141, .mv (.t 13), none⟩,
      ⟨some 142, .bin false .add (.t 140) (.t 141), none⟩,
      ⟨some 4, .mv (.t 142), none⟩] false)
    (.ret))))
    (.skip)))))))))))))
    (.seq (.region [⟨some 4, .mv (.c (.d (.int .i64 (-1)))), none⟩] false)
    (.ret))))))))))
theorem ok166 : FnOK Tryz.prog 166 rf166 := ⟨Tryz.f166, _, Tryz.func166, rfl, by kernel_rfl, rfl, by kernel_rfl, by kernel_rfl⟩
def rf172 : RFn where
  ntmps := 8
  mt := []
  results := [.tmp 4]
  body := .seq (.region [⟨some 4, .mv (.c (.d (.int .i64 0))), none⟩] false)
    (.seq (.region [⟨some 5, .mv (.t 0), none⟩,
      ⟨some 6, .mv (.t 1), none⟩,
      ⟨some 7, .pr .idxS [.t 5, .t 6], none⟩,
      ⟨some 4, .mv (.t 7), none⟩] false)
    (.ret))
theorem ok172 : FnOK Tryz.prog 172 rf172 := ⟨Tryz.f172, _, Tryz.func172, rfl, by kernel_rfl, rfl, by kernel_rfl, by kernel_rfl⟩
end Go.Pg
