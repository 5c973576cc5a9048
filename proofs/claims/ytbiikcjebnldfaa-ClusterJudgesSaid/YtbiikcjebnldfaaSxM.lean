/-
  Sx: the evaluator's code of the functions, printed by wip/tools/link.py.
-/
import Derived.Test.YtbiikcjebnldfaaSxDefs
namespace Sx
open Go

-- 12 selfstab/selfstablaw34.ClusterJudges
def m_selfstablaw34_ClusterJudges : MF := ⟨42, [.tmp 4], true, (
  .seq (.reg [⟨some 2, .box 2 (.t 0), none⟩,
    ⟨some 4, .mv (.c (Value.bool false)), none⟩] [1, 2])
  (.seq (.seq (.reg [⟨some 5, .load (some 2) (.t 2), none⟩,
    ⟨some 6, .mv (.t 1), none⟩,
    ⟨some 7, .call 1 [.t 5, .t 6], none⟩] [1, 2, 7])
  (.cond (.t 7) (.seq (.reg [⟨some 8, .call 2 [], none⟩,
     ⟨some 4, .mv (.t 8), none⟩] [4])
   (.ret))
   (.skip)))
  (.seq (.reg [⟨some 9, .call 2 [], none⟩,
    ⟨some 10, .mv (.t 9), none⟩,
    ⟨some 11, .load (some 2) (.t 2), some (10, true)⟩,
    ⟨some 12, .call 3 [.t 11], some (10, true)⟩,
    ⟨some 13, .load (some 2) (.t 2), some (10, true)⟩,
    ⟨some 14, .call 4 [.t 13], some (10, true)⟩,
    ⟨some 15, .eqb false (.t 12) (.t 14), some (10, true)⟩,
    ⟨some 16, .pick (.t 10) (.t 15) (.c (Value.bool false)), none⟩,
    ⟨some 17, .mv (.t 16), none⟩,
    ⟨some 18, .load (some 2) (.t 2), some (17, true)⟩,
    ⟨some 19, .mv (.t 1), some (17, true)⟩,
    ⟨some 20, .call 5 [.t 18, .t 19], some (17, true)⟩,
    ⟨some 21, .load (some 2) (.t 2), some (17, true)⟩,
    ⟨some 22, .mv (.t 1), some (17, true)⟩,
    ⟨some 23, .call 6 [.t 21, .t 22], some (17, true)⟩,
    ⟨some 24, .eqb false (.t 20) (.t 23), some (17, true)⟩,
    ⟨some 25, .pick (.t 17) (.t 24) (.c (Value.bool false)), none⟩,
    ⟨some 26, .mv (.t 25), none⟩,
    ⟨some 27, .load (some 2) (.t 2), some (26, true)⟩,
    ⟨some 28, .call 7 [.t 27], some (26, true)⟩,
    ⟨some 29, .load (some 2) (.t 2), some (26, true)⟩,
    ⟨some 30, .call 8 [.t 29], some (26, true)⟩,
    ⟨some 31, .eqn false [0, 1, 1, 0, 0] (.t 28) (.t 30), some (26, true)⟩,
    ⟨some 32, .pick (.t 26) (.t 31) (.c (Value.bool false)), none⟩,
    ⟨some 33, .mv (.t 32), none⟩,
    ⟨some 34, .load (some 2) (.t 2), some (33, true)⟩,
    ⟨some 35, .mv (.t 1), some (33, true)⟩,
    ⟨some 36, .call 9 [.t 34, .t 35], some (33, true)⟩,
    ⟨some 37, .load (some 2) (.t 2), some (33, true)⟩,
    ⟨some 38, .mv (.t 1), some (33, true)⟩,
    ⟨some 39, .call 10 [.t 37, .t 38], some (33, true)⟩,
    ⟨some 40, .call 11 [.t 36, .t 39], some (33, true)⟩,
    ⟨some 41, .pick (.t 33) (.t 40) (.c (Value.bool false)), none⟩,
    ⟨some 4, .mv (.t 41), none⟩] [4])
  (.ret))))⟩

-- 1 selfstab/selfstablaw34.large
def m_selfstablaw34_large : MF := ⟨20, [.tmp 4], true, (
  .seq (.reg [⟨some 2, .box 2 (.t 0), none⟩,
    ⟨some 4, .mv (.c (Value.bool false)), none⟩] [1, 2])
  (.seq (.reg [⟨some 5, .fadr 1 (.t 2), none⟩,
    ⟨some 6, .load (none) (.t 5), none⟩,
    ⟨some 7, .len 1 (.t 6), none⟩,
    ⟨some 8, .bin .gtr (.t 7) (.c (Value.int IntKind.i64 60)), none⟩,
    ⟨some 9, .mv (.t 8), none⟩,
    ⟨some 10, .fadr 0 (.t 2), some (9, false)⟩,
    ⟨some 11, .load (none) (.t 10), some (9, false)⟩,
    ⟨some 12, .len 1 (.t 11), some (9, false)⟩,
    ⟨some 13, .bin .gtr (.t 12) (.c (Value.int IntKind.i64 60)), some (9, false)⟩,
    ⟨some 14, .pick (.t 9) (.c (Value.bool true)) (.t 13), none⟩,
    ⟨some 15, .mv (.t 14), none⟩,
    ⟨some 16, .mv (.t 1), some (15, false)⟩,
    ⟨some 17, .len 1 (.t 16), some (15, false)⟩,
    ⟨some 18, .bin .gtr (.t 17) (.c (Value.int IntKind.i64 60)), some (15, false)⟩,
    ⟨some 19, .pick (.t 15) (.c (Value.bool true)) (.t 18), none⟩,
    ⟨some 4, .mv (.t 19), none⟩] [4])
  (.ret)))⟩

-- 2 selfstab/selfstablaw34.known
def m_selfstablaw34_known : MF := ⟨29, [.tmp 0], true, (
  .seq (.reg [⟨some 0, .mv (.c (Value.bool false)), none⟩] [])
  (.seq (.reg [⟨some 3, .lit 1 [.v (Value.int .i64 0), .v (Value.int .i64 0)] [(0, 1, (.c (Value.int IntKind.i64 0))), (1, 1, (.c (Value.int IntKind.i64 1)))] false, none⟩,
    ⟨some 4, .build [.v (Value.int .i64 0), .v (Value.slice none 0 0), .v (Value.slice none 0 0), .v (Value.slice none 0 0), .v (Value.bool false), .v (Value.bool false)] [(0, 1, (.c (Value.int IntKind.i64 3))), (1, 1, (.t 3))], none⟩,
    ⟨some 5, .call 31 [.t 4, .c (Value.int IntKind.i64 3)], none⟩,
    ⟨some 1, .alloc [.v (Value.slice none 0 0), .v (Value.slice none 0 0)], none⟩,
    ⟨none, .store 2 (.t 1) (.t 5), none⟩] [1])
  (.seq (.reg [⟨some 6, .lit 1 [.v (Value.int .i64 0), .v (Value.int .i64 0)] [(0, 1, (.c (Value.int IntKind.i64 0))), (1, 1, (.c (Value.int IntKind.i64 0)))] false, none⟩,
    ⟨some 7, .lit 1 [.v (Value.int .i64 0), .v (Value.int .i64 0)] [(0, 1, (.c (Value.int IntKind.i64 1))), (1, 1, (.c (Value.int IntKind.i64 (-1))))] false, none⟩,
    ⟨some 8, .lit 1 [.v (Value.int .i64 0), .v (Value.int .i64 0)] [(0, 1, (.c (Value.int IntKind.i64 0))), (1, 1, (.c (Value.int IntKind.i64 0)))] false, none⟩,
    ⟨some 9, .lit 1 [.v (Value.slice none 0 0), .v (Value.slice none 0 0), .v (Value.slice none 0 0)] [(0, 1, (.t 6)), (1, 1, (.t 7)), (2, 1, (.t 8))] false, none⟩,
    ⟨some 2, .mv (.t 9), none⟩] [1, 2])
  (.seq (.reg [⟨some 10, .load (some 2) (.t 1), none⟩,
    ⟨some 11, .mv (.t 2), none⟩,
    ⟨some 12, .call 5 [.t 10, .t 11], none⟩,
    ⟨some 13, .mv (.t 12), none⟩,
    ⟨some 14, .load (some 2) (.t 1), some (13, true)⟩,
    ⟨some 15, .mv (.t 2), some (13, true)⟩,
    ⟨some 16, .call 9 [.t 14, .t 15], some (13, true)⟩,
    ⟨some 17, .lit 1 [.v (Value.int .i64 0), .v (Value.int .i64 0), .v (Value.int .i64 0)] [(0, 1, (.c (Value.int IntKind.i64 1))), (1, 1, (.c (Value.int IntKind.i64 1))), (2, 1, (.c (Value.int IntKind.i64 1)))] false, some (13, true)⟩,
    ⟨some 18, .call 11 [.t 16, .t 17], some (13, true)⟩,
    ⟨some 19, .pick (.t 13) (.t 18) (.c (Value.bool false)), none⟩,
    ⟨some 20, .mv (.t 19), none⟩,
    ⟨some 21, .load (some 2) (.t 1), some (20, true)⟩,
    ⟨some 22, .lit 1 [.v (Value.int .i64 0), .v (Value.int .i64 0)] [(0, 1, (.c (Value.int IntKind.i64 0))), (1, 1, (.c (Value.int IntKind.i64 0)))] false, some (20, true)⟩,
    ⟨some 23, .lit 1 [.v (Value.int .i64 0), .v (Value.int .i64 0)] [(0, 1, (.c (Value.int IntKind.i64 1))), (1, 1, (.c (Value.int IntKind.i64 0)))] false, some (20, true)⟩,
    ⟨some 24, .lit 1 [.v (Value.int .i64 0), .v (Value.int .i64 0)] [(0, 1, (.c (Value.int IntKind.i64 0))), (1, 1, (.c (Value.int IntKind.i64 0)))] false, some (20, true)⟩,
    ⟨some 25, .lit 1 [.v (Value.slice none 0 0), .v (Value.slice none 0 0), .v (Value.slice none 0 0)] [(0, 1, (.t 22)), (1, 1, (.t 23)), (2, 1, (.t 24))] false, some (20, true)⟩,
    ⟨some 26, .call 5 [.t 21, .t 25], some (20, true)⟩,
    ⟨some 27, .un .not (.t 26), some (20, true)⟩,
    ⟨some 28, .pick (.t 20) (.t 27) (.c (Value.bool false)), none⟩,
    ⟨some 0, .mv (.t 28), none⟩] [0])
  (.ret)))))⟩

-- 3 selfstab/cluster.Fit
def m_cluster_Fit : MF := ⟨5, [.tmp 2], true, (
  .seq (.reg [⟨some 1, .box 2 (.t 0), none⟩,
    ⟨some 2, .mv (.c (Value.bool false)), none⟩] [1])
  (.seq (.reg [⟨some 3, .load (some 2) (.t 1), none⟩,
    ⟨some 4, .call 32 [.t 3], none⟩,
    ⟨some 2, .mv (.t 4), none⟩] [2])
  (.ret)))⟩

-- 4 selfstab/selfstabref34.Fit
def m_selfstabref34_Fit : MF := ⟨5, [.tmp 2], true, (
  .seq (.reg [⟨some 1, .box 2 (.t 0), none⟩,
    ⟨some 2, .mv (.c (Value.bool false)), none⟩] [1])
  (.seq (.reg [⟨some 3, .load (some 2) (.t 1), none⟩,
    ⟨some 4, .call 33 [.t 3], none⟩,
    ⟨some 2, .mv (.t 4), none⟩] [2])
  (.ret)))⟩

-- 5 selfstab/cluster.Legit
def m_cluster_Legit_L0 : MC :=
  .seq (.reg [⟨some 16, .bin .lss (.t 15) (.t 14), none⟩] [2, 3, 13, 14, 15, 16])
  (.seq (.cond (.t 16) (.skip)
   (.exit 0))
  (.seq (.block 1 (.seq (.reg [⟨some 17, .mv (.t 15), none⟩,
     ⟨some 18, .iadr 1 (.t 13) (.t 15), none⟩,
     ⟨some 19, .load (none) (.t 18), none⟩,
     ⟨some 5, .mv (.t 17), none⟩,
     ⟨some 6, .mv (.t 19), none⟩] [2, 3, 5, 6, 13, 14, 15])
   (.seq (.reg [⟨some 20, .fadr 1 (.t 2), none⟩,
     ⟨some 21, .load (none) (.t 20), none⟩,
     ⟨some 22, .mv (.t 5), none⟩,
     ⟨some 23, .iadr 1 (.t 21) (.t 22), none⟩,
     ⟨some 24, .load (none) (.t 23), none⟩,
     ⟨some 25, .mkf 35 [.t 3], none⟩,
     ⟨some 26, .call 36 [.t 24, .t 25], none⟩,
     ⟨some 7, .mv (.t 26), none⟩] [2, 3, 6, 7, 13, 14, 15])
   (.seq (.reg [⟨some 27, .mv (.t 6), none⟩,
     ⟨some 28, .iadr 1 (.t 27) (.c (Value.int IntKind.i64 0)), none⟩,
     ⟨some 29, .load (none) (.t 28), none⟩,
     ⟨some 30, .bin .eql (.t 29) (.c (Value.int IntKind.i64 1)), none⟩,
     ⟨some 8, .mv (.t 30), none⟩] [2, 3, 6, 7, 8, 13, 14, 15])
   (.block 2 (.seq (.reg [⟨some 32, .mv (.t 8), none⟩,
      ⟨some 33, .mv (.t 32), none⟩,
      ⟨some 34, .mv (.t 7), some (33, true)⟩,
      ⟨some 35, .bin .geq (.t 34) (.c (Value.int IntKind.i64 0)), some (33, true)⟩,
      ⟨some 36, .mv (.t 35), some (33, true)⟩,
      ⟨some 37, .mv (.t 6), some (36, false)⟩,
      ⟨some 38, .iadr 1 (.t 37) (.c (Value.int IntKind.i64 1)), some (36, false)⟩,
      ⟨some 39, .load (none) (.t 38), some (36, false)⟩,
      ⟨some 40, .bin .neq (.t 39) (.c (Value.int IntKind.i64 (-1))), some (36, false)⟩,
      ⟨some 41, .pick (.t 36) (.c (Value.bool true)) (.t 40), some (33, true)⟩,
      ⟨some 42, .pick (.t 33) (.t 41) (.c (Value.bool false)), none⟩,
      ⟨some 31, .mv (.t 42), none⟩] [2, 3, 6, 7, 8, 13, 14, 15, 31])
    (.cond (.t 31) (.seq (.reg [⟨some 4, .mv (.c (Value.bool false)), none⟩] [4])
     (.ret))
     (.seq (.reg [⟨some 44, .mv (.t 8), none⟩,
       ⟨some 45, .un .not (.t 44), none⟩,
       ⟨some 46, .mv (.t 45), none⟩,
       ⟨some 47, .mv (.t 7), some (46, true)⟩,
       ⟨some 48, .bin .lss (.t 47) (.c (Value.int IntKind.i64 0)), some (46, true)⟩,
       ⟨some 49, .mv (.t 48), some (46, true)⟩,
       ⟨some 50, .mv (.t 6), some (49, false)⟩,
       ⟨some 51, .iadr 1 (.t 50) (.c (Value.int IntKind.i64 1)), some (49, false)⟩,
       ⟨some 52, .load (none) (.t 51), some (49, false)⟩,
       ⟨some 53, .mv (.t 7), some (49, false)⟩,
       ⟨some 54, .bin .neq (.t 52) (.t 53), some (49, false)⟩,
       ⟨some 55, .pick (.t 49) (.c (Value.bool true)) (.t 54), some (46, true)⟩,
       ⟨some 56, .pick (.t 46) (.t 55) (.c (Value.bool false)), none⟩,
       ⟨some 43, .mv (.t 56), none⟩] [2, 3, 13, 14, 15, 43])
     (.cond (.t 43) (.seq (.reg [⟨some 4, .mv (.c (Value.bool false)), none⟩] [4])
      (.ret))
      (.skip))))))))))
  (.reg [⟨some 57, .bin .add (.t 15) (.c (Value.int IntKind.i64 1)), none⟩,
    ⟨some 15, .mv (.t 57), none⟩] [2, 3, 13, 14, 15])))

def m_cluster_Legit : MF := ⟨58, [.tmp 4], true, (
  .seq (.reg [⟨some 2, .box 2 (.t 0), none⟩,
    ⟨some 3, .box 1 (.t 1), none⟩,
    ⟨some 4, .mv (.c (Value.bool false)), none⟩] [2, 3])
  (.seq (.seq (.reg [⟨some 9, .load (some 2) (.t 2), none⟩,
    ⟨some 10, .load (none) (.t 3), none⟩,
    ⟨some 11, .call 34 [.t 9, .t 10], none⟩,
    ⟨some 12, .un .not (.t 11), none⟩] [2, 3, 12])
  (.cond (.t 12) (.seq (.reg [⟨some 4, .mv (.c (Value.bool false)), none⟩] [4])
   (.ret))
   (.skip)))
  (.seq (.seq (.reg [⟨some 13, .load (none) (.t 3), none⟩,
    ⟨some 14, .len 1 (.t 13), none⟩,
    ⟨some 15, .mv (.c (Value.int IntKind.i64 0)), none⟩] [2, 3, 13, 14, 15])
  (.block 0 (.loop [2, 3, 13, 14, 15] m_cluster_Legit_L0)))
  (.seq (.reg [⟨some 4, .mv (.c (Value.bool true)), none⟩] [4])
  (.ret)))))⟩

-- 6 selfstab/selfstabref34.Legit
def m_selfstabref34_Legit_L1 : MC :=
  .seq (.seq (.reg [⟨some 38, .mv (.t 7), none⟩,
    ⟨some 39, .bin .geq (.t 38) (.c (Value.int IntKind.i64 0)), none⟩,
    ⟨some 40, .mv (.t 39), none⟩,
    ⟨some 41, .mv (.t 1), some (40, true)⟩,
    ⟨some 42, .mv (.t 5), some (40, true)⟩,
    ⟨some 43, .iadr 1 (.t 41) (.t 42), some (40, true)⟩,
    ⟨some 44, .load (none) (.t 43), some (40, true)⟩,
    ⟨some 45, .iadr 1 (.t 44) (.c (Value.int IntKind.i64 0)), some (40, true)⟩,
    ⟨some 46, .load (none) (.t 45), some (40, true)⟩,
    ⟨some 47, .bin .eql (.t 46) (.c (Value.int IntKind.i64 0)), some (40, true)⟩,
    ⟨some 48, .pick (.t 40) (.t 47) (.c (Value.bool false)), none⟩] [1, 2, 5, 6, 7, 48])
  (.cond (.t 48) (.skip)
   (.exit 2)))
  (.seq (.block 3 (.seq (.reg [⟨some 51, .mv (.t 1), none⟩,
     ⟨some 52, .fadr 1 (.t 2), none⟩,
     ⟨some 53, .load (none) (.t 52), none⟩,
     ⟨some 54, .mv (.t 5), none⟩,
     ⟨some 55, .iadr 1 (.t 53) (.t 54), none⟩,
     ⟨some 56, .load (none) (.t 55), none⟩,
     ⟨some 57, .mv (.t 7), none⟩,
     ⟨some 58, .iadr 2 (.t 56) (.t 57), none⟩,
     ⟨some 59, .fadr 0 (.t 58), none⟩,
     ⟨some 60, .load (none) (.t 59), none⟩,
     ⟨some 61, .iadr 1 (.t 51) (.t 60), none⟩,
     ⟨some 62, .load (none) (.t 61), none⟩,
     ⟨some 63, .iadr 1 (.t 62) (.c (Value.int IntKind.i64 0)), none⟩,
     ⟨some 64, .load (none) (.t 63), none⟩,
     ⟨some 65, .bin .eql (.t 64) (.c (Value.int IntKind.i64 1)), none⟩] [1, 2, 5, 6, 7, 65])
   (.cond (.t 65) (.reg [⟨some 66, .mv (.t 7), none⟩,
      ⟨some 6, .mv (.t 66), none⟩] [1, 2, 5, 6, 7])
    (.skip))))
  (.reg [⟨some 49, .mv (.t 7), none⟩,
    ⟨some 50, .bin .sub (.t 49) (.c (Value.int IntKind.i64 1)), none⟩,
    ⟨some 7, .mv (.t 50), none⟩] [1, 2, 5, 6, 7]))

def m_selfstabref34_Legit_L0 : MC :=
  .seq (.seq (.reg [⟨some 25, .mv (.t 5), none⟩,
    ⟨some 26, .mv (.t 1), none⟩,
    ⟨some 27, .len 1 (.t 26), none⟩,
    ⟨some 28, .bin .lss (.t 25) (.t 27), none⟩] [1, 2, 5, 28])
  (.cond (.t 28) (.skip)
   (.exit 0)))
  (.seq (.block 1 (.seq (.reg [⟨some 6, .mv (.c (Value.int IntKind.i64 (-1))), none⟩] [1, 2, 5, 6])
   (.seq (.seq (.reg [⟨some 31, .fadr 1 (.t 2), none⟩,
     ⟨some 32, .load (none) (.t 31), none⟩,
     ⟨some 33, .mv (.t 5), none⟩,
     ⟨some 34, .iadr 1 (.t 32) (.t 33), none⟩,
     ⟨some 35, .load (none) (.t 34), none⟩,
     ⟨some 36, .len 1 (.t 35), none⟩,
     ⟨some 37, .bin .sub (.t 36) (.c (Value.int IntKind.i64 1)), none⟩,
     ⟨some 7, .mv (.t 37), none⟩] [1, 2, 5, 6, 7])
   (.block 2 (.loop [1, 2, 5, 6, 7] m_selfstabref34_Legit_L1)))
   (.seq (.reg [⟨some 67, .mv (.t 1), none⟩,
     ⟨some 68, .mv (.t 5), none⟩,
     ⟨some 69, .iadr 1 (.t 67) (.t 68), none⟩,
     ⟨some 70, .load (none) (.t 69), none⟩,
     ⟨some 71, .iadr 1 (.t 70) (.c (Value.int IntKind.i64 1)), none⟩,
     ⟨some 72, .load (none) (.t 71), none⟩,
     ⟨some 73, .mv (.t 6), none⟩,
     ⟨some 74, .bin .neq (.t 72) (.t 73), none⟩] [1, 2, 5, 74])
   (.cond (.t 74) (.seq (.reg [⟨some 4, .mv (.c (Value.bool false)), none⟩] [4])
    (.ret))
    (.skip))))))
  (.reg [⟨some 29, .mv (.t 5), none⟩,
    ⟨some 30, .bin .add (.t 29) (.c (Value.int IntKind.i64 1)), none⟩,
    ⟨some 5, .mv (.t 30), none⟩] [1, 2, 5]))

def m_selfstabref34_Legit : MF := ⟨75, [.tmp 4], true, (
  .seq (.reg [⟨some 2, .box 2 (.t 0), none⟩,
    ⟨some 4, .mv (.c (Value.bool false)), none⟩] [1, 2])
  (.seq (.seq (.reg [⟨some 8, .load (some 2) (.t 2), none⟩,
    ⟨some 9, .call 4 [.t 8], none⟩,
    ⟨some 10, .un .not (.t 9), none⟩,
    ⟨some 11, .mv (.t 10), none⟩,
    ⟨some 12, .load (some 2) (.t 2), some (11, false)⟩,
    ⟨some 13, .mv (.t 1), some (11, false)⟩,
    ⟨some 14, .call 37 [], some (11, false)⟩,
    ⟨some 15, .call 38 [.t 12, .t 13, .t 14], some (11, false)⟩,
    ⟨some 16, .un .not (.t 15), some (11, false)⟩,
    ⟨some 17, .pick (.t 11) (.c (Value.bool true)) (.t 16), none⟩,
    ⟨some 18, .mv (.t 17), none⟩,
    ⟨some 19, .load (some 2) (.t 2), some (18, false)⟩,
    ⟨some 20, .mv (.t 1), some (18, false)⟩,
    ⟨some 21, .call 39 [.t 20, .c (Value.int IntKind.i64 0)], some (18, false)⟩,
    ⟨some 22, .call 40 [.t 19, .t 21], some (18, false)⟩,
    ⟨some 23, .un .not (.t 22), some (18, false)⟩,
    ⟨some 24, .pick (.t 18) (.c (Value.bool true)) (.t 23), none⟩] [1, 2, 24])
  (.cond (.t 24) (.seq (.reg [⟨some 4, .mv (.c (Value.bool false)), none⟩] [4])
   (.ret))
   (.skip)))
  (.seq (.seq (.reg [⟨some 5, .mv (.c (Value.int IntKind.i64 0)), none⟩] [1, 2, 5])
  (.block 0 (.loop [1, 2, 5] m_selfstabref34_Legit_L0)))
  (.seq (.reg [⟨some 4, .mv (.c (Value.bool true)), none⟩] [4])
  (.ret)))))⟩

-- 7 selfstab/cluster.Claim
def m_cluster_Claim : MF := ⟨20, [.cell 2 (some 5)], true, (
  .seq (.reg [⟨some 1, .box 2 (.t 0), none⟩,
    ⟨some 2, .new [.v (Value.int .i64 0), .v (Value.bool false), .v (Value.bool false), .v (Value.int .i64 0), .v (Value.int .i64 0)], none⟩] [1, 2])
  (.seq (.seq (.reg [⟨some 5, .load (some 2) (.t 1), none⟩,
    ⟨some 6, .call 3 [.t 5], none⟩,
    ⟨some 7, .un .not (.t 6), none⟩] [1, 2, 7])
  (.cond (.t 7) (.seq (.reg [⟨some 8, .build [.v (Value.int .i64 0), .v (Value.bool false), .v (Value.bool false), .v (Value.int .i64 0), .v (Value.int .i64 0)] [], none⟩,
     ⟨none, .store 5 (.t 2) (.t 8), none⟩] [2])
   (.ret))
   (.skip)))
  (.seq (.reg [⟨some 10, .load (some 2) (.t 1), none⟩,
    ⟨some 11, .call 41 [.t 10], none⟩,
    ⟨some 9, .mv (.t 11), none⟩,
    ⟨some 12, .ext (.t 9) 0, none⟩,
    ⟨some 13, .ext (.t 9) 1, none⟩,
    ⟨some 3, .mv (.t 12), none⟩,
    ⟨some 4, .mv (.t 13), none⟩] [2, 3, 4])
  (.seq (.reg [⟨some 14, .mv (.t 3), none⟩,
    ⟨some 15, .bin .mul (.c (Value.int IntKind.i64 5)) (.t 14), none⟩,
    ⟨some 16, .mv (.t 4), none⟩,
    ⟨some 17, .bin .mul (.c (Value.int IntKind.i64 4)) (.t 16), none⟩,
    ⟨some 18, .bin .add (.t 15) (.t 17), none⟩,
    ⟨some 19, .build [.v (Value.int .i64 0), .v (Value.bool false), .v (Value.bool false), .v (Value.int .i64 0), .v (Value.int .i64 0)] [(0, 1, (.c (Value.int IntKind.i64 2))), (2, 1, (.c (Value.bool true))), (3, 1, (.c (Value.int IntKind.i64 3))), (4, 1, (.t 18))], none⟩,
    ⟨none, .store 5 (.t 2) (.t 19), none⟩] [2])
  (.ret)))))⟩

-- 8 selfstab/selfstabref34.Claim
def m_selfstabref34_Claim : MF := ⟨20, [.cell 2 (some 5)], true, (
  .seq (.reg [⟨some 1, .box 2 (.t 0), none⟩,
    ⟨some 2, .new [.v (Value.int .i64 0), .v (Value.bool false), .v (Value.bool false), .v (Value.int .i64 0), .v (Value.int .i64 0)], none⟩] [1, 2])
  (.seq (.seq (.reg [⟨some 5, .load (some 2) (.t 1), none⟩,
    ⟨some 6, .call 4 [.t 5], none⟩,
    ⟨some 7, .un .not (.t 6), none⟩] [1, 2, 7])
  (.cond (.t 7) (.seq (.reg [⟨some 8, .build [.v (Value.int .i64 0), .v (Value.bool false), .v (Value.bool false), .v (Value.int .i64 0), .v (Value.int .i64 0)] [], none⟩,
     ⟨none, .store 5 (.t 2) (.t 8), none⟩] [2])
   (.ret))
   (.skip)))
  (.seq (.reg [⟨some 10, .load (some 2) (.t 1), none⟩,
    ⟨some 11, .call 42 [.t 10], none⟩,
    ⟨some 9, .mv (.t 11), none⟩,
    ⟨some 12, .ext (.t 9) 0, none⟩,
    ⟨some 13, .ext (.t 9) 1, none⟩,
    ⟨some 3, .mv (.t 12), none⟩,
    ⟨some 4, .mv (.t 13), none⟩] [2, 3, 4])
  (.seq (.reg [⟨some 14, .mv (.t 3), none⟩,
    ⟨some 15, .bin .mul (.c (Value.int IntKind.i64 5)) (.t 14), none⟩,
    ⟨some 16, .mv (.t 4), none⟩,
    ⟨some 17, .bin .mul (.c (Value.int IntKind.i64 4)) (.t 16), none⟩,
    ⟨some 18, .bin .add (.t 15) (.t 17), none⟩,
    ⟨some 19, .build [.v (Value.int .i64 0), .v (Value.bool false), .v (Value.bool false), .v (Value.int .i64 0), .v (Value.int .i64 0)] [(0, 1, (.c (Value.int IntKind.i64 2))), (2, 1, (.c (Value.bool true))), (3, 1, (.c (Value.int IntKind.i64 3))), (4, 1, (.t 18))], none⟩,
    ⟨none, .store 5 (.t 2) (.t 19), none⟩] [2])
  (.ret)))))⟩

-- 11 selfstab/selfstablaw34.sameInts
def m_selfstablaw34_sameInts_L0 : MC :=
  .seq (.seq (.reg [⟨some 11, .mv (.t 5), none⟩,
    ⟨some 12, .mv (.t 0), none⟩,
    ⟨some 13, .len 1 (.t 12), none⟩,
    ⟨some 14, .bin .lss (.t 11) (.t 13), none⟩] [0, 1, 5, 14])
  (.cond (.t 14) (.skip)
   (.exit 0)))
  (.seq (.block 1 (.seq (.reg [⟨some 17, .mv (.t 0), none⟩,
     ⟨some 18, .mv (.t 5), none⟩,
     ⟨some 19, .iadr 1 (.t 17) (.t 18), none⟩,
     ⟨some 20, .load (none) (.t 19), none⟩,
     ⟨some 21, .mv (.t 1), none⟩,
     ⟨some 22, .mv (.t 5), none⟩,
     ⟨some 23, .iadr 1 (.t 21) (.t 22), none⟩,
     ⟨some 24, .load (none) (.t 23), none⟩,
     ⟨some 25, .bin .neq (.t 20) (.t 24), none⟩] [0, 1, 5, 25])
   (.cond (.t 25) (.seq (.reg [⟨some 4, .mv (.c (Value.bool false)), none⟩] [4])
    (.ret))
    (.skip))))
  (.reg [⟨some 15, .mv (.t 5), none⟩,
    ⟨some 16, .bin .add (.t 15) (.c (Value.int IntKind.i64 1)), none⟩,
    ⟨some 5, .mv (.t 16), none⟩] [0, 1, 5]))

def m_selfstablaw34_sameInts : MF := ⟨26, [.tmp 4], true, (
  .seq (.reg [⟨some 4, .mv (.c (Value.bool false)), none⟩] [0, 1])
  (.seq (.seq (.reg [⟨some 6, .mv (.t 0), none⟩,
    ⟨some 7, .len 1 (.t 6), none⟩,
    ⟨some 8, .mv (.t 1), none⟩,
    ⟨some 9, .len 1 (.t 8), none⟩,
    ⟨some 10, .bin .neq (.t 7) (.t 9), none⟩] [0, 1, 10])
  (.cond (.t 10) (.seq (.reg [⟨some 4, .mv (.c (Value.bool false)), none⟩] [4])
   (.ret))
   (.skip)))
  (.seq (.seq (.reg [⟨some 5, .mv (.c (Value.int IntKind.i64 0)), none⟩] [0, 1, 5])
  (.block 0 (.loop [0, 1, 5] m_selfstablaw34_sameInts_L0)))
  (.seq (.reg [⟨some 4, .mv (.c (Value.bool true)), none⟩] [4])
  (.ret)))))⟩

-- 9 selfstab/cluster.Heads
def m_cluster_Heads_L0 : MC :=
  .seq (.reg [⟨some 18, .bin .lss (.t 17) (.t 16), none⟩] [2, 5, 15, 16, 17, 18])
  (.seq (.cond (.t 18) (.skip)
   (.exit 0))
  (.seq (.block 1 (.seq (.reg [⟨some 19, .mv (.t 17), none⟩,
     ⟨some 20, .iadr 1 (.t 15) (.t 17), none⟩,
     ⟨some 21, .load (none) (.t 20), none⟩,
     ⟨some 6, .mv (.t 19), none⟩,
     ⟨some 7, .mv (.t 21), none⟩] [2, 5, 6, 7, 15, 16, 17])
   (.seq (.reg [⟨some 22, .mv (.t 5), none⟩,
     ⟨some 23, .mv (.t 6), none⟩,
     ⟨some 24, .mv (.t 6), none⟩,
     ⟨some 25, .iadr 1 (.t 22) (.t 23), none⟩,
     ⟨none, .store 1 (.t 25) (.t 24), none⟩] [2, 5, 6, 7, 15, 16, 17])
   (.seq (.reg [⟨some 26, .mv (.t 7), none⟩,
     ⟨some 27, .iadr 1 (.t 26) (.c (Value.int IntKind.i64 0)), none⟩,
     ⟨some 28, .load (none) (.t 27), none⟩,
     ⟨some 29, .bin .eql (.t 28) (.c (Value.int IntKind.i64 0)), none⟩] [2, 5, 6, 7, 15, 16, 17, 29])
   (.cond (.t 29) (.reg [⟨some 30, .mv (.t 5), none⟩,
      ⟨some 31, .mv (.t 6), none⟩,
      ⟨some 32, .load (some 2) (.t 2), none⟩,
      ⟨some 33, .mv (.t 6), none⟩,
      ⟨some 34, .mv (.t 7), none⟩,
      ⟨some 35, .iadr 1 (.t 34) (.c (Value.int IntKind.i64 1)), none⟩,
      ⟨some 36, .load (none) (.t 35), none⟩,
      ⟨some 37, .call 43 [.t 32, .t 33, .t 36], none⟩,
      ⟨some 38, .iadr 1 (.t 30) (.t 31), none⟩,
      ⟨none, .store 1 (.t 38) (.t 37), none⟩] [2, 5, 15, 16, 17])
    (.skip))))))
  (.reg [⟨some 39, .bin .add (.t 17) (.c (Value.int IntKind.i64 1)), none⟩,
    ⟨some 17, .mv (.t 39), none⟩] [2, 5, 15, 16, 17])))

def m_cluster_Heads : MF := ⟨41, [.tmp 4], true, (
  .seq (.reg [⟨some 2, .box 2 (.t 0), none⟩,
    ⟨some 4, .mv (.c (Value.slice none 0 0)), none⟩] [1, 2])
  (.seq (.seq (.reg [⟨some 8, .load (some 2) (.t 2), none⟩,
    ⟨some 9, .mv (.t 1), none⟩,
    ⟨some 10, .call 34 [.t 8, .t 9], none⟩,
    ⟨some 11, .un .not (.t 10), none⟩] [1, 2, 11])
  (.cond (.t 11) (.seq (.reg [⟨some 4, .mv (.c (Value.slice none 0 0)), none⟩] [4])
   (.ret))
   (.skip)))
  (.seq (.reg [⟨some 12, .mv (.t 1), none⟩,
    ⟨some 13, .len 1 (.t 12), none⟩,
    ⟨some 14, .mks 1 8 [.v (Value.int .i64 0)] (.t 13) (.t 13), none⟩,
    ⟨some 5, .mv (.t 14), none⟩] [1, 2, 5])
  (.seq (.seq (.reg [⟨some 15, .mv (.t 1), none⟩,
    ⟨some 16, .len 1 (.t 15), none⟩,
    ⟨some 17, .mv (.c (Value.int IntKind.i64 0)), none⟩] [2, 5, 15, 16, 17])
  (.block 0 (.loop [2, 5, 15, 16, 17] m_cluster_Heads_L0)))
  (.seq (.reg [⟨some 40, .mv (.t 5), none⟩,
    ⟨some 4, .mv (.t 40), none⟩] [4])
  (.ret))))))⟩

-- 10 selfstab/selfstabref34.Heads
def m_selfstabref34_Heads_L0 : MC :=
  .seq (.seq (.reg [⟨some 20, .mv (.t 6), none⟩,
    ⟨some 21, .mv (.t 1), none⟩,
    ⟨some 22, .len 1 (.t 21), none⟩,
    ⟨some 23, .bin .lss (.t 20) (.t 22), none⟩] [1, 5, 6, 23])
  (.cond (.t 23) (.skip)
   (.exit 0)))
  (.seq (.block 1 (.seq (.reg [⟨some 26, .mv (.t 1), none⟩,
     ⟨some 27, .mv (.t 6), none⟩,
     ⟨some 28, .iadr 1 (.t 26) (.t 27), none⟩,
     ⟨some 29, .load (none) (.t 28), none⟩,
     ⟨some 30, .iadr 1 (.t 29) (.c (Value.int IntKind.i64 0)), none⟩,
     ⟨some 31, .load (none) (.t 30), none⟩,
     ⟨some 32, .bin .eql (.t 31) (.c (Value.int IntKind.i64 1)), none⟩] [1, 5, 6, 32])
   (.cond (.t 32) (.reg [⟨some 33, .mv (.t 5), none⟩,
      ⟨some 34, .mv (.t 6), none⟩,
      ⟨some 35, .mv (.t 6), none⟩,
      ⟨some 36, .iadr 1 (.t 33) (.t 34), none⟩,
      ⟨none, .store 1 (.t 36) (.t 35), none⟩] [1, 5, 6])
    (.skip))))
  (.reg [⟨some 24, .mv (.t 6), none⟩,
    ⟨some 25, .bin .add (.t 24) (.c (Value.int IntKind.i64 1)), none⟩,
    ⟨some 6, .mv (.t 25), none⟩] [1, 5, 6]))

def m_selfstabref34_Heads : MF := ⟨38, [.tmp 4], true, (
  .seq (.reg [⟨some 2, .box 2 (.t 0), none⟩,
    ⟨some 4, .mv (.c (Value.slice none 0 0)), none⟩] [1, 2])
  (.seq (.seq (.reg [⟨some 7, .load (some 2) (.t 2), none⟩,
    ⟨some 8, .call 4 [.t 7], none⟩,
    ⟨some 9, .un .not (.t 8), none⟩,
    ⟨some 10, .mv (.t 9), none⟩,
    ⟨some 11, .load (some 2) (.t 2), some (10, false)⟩,
    ⟨some 12, .mv (.t 1), some (10, false)⟩,
    ⟨some 13, .call 37 [], some (10, false)⟩,
    ⟨some 14, .call 38 [.t 11, .t 12, .t 13], some (10, false)⟩,
    ⟨some 15, .un .not (.t 14), some (10, false)⟩,
    ⟨some 16, .pick (.t 10) (.c (Value.bool true)) (.t 15), none⟩] [1, 2, 16])
  (.cond (.t 16) (.seq (.reg [⟨some 4, .mv (.c (Value.slice none 0 0)), none⟩] [4])
   (.ret))
   (.skip)))
  (.seq (.reg [⟨some 17, .load (some 2) (.t 2), none⟩,
    ⟨some 18, .mv (.t 1), none⟩,
    ⟨some 19, .call 44 [.t 17, .t 18, .c (Value.int IntKind.i64 1)], none⟩,
    ⟨some 5, .mv (.t 19), none⟩] [1, 5])
  (.seq (.seq (.reg [⟨some 6, .mv (.c (Value.int IntKind.i64 0)), none⟩] [1, 5, 6])
  (.block 0 (.loop [1, 5, 6] m_selfstabref34_Heads_L0)))
  (.seq (.reg [⟨some 37, .mv (.t 5), none⟩,
    ⟨some 4, .mv (.t 37), none⟩] [4])
  (.ret))))))⟩

-- 31 (selfstab/selfstabworld.Net).Tree
def m_selfstabworld_Net_Tree_L0 : MC :=
  .seq (.seq (.reg [⟨some 10, .mv (.t 6), none⟩,
    ⟨some 11, .fadr 1 (.t 5), none⟩,
    ⟨some 12, .load (none) (.t 11), none⟩,
    ⟨some 13, .len 1 (.t 12), none⟩,
    ⟨some 14, .bin .lss (.t 10) (.t 13), none⟩] [2, 4, 5, 6, 14])
  (.cond (.t 14) (.skip)
   (.exit 0)))
  (.seq (.block 1 (.reg [⟨some 17, .load (some 6) (.t 2), none⟩,
     ⟨some 18, .load (some 2) (.t 5), none⟩,
     ⟨some 19, .fadr 1 (.t 2), none⟩,
     ⟨some 20, .load (none) (.t 19), none⟩,
     ⟨some 21, .mv (.t 6), none⟩,
     ⟨some 22, .bin .sub (.t 21) (.c (Value.int IntKind.i64 1)), none⟩,
     ⟨some 23, .call 57 [.t 20, .t 22], none⟩,
     ⟨some 24, .mv (.t 6), none⟩,
     ⟨some 25, .call 58 [.t 23, .t 24], none⟩,
     ⟨some 26, .mv (.t 6), none⟩,
     ⟨some 27, .fadr 2 (.t 2), none⟩,
     ⟨some 28, .load (none) (.t 27), none⟩,
     ⟨some 29, .mv (.t 6), none⟩,
     ⟨some 30, .bin .sub (.t 29) (.c (Value.int IntKind.i64 1)), none⟩,
     ⟨some 31, .call 57 [.t 28, .t 30], none⟩,
     ⟨some 32, .call 58 [.t 31, .c (Value.int IntKind.i64 15)], none⟩,
     ⟨some 33, .bin .add (.c (Value.int IntKind.i64 1)) (.t 32), none⟩,
     ⟨some 34, .call 59 [.t 17, .t 18, .t 25, .t 26, .t 33], none⟩] [2, 4, 5, 6]))
  (.reg [⟨some 15, .mv (.t 6), none⟩,
    ⟨some 16, .bin .add (.t 15) (.c (Value.int IntKind.i64 1)), none⟩,
    ⟨some 6, .mv (.t 16), none⟩] [2, 4, 5, 6]))

def m_selfstabworld_Net_Tree : MF := ⟨36, [.cell 4 (some 2)], true, (
  .seq (.reg [⟨some 2, .box 6 (.t 0), none⟩,
    ⟨some 4, .new [.v (Value.slice none 0 0), .v (Value.slice none 0 0)], none⟩] [1, 2, 4])
  (.seq (.reg [⟨some 7, .load (some 6) (.t 2), none⟩,
    ⟨some 8, .mv (.t 1), none⟩,
    ⟨some 9, .call 56 [.t 7, .t 8], none⟩,
    ⟨some 5, .alloc [.v (Value.slice none 0 0), .v (Value.slice none 0 0)], none⟩,
    ⟨none, .store 2 (.t 5) (.t 9), none⟩] [2, 4, 5])
  (.seq (.seq (.reg [⟨some 6, .mv (.c (Value.int IntKind.i64 1)), none⟩] [2, 4, 5, 6])
  (.block 0 (.loop [2, 4, 5, 6] m_selfstabworld_Net_Tree_L0)))
  (.seq (.reg [⟨some 35, .load (some 2) (.t 5), none⟩,
    ⟨none, .store 2 (.t 4) (.t 35), none⟩] [4])
  (.ret)))))⟩

-- 32 selfstab/graph.Valid
def m_graph_Valid_L3 : MC :=
  .seq (.cond (.t 112) (.skip)
   (.exit 6))
  (.block 7 (.seq (.reg [⟨some 113, .ent (.t 110), none⟩,
     ⟨some 114, .ext (.t 113) 0, none⟩,
     ⟨some 115, .ext (.t 113) 1, none⟩,
     ⟨some 13, .alloc [.v (Value.int .i64 0), .v (Value.int .i64 0)], none⟩,
     ⟨none, .store 2 (.t 13) (.t 114), none⟩,
     ⟨some 14, .mv (.t 115), none⟩] [7, 13, 14, 110])
   (.seq (.reg [⟨some 116, .mv (.t 7), none⟩,
     ⟨some 117, .fadr 1 (.t 13), none⟩,
     ⟨some 118, .load (none) (.t 117), none⟩,
     ⟨some 119, .fadr 0 (.t 13), none⟩,
     ⟨some 120, .load (none) (.t 119), none⟩,
     ⟨some 121, .build [.v (Value.int .i64 0), .v (Value.int .i64 0)] [(0, 1, (.t 118)), (1, 1, (.t 120))], none⟩,
     ⟨some 122, .look true [0, 0] (.v (Value.int .i64 0)) false (.t 116) (.t 121), none⟩,
     ⟨some 123, .mv (.t 14), none⟩,
     ⟨some 124, .bin .neq (.t 122) (.t 123), none⟩] [7, 110, 124])
   (.cond (.t 124) (.seq (.reg [⟨some 2, .mv (.c (Value.bool false)), none⟩] [2])
    (.ret))
    (.skip)))))

def m_graph_Valid_L2 : MC :=
  .seq (.reg [⟨some 65, .bin .lss (.t 64) (.t 63), none⟩] [3, 7, 8, 55, 56, 57, 62, 63, 64, 65])
  (.seq (.cond (.t 65) (.skip)
   (.exit 4))
  (.seq (.block 5 (.seq (.reg [⟨some 66, .iadr 2 (.t 62) (.t 64), none⟩,
     ⟨some 67, .load (some 2) (.t 66), none⟩,
     ⟨some 11, .alloc [.v (Value.int .i64 0), .v (Value.int .i64 0)], none⟩,
     ⟨none, .store 2 (.t 11) (.t 67), none⟩] [3, 7, 8, 11, 55, 56, 57, 62, 63, 64])
   (.seq (.reg [⟨some 68, .mv (.t 8), none⟩,
     ⟨some 69, .fadr 0 (.t 11), none⟩,
     ⟨some 70, .load (none) (.t 69), none⟩,
     ⟨some 71, .build [.v (Value.int .i64 0), .v (Value.int .i64 0)] [(0, 1, (.t 68)), (1, 1, (.t 70))], none⟩,
     ⟨some 12, .alloc [.v (Value.int .i64 0), .v (Value.int .i64 0)], none⟩,
     ⟨none, .store 2 (.t 12) (.t 71), none⟩] [3, 7, 8, 11, 12, 55, 56, 57, 62, 63, 64])
   (.seq (.seq (.reg [⟨some 72, .fadr 0 (.t 11), none⟩,
     ⟨some 73, .load (none) (.t 72), none⟩,
     ⟨some 74, .bin .lss (.t 73) (.c (Value.int IntKind.i64 0)), none⟩,
     ⟨some 75, .mv (.t 74), none⟩,
     ⟨some 76, .fadr 0 (.t 11), some (75, false)⟩,
     ⟨some 77, .load (none) (.t 76), some (75, false)⟩,
     ⟨some 78, .mv (.t 3), some (75, false)⟩,
     ⟨some 79, .bin .geq (.t 77) (.t 78), some (75, false)⟩,
     ⟨some 80, .pick (.t 75) (.c (Value.bool true)) (.t 79), none⟩,
     ⟨some 81, .mv (.t 80), none⟩,
     ⟨some 82, .fadr 0 (.t 11), some (81, false)⟩,
     ⟨some 83, .load (none) (.t 82), some (81, false)⟩,
     ⟨some 84, .mv (.t 8), some (81, false)⟩,
     ⟨some 85, .bin .eql (.t 83) (.t 84), some (81, false)⟩,
     ⟨some 86, .pick (.t 81) (.c (Value.bool true)) (.t 85), none⟩,
     ⟨some 87, .mv (.t 86), none⟩,
     ⟨some 88, .fadr 1 (.t 11), some (87, false)⟩,
     ⟨some 89, .load (none) (.t 88), some (87, false)⟩,
     ⟨some 90, .bin .lss (.t 89) (.c (Value.int IntKind.i64 1)), some (87, false)⟩,
     ⟨some 91, .pick (.t 87) (.c (Value.bool true)) (.t 90), none⟩,
     ⟨some 92, .mv (.t 91), none⟩,
     ⟨some 93, .fadr 1 (.t 11), some (92, false)⟩,
     ⟨some 94, .load (none) (.t 93), some (92, false)⟩,
     ⟨some 95, .bin .gtr (.t 94) (.c (Value.int IntKind.i64 15)), some (92, false)⟩,
     ⟨some 96, .pick (.t 92) (.c (Value.bool true)) (.t 95), none⟩,
     ⟨some 97, .mv (.t 96), none⟩,
     ⟨some 98, .mv (.t 7), some (97, false)⟩,
     ⟨some 99, .load (some 2) (.t 12), some (97, false)⟩,
     ⟨some 100, .look true [0, 0] (.v (Value.int .i64 0)) false (.t 98) (.t 99), some (97, false)⟩,
     ⟨some 101, .bin .neq (.t 100) (.c (Value.int IntKind.i64 0)), some (97, false)⟩,
     ⟨some 102, .pick (.t 97) (.c (Value.bool true)) (.t 101), none⟩] [3, 7, 8, 11, 12, 55, 56, 57, 62, 63, 64, 102])
   (.cond (.t 102) (.seq (.reg [⟨some 2, .mv (.c (Value.bool false)), none⟩] [2])
    (.ret))
    (.skip)))
   (.reg [⟨some 103, .mv (.t 7), none⟩,
     ⟨some 104, .load (some 2) (.t 12), none⟩,
     ⟨some 105, .fadr 1 (.t 11), none⟩,
     ⟨some 106, .load (none) (.t 105), none⟩,
     ⟨none, .mput true [0, 0] (.t 103) (.t 104) (.t 106), none⟩] [3, 7, 8, 55, 56, 57, 62, 63, 64])))))
  (.reg [⟨some 107, .bin .add (.t 64) (.c (Value.int IntKind.i64 1)), none⟩,
    ⟨some 64, .mv (.t 107), none⟩] [3, 7, 8, 55, 56, 57, 62, 63, 64])))

def m_graph_Valid_L1 : MC :=
  .seq (.reg [⟨some 58, .bin .lss (.t 57) (.t 56), none⟩] [3, 7, 55, 56, 57, 58])
  (.seq (.cond (.t 58) (.skip)
   (.exit 2))
  (.seq (.block 3 (.seq (.reg [⟨some 59, .mv (.t 57), none⟩,
     ⟨some 60, .iadr 1 (.t 55) (.t 57), none⟩,
     ⟨some 61, .load (none) (.t 60), none⟩,
     ⟨some 8, .mv (.t 59), none⟩,
     ⟨some 9, .mv (.t 61), none⟩] [3, 7, 8, 9, 55, 56, 57])
   (.seq (.reg [⟨some 62, .mv (.t 9), none⟩,
     ⟨some 63, .len 1 (.t 62), none⟩,
     ⟨some 64, .mv (.c (Value.int IntKind.i64 0)), none⟩] [3, 7, 8, 55, 56, 57, 62, 63, 64])
   (.block 4 (.loop [3, 7, 8, 55, 56, 57, 62, 63, 64] m_graph_Valid_L2)))))
  (.reg [⟨some 108, .bin .add (.t 57) (.c (Value.int IntKind.i64 1)), none⟩,
    ⟨some 57, .mv (.t 108), none⟩] [3, 7, 55, 56, 57])))

def m_graph_Valid_L0 : MC :=
  .seq (.reg [⟨some 36, .bin .lss (.t 35) (.t 34), none⟩] [1, 3, 4, 33, 34, 35, 36])
  (.seq (.cond (.t 36) (.skip)
   (.exit 0))
  (.seq (.block 1 (.seq (.reg [⟨some 37, .iadr 1 (.t 33) (.t 35), none⟩,
     ⟨some 38, .load (none) (.t 37), none⟩,
     ⟨some 6, .mv (.t 38), none⟩] [1, 3, 4, 6, 33, 34, 35])
   (.seq (.seq (.reg [⟨some 39, .mv (.t 6), none⟩,
     ⟨some 40, .bin .lss (.t 39) (.c (Value.int IntKind.i64 0)), none⟩,
     ⟨some 41, .mv (.t 40), none⟩,
     ⟨some 42, .mv (.t 6), some (41, false)⟩,
     ⟨some 43, .bin .gtr (.t 42) (.c (Value.int IntKind.i64 255)), some (41, false)⟩,
     ⟨some 44, .pick (.t 41) (.c (Value.bool true)) (.t 43), none⟩,
     ⟨some 45, .mv (.t 44), none⟩,
     ⟨some 46, .mv (.t 4), some (45, false)⟩,
     ⟨some 47, .mv (.t 6), some (45, false)⟩,
     ⟨some 48, .look false [0] (.v (Value.bool false)) false (.t 46) (.t 47), some (45, false)⟩,
     ⟨some 49, .pick (.t 45) (.c (Value.bool true)) (.t 48), none⟩] [1, 3, 4, 6, 33, 34, 35, 49])
   (.cond (.t 49) (.seq (.reg [⟨some 2, .mv (.c (Value.bool false)), none⟩] [2])
    (.ret))
    (.skip)))
   (.reg [⟨some 50, .mv (.t 4), none⟩,
     ⟨some 51, .mv (.t 6), none⟩,
     ⟨none, .mput false [0] (.t 50) (.t 51) (.c (Value.bool true)), none⟩] [1, 3, 4, 33, 34, 35]))))
  (.reg [⟨some 52, .bin .add (.t 35) (.c (Value.int IntKind.i64 1)), none⟩,
    ⟨some 35, .mv (.t 52), none⟩] [1, 3, 4, 33, 34, 35])))

def m_graph_Valid : MF := ⟨125, [.tmp 2], true, (
  .seq (.reg [⟨some 1, .box 2 (.t 0), none⟩,
    ⟨some 2, .mv (.c (Value.bool false)), none⟩] [1])
  (.seq (.reg [⟨some 15, .fadr 1 (.t 1), none⟩,
    ⟨some 16, .load (none) (.t 15), none⟩,
    ⟨some 17, .len 1 (.t 16), none⟩,
    ⟨some 3, .mv (.t 17), none⟩] [1, 3])
  (.seq (.seq (.reg [⟨some 18, .mv (.t 3), none⟩,
    ⟨some 19, .bin .lss (.t 18) (.c (Value.int IntKind.i64 1)), none⟩,
    ⟨some 20, .mv (.t 19), none⟩,
    ⟨some 21, .mv (.t 3), some (20, false)⟩,
    ⟨some 22, .bin .gtr (.t 21) (.c (Value.int IntKind.i64 24)), some (20, false)⟩,
    ⟨some 23, .pick (.t 20) (.c (Value.bool true)) (.t 22), none⟩,
    ⟨some 24, .mv (.t 23), none⟩,
    ⟨some 25, .fadr 0 (.t 1), some (24, false)⟩,
    ⟨some 26, .load (none) (.t 25), some (24, false)⟩,
    ⟨some 27, .len 1 (.t 26), some (24, false)⟩,
    ⟨some 28, .mv (.t 3), some (24, false)⟩,
    ⟨some 29, .bin .neq (.t 27) (.t 28), some (24, false)⟩,
    ⟨some 30, .pick (.t 24) (.c (Value.bool true)) (.t 29), none⟩] [1, 3, 30])
  (.cond (.t 30) (.seq (.reg [⟨some 2, .mv (.c (Value.bool false)), none⟩] [2])
   (.ret))
   (.skip)))
  (.seq (.reg [⟨some 31, .mkmap, none⟩,
    ⟨some 4, .mv (.t 31), none⟩] [1, 3, 4])
  (.seq (.seq (.reg [⟨some 32, .fadr 0 (.t 1), none⟩,
    ⟨some 33, .load (none) (.t 32), none⟩,
    ⟨some 34, .len 1 (.t 33), none⟩,
    ⟨some 35, .mv (.c (Value.int IntKind.i64 0)), none⟩] [1, 3, 4, 33, 34, 35])
  (.block 0 (.loop [1, 3, 4, 33, 34, 35] m_graph_Valid_L0)))
  (.seq (.reg [⟨some 53, .mkmap, none⟩,
    ⟨some 7, .mv (.t 53), none⟩] [1, 3, 7])
  (.seq (.seq (.reg [⟨some 54, .fadr 1 (.t 1), none⟩,
    ⟨some 55, .load (none) (.t 54), none⟩,
    ⟨some 56, .len 1 (.t 55), none⟩,
    ⟨some 57, .mv (.c (Value.int IntKind.i64 0)), none⟩] [3, 7, 55, 56, 57])
  (.block 2 (.loop [3, 7, 55, 56, 57] m_graph_Valid_L1)))
  (.seq (.seq (.reg [⟨some 109, .mv (.t 7), none⟩,
    ⟨some 110, .rng (.t 109), none⟩] [7, 110])
  (.block 6 (.each 110 111 112 [7, 110] [(2, .bool false)] m_graph_Valid_L3)))
  (.seq (.reg [⟨some 2, .mv (.c (Value.bool true)), none⟩] [2])
  (.ret))))))))))⟩

-- 33 selfstab/selfstabref01.Valid
def m_selfstabref01_Valid_L3 : MC :=
  .seq (.seq (.reg [⟨some 77, .mv (.t 7), none⟩,
    ⟨some 78, .fadr 1 (.t 1), none⟩,
    ⟨some 79, .load (none) (.t 78), none⟩,
    ⟨some 80, .mv (.t 6), none⟩,
    ⟨some 81, .iadr 1 (.t 79) (.t 80), none⟩,
    ⟨some 82, .load (none) (.t 81), none⟩,
    ⟨some 83, .len 1 (.t 82), none⟩,
    ⟨some 84, .bin .lss (.t 77) (.t 83), none⟩] [1, 3, 6, 7, 84])
  (.cond (.t 84) (.skip)
   (.exit 6)))
  (.seq (.block 7 (.seq (.reg [⟨some 87, .fadr 1 (.t 1), none⟩,
     ⟨some 88, .load (none) (.t 87), none⟩,
     ⟨some 89, .mv (.t 6), none⟩,
     ⟨some 90, .iadr 1 (.t 88) (.t 89), none⟩,
     ⟨some 91, .load (none) (.t 90), none⟩,
     ⟨some 92, .mv (.t 7), none⟩,
     ⟨some 93, .iadr 2 (.t 91) (.t 92), none⟩,
     ⟨some 94, .load (some 2) (.t 93), none⟩,
     ⟨some 8, .alloc [.v (Value.int .i64 0), .v (Value.int .i64 0)], none⟩,
     ⟨none, .store 2 (.t 8) (.t 94), none⟩] [1, 3, 6, 7, 8])
   (.seq (.reg [⟨some 95, .load (some 2) (.t 1), none⟩,
     ⟨some 96, .fadr 0 (.t 8), none⟩,
     ⟨some 97, .load (none) (.t 96), none⟩,
     ⟨some 98, .mv (.t 6), none⟩,
     ⟨some 99, .call 46 [.t 95, .t 97, .t 98], none⟩,
     ⟨some 9, .mv (.t 99), none⟩] [1, 3, 6, 7, 8, 9])
   (.seq (.reg [⟨some 100, .mv (.t 9), none⟩,
     ⟨some 101, .bin .lss (.t 100) (.c (Value.int IntKind.i64 0)), none⟩,
     ⟨some 102, .mv (.t 101), none⟩,
     ⟨some 103, .fadr 1 (.t 1), some (102, false)⟩,
     ⟨some 104, .load (none) (.t 103), some (102, false)⟩,
     ⟨some 105, .fadr 0 (.t 8), some (102, false)⟩,
     ⟨some 106, .load (none) (.t 105), some (102, false)⟩,
     ⟨some 107, .iadr 1 (.t 104) (.t 106), some (102, false)⟩,
     ⟨some 108, .load (none) (.t 107), some (102, false)⟩,
     ⟨some 109, .mv (.t 9), some (102, false)⟩,
     ⟨some 110, .iadr 2 (.t 108) (.t 109), some (102, false)⟩,
     ⟨some 111, .fadr 1 (.t 110), some (102, false)⟩,
     ⟨some 112, .load (none) (.t 111), some (102, false)⟩,
     ⟨some 113, .fadr 1 (.t 8), some (102, false)⟩,
     ⟨some 114, .load (none) (.t 113), some (102, false)⟩,
     ⟨some 115, .bin .neq (.t 112) (.t 114), some (102, false)⟩,
     ⟨some 116, .pick (.t 102) (.c (Value.bool true)) (.t 115), none⟩] [1, 3, 6, 7, 116])
   (.cond (.t 116) (.seq (.reg [⟨some 2, .mv (.c (Value.bool false)), none⟩] [2])
    (.ret))
    (.skip))))))
  (.reg [⟨some 85, .mv (.t 7), none⟩,
    ⟨some 86, .bin .add (.t 85) (.c (Value.int IntKind.i64 1)), none⟩,
    ⟨some 7, .mv (.t 86), none⟩] [1, 3, 6, 7]))

def m_selfstabref01_Valid_L2 : MC :=
  .seq (.seq (.reg [⟨some 72, .mv (.t 6), none⟩,
    ⟨some 73, .mv (.t 3), none⟩,
    ⟨some 74, .bin .lss (.t 72) (.t 73), none⟩] [1, 3, 6, 74])
  (.cond (.t 74) (.skip)
   (.exit 4)))
  (.seq (.block 5 (.seq (.reg [⟨some 7, .mv (.c (Value.int IntKind.i64 0)), none⟩] [1, 3, 6, 7])
   (.block 6 (.loop [1, 3, 6, 7] m_selfstabref01_Valid_L3))))
  (.reg [⟨some 75, .mv (.t 6), none⟩,
    ⟨some 76, .bin .add (.t 75) (.c (Value.int IntKind.i64 1)), none⟩,
    ⟨some 6, .mv (.t 76), none⟩] [1, 3, 6]))

def m_selfstabref01_Valid_L1 : MC :=
  .seq (.seq (.reg [⟨some 56, .mv (.t 5), none⟩,
    ⟨some 57, .mv (.t 4), none⟩,
    ⟨some 58, .bin .lss (.t 56) (.t 57), none⟩] [1, 3, 4, 5, 58])
  (.cond (.t 58) (.skip)
   (.exit 2)))
  (.seq (.block 3 (.seq (.reg [⟨some 61, .fadr 0 (.t 1), none⟩,
     ⟨some 62, .load (none) (.t 61), none⟩,
     ⟨some 63, .mv (.t 5), none⟩,
     ⟨some 64, .iadr 1 (.t 62) (.t 63), none⟩,
     ⟨some 65, .load (none) (.t 64), none⟩,
     ⟨some 66, .fadr 0 (.t 1), none⟩,
     ⟨some 67, .load (none) (.t 66), none⟩,
     ⟨some 68, .mv (.t 4), none⟩,
     ⟨some 69, .iadr 1 (.t 67) (.t 68), none⟩,
     ⟨some 70, .load (none) (.t 69), none⟩,
     ⟨some 71, .bin .eql (.t 65) (.t 70), none⟩] [1, 3, 4, 5, 71])
   (.cond (.t 71) (.seq (.reg [⟨some 2, .mv (.c (Value.bool false)), none⟩] [2])
    (.ret))
    (.skip))))
  (.reg [⟨some 59, .mv (.t 5), none⟩,
    ⟨some 60, .bin .add (.t 59) (.c (Value.int IntKind.i64 1)), none⟩,
    ⟨some 5, .mv (.t 60), none⟩] [1, 3, 4, 5]))

def m_selfstabref01_Valid_L0 : MC :=
  .seq (.seq (.reg [⟨some 23, .mv (.t 4), none⟩,
    ⟨some 24, .mv (.t 3), none⟩,
    ⟨some 25, .bin .lss (.t 23) (.t 24), none⟩] [1, 3, 4, 25])
  (.cond (.t 25) (.skip)
   (.exit 0)))
  (.seq (.block 1 (.seq (.seq (.reg [⟨some 28, .fadr 0 (.t 1), none⟩,
     ⟨some 29, .load (none) (.t 28), none⟩,
     ⟨some 30, .mv (.t 4), none⟩,
     ⟨some 31, .iadr 1 (.t 29) (.t 30), none⟩,
     ⟨some 32, .load (none) (.t 31), none⟩,
     ⟨some 33, .call 60 [.t 32, .c (Value.int IntKind.i64 0), .c (Value.int IntKind.i64 255)], none⟩,
     ⟨some 34, .un .not (.t 33), none⟩,
     ⟨some 35, .mv (.t 34), none⟩,
     ⟨some 36, .fadr 1 (.t 1), some (35, false)⟩,
     ⟨some 37, .load (none) (.t 36), some (35, false)⟩,
     ⟨some 38, .mv (.t 4), some (35, false)⟩,
     ⟨some 39, .iadr 1 (.t 37) (.t 38), some (35, false)⟩,
     ⟨some 40, .load (none) (.t 39), some (35, false)⟩,
     ⟨some 41, .len 1 (.t 40), some (35, false)⟩,
     ⟨some 42, .mv (.t 3), some (35, false)⟩,
     ⟨some 43, .bin .geq (.t 41) (.t 42), some (35, false)⟩,
     ⟨some 44, .pick (.t 35) (.c (Value.bool true)) (.t 43), none⟩,
     ⟨some 45, .mv (.t 44), none⟩,
     ⟨some 46, .fadr 1 (.t 1), some (45, false)⟩,
     ⟨some 47, .load (none) (.t 46), some (45, false)⟩,
     ⟨some 48, .mv (.t 4), some (45, false)⟩,
     ⟨some 49, .iadr 1 (.t 47) (.t 48), some (45, false)⟩,
     ⟨some 50, .load (none) (.t 49), some (45, false)⟩,
     ⟨some 51, .mv (.t 4), some (45, false)⟩,
     ⟨some 52, .mv (.t 3), some (45, false)⟩,
     ⟨some 53, .call 61 [.t 50, .t 51, .t 52], some (45, false)⟩,
     ⟨some 54, .un .not (.t 53), some (45, false)⟩,
     ⟨some 55, .pick (.t 45) (.c (Value.bool true)) (.t 54), none⟩] [1, 3, 4, 55])
   (.cond (.t 55) (.seq (.reg [⟨some 2, .mv (.c (Value.bool false)), none⟩] [2])
    (.ret))
    (.skip)))
   (.seq (.reg [⟨some 5, .mv (.c (Value.int IntKind.i64 0)), none⟩] [1, 3, 4, 5])
   (.block 2 (.loop [1, 3, 4, 5] m_selfstabref01_Valid_L1)))))
  (.reg [⟨some 26, .mv (.t 4), none⟩,
    ⟨some 27, .bin .add (.t 26) (.c (Value.int IntKind.i64 1)), none⟩,
    ⟨some 4, .mv (.t 27), none⟩] [1, 3, 4]))

def m_selfstabref01_Valid : MF := ⟨117, [.tmp 2], true, (
  .seq (.reg [⟨some 1, .box 2 (.t 0), none⟩,
    ⟨some 2, .mv (.c (Value.bool false)), none⟩] [1])
  (.seq (.reg [⟨some 10, .fadr 1 (.t 1), none⟩,
    ⟨some 11, .load (none) (.t 10), none⟩,
    ⟨some 12, .len 1 (.t 11), none⟩,
    ⟨some 3, .mv (.t 12), none⟩] [1, 3])
  (.seq (.seq (.reg [⟨some 13, .mv (.t 3), none⟩,
    ⟨some 14, .call 60 [.t 13, .c (Value.int IntKind.i64 1), .c (Value.int IntKind.i64 24)], none⟩,
    ⟨some 15, .un .not (.t 14), none⟩,
    ⟨some 16, .mv (.t 15), none⟩,
    ⟨some 17, .fadr 0 (.t 1), some (16, false)⟩,
    ⟨some 18, .load (none) (.t 17), some (16, false)⟩,
    ⟨some 19, .len 1 (.t 18), some (16, false)⟩,
    ⟨some 20, .mv (.t 3), some (16, false)⟩,
    ⟨some 21, .bin .neq (.t 19) (.t 20), some (16, false)⟩,
    ⟨some 22, .pick (.t 16) (.c (Value.bool true)) (.t 21), none⟩] [1, 3, 22])
  (.cond (.t 22) (.seq (.reg [⟨some 2, .mv (.c (Value.bool false)), none⟩] [2])
   (.ret))
   (.skip)))
  (.seq (.seq (.reg [⟨some 4, .mv (.c (Value.int IntKind.i64 0)), none⟩] [1, 3, 4])
  (.block 0 (.loop [1, 3, 4] m_selfstabref01_Valid_L0)))
  (.seq (.seq (.reg [⟨some 6, .mv (.c (Value.int IntKind.i64 0)), none⟩] [1, 3, 6])
  (.block 4 (.loop [1, 3, 6] m_selfstabref01_Valid_L2)))
  (.seq (.reg [⟨some 2, .mv (.c (Value.bool true)), none⟩] [2])
  (.ret)))))))⟩

-- 34 selfstab/cluster.configuration
def m_cluster_configuration : MF := ⟨13, [.tmp 4], true, (
  .seq (.reg [⟨some 2, .box 2 (.t 0), none⟩,
    ⟨some 4, .mv (.c (Value.bool false)), none⟩] [1, 2])
  (.seq (.reg [⟨some 5, .load (some 2) (.t 2), none⟩,
    ⟨some 6, .call 3 [.t 5], none⟩,
    ⟨some 7, .mv (.t 6), none⟩,
    ⟨some 8, .load (some 2) (.t 2), some (7, true)⟩,
    ⟨some 9, .mv (.t 1), some (7, true)⟩,
    ⟨some 10, .lit 1 [.v (Value.int .i64 0), .v (Value.int .i64 0)] [(0, 1, (.c (Value.int IntKind.i64 1))), (1, 1, (.c (Value.int IntKind.i64 (-1))))] false, some (7, true)⟩,
    ⟨some 11, .call 62 [.t 8, .t 9, .t 10], some (7, true)⟩,
    ⟨some 12, .pick (.t 7) (.t 11) (.c (Value.bool false)), none⟩,
    ⟨some 4, .mv (.t 12), none⟩] [4])
  (.ret)))⟩

-- 36 slices.IndexFunc[[]selfstab/api.Link,selfstab/api.Link]
def m_slices_IndexFunc_api_Link_api_Link_L0 : MC :=
  .seq (.reg [⟨some 9, .bin .lss (.t 8) (.t 7), none⟩] [0, 1, 7, 8, 9])
  (.seq (.cond (.t 9) (.skip)
   (.exit 0))
  (.seq (.block 1 (.seq (.reg [⟨some 10, .mv (.t 8), none⟩,
     ⟨some 5, .mv (.t 10), none⟩] [0, 1, 5, 7, 8])
   (.seq (.reg [⟨some 11, .mv (.t 1), none⟩,
     ⟨some 12, .mv (.t 0), none⟩,
     ⟨some 13, .mv (.t 5), none⟩,
     ⟨some 14, .iadr 2 (.t 12) (.t 13), none⟩,
     ⟨some 15, .load (some 2) (.t 14), none⟩,
     ⟨some 16, .callv (.t 11) [.t 15], none⟩] [0, 1, 5, 7, 8, 16])
   (.cond (.t 16) (.seq (.reg [⟨some 17, .mv (.t 5), none⟩,
      ⟨some 4, .mv (.t 17), none⟩] [4])
    (.ret))
    (.skip)))))
  (.reg [⟨some 18, .bin .add (.t 8) (.c (Value.int IntKind.i64 1)), none⟩,
    ⟨some 8, .mv (.t 18), none⟩] [0, 1, 7, 8])))

def m_slices_IndexFunc_api_Link_api_Link : MF := ⟨19, [.tmp 4], true, (
  .seq (.reg [⟨some 4, .mv (.c (Value.int IntKind.i64 0)), none⟩] [0, 1])
  (.seq (.seq (.reg [⟨some 6, .mv (.t 0), none⟩,
    ⟨some 7, .len 1 (.t 6), none⟩,
    ⟨some 8, .mv (.c (Value.int IntKind.i64 0)), none⟩] [0, 1, 7, 8])
  (.block 0 (.loop [0, 1, 7, 8] m_slices_IndexFunc_api_Link_api_Link_L0)))
  (.seq (.reg [⟨some 4, .mv (.c (Value.int IntKind.i64 (-1))), none⟩] [4])
  (.ret))))⟩

-- 35 selfstab/cluster.Legit$1
def m_cluster_Legit_1 : MF := ⟨12, [.tmp 3], true, (
  .seq (.reg [⟨some 2, .box 2 (.t 0), none⟩,
    ⟨some 3, .mv (.c (Value.bool false)), none⟩] [1, 2])
  (.seq (.reg [⟨some 4, .load (none) (.t 1), none⟩,
    ⟨some 5, .fadr 0 (.t 2), none⟩,
    ⟨some 6, .load (none) (.t 5), none⟩,
    ⟨some 7, .iadr 1 (.t 4) (.t 6), none⟩,
    ⟨some 8, .load (none) (.t 7), none⟩,
    ⟨some 9, .iadr 1 (.t 8) (.c (Value.int IntKind.i64 0)), none⟩,
    ⟨some 10, .load (none) (.t 9), none⟩,
    ⟨some 11, .bin .eql (.t 10) (.c (Value.int IntKind.i64 1)), none⟩,
    ⟨some 3, .mv (.t 11), none⟩] [3])
  (.ret)))⟩

-- 38 selfstab/selfstabref23.Config
def m_selfstabref23_Config_L1 : MC :=
  .seq (.seq (.reg [⟨some 37, .mv (.t 9), none⟩,
    ⟨some 38, .mv (.t 2), none⟩,
    ⟨some 39, .len 1 (.t 38), none⟩,
    ⟨some 40, .bin .lss (.t 37) (.t 39), none⟩] [1, 2, 3, 7, 8, 9, 40])
  (.cond (.t 40) (.skip)
   (.exit 2)))
  (.seq (.block 3 (.seq (.reg [⟨some 43, .mv (.t 2), none⟩,
     ⟨some 44, .mv (.t 9), none⟩,
     ⟨some 45, .iadr 6 (.t 43) (.t 44), none⟩,
     ⟨some 46, .fadr 2 (.t 45), none⟩,
     ⟨some 47, .load (none) (.t 46), none⟩,
     ⟨some 48, .mv (.t 2), none⟩,
     ⟨some 49, .mv (.t 9), none⟩,
     ⟨some 50, .iadr 6 (.t 48) (.t 49), none⟩,
     ⟨some 51, .fadr 3 (.t 50), none⟩,
     ⟨some 52, .load (none) (.t 51), none⟩,
     ⟨some 53, .mv (.t 2), none⟩,
     ⟨some 54, .mv (.t 9), none⟩,
     ⟨some 55, .iadr 6 (.t 53) (.t 54), none⟩,
     ⟨some 56, .fadr 4 (.t 55), none⟩,
     ⟨some 57, .load (none) (.t 56), none⟩,
     ⟨some 58, .mv (.t 7), none⟩,
     ⟨some 59, .bin .mul (.t 57) (.t 58), none⟩,
     ⟨some 60, .bin .add (.t 52) (.t 59), none⟩,
     ⟨some 61, .mv (.t 2), none⟩,
     ⟨some 62, .mv (.t 9), none⟩,
     ⟨some 63, .iadr 6 (.t 61) (.t 62), none⟩,
     ⟨some 64, .fadr 5 (.t 63), none⟩,
     ⟨some 65, .load (none) (.t 64), none⟩,
     ⟨some 66, .load (some 2) (.t 3), none⟩,
     ⟨some 67, .call 63 [.t 66], none⟩,
     ⟨some 68, .bin .mul (.t 65) (.t 67), none⟩,
     ⟨some 69, .bin .add (.t 60) (.t 68), none⟩,
     ⟨some 10, .mv (.t 47), none⟩,
     ⟨some 11, .mv (.t 69), none⟩] [1, 2, 3, 7, 8, 9, 10, 11])
   (.seq (.seq (.reg [⟨some 70, .mv (.t 2), none⟩,
     ⟨some 71, .mv (.t 9), none⟩,
     ⟨some 72, .iadr 6 (.t 70) (.t 71), none⟩,
     ⟨some 73, .fadr 1 (.t 72), none⟩,
     ⟨some 74, .load (none) (.t 73), none⟩] [1, 2, 3, 7, 8, 9, 10, 11, 74])
   (.block 4 (.seq (.reg [⟨some 76, .bin .eql (.t 74) (.c (Value.int IntKind.i64 2)), none⟩,
      ⟨some 75, .mv (.t 76), none⟩] [1, 2, 3, 7, 8, 9, 10, 11, 74, 75])
    (.cond (.t 75) (.reg [⟨some 10, .mv (.c (Value.int IntKind.i64 0)), none⟩,
       ⟨some 11, .mv (.c (Value.int IntKind.i64 1)), none⟩] [1, 2, 3, 7, 8, 9, 10, 11])
     (.seq (.reg [⟨some 78, .bin .eql (.t 74) (.c (Value.int IntKind.i64 3)), none⟩,
       ⟨some 77, .mv (.t 78), none⟩] [1, 2, 3, 7, 8, 9, 10, 11, 77])
     (.cond (.t 77) (.reg [⟨some 79, .fadr 1 (.t 3), none⟩,
        ⟨some 80, .load (none) (.t 79), none⟩,
        ⟨some 81, .mv (.t 8), none⟩,
        ⟨some 82, .iadr 1 (.t 80) (.t 81), none⟩,
        ⟨some 83, .load (none) (.t 82), none⟩,
        ⟨some 84, .len 1 (.t 83), none⟩,
        ⟨some 85, .bin .sub (.t 84) (.c (Value.int IntKind.i64 1)), none⟩,
        ⟨some 10, .mv (.c (Value.int IntKind.i64 (-1))), none⟩,
        ⟨some 11, .mv (.t 85), none⟩] [1, 2, 3, 7, 8, 9, 10, 11])
      (.skip)))))))
   (.seq (.reg [⟨some 86, .mv (.t 1), none⟩,
     ⟨some 87, .mv (.t 8), none⟩,
     ⟨some 88, .iadr 1 (.t 86) (.t 87), none⟩,
     ⟨some 89, .load (none) (.t 88), none⟩,
     ⟨some 90, .mv (.t 9), none⟩,
     ⟨some 91, .iadr 1 (.t 89) (.t 90), none⟩,
     ⟨some 92, .load (none) (.t 91), none⟩,
     ⟨some 93, .mv (.t 10), none⟩,
     ⟨some 94, .mv (.t 11), none⟩,
     ⟨some 95, .call 60 [.t 92, .t 93, .t 94], none⟩,
     ⟨some 96, .un .not (.t 95), none⟩] [1, 2, 3, 7, 8, 9, 96])
   (.cond (.t 96) (.seq (.reg [⟨some 6, .mv (.c (Value.bool false)), none⟩] [6])
    (.ret))
    (.skip))))))
  (.reg [⟨some 41, .mv (.t 9), none⟩,
    ⟨some 42, .bin .add (.t 41) (.c (Value.int IntKind.i64 1)), none⟩,
    ⟨some 9, .mv (.t 42), none⟩] [1, 2, 3, 7, 8, 9]))

def m_selfstabref23_Config_L0 : MC :=
  .seq (.seq (.reg [⟨some 24, .mv (.t 8), none⟩,
    ⟨some 25, .mv (.t 7), none⟩,
    ⟨some 26, .bin .lss (.t 24) (.t 25), none⟩] [1, 2, 3, 7, 8, 26])
  (.cond (.t 26) (.skip)
   (.exit 0)))
  (.seq (.block 1 (.seq (.seq (.reg [⟨some 29, .mv (.t 1), none⟩,
     ⟨some 30, .mv (.t 8), none⟩,
     ⟨some 31, .iadr 1 (.t 29) (.t 30), none⟩,
     ⟨some 32, .load (none) (.t 31), none⟩,
     ⟨some 33, .len 1 (.t 32), none⟩,
     ⟨some 34, .mv (.t 2), none⟩,
     ⟨some 35, .len 1 (.t 34), none⟩,
     ⟨some 36, .bin .neq (.t 33) (.t 35), none⟩] [1, 2, 3, 7, 8, 36])
   (.cond (.t 36) (.seq (.reg [⟨some 6, .mv (.c (Value.bool false)), none⟩] [6])
    (.ret))
    (.skip)))
   (.seq (.reg [⟨some 9, .mv (.c (Value.int IntKind.i64 0)), none⟩] [1, 2, 3, 7, 8, 9])
   (.block 2 (.loop [1, 2, 3, 7, 8, 9] m_selfstabref23_Config_L1)))))
  (.reg [⟨some 27, .mv (.t 8), none⟩,
    ⟨some 28, .bin .add (.t 27) (.c (Value.int IntKind.i64 1)), none⟩,
    ⟨some 8, .mv (.t 28), none⟩] [1, 2, 3, 7, 8]))

def m_selfstabref23_Config : MF := ⟨97, [.tmp 6], true, (
  .seq (.reg [⟨some 3, .box 2 (.t 0), none⟩,
    ⟨some 6, .mv (.c (Value.bool false)), none⟩] [1, 2, 3])
  (.seq (.reg [⟨some 12, .fadr 1 (.t 3), none⟩,
    ⟨some 13, .load (none) (.t 12), none⟩,
    ⟨some 14, .len 1 (.t 13), none⟩,
    ⟨some 7, .mv (.t 14), none⟩] [1, 2, 3, 7])
  (.seq (.seq (.reg [⟨some 15, .load (some 2) (.t 3), none⟩,
    ⟨some 16, .call 33 [.t 15], none⟩,
    ⟨some 17, .un .not (.t 16), none⟩,
    ⟨some 18, .mv (.t 17), none⟩,
    ⟨some 19, .mv (.t 1), some (18, false)⟩,
    ⟨some 20, .len 1 (.t 19), some (18, false)⟩,
    ⟨some 21, .mv (.t 7), some (18, false)⟩,
    ⟨some 22, .bin .neq (.t 20) (.t 21), some (18, false)⟩,
    ⟨some 23, .pick (.t 18) (.c (Value.bool true)) (.t 22), none⟩] [1, 2, 3, 7, 23])
  (.cond (.t 23) (.seq (.reg [⟨some 6, .mv (.c (Value.bool false)), none⟩] [6])
   (.ret))
   (.skip)))
  (.seq (.seq (.reg [⟨some 8, .mv (.c (Value.int IntKind.i64 0)), none⟩] [1, 2, 3, 7, 8])
  (.block 0 (.loop [1, 2, 3, 7, 8] m_selfstabref23_Config_L0)))
  (.seq (.reg [⟨some 6, .mv (.c (Value.bool true)), none⟩] [6])
  (.ret))))))⟩

-- 37 selfstab/selfstabref34.Vars
def m_selfstabref34_Vars : MF := ⟨4, [.tmp 0], true, (
  .seq (.reg [⟨some 0, .mv (.c (Value.slice none 0 0)), none⟩] [])
  (.seq (.reg [⟨some 1, .call 64 [.c (Value.string ⟨#[109]⟩)], none⟩,
    ⟨some 2, .call 65 [.c (Value.string ⟨#[104]⟩)], none⟩,
    ⟨some 3, .lit 6 [.v (Value.string ⟨#[]⟩), .v (Value.int .i64 0), .v (Value.int .i64 0), .v (Value.int .i64 0), .v (Value.int .i64 0), .v (Value.int .i64 0), .v (Value.string ⟨#[]⟩), .v (Value.int .i64 0), .v (Value.int .i64 0), .v (Value.int .i64 0), .v (Value.int .i64 0), .v (Value.int .i64 0)] [(0, 6, (.t 1)), (6, 6, (.t 2))] false, none⟩,
    ⟨some 0, .mv (.t 3), none⟩] [0])
  (.ret)))⟩

-- 40 selfstab/selfstabref31.Maximal
def m_selfstabref31_Maximal : MF := ⟨20, [.tmp 4], true, (
  .seq (.reg [⟨some 2, .box 2 (.t 0), none⟩,
    ⟨some 4, .mv (.c (Value.bool false)), none⟩] [1, 2])
  (.seq (.reg [⟨some 5, .load (some 2) (.t 2), none⟩,
    ⟨some 6, .mv (.t 1), none⟩,
    ⟨some 7, .call 66 [.t 5, .t 6], none⟩,
    ⟨some 8, .mv (.t 7), none⟩,
    ⟨some 9, .mv (.t 1), some (8, true)⟩,
    ⟨some 10, .load (some 2) (.t 2), some (8, true)⟩,
    ⟨some 11, .mv (.t 1), some (8, true)⟩,
    ⟨some 12, .call 67 [.t 10, .t 11], some (8, true)⟩,
    ⟨some 13, .bin .or (.t 9) (.t 12), some (8, true)⟩,
    ⟨some 14, .fadr 1 (.t 2), some (8, true)⟩,
    ⟨some 15, .load (none) (.t 14), some (8, true)⟩,
    ⟨some 16, .len 1 (.t 15), some (8, true)⟩,
    ⟨some 17, .call 68 [.t 16], some (8, true)⟩,
    ⟨some 18, .bin .eql (.t 13) (.t 17), some (8, true)⟩,
    ⟨some 19, .pick (.t 8) (.t 18) (.c (Value.bool false)), none⟩,
    ⟨some 4, .mv (.t 19), none⟩] [4])
  (.ret)))⟩

-- 39 selfstab/selfstabref31.Ones
def m_selfstabref31_Ones_L0 : MC :=
  .seq (.seq (.reg [⟨some 7, .mv (.t 6), none⟩,
    ⟨some 8, .mv (.t 0), none⟩,
    ⟨some 9, .len 1 (.t 8), none⟩,
    ⟨some 10, .bin .lss (.t 7) (.t 9), none⟩] [0, 1, 5, 6, 10])
  (.cond (.t 10) (.skip)
   (.exit 0)))
  (.seq (.block 1 (.seq (.reg [⟨some 13, .mv (.t 0), none⟩,
     ⟨some 14, .mv (.t 6), none⟩,
     ⟨some 15, .iadr 1 (.t 13) (.t 14), none⟩,
     ⟨some 16, .load (none) (.t 15), none⟩,
     ⟨some 17, .mv (.t 1), none⟩,
     ⟨some 18, .iadr 1 (.t 16) (.t 17), none⟩,
     ⟨some 19, .load (none) (.t 18), none⟩,
     ⟨some 20, .bin .eql (.t 19) (.c (Value.int IntKind.i64 1)), none⟩] [0, 1, 5, 6, 20])
   (.cond (.t 20) (.reg [⟨some 21, .mv (.t 5), none⟩,
      ⟨some 22, .mv (.t 6), none⟩,
      ⟨some 23, .conv .u64 (.t 22), none⟩,
      ⟨some 24, .bin .shl (.c (Value.int IntKind.u32 1)) (.t 23), none⟩,
      ⟨some 25, .bin .or (.t 21) (.t 24), none⟩,
      ⟨some 5, .mv (.t 25), none⟩] [0, 1, 5, 6])
    (.skip))))
  (.reg [⟨some 11, .mv (.t 6), none⟩,
    ⟨some 12, .bin .add (.t 11) (.c (Value.int IntKind.i64 1)), none⟩,
    ⟨some 6, .mv (.t 12), none⟩] [0, 1, 5, 6]))

def m_selfstabref31_Ones : MF := ⟨27, [.tmp 4], true, (
  .seq (.reg [⟨some 4, .mv (.c (Value.int IntKind.u32 0)), none⟩] [0, 1])
  (.seq (.reg [⟨some 5, .mv (.c (Value.int IntKind.u32 0)), none⟩] [0, 1, 5])
  (.seq (.seq (.reg [⟨some 6, .mv (.c (Value.int IntKind.i64 0)), none⟩] [0, 1, 5, 6])
  (.block 0 (.loop [0, 1, 5, 6] m_selfstabref31_Ones_L0)))
  (.seq (.reg [⟨some 26, .mv (.t 5), none⟩,
    ⟨some 4, .mv (.t 26), none⟩] [4])
  (.ret)))))⟩

-- 41 selfstab/graph.Size
def m_graph_Size_L0 : MC :=
  .seq (.reg [⟨some 13, .bin .lss (.t 12) (.t 11), none⟩] [1, 3, 10, 11, 12, 13])
  (.seq (.cond (.t 13) (.skip)
   (.exit 0))
  (.seq (.block 1 (.seq (.reg [⟨some 14, .iadr 1 (.t 10) (.t 12), none⟩,
     ⟨some 15, .load (none) (.t 14), none⟩,
     ⟨some 5, .mv (.t 15), none⟩] [1, 3, 5, 10, 11, 12])
   (.reg [⟨some 16, .mv (.t 3), none⟩,
     ⟨some 17, .mv (.t 5), none⟩,
     ⟨some 18, .len 1 (.t 17), none⟩,
     ⟨some 19, .bin .add (.t 16) (.t 18), none⟩,
     ⟨some 3, .mv (.t 19), none⟩] [1, 3, 10, 11, 12])))
  (.reg [⟨some 20, .bin .add (.t 12) (.c (Value.int IntKind.i64 1)), none⟩,
    ⟨some 12, .mv (.t 20), none⟩] [1, 3, 10, 11, 12])))

def m_graph_Size : MF := ⟨26, [.tmp 2, .tmp 3], true, (
  .seq (.reg [⟨some 1, .box 2 (.t 0), none⟩,
    ⟨some 2, .mv (.c (Value.int IntKind.i64 0)), none⟩,
    ⟨some 3, .mv (.c (Value.int IntKind.i64 0)), none⟩] [1, 3])
  (.seq (.seq (.reg [⟨some 6, .load (some 2) (.t 1), none⟩,
    ⟨some 7, .call 32 [.t 6], none⟩,
    ⟨some 8, .un .not (.t 7), none⟩] [1, 3, 8])
  (.cond (.t 8) (.seq (.reg [⟨some 2, .mv (.c (Value.int IntKind.i64 0)), none⟩,
     ⟨some 3, .mv (.c (Value.int IntKind.i64 0)), none⟩] [2, 3])
   (.ret))
   (.skip)))
  (.seq (.seq (.reg [⟨some 9, .fadr 1 (.t 1), none⟩,
    ⟨some 10, .load (none) (.t 9), none⟩,
    ⟨some 11, .len 1 (.t 10), none⟩,
    ⟨some 12, .mv (.c (Value.int IntKind.i64 0)), none⟩] [1, 3, 10, 11, 12])
  (.block 0 (.loop [1, 3, 10, 11, 12] m_graph_Size_L0)))
  (.seq (.reg [⟨some 21, .fadr 1 (.t 1), none⟩,
    ⟨some 22, .load (none) (.t 21), none⟩,
    ⟨some 23, .len 1 (.t 22), none⟩,
    ⟨some 24, .mv (.t 3), none⟩,
    ⟨some 25, .bin .quo (.t 24) (.c (Value.int IntKind.i64 2)), none⟩,
    ⟨some 2, .mv (.t 23), none⟩,
    ⟨some 3, .mv (.t 25), none⟩] [2, 3])
  (.ret)))))⟩

-- 42 selfstab/selfstabref01.Size
def m_selfstabref01_Size_L0 : MC :=
  .seq (.seq (.reg [⟨some 9, .mv (.t 5), none⟩,
    ⟨some 10, .fadr 1 (.t 1), none⟩,
    ⟨some 11, .load (none) (.t 10), none⟩,
    ⟨some 12, .len 1 (.t 11), none⟩,
    ⟨some 13, .bin .lss (.t 9) (.t 12), none⟩] [1, 4, 5, 13])
  (.cond (.t 13) (.skip)
   (.exit 0)))
  (.seq (.block 1 (.reg [⟨some 16, .mv (.t 4), none⟩,
     ⟨some 17, .fadr 1 (.t 1), none⟩,
     ⟨some 18, .load (none) (.t 17), none⟩,
     ⟨some 19, .mv (.t 5), none⟩,
     ⟨some 20, .iadr 1 (.t 18) (.t 19), none⟩,
     ⟨some 21, .load (none) (.t 20), none⟩,
     ⟨some 22, .len 1 (.t 21), none⟩,
     ⟨some 23, .bin .add (.t 16) (.t 22), none⟩,
     ⟨some 4, .mv (.t 23), none⟩] [1, 4, 5]))
  (.reg [⟨some 14, .mv (.t 5), none⟩,
    ⟨some 15, .bin .add (.t 14) (.c (Value.int IntKind.i64 1)), none⟩,
    ⟨some 5, .mv (.t 15), none⟩] [1, 4, 5]))

def m_selfstabref01_Size : MF := ⟨29, [.tmp 2, .tmp 3], true, (
  .seq (.reg [⟨some 1, .box 2 (.t 0), none⟩,
    ⟨some 2, .mv (.c (Value.int IntKind.i64 0)), none⟩,
    ⟨some 3, .mv (.c (Value.int IntKind.i64 0)), none⟩] [1])
  (.seq (.seq (.reg [⟨some 6, .load (some 2) (.t 1), none⟩,
    ⟨some 7, .call 33 [.t 6], none⟩,
    ⟨some 8, .un .not (.t 7), none⟩] [1, 8])
  (.cond (.t 8) (.seq (.reg [⟨some 2, .mv (.c (Value.int IntKind.i64 0)), none⟩,
     ⟨some 3, .mv (.c (Value.int IntKind.i64 0)), none⟩] [2, 3])
   (.ret))
   (.skip)))
  (.seq (.reg [⟨some 4, .mv (.c (Value.int IntKind.i64 0)), none⟩] [1, 4])
  (.seq (.seq (.reg [⟨some 5, .mv (.c (Value.int IntKind.i64 0)), none⟩] [1, 4, 5])
  (.block 0 (.loop [1, 4, 5] m_selfstabref01_Size_L0)))
  (.seq (.reg [⟨some 24, .fadr 1 (.t 1), none⟩,
    ⟨some 25, .load (none) (.t 24), none⟩,
    ⟨some 26, .len 1 (.t 25), none⟩,
    ⟨some 27, .mv (.t 4), none⟩,
    ⟨some 28, .bin .quo (.t 27) (.c (Value.int IntKind.i64 2)), none⟩,
    ⟨some 2, .mv (.t 26), none⟩,
    ⟨some 3, .mv (.t 28), none⟩] [2, 3])
  (.ret))))))⟩

-- 43 selfstab/shape.At
def m_shape_At : MF := ⟨18, [.tmp 6], true, (
  .seq (.reg [⟨some 3, .box 2 (.t 0), none⟩,
    ⟨some 6, .mv (.c (Value.int IntKind.i64 0)), none⟩] [1, 2, 3])
  (.seq (.seq (.reg [⟨some 7, .mv (.t 2), none⟩,
    ⟨some 8, .bin .lss (.t 7) (.c (Value.int IntKind.i64 0)), none⟩] [1, 2, 3, 8])
  (.cond (.t 8) (.seq (.reg [⟨some 6, .mv (.c (Value.int IntKind.i64 (-1))), none⟩] [6])
   (.ret))
   (.skip)))
  (.seq (.reg [⟨some 9, .fadr 1 (.t 3), none⟩,
    ⟨some 10, .load (none) (.t 9), none⟩,
    ⟨some 11, .mv (.t 1), none⟩,
    ⟨some 12, .iadr 1 (.t 10) (.t 11), none⟩,
    ⟨some 13, .load (none) (.t 12), none⟩,
    ⟨some 14, .mv (.t 2), none⟩,
    ⟨some 15, .iadr 2 (.t 13) (.t 14), none⟩,
    ⟨some 16, .fadr 0 (.t 15), none⟩,
    ⟨some 17, .load (none) (.t 16), none⟩,
    ⟨some 6, .mv (.t 17), none⟩] [6])
  (.ret))))⟩

-- 44 selfstab/selfstabref23.Named
def m_selfstabref23_Named_L0 : MC :=
  .seq (.seq (.reg [⟨some 10, .mv (.t 8), none⟩,
    ⟨some 11, .mv (.t 1), none⟩,
    ⟨some 12, .len 1 (.t 11), none⟩,
    ⟨some 13, .bin .lss (.t 10) (.t 12), none⟩] [1, 2, 3, 7, 8, 13])
  (.cond (.t 13) (.skip)
   (.exit 0)))
  (.seq (.block 1 (.seq (.reg [⟨some 9, .mv (.c (Value.int IntKind.i64 (-1))), none⟩] [1, 2, 3, 7, 8, 9])
   (.seq (.seq (.reg [⟨some 16, .mv (.t 1), none⟩,
     ⟨some 17, .mv (.t 8), none⟩,
     ⟨some 18, .iadr 1 (.t 16) (.t 17), none⟩,
     ⟨some 19, .load (none) (.t 18), none⟩,
     ⟨some 20, .mv (.t 2), none⟩,
     ⟨some 21, .iadr 1 (.t 19) (.t 20), none⟩,
     ⟨some 22, .load (none) (.t 21), none⟩,
     ⟨some 23, .bin .geq (.t 22) (.c (Value.int IntKind.i64 0)), none⟩] [1, 2, 3, 7, 8, 9, 23])
   (.cond (.t 23) (.reg [⟨some 24, .fadr 1 (.t 3), none⟩,
      ⟨some 25, .load (none) (.t 24), none⟩,
      ⟨some 26, .mv (.t 8), none⟩,
      ⟨some 27, .iadr 1 (.t 25) (.t 26), none⟩,
      ⟨some 28, .load (none) (.t 27), none⟩,
      ⟨some 29, .mv (.t 1), none⟩,
      ⟨some 30, .mv (.t 8), none⟩,
      ⟨some 31, .iadr 1 (.t 29) (.t 30), none⟩,
      ⟨some 32, .load (none) (.t 31), none⟩,
      ⟨some 33, .mv (.t 2), none⟩,
      ⟨some 34, .iadr 1 (.t 32) (.t 33), none⟩,
      ⟨some 35, .load (none) (.t 34), none⟩,
      ⟨some 36, .iadr 2 (.t 28) (.t 35), none⟩,
      ⟨some 37, .fadr 0 (.t 36), none⟩,
      ⟨some 38, .load (none) (.t 37), none⟩,
      ⟨some 9, .mv (.t 38), none⟩] [1, 2, 3, 7, 8, 9])
    (.skip)))
   (.reg [⟨some 39, .mv (.t 7), none⟩,
     ⟨some 40, .mv (.t 9), none⟩,
     ⟨some 41, .lit 1 [.v (Value.int .i64 0)] [(0, 1, (.t 40))] false, none⟩,
     ⟨some 42, .app 1 8 (.t 39) (.t 41), none⟩,
     ⟨some 7, .mv (.t 42), none⟩] [1, 2, 3, 7, 8]))))
  (.reg [⟨some 14, .mv (.t 8), none⟩,
    ⟨some 15, .bin .add (.t 14) (.c (Value.int IntKind.i64 1)), none⟩,
    ⟨some 8, .mv (.t 15), none⟩] [1, 2, 3, 7, 8]))

def m_selfstabref23_Named : MF := ⟨44, [.tmp 6], false, (
  .seq (.reg [⟨some 3, .box 2 (.t 0), none⟩,
    ⟨some 6, .mv (.c (Value.slice none 0 0)), none⟩] [1, 2, 3])
  (.seq (.reg [⟨some 7, .mv (.c (Value.slice none 0 0)), none⟩] [1, 2, 3, 7])
  (.seq (.seq (.reg [⟨some 8, .mv (.c (Value.int IntKind.i64 0)), none⟩] [1, 2, 3, 7, 8])
  (.block 0 (.loop [1, 2, 3, 7, 8] m_selfstabref23_Named_L0)))
  (.seq (.reg [⟨some 43, .mv (.t 7), none⟩,
    ⟨some 6, .mv (.t 43), none⟩] [6])
  (.ret)))))⟩

-- 46 selfstab/selfstabref01.Port
def m_selfstabref01_Port_L0 : MC :=
  .seq (.seq (.reg [⟨some 8, .mv (.t 7), none⟩,
    ⟨some 9, .fadr 1 (.t 3), none⟩,
    ⟨some 10, .load (none) (.t 9), none⟩,
    ⟨some 11, .mv (.t 1), none⟩,
    ⟨some 12, .iadr 1 (.t 10) (.t 11), none⟩,
    ⟨some 13, .load (none) (.t 12), none⟩,
    ⟨some 14, .len 1 (.t 13), none⟩,
    ⟨some 15, .bin .lss (.t 8) (.t 14), none⟩] [1, 2, 3, 7, 15])
  (.cond (.t 15) (.skip)
   (.exit 0)))
  (.seq (.block 1 (.seq (.reg [⟨some 18, .fadr 1 (.t 3), none⟩,
     ⟨some 19, .load (none) (.t 18), none⟩,
     ⟨some 20, .mv (.t 1), none⟩,
     ⟨some 21, .iadr 1 (.t 19) (.t 20), none⟩,
     ⟨some 22, .load (none) (.t 21), none⟩,
     ⟨some 23, .mv (.t 7), none⟩,
     ⟨some 24, .iadr 2 (.t 22) (.t 23), none⟩,
     ⟨some 25, .fadr 0 (.t 24), none⟩,
     ⟨some 26, .load (none) (.t 25), none⟩,
     ⟨some 27, .mv (.t 2), none⟩,
     ⟨some 28, .bin .eql (.t 26) (.t 27), none⟩] [1, 2, 3, 7, 28])
   (.cond (.t 28) (.seq (.reg [⟨some 29, .mv (.t 7), none⟩,
      ⟨some 6, .mv (.t 29), none⟩] [6])
    (.ret))
    (.skip))))
  (.reg [⟨some 16, .mv (.t 7), none⟩,
    ⟨some 17, .bin .add (.t 16) (.c (Value.int IntKind.i64 1)), none⟩,
    ⟨some 7, .mv (.t 17), none⟩] [1, 2, 3, 7]))

def m_selfstabref01_Port : MF := ⟨30, [.tmp 6], true, (
  .seq (.reg [⟨some 3, .box 2 (.t 0), none⟩,
    ⟨some 6, .mv (.c (Value.int IntKind.i64 0)), none⟩] [1, 2, 3])
  (.seq (.seq (.reg [⟨some 7, .mv (.c (Value.int IntKind.i64 0)), none⟩] [1, 2, 3, 7])
  (.block 0 (.loop [1, 2, 3, 7] m_selfstabref01_Port_L0)))
  (.seq (.reg [⟨some 6, .mv (.c (Value.int IntKind.i64 (-1))), none⟩] [6])
  (.ret))))⟩

-- 56 (selfstab/selfstabworld.Net).nodes
def m_selfstabworld_Net_nodes_L1 : MC :=
  .seq (.seq (.reg [⟨some 29, .mv (.t 9), none⟩,
    ⟨some 30, .mv (.t 7), none⟩,
    ⟨some 31, .bin .lss (.t 29) (.t 30), none⟩] [2, 4, 5, 6, 7, 8, 9, 31])
  (.cond (.t 31) (.skip)
   (.exit 2)))
  (.seq (.block 3 (.seq (.reg [⟨some 34, .fadr 0 (.t 6), none⟩,
     ⟨some 35, .load (none) (.t 34), none⟩,
     ⟨some 36, .mv (.t 9), none⟩,
     ⟨some 37, .iadr 1 (.t 35) (.t 36), none⟩,
     ⟨some 38, .load (none) (.t 37), none⟩,
     ⟨some 39, .mv (.t 8), none⟩,
     ⟨some 40, .bin .eql (.t 38) (.t 39), none⟩] [2, 4, 5, 6, 7, 8, 9, 40])
   (.cond (.t 40) (.reg [⟨some 41, .mv (.t 8), none⟩,
      ⟨some 42, .bin .add (.t 41) (.c (Value.int IntKind.i64 1)), none⟩,
      ⟨some 43, .bin .rem (.t 42) (.c (Value.int IntKind.i64 256)), none⟩,
      ⟨some 8, .mv (.t 43), none⟩,
      ⟨some 9, .mv (.c (Value.int IntKind.i64 (-1))), none⟩] [2, 4, 5, 6, 7, 8, 9])
    (.skip))))
  (.reg [⟨some 32, .mv (.t 9), none⟩,
    ⟨some 33, .bin .add (.t 32) (.c (Value.int IntKind.i64 1)), none⟩,
    ⟨some 9, .mv (.t 33), none⟩] [2, 4, 5, 6, 7, 8, 9]))

def m_selfstabworld_Net_nodes_L0 : MC :=
  .seq (.seq (.reg [⟨some 19, .mv (.t 7), none⟩,
    ⟨some 20, .mv (.t 5), none⟩,
    ⟨some 21, .bin .lss (.t 19) (.t 20), none⟩] [2, 4, 5, 6, 7, 21])
  (.cond (.t 21) (.skip)
   (.exit 0)))
  (.seq (.block 1 (.seq (.reg [⟨some 24, .fadr 3 (.t 2), none⟩,
     ⟨some 25, .load (none) (.t 24), none⟩,
     ⟨some 26, .mv (.t 7), none⟩,
     ⟨some 27, .call 57 [.t 25, .t 26], none⟩,
     ⟨some 28, .call 58 [.t 27, .c (Value.int IntKind.i64 256)], none⟩,
     ⟨some 8, .mv (.t 28), none⟩] [2, 4, 5, 6, 7, 8])
   (.seq (.seq (.reg [⟨some 9, .mv (.c (Value.int IntKind.i64 0)), none⟩] [2, 4, 5, 6, 7, 8, 9])
   (.block 2 (.loop [2, 4, 5, 6, 7, 8, 9] m_selfstabworld_Net_nodes_L1)))
   (.reg [⟨some 44, .fadr 0 (.t 6), none⟩,
     ⟨some 45, .load (none) (.t 44), none⟩,
     ⟨some 46, .mv (.t 8), none⟩,
     ⟨some 47, .lit 1 [.v (Value.int .i64 0)] [(0, 1, (.t 46))] false, none⟩,
     ⟨some 48, .app 1 8 (.t 45) (.t 47), none⟩,
     ⟨some 49, .fadr 0 (.t 6), none⟩,
     ⟨none, .store 1 (.t 49) (.t 48), none⟩] [2, 4, 5, 6, 7]))))
  (.reg [⟨some 22, .mv (.t 7), none⟩,
    ⟨some 23, .bin .add (.t 22) (.c (Value.int IntKind.i64 1)), none⟩,
    ⟨some 7, .mv (.t 23), none⟩] [2, 4, 5, 6, 7]))

def m_selfstabworld_Net_nodes : MF := ⟨51, [.cell 4 (some 2)], false, (
  .seq (.reg [⟨some 2, .box 6 (.t 0), none⟩,
    ⟨some 4, .new [.v (Value.slice none 0 0), .v (Value.slice none 0 0)], none⟩] [1, 2, 4])
  (.seq (.reg [⟨some 10, .fadr 0 (.t 2), none⟩,
    ⟨some 11, .load (none) (.t 10), none⟩,
    ⟨some 12, .bin .sub (.t 11) (.c (Value.int IntKind.i64 1)), none⟩,
    ⟨some 13, .mv (.t 1), none⟩,
    ⟨some 14, .call 58 [.t 12, .t 13], none⟩,
    ⟨some 15, .bin .add (.c (Value.int IntKind.i64 1)) (.t 14), none⟩,
    ⟨some 5, .mv (.t 15), none⟩] [2, 4, 5])
  (.seq (.reg [⟨some 16, .mv (.t 5), none⟩,
    ⟨some 17, .mks 1 24 [.v (Value.slice none 0 0)] (.t 16) (.t 16), none⟩,
    ⟨some 18, .build [.v (Value.slice none 0 0), .v (Value.slice none 0 0)] [(1, 1, (.t 17))], none⟩,
    ⟨some 6, .new [.v (Value.slice none 0 0), .v (Value.slice none 0 0)], none⟩,
    ⟨none, .store 2 (.t 6) (.t 18), none⟩] [2, 4, 5, 6])
  (.seq (.seq (.reg [⟨some 7, .mv (.c (Value.int IntKind.i64 0)), none⟩] [2, 4, 5, 6, 7])
  (.block 0 (.loop [2, 4, 5, 6, 7] m_selfstabworld_Net_nodes_L0)))
  (.seq (.reg [⟨some 50, .load (some 2) (.t 6), none⟩,
    ⟨none, .store 2 (.t 4) (.t 50), none⟩] [4])
  (.ret))))))⟩

-- 59 (selfstab/selfstabworld.Net).link
def m_selfstabworld_Net_link : MF := ⟨77, [], false, (
  .seq (.reg [⟨some 5, .box 6 (.t 0), none⟩,
    ⟨some 6, .box 2 (.t 1), none⟩] [2, 3, 4, 5, 6])
  (.seq (.seq (.reg [⟨some 12, .mv (.t 2), none⟩,
    ⟨some 13, .mv (.t 3), none⟩,
    ⟨some 14, .bin .eql (.t 12) (.t 13), none⟩,
    ⟨some 15, .mv (.t 14), none⟩,
    ⟨some 16, .load (some 2) (.t 6), some (15, false)⟩,
    ⟨some 17, .mv (.t 2), some (15, false)⟩,
    ⟨some 18, .mv (.t 3), some (15, false)⟩,
    ⟨some 19, .call 82 [.t 16, .t 17, .t 18], some (15, false)⟩,
    ⟨some 20, .pick (.t 15) (.c (Value.bool true)) (.t 19), none⟩] [2, 3, 4, 5, 6, 20])
  (.cond (.t 20) (.ret)
   (.skip)))
  (.seq (.reg [⟨some 21, .mv (.t 3), none⟩,
    ⟨some 22, .mv (.t 4), none⟩,
    ⟨some 23, .build [.v (Value.int .i64 0), .v (Value.int .i64 0)] [(0, 1, (.t 21)), (1, 1, (.t 22))], none⟩,
    ⟨some 24, .mv (.t 2), none⟩,
    ⟨some 25, .mv (.t 4), none⟩,
    ⟨some 26, .build [.v (Value.int .i64 0), .v (Value.int .i64 0)] [(0, 1, (.t 24)), (1, 1, (.t 25))], none⟩,
    ⟨some 10, .alloc [.v (Value.int .i64 0), .v (Value.int .i64 0)], none⟩,
    ⟨some 11, .alloc [.v (Value.int .i64 0), .v (Value.int .i64 0)], none⟩,
    ⟨none, .store 2 (.t 10) (.t 23), none⟩,
    ⟨none, .store 2 (.t 11) (.t 26), none⟩] [2, 3, 5, 6, 10, 11])
  (.seq (.seq (.reg [⟨some 27, .fadr 5 (.t 5), none⟩,
    ⟨some 28, .load (none) (.t 27), none⟩] [2, 3, 6, 10, 11, 28])
  (.cond (.t 28) (.seq (.regd [0, 1, 0, 0, 8, 0, 32, 0, 224, 480, 1016, 2047, 4095] [⟨some 29, .fadr 1 (.t 6), none⟩,
     ⟨some 30, .load (none) (.t 29), none⟩,
     ⟨some 31, .mv (.t 2), none⟩,
     ⟨some 32, .load (some 2) (.t 10), none⟩,
     ⟨some 33, .lit 2 [.v (Value.int .i64 0), .v (Value.int .i64 0)] [(0, 2, (.t 32))] true, none⟩,
     ⟨some 34, .fadr 1 (.t 6), none⟩,
     ⟨some 35, .load (none) (.t 34), none⟩,
     ⟨some 36, .mv (.t 2), none⟩,
     ⟨some 37, .iadr 1 (.t 35) (.t 36), none⟩,
     ⟨some 38, .load (none) (.t 37), none⟩,
     ⟨some 39, .app 2 16 (.t 33) (.t 38), none⟩,
     ⟨some 40, .iadr 1 (.t 30) (.t 31), none⟩,
     ⟨none, .store 1 (.t 40) (.t 39), none⟩] [3, 6, 11])
   (.seq (.regd [0, 1, 0, 0, 8, 0, 32, 0, 224, 480, 1016, 2047, 4095] [⟨some 41, .fadr 1 (.t 6), none⟩,
     ⟨some 42, .load (none) (.t 41), none⟩,
     ⟨some 43, .mv (.t 3), none⟩,
     ⟨some 44, .load (some 2) (.t 11), none⟩,
     ⟨some 45, .lit 2 [.v (Value.int .i64 0), .v (Value.int .i64 0)] [(0, 2, (.t 44))] true, none⟩,
     ⟨some 46, .fadr 1 (.t 6), none⟩,
     ⟨some 47, .load (none) (.t 46), none⟩,
     ⟨some 48, .mv (.t 3), none⟩,
     ⟨some 49, .iadr 1 (.t 47) (.t 48), none⟩,
     ⟨some 50, .load (none) (.t 49), none⟩,
     ⟨some 51, .app 2 16 (.t 45) (.t 50), none⟩,
     ⟨some 52, .iadr 1 (.t 42) (.t 43), none⟩,
     ⟨none, .store 1 (.t 52) (.t 51), none⟩] [])
   (.ret)))
   (.skip)))
  (.regd [0, 1, 0, 0, 8, 0, 0, 64, 0, 448, 960, 0, 2048, 8128, 0, 16384, 0, 114688, 245760, 0, 524288, 2097088, 4194247, 8388551, 16777215, 33554431] [⟨some 53, .fadr 1 (.t 6), none⟩,
    ⟨some 54, .load (none) (.t 53), none⟩,
    ⟨some 55, .mv (.t 2), none⟩,
    ⟨some 56, .fadr 1 (.t 6), none⟩,
    ⟨some 57, .load (none) (.t 56), none⟩,
    ⟨some 58, .mv (.t 3), none⟩,
    ⟨some 59, .fadr 1 (.t 6), none⟩,
    ⟨some 60, .load (none) (.t 59), none⟩,
    ⟨some 61, .mv (.t 2), none⟩,
    ⟨some 62, .iadr 1 (.t 60) (.t 61), none⟩,
    ⟨some 63, .load (none) (.t 62), none⟩,
    ⟨some 64, .load (some 2) (.t 10), none⟩,
    ⟨some 65, .lit 2 [.v (Value.int .i64 0), .v (Value.int .i64 0)] [(0, 2, (.t 64))] false, none⟩,
    ⟨some 66, .app 2 16 (.t 63) (.t 65), none⟩,
    ⟨some 67, .fadr 1 (.t 6), none⟩,
    ⟨some 68, .load (none) (.t 67), none⟩,
    ⟨some 69, .mv (.t 3), none⟩,
    ⟨some 70, .iadr 1 (.t 68) (.t 69), none⟩,
    ⟨some 71, .load (none) (.t 70), none⟩,
    ⟨some 72, .load (some 2) (.t 11), none⟩,
    ⟨some 73, .lit 2 [.v (Value.int .i64 0), .v (Value.int .i64 0)] [(0, 2, (.t 72))] false, none⟩,
    ⟨some 74, .app 2 16 (.t 71) (.t 73), none⟩,
    ⟨some 75, .iadr 1 (.t 54) (.t 55), none⟩,
    ⟨none, .store 1 (.t 75) (.t 66), none⟩,
    ⟨some 76, .iadr 1 (.t 57) (.t 58), none⟩,
    ⟨none, .store 1 (.t 76) (.t 74), none⟩] [])))))⟩

-- 58 selfstab/selfstabworld.Within
def m_selfstabworld_Within : MF := ⟨16, [.tmp 4], true, (
  .seq (.reg [⟨some 4, .mv (.c (Value.int IntKind.i64 0)), none⟩] [0, 1])
  (.seq (.seq (.reg [⟨some 5, .mv (.t 1), none⟩,
    ⟨some 6, .bin .lss (.t 5) (.c (Value.int IntKind.i64 1)), none⟩] [0, 1, 6])
  (.cond (.t 6) (.seq (.reg [⟨some 4, .mv (.c (Value.int IntKind.i64 0)), none⟩] [4])
   (.ret))
   (.skip)))
  (.seq (.reg [⟨some 7, .mv (.t 0), none⟩,
    ⟨some 8, .mv (.t 1), none⟩,
    ⟨some 9, .bin .rem (.t 7) (.t 8), none⟩,
    ⟨some 0, .mv (.t 9), none⟩] [0, 1])
  (.seq (.seq (.reg [⟨some 10, .mv (.t 0), none⟩,
    ⟨some 11, .bin .lss (.t 10) (.c (Value.int IntKind.i64 0)), none⟩] [0, 1, 11])
  (.cond (.t 11) (.reg [⟨some 12, .mv (.t 0), none⟩,
     ⟨some 13, .mv (.t 1), none⟩,
     ⟨some 14, .bin .add (.t 12) (.t 13), none⟩,
     ⟨some 0, .mv (.t 14), none⟩] [0])
   (.skip)))
  (.seq (.reg [⟨some 15, .mv (.t 0), none⟩,
    ⟨some 4, .mv (.t 15), none⟩] [4])
  (.ret))))))⟩

-- 57 selfstab/selfstabworld.at
def m_selfstabworld_at : MF := ⟨13, [.tmp 4], true, (
  .seq (.reg [⟨some 4, .mv (.c (Value.int IntKind.i64 0)), none⟩] [0, 1])
  (.seq (.seq (.reg [⟨some 5, .mv (.t 1), none⟩,
    ⟨some 6, .mv (.t 0), none⟩,
    ⟨some 7, .len 1 (.t 6), none⟩,
    ⟨some 8, .bin .lss (.t 5) (.t 7), none⟩] [0, 1, 8])
  (.cond (.t 8) (.seq (.reg [⟨some 9, .mv (.t 0), none⟩,
     ⟨some 10, .mv (.t 1), none⟩,
     ⟨some 11, .iadr 1 (.t 9) (.t 10), none⟩,
     ⟨some 12, .load (none) (.t 11), none⟩,
     ⟨some 4, .mv (.t 12), none⟩] [4])
   (.ret))
   (.skip)))
  (.seq (.reg [⟨some 4, .mv (.c (Value.int IntKind.i64 0)), none⟩] [4])
  (.ret))))⟩

-- 60 selfstab/selfstabref01.In
def m_selfstabref01_In : MF := ⟨15, [.tmp 6], true, (
  .seq (.reg [⟨some 6, .mv (.c (Value.bool false)), none⟩] [0, 1, 2])
  (.seq (.reg [⟨some 7, .mv (.t 0), none⟩,
    ⟨some 8, .mv (.t 1), none⟩,
    ⟨some 9, .bin .geq (.t 7) (.t 8), none⟩,
    ⟨some 10, .mv (.t 9), none⟩,
    ⟨some 11, .mv (.t 0), some (10, true)⟩,
    ⟨some 12, .mv (.t 2), some (10, true)⟩,
    ⟨some 13, .bin .leq (.t 11) (.t 12), some (10, true)⟩,
    ⟨some 14, .pick (.t 10) (.t 13) (.c (Value.bool false)), none⟩,
    ⟨some 6, .mv (.t 14), none⟩] [6])
  (.ret)))⟩

-- 61 selfstab/selfstabref01.linksValid
def m_selfstabref01_linksValid_L1 : MC :=
  .seq (.seq (.reg [⟨some 42, .mv (.t 8), none⟩,
    ⟨some 43, .mv (.t 7), none⟩,
    ⟨some 44, .bin .lss (.t 42) (.t 43), none⟩] [0, 1, 2, 7, 8, 44])
  (.cond (.t 44) (.skip)
   (.exit 2)))
  (.seq (.block 3 (.seq (.reg [⟨some 47, .mv (.t 0), none⟩,
     ⟨some 48, .mv (.t 8), none⟩,
     ⟨some 49, .iadr 2 (.t 47) (.t 48), none⟩,
     ⟨some 50, .fadr 0 (.t 49), none⟩,
     ⟨some 51, .load (none) (.t 50), none⟩,
     ⟨some 52, .mv (.t 0), none⟩,
     ⟨some 53, .mv (.t 7), none⟩,
     ⟨some 54, .iadr 2 (.t 52) (.t 53), none⟩,
     ⟨some 55, .fadr 0 (.t 54), none⟩,
     ⟨some 56, .load (none) (.t 55), none⟩,
     ⟨some 57, .bin .eql (.t 51) (.t 56), none⟩] [0, 1, 2, 7, 8, 57])
   (.cond (.t 57) (.seq (.reg [⟨some 6, .mv (.c (Value.bool false)), none⟩] [6])
    (.ret))
    (.skip))))
  (.reg [⟨some 45, .mv (.t 8), none⟩,
    ⟨some 46, .bin .add (.t 45) (.c (Value.int IntKind.i64 1)), none⟩,
    ⟨some 8, .mv (.t 46), none⟩] [0, 1, 2, 7, 8]))

def m_selfstabref01_linksValid_L0 : MC :=
  .seq (.seq (.reg [⟨some 9, .mv (.t 7), none⟩,
    ⟨some 10, .mv (.t 0), none⟩,
    ⟨some 11, .len 1 (.t 10), none⟩,
    ⟨some 12, .bin .lss (.t 9) (.t 11), none⟩] [0, 1, 2, 7, 12])
  (.cond (.t 12) (.skip)
   (.exit 0)))
  (.seq (.block 1 (.seq (.seq (.reg [⟨some 15, .mv (.t 0), none⟩,
     ⟨some 16, .mv (.t 7), none⟩,
     ⟨some 17, .iadr 2 (.t 15) (.t 16), none⟩,
     ⟨some 18, .fadr 0 (.t 17), none⟩,
     ⟨some 19, .load (none) (.t 18), none⟩,
     ⟨some 20, .mv (.t 2), none⟩,
     ⟨some 21, .bin .sub (.t 20) (.c (Value.int IntKind.i64 1)), none⟩,
     ⟨some 22, .call 60 [.t 19, .c (Value.int IntKind.i64 0), .t 21], none⟩,
     ⟨some 23, .un .not (.t 22), none⟩,
     ⟨some 24, .mv (.t 23), none⟩,
     ⟨some 25, .mv (.t 0), some (24, false)⟩,
     ⟨some 26, .mv (.t 7), some (24, false)⟩,
     ⟨some 27, .iadr 2 (.t 25) (.t 26), some (24, false)⟩,
     ⟨some 28, .fadr 0 (.t 27), some (24, false)⟩,
     ⟨some 29, .load (none) (.t 28), some (24, false)⟩,
     ⟨some 30, .mv (.t 1), some (24, false)⟩,
     ⟨some 31, .bin .eql (.t 29) (.t 30), some (24, false)⟩,
     ⟨some 32, .pick (.t 24) (.c (Value.bool true)) (.t 31), none⟩,
     ⟨some 33, .mv (.t 32), none⟩,
     ⟨some 34, .mv (.t 0), some (33, false)⟩,
     ⟨some 35, .mv (.t 7), some (33, false)⟩,
     ⟨some 36, .iadr 2 (.t 34) (.t 35), some (33, false)⟩,
     ⟨some 37, .fadr 1 (.t 36), some (33, false)⟩,
     ⟨some 38, .load (none) (.t 37), some (33, false)⟩,
     ⟨some 39, .call 60 [.t 38, .c (Value.int IntKind.i64 1), .c (Value.int IntKind.i64 15)], some (33, false)⟩,
     ⟨some 40, .un .not (.t 39), some (33, false)⟩,
     ⟨some 41, .pick (.t 33) (.c (Value.bool true)) (.t 40), none⟩] [0, 1, 2, 7, 41])
   (.cond (.t 41) (.seq (.reg [⟨some 6, .mv (.c (Value.bool false)), none⟩] [6])
    (.ret))
    (.skip)))
   (.seq (.reg [⟨some 8, .mv (.c (Value.int IntKind.i64 0)), none⟩] [0, 1, 2, 7, 8])
   (.block 2 (.loop [0, 1, 2, 7, 8] m_selfstabref01_linksValid_L1)))))
  (.reg [⟨some 13, .mv (.t 7), none⟩,
    ⟨some 14, .bin .add (.t 13) (.c (Value.int IntKind.i64 1)), none⟩,
    ⟨some 7, .mv (.t 14), none⟩] [0, 1, 2, 7]))

def m_selfstabref01_linksValid : MF := ⟨58, [.tmp 6], true, (
  .seq (.reg [⟨some 6, .mv (.c (Value.bool false)), none⟩] [0, 1, 2])
  (.seq (.seq (.reg [⟨some 7, .mv (.c (Value.int IntKind.i64 0)), none⟩] [0, 1, 2, 7])
  (.block 0 (.loop [0, 1, 2, 7] m_selfstabref01_linksValid_L0)))
  (.seq (.reg [⟨some 6, .mv (.c (Value.bool true)), none⟩] [6])
  (.ret))))⟩

-- 62 selfstab/shape.Holds
def m_shape_Holds_L1 : MC :=
  .seq (.reg [⟨some 34, .bin .lss (.t 33) (.t 32), none⟩] [2, 3, 7, 19, 20, 21, 31, 32, 33, 34])
  (.seq (.cond (.t 34) (.skip)
   (.exit 2))
  (.seq (.block 3 (.seq (.reg [⟨some 35, .mv (.t 33), none⟩,
     ⟨some 36, .iadr 1 (.t 31) (.t 33), none⟩,
     ⟨some 37, .load (none) (.t 36), none⟩,
     ⟨some 9, .mv (.t 35), none⟩,
     ⟨some 10, .mv (.t 37), none⟩] [2, 3, 7, 9, 10, 19, 20, 21, 31, 32, 33])
   (.seq (.reg [⟨some 38, .mv (.t 2), none⟩,
     ⟨some 39, .mv (.t 9), none⟩,
     ⟨some 40, .iadr 1 (.t 38) (.t 39), none⟩,
     ⟨some 41, .load (none) (.t 40), none⟩,
     ⟨some 11, .mv (.c (Value.int IntKind.i64 0)), none⟩,
     ⟨some 12, .mv (.t 41), none⟩] [2, 3, 7, 10, 11, 12, 19, 20, 21, 31, 32, 33])
   (.seq (.seq (.reg [⟨some 42, .mv (.t 12), none⟩,
     ⟨some 43, .bin .eql (.t 42) (.c (Value.int IntKind.i64 (-1))), none⟩] [2, 3, 7, 10, 11, 12, 19, 20, 21, 31, 32, 33, 43])
   (.cond (.t 43) (.reg [⟨some 44, .fadr 1 (.t 3), none⟩,
      ⟨some 45, .load (none) (.t 44), none⟩,
      ⟨some 46, .mv (.t 7), none⟩,
      ⟨some 47, .iadr 1 (.t 45) (.t 46), none⟩,
      ⟨some 48, .load (none) (.t 47), none⟩,
      ⟨some 49, .len 1 (.t 48), none⟩,
      ⟨some 50, .bin .sub (.t 49) (.c (Value.int IntKind.i64 1)), none⟩,
      ⟨some 11, .mv (.c (Value.int IntKind.i64 (-1))), none⟩,
      ⟨some 12, .mv (.t 50), none⟩] [2, 3, 7, 10, 11, 12, 19, 20, 21, 31, 32, 33])
    (.skip)))
   (.seq (.reg [⟨some 51, .mv (.t 10), none⟩,
     ⟨some 52, .mv (.t 11), none⟩,
     ⟨some 53, .bin .lss (.t 51) (.t 52), none⟩,
     ⟨some 54, .mv (.t 53), none⟩,
     ⟨some 55, .mv (.t 10), some (54, false)⟩,
     ⟨some 56, .mv (.t 12), some (54, false)⟩,
     ⟨some 57, .bin .gtr (.t 55) (.t 56), some (54, false)⟩,
     ⟨some 58, .pick (.t 54) (.c (Value.bool true)) (.t 57), none⟩] [2, 3, 7, 19, 20, 21, 31, 32, 33, 58])
   (.cond (.t 58) (.seq (.reg [⟨some 6, .mv (.c (Value.bool false)), none⟩] [6])
    (.ret))
    (.skip)))))))
  (.reg [⟨some 59, .bin .add (.t 33) (.c (Value.int IntKind.i64 1)), none⟩,
    ⟨some 33, .mv (.t 59), none⟩] [2, 3, 7, 19, 20, 21, 31, 32, 33])))

def m_shape_Holds_L0 : MC :=
  .seq (.reg [⟨some 22, .bin .lss (.t 21) (.t 20), none⟩] [2, 3, 19, 20, 21, 22])
  (.seq (.cond (.t 22) (.skip)
   (.exit 0))
  (.seq (.block 1 (.seq (.reg [⟨some 23, .mv (.t 21), none⟩,
     ⟨some 24, .iadr 1 (.t 19) (.t 21), none⟩,
     ⟨some 25, .load (none) (.t 24), none⟩,
     ⟨some 7, .mv (.t 23), none⟩,
     ⟨some 8, .mv (.t 25), none⟩] [2, 3, 7, 8, 19, 20, 21])
   (.seq (.seq (.reg [⟨some 26, .mv (.t 8), none⟩,
     ⟨some 27, .len 1 (.t 26), none⟩,
     ⟨some 28, .mv (.t 2), none⟩,
     ⟨some 29, .len 1 (.t 28), none⟩,
     ⟨some 30, .bin .neq (.t 27) (.t 29), none⟩] [2, 3, 7, 8, 19, 20, 21, 30])
   (.cond (.t 30) (.seq (.reg [⟨some 6, .mv (.c (Value.bool false)), none⟩] [6])
    (.ret))
    (.skip)))
   (.seq (.reg [⟨some 31, .mv (.t 8), none⟩,
     ⟨some 32, .len 1 (.t 31), none⟩,
     ⟨some 33, .mv (.c (Value.int IntKind.i64 0)), none⟩] [2, 3, 7, 19, 20, 21, 31, 32, 33])
   (.block 2 (.loop [2, 3, 7, 19, 20, 21, 31, 32, 33] m_shape_Holds_L1))))))
  (.reg [⟨some 60, .bin .add (.t 21) (.c (Value.int IntKind.i64 1)), none⟩,
    ⟨some 21, .mv (.t 60), none⟩] [2, 3, 19, 20, 21])))

def m_shape_Holds : MF := ⟨61, [.tmp 6], true, (
  .seq (.reg [⟨some 3, .box 2 (.t 0), none⟩,
    ⟨some 6, .mv (.c (Value.bool false)), none⟩] [1, 2, 3])
  (.seq (.seq (.reg [⟨some 13, .mv (.t 1), none⟩,
    ⟨some 14, .len 1 (.t 13), none⟩,
    ⟨some 15, .fadr 1 (.t 3), none⟩,
    ⟨some 16, .load (none) (.t 15), none⟩,
    ⟨some 17, .len 1 (.t 16), none⟩,
    ⟨some 18, .bin .neq (.t 14) (.t 17), none⟩] [1, 2, 3, 18])
  (.cond (.t 18) (.seq (.reg [⟨some 6, .mv (.c (Value.bool false)), none⟩] [6])
   (.ret))
   (.skip)))
  (.seq (.seq (.reg [⟨some 19, .mv (.t 1), none⟩,
    ⟨some 20, .len 1 (.t 19), none⟩,
    ⟨some 21, .mv (.c (Value.int IntKind.i64 0)), none⟩] [2, 3, 19, 20, 21])
  (.block 0 (.loop [2, 3, 19, 20, 21] m_shape_Holds_L0)))
  (.seq (.reg [⟨some 6, .mv (.c (Value.bool true)), none⟩] [6])
  (.ret)))))⟩

-- 63 selfstab/selfstabref23.top
def m_selfstabref23_top_L0 : MC :=
  .seq (.seq (.reg [⟨some 5, .mv (.t 4), none⟩,
    ⟨some 6, .fadr 0 (.t 1), none⟩,
    ⟨some 7, .load (none) (.t 6), none⟩,
    ⟨some 8, .len 1 (.t 7), none⟩,
    ⟨some 9, .bin .lss (.t 5) (.t 8), none⟩] [1, 3, 4, 9])
  (.cond (.t 9) (.skip)
   (.exit 0)))
  (.seq (.block 1 (.reg [⟨some 12, .mv (.t 3), none⟩,
     ⟨some 13, .fadr 0 (.t 1), none⟩,
     ⟨some 14, .load (none) (.t 13), none⟩,
     ⟨some 15, .mv (.t 4), none⟩,
     ⟨some 16, .iadr 1 (.t 14) (.t 15), none⟩,
     ⟨some 17, .load (none) (.t 16), none⟩,
     ⟨some 18, .mx [.t 12, .t 17], none⟩,
     ⟨some 3, .mv (.t 18), none⟩] [1, 3, 4]))
  (.reg [⟨some 10, .mv (.t 4), none⟩,
    ⟨some 11, .bin .add (.t 10) (.c (Value.int IntKind.i64 1)), none⟩,
    ⟨some 4, .mv (.t 11), none⟩] [1, 3, 4]))

def m_selfstabref23_top : MF := ⟨20, [.tmp 2], true, (
  .seq (.reg [⟨some 1, .box 2 (.t 0), none⟩,
    ⟨some 2, .mv (.c (Value.int IntKind.i64 0)), none⟩] [1])
  (.seq (.reg [⟨some 3, .mv (.c (Value.int IntKind.i64 0)), none⟩] [1, 3])
  (.seq (.seq (.reg [⟨some 4, .mv (.c (Value.int IntKind.i64 0)), none⟩] [1, 3, 4])
  (.block 0 (.loop [1, 3, 4] m_selfstabref23_top_L0)))
  (.seq (.reg [⟨some 19, .mv (.t 3), none⟩,
    ⟨some 2, .mv (.t 19), none⟩] [2])
  (.ret)))))⟩

-- 64 selfstab/selfstabref23.Truth
def m_selfstabref23_Truth : MF := ⟨5, [.cell 2 (some 6)], true, (
  .seq (.reg [⟨some 2, .new [.v (Value.string ⟨#[]⟩), .v (Value.int .i64 0), .v (Value.int .i64 0), .v (Value.int .i64 0), .v (Value.int .i64 0), .v (Value.int .i64 0)], none⟩] [0, 2])
  (.seq (.reg [⟨some 3, .mv (.t 0), none⟩,
    ⟨some 4, .build [.v (Value.string ⟨#[]⟩), .v (Value.int .i64 0), .v (Value.int .i64 0), .v (Value.int .i64 0), .v (Value.int .i64 0), .v (Value.int .i64 0)] [(0, 1, (.t 3)), (1, 1, (.c (Value.int IntKind.i64 2)))], none⟩,
    ⟨none, .store 6 (.t 2) (.t 4), none⟩] [2])
  (.ret)))⟩

-- 65 selfstab/selfstabref23.Pointer
def m_selfstabref23_Pointer : MF := ⟨5, [.cell 2 (some 6)], true, (
  .seq (.reg [⟨some 2, .new [.v (Value.string ⟨#[]⟩), .v (Value.int .i64 0), .v (Value.int .i64 0), .v (Value.int .i64 0), .v (Value.int .i64 0), .v (Value.int .i64 0)], none⟩] [0, 2])
  (.seq (.reg [⟨some 3, .mv (.t 0), none⟩,
    ⟨some 4, .build [.v (Value.string ⟨#[]⟩), .v (Value.int .i64 0), .v (Value.int .i64 0), .v (Value.int .i64 0), .v (Value.int .i64 0), .v (Value.int .i64 0)] [(0, 1, (.t 3)), (1, 1, (.c (Value.int IntKind.i64 3)))], none⟩,
    ⟨none, .store 6 (.t 2) (.t 4), none⟩] [2])
  (.ret)))⟩

-- 66 selfstab/selfstabref01.Independent
def m_selfstabref01_Independent : MF := ⟨23, [.tmp 4], true, (
  .seq (.reg [⟨some 2, .box 2 (.t 0), none⟩,
    ⟨some 4, .mv (.c (Value.bool false)), none⟩] [1, 2])
  (.seq (.seq (.reg [⟨some 5, .load (some 2) (.t 2), none⟩,
    ⟨some 6, .call 33 [.t 5], none⟩,
    ⟨some 7, .un .not (.t 6), none⟩,
    ⟨some 8, .mv (.t 7), none⟩,
    ⟨some 9, .mv (.t 1), some (8, false)⟩,
    ⟨some 10, .fadr 1 (.t 2), some (8, false)⟩,
    ⟨some 11, .load (none) (.t 10), some (8, false)⟩,
    ⟨some 12, .len 1 (.t 11), some (8, false)⟩,
    ⟨some 13, .call 68 [.t 12], some (8, false)⟩,
    ⟨some 14, .bin .andNot (.t 9) (.t 13), some (8, false)⟩,
    ⟨some 15, .bin .neq (.t 14) (.c (Value.int IntKind.u32 0)), some (8, false)⟩,
    ⟨some 16, .pick (.t 8) (.c (Value.bool true)) (.t 15), none⟩] [1, 2, 16])
  (.cond (.t 16) (.seq (.reg [⟨some 4, .mv (.c (Value.bool false)), none⟩] [4])
   (.ret))
   (.skip)))
  (.seq (.reg [⟨some 17, .load (some 2) (.t 2), none⟩,
    ⟨some 18, .mv (.t 1), none⟩,
    ⟨some 19, .call 67 [.t 17, .t 18], none⟩,
    ⟨some 20, .mv (.t 1), none⟩,
    ⟨some 21, .bin .and (.t 19) (.t 20), none⟩,
    ⟨some 22, .bin .eql (.t 21) (.c (Value.int IntKind.u32 0)), none⟩,
    ⟨some 4, .mv (.t 22), none⟩] [4])
  (.ret))))⟩

-- 67 selfstab/selfstabref01.Neighbours
def m_selfstabref01_Neighbours_L1 : MC :=
  .seq (.seq (.reg [⟨some 18, .mv (.t 7), none⟩,
    ⟨some 19, .fadr 1 (.t 2), none⟩,
    ⟨some 20, .load (none) (.t 19), none⟩,
    ⟨some 21, .mv (.t 6), none⟩,
    ⟨some 22, .iadr 1 (.t 20) (.t 21), none⟩,
    ⟨some 23, .load (none) (.t 22), none⟩,
    ⟨some 24, .len 1 (.t 23), none⟩,
    ⟨some 25, .bin .lss (.t 18) (.t 24), none⟩] [1, 2, 5, 6, 7, 25])
  (.cond (.t 25) (.skip)
   (.exit 2)))
  (.seq (.block 3 (.seq (.reg [⟨some 28, .mv (.t 1), none⟩,
     ⟨some 29, .fadr 1 (.t 2), none⟩,
     ⟨some 30, .load (none) (.t 29), none⟩,
     ⟨some 31, .mv (.t 6), none⟩,
     ⟨some 32, .iadr 1 (.t 30) (.t 31), none⟩,
     ⟨some 33, .load (none) (.t 32), none⟩,
     ⟨some 34, .mv (.t 7), none⟩,
     ⟨some 35, .iadr 2 (.t 33) (.t 34), none⟩,
     ⟨some 36, .fadr 0 (.t 35), none⟩,
     ⟨some 37, .load (none) (.t 36), none⟩,
     ⟨some 38, .call 83 [.t 28, .t 37], none⟩] [1, 2, 5, 6, 7, 38])
   (.cond (.t 38) (.reg [⟨some 39, .mv (.t 5), none⟩,
      ⟨some 40, .mv (.t 6), none⟩,
      ⟨some 41, .conv .u64 (.t 40), none⟩,
      ⟨some 42, .bin .shl (.c (Value.int IntKind.u32 1)) (.t 41), none⟩,
      ⟨some 43, .bin .or (.t 39) (.t 42), none⟩,
      ⟨some 5, .mv (.t 43), none⟩] [1, 2, 5, 6, 7])
    (.skip))))
  (.reg [⟨some 26, .mv (.t 7), none⟩,
    ⟨some 27, .bin .add (.t 26) (.c (Value.int IntKind.i64 1)), none⟩,
    ⟨some 7, .mv (.t 27), none⟩] [1, 2, 5, 6, 7]))

def m_selfstabref01_Neighbours_L0 : MC :=
  .seq (.seq (.reg [⟨some 11, .mv (.t 6), none⟩,
    ⟨some 12, .fadr 1 (.t 2), none⟩,
    ⟨some 13, .load (none) (.t 12), none⟩,
    ⟨some 14, .len 1 (.t 13), none⟩,
    ⟨some 15, .bin .lss (.t 11) (.t 14), none⟩] [1, 2, 5, 6, 15])
  (.cond (.t 15) (.skip)
   (.exit 0)))
  (.seq (.block 1 (.seq (.reg [⟨some 7, .mv (.c (Value.int IntKind.i64 0)), none⟩] [1, 2, 5, 6, 7])
   (.block 2 (.loop [1, 2, 5, 6, 7] m_selfstabref01_Neighbours_L1))))
  (.reg [⟨some 16, .mv (.t 6), none⟩,
    ⟨some 17, .bin .add (.t 16) (.c (Value.int IntKind.i64 1)), none⟩,
    ⟨some 6, .mv (.t 17), none⟩] [1, 2, 5, 6]))

def m_selfstabref01_Neighbours : MF := ⟨45, [.tmp 4], true, (
  .seq (.reg [⟨some 2, .box 2 (.t 0), none⟩,
    ⟨some 4, .mv (.c (Value.int IntKind.u32 0)), none⟩] [1, 2])
  (.seq (.seq (.reg [⟨some 8, .load (some 2) (.t 2), none⟩,
    ⟨some 9, .call 33 [.t 8], none⟩,
    ⟨some 10, .un .not (.t 9), none⟩] [1, 2, 10])
  (.cond (.t 10) (.seq (.reg [⟨some 4, .mv (.c (Value.int IntKind.u32 0)), none⟩] [4])
   (.ret))
   (.skip)))
  (.seq (.reg [⟨some 5, .mv (.c (Value.int IntKind.u32 0)), none⟩] [1, 2, 5])
  (.seq (.seq (.reg [⟨some 6, .mv (.c (Value.int IntKind.i64 0)), none⟩] [1, 2, 5, 6])
  (.block 0 (.loop [1, 2, 5, 6] m_selfstabref01_Neighbours_L0)))
  (.seq (.reg [⟨some 44, .mv (.t 5), none⟩,
    ⟨some 4, .mv (.t 44), none⟩] [4])
  (.ret))))))⟩

-- 68 selfstab/selfstabref01.All
def m_selfstabref01_All_L0 : MC :=
  .seq (.seq (.reg [⟨some 5, .mv (.t 4), none⟩,
    ⟨some 6, .mv (.t 0), none⟩,
    ⟨some 7, .bin .lss (.t 5) (.t 6), none⟩,
    ⟨some 8, .mv (.t 7), none⟩,
    ⟨some 9, .mv (.t 4), some (8, true)⟩,
    ⟨some 10, .bin .lss (.t 9) (.c (Value.int IntKind.i64 32)), some (8, true)⟩,
    ⟨some 11, .pick (.t 8) (.t 10) (.c (Value.bool false)), none⟩] [0, 3, 4, 11])
  (.cond (.t 11) (.skip)
   (.exit 0)))
  (.seq (.block 1 (.reg [⟨some 14, .mv (.t 3), none⟩,
     ⟨some 15, .mv (.t 4), none⟩,
     ⟨some 16, .conv .u64 (.t 15), none⟩,
     ⟨some 17, .bin .shl (.c (Value.int IntKind.u32 1)) (.t 16), none⟩,
     ⟨some 18, .bin .or (.t 14) (.t 17), none⟩,
     ⟨some 3, .mv (.t 18), none⟩] [0, 3, 4]))
  (.reg [⟨some 12, .mv (.t 4), none⟩,
    ⟨some 13, .bin .add (.t 12) (.c (Value.int IntKind.i64 1)), none⟩,
    ⟨some 4, .mv (.t 13), none⟩] [0, 3, 4]))

def m_selfstabref01_All : MF := ⟨20, [.tmp 2], true, (
  .seq (.reg [⟨some 2, .mv (.c (Value.int IntKind.u32 0)), none⟩] [0])
  (.seq (.reg [⟨some 3, .mv (.c (Value.int IntKind.u32 0)), none⟩] [0, 3])
  (.seq (.seq (.reg [⟨some 4, .mv (.c (Value.int IntKind.i64 0)), none⟩] [0, 3, 4])
  (.block 0 (.loop [0, 3, 4] m_selfstabref01_All_L0)))
  (.seq (.reg [⟨some 19, .mv (.t 3), none⟩,
    ⟨some 2, .mv (.t 19), none⟩] [2])
  (.ret)))))⟩

-- 82 selfstab/selfstabworld.linked
def m_selfstabworld_linked_L0 : MC :=
  .seq (.seq (.reg [⟨some 8, .mv (.t 7), none⟩,
    ⟨some 9, .fadr 1 (.t 3), none⟩,
    ⟨some 10, .load (none) (.t 9), none⟩,
    ⟨some 11, .mv (.t 1), none⟩,
    ⟨some 12, .iadr 1 (.t 10) (.t 11), none⟩,
    ⟨some 13, .load (none) (.t 12), none⟩,
    ⟨some 14, .len 1 (.t 13), none⟩,
    ⟨some 15, .bin .lss (.t 8) (.t 14), none⟩] [1, 2, 3, 7, 15])
  (.cond (.t 15) (.skip)
   (.exit 0)))
  (.seq (.block 1 (.seq (.reg [⟨some 18, .fadr 1 (.t 3), none⟩,
     ⟨some 19, .load (none) (.t 18), none⟩,
     ⟨some 20, .mv (.t 1), none⟩,
     ⟨some 21, .iadr 1 (.t 19) (.t 20), none⟩,
     ⟨some 22, .load (none) (.t 21), none⟩,
     ⟨some 23, .mv (.t 7), none⟩,
     ⟨some 24, .iadr 2 (.t 22) (.t 23), none⟩,
     ⟨some 25, .fadr 0 (.t 24), none⟩,
     ⟨some 26, .load (none) (.t 25), none⟩,
     ⟨some 27, .mv (.t 2), none⟩,
     ⟨some 28, .bin .eql (.t 26) (.t 27), none⟩] [1, 2, 3, 7, 28])
   (.cond (.t 28) (.seq (.reg [⟨some 6, .mv (.c (Value.bool true)), none⟩] [6])
    (.ret))
    (.skip))))
  (.reg [⟨some 16, .mv (.t 7), none⟩,
    ⟨some 17, .bin .add (.t 16) (.c (Value.int IntKind.i64 1)), none⟩,
    ⟨some 7, .mv (.t 17), none⟩] [1, 2, 3, 7]))

def m_selfstabworld_linked : MF := ⟨29, [.tmp 6], true, (
  .seq (.reg [⟨some 3, .box 2 (.t 0), none⟩,
    ⟨some 6, .mv (.c (Value.bool false)), none⟩] [1, 2, 3])
  (.seq (.seq (.reg [⟨some 7, .mv (.c (Value.int IntKind.i64 0)), none⟩] [1, 2, 3, 7])
  (.block 0 (.loop [1, 2, 3, 7] m_selfstabworld_linked_L0)))
  (.seq (.reg [⟨some 6, .mv (.c (Value.bool false)), none⟩] [6])
  (.ret))))⟩

-- 83 selfstab/selfstabref01.Has
def m_selfstabref01_Has : MF := ⟨19, [.tmp 4], true, (
  .seq (.reg [⟨some 4, .mv (.c (Value.bool false)), none⟩] [0, 1])
  (.seq (.reg [⟨some 5, .mv (.t 1), none⟩,
    ⟨some 6, .bin .geq (.t 5) (.c (Value.int IntKind.i64 0)), none⟩,
    ⟨some 7, .mv (.t 6), none⟩,
    ⟨some 8, .mv (.t 1), some (7, true)⟩,
    ⟨some 9, .bin .lss (.t 8) (.c (Value.int IntKind.i64 32)), some (7, true)⟩,
    ⟨some 10, .pick (.t 7) (.t 9) (.c (Value.bool false)), none⟩,
    ⟨some 11, .mv (.t 10), none⟩,
    ⟨some 12, .mv (.t 0), some (11, true)⟩,
    ⟨some 13, .mv (.t 1), some (11, true)⟩,
    ⟨some 14, .conv .u64 (.t 13), some (11, true)⟩,
    ⟨some 15, .bin .shr (.t 12) (.t 14), some (11, true)⟩,
    ⟨some 16, .bin .and (.t 15) (.c (Value.int IntKind.u32 1)), some (11, true)⟩,
    ⟨some 17, .bin .eql (.t 16) (.c (Value.int IntKind.u32 1)), some (11, true)⟩,
    ⟨some 18, .pick (.t 11) (.t 17) (.c (Value.bool false)), none⟩,
    ⟨some 4, .mv (.t 18), none⟩] [4])
  (.ret)))⟩

def fnsL : List (Nat × MF) :=
  [(12, m_selfstablaw34_ClusterJudges),
   (1, m_selfstablaw34_large),
   (2, m_selfstablaw34_known),
   (3, m_cluster_Fit),
   (4, m_selfstabref34_Fit),
   (5, m_cluster_Legit),
   (6, m_selfstabref34_Legit),
   (7, m_cluster_Claim),
   (8, m_selfstabref34_Claim),
   (11, m_selfstablaw34_sameInts),
   (9, m_cluster_Heads),
   (10, m_selfstabref34_Heads),
   (31, m_selfstabworld_Net_Tree),
   (32, m_graph_Valid),
   (33, m_selfstabref01_Valid),
   (34, m_cluster_configuration),
   (36, m_slices_IndexFunc_api_Link_api_Link),
   (35, m_cluster_Legit_1),
   (38, m_selfstabref23_Config),
   (37, m_selfstabref34_Vars),
   (40, m_selfstabref31_Maximal),
   (39, m_selfstabref31_Ones),
   (41, m_graph_Size),
   (42, m_selfstabref01_Size),
   (43, m_shape_At),
   (44, m_selfstabref23_Named),
   (46, m_selfstabref01_Port),
   (56, m_selfstabworld_Net_nodes),
   (59, m_selfstabworld_Net_link),
   (58, m_selfstabworld_Within),
   (57, m_selfstabworld_at),
   (60, m_selfstabref01_In),
   (61, m_selfstabref01_linksValid),
   (62, m_shape_Holds),
   (63, m_selfstabref23_top),
   (64, m_selfstabref23_Truth),
   (65, m_selfstabref23_Pointer),
   (66, m_selfstabref01_Independent),
   (67, m_selfstabref01_Neighbours),
   (68, m_selfstabref01_All),
   (82, m_selfstabworld_linked),
   (83, m_selfstabref01_Has)]
def prgF (g : Nat) : Option MF := (fnsL.find? (·.1 = g)).map (·.2)
@[simp] theorem prgF_12 : prgF 12 = some m_selfstablaw34_ClusterJudges := rfl
@[simp] theorem prgF_1 : prgF 1 = some m_selfstablaw34_large := rfl
@[simp] theorem prgF_2 : prgF 2 = some m_selfstablaw34_known := rfl
@[simp] theorem prgF_3 : prgF 3 = some m_cluster_Fit := rfl
@[simp] theorem prgF_4 : prgF 4 = some m_selfstabref34_Fit := rfl
@[simp] theorem prgF_5 : prgF 5 = some m_cluster_Legit := rfl
@[simp] theorem prgF_6 : prgF 6 = some m_selfstabref34_Legit := rfl
@[simp] theorem prgF_7 : prgF 7 = some m_cluster_Claim := rfl
@[simp] theorem prgF_8 : prgF 8 = some m_selfstabref34_Claim := rfl
@[simp] theorem prgF_11 : prgF 11 = some m_selfstablaw34_sameInts := rfl
@[simp] theorem prgF_9 : prgF 9 = some m_cluster_Heads := rfl
@[simp] theorem prgF_10 : prgF 10 = some m_selfstabref34_Heads := rfl
@[simp] theorem prgF_31 : prgF 31 = some m_selfstabworld_Net_Tree := rfl
@[simp] theorem prgF_32 : prgF 32 = some m_graph_Valid := rfl
@[simp] theorem prgF_33 : prgF 33 = some m_selfstabref01_Valid := rfl
@[simp] theorem prgF_34 : prgF 34 = some m_cluster_configuration := rfl
@[simp] theorem prgF_36 : prgF 36 = some m_slices_IndexFunc_api_Link_api_Link := rfl
@[simp] theorem prgF_35 : prgF 35 = some m_cluster_Legit_1 := rfl
@[simp] theorem prgF_38 : prgF 38 = some m_selfstabref23_Config := rfl
@[simp] theorem prgF_37 : prgF 37 = some m_selfstabref34_Vars := rfl
@[simp] theorem prgF_40 : prgF 40 = some m_selfstabref31_Maximal := rfl
@[simp] theorem prgF_39 : prgF 39 = some m_selfstabref31_Ones := rfl
@[simp] theorem prgF_41 : prgF 41 = some m_graph_Size := rfl
@[simp] theorem prgF_42 : prgF 42 = some m_selfstabref01_Size := rfl
@[simp] theorem prgF_43 : prgF 43 = some m_shape_At := rfl
@[simp] theorem prgF_44 : prgF 44 = some m_selfstabref23_Named := rfl
@[simp] theorem prgF_46 : prgF 46 = some m_selfstabref01_Port := rfl
@[simp] theorem prgF_56 : prgF 56 = some m_selfstabworld_Net_nodes := rfl
@[simp] theorem prgF_59 : prgF 59 = some m_selfstabworld_Net_link := rfl
@[simp] theorem prgF_58 : prgF 58 = some m_selfstabworld_Within := rfl
@[simp] theorem prgF_57 : prgF 57 = some m_selfstabworld_at := rfl
@[simp] theorem prgF_60 : prgF 60 = some m_selfstabref01_In := rfl
@[simp] theorem prgF_61 : prgF 61 = some m_selfstabref01_linksValid := rfl
@[simp] theorem prgF_62 : prgF 62 = some m_shape_Holds := rfl
@[simp] theorem prgF_63 : prgF 63 = some m_selfstabref23_top := rfl
@[simp] theorem prgF_64 : prgF 64 = some m_selfstabref23_Truth := rfl
@[simp] theorem prgF_65 : prgF 65 = some m_selfstabref23_Pointer := rfl
@[simp] theorem prgF_66 : prgF 66 = some m_selfstabref01_Independent := rfl
@[simp] theorem prgF_67 : prgF 67 = some m_selfstabref01_Neighbours := rfl
@[simp] theorem prgF_68 : prgF 68 = some m_selfstabref01_All := rfl
@[simp] theorem prgF_82 : prgF 82 = some m_selfstabworld_linked := rfl
@[simp] theorem prgF_83 : prgF 83 = some m_selfstabref01_Has := rfl
end Sx
