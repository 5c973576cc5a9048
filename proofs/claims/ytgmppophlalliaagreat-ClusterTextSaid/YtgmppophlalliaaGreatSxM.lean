/-
  Sx: the evaluator's code of the functions, printed by wip/tools/link.py.
-/
import Derived.Test.YtgmppophlalliaaGreatSxDefs
namespace Sx
open Go

-- 117 selfstab/selfstablaw34.ClusterText
def m_selfstablaw34_ClusterText : MF := ⟨53, [.tmp 2], true, (
  .seq (.reg [⟨some 2, .mv (.c (Value.bool false)), none⟩] [0])
  (.seq (.reg [⟨some 8, .call 114 [], none⟩,
    ⟨some 9, .call 115 [.t 8], none⟩,
    ⟨some 7, .mv (.t 9), none⟩,
    ⟨some 10, .ext (.t 7) 0, none⟩,
    ⟨some 11, .ext (.t 7) 1, none⟩,
    ⟨some 12, .ext (.t 7) 2, none⟩,
    ⟨some 3, .alloc [.v (Value.string ⟨#[]⟩), .v (Value.slice none 0 0), .v (Value.slice none 0 0)], none⟩,
    ⟨none, .store 3 (.t 3) (.t 10), none⟩,
    ⟨some 4, .mv (.t 11), none⟩,
    ⟨some 5, .mv (.t 12), none⟩] [0, 3, 4, 5])
  (.seq (.reg [⟨some 13, .call 37 [], none⟩,
    ⟨some 6, .mv (.t 13), none⟩] [0, 3, 4, 5, 6])
  (.seq (.seq (.reg [⟨some 14, .mv (.t 5), none⟩,
    ⟨some 15, .bin .neq (.t 14) (.c (Value.int IntKind.i64 0)), none⟩,
    ⟨some 16, .mv (.t 15), none⟩,
    ⟨some 17, .mv (.t 4), some (16, false)⟩,
    ⟨some 18, .bin .neq (.t 17) (.c (Value.int IntKind.i64 0)), some (16, false)⟩,
    ⟨some 19, .pick (.t 16) (.c (Value.bool true)) (.t 18), none⟩,
    ⟨some 20, .mv (.t 19), none⟩,
    ⟨some 21, .fadr 1 (.t 3), some (20, false)⟩,
    ⟨some 22, .load (none) (.t 21), some (20, false)⟩,
    ⟨some 23, .len 1 (.t 22), some (20, false)⟩,
    ⟨some 24, .mv (.t 6), some (20, false)⟩,
    ⟨some 25, .len 1 (.t 24), some (20, false)⟩,
    ⟨some 26, .bin .neq (.t 23) (.t 25), some (20, false)⟩,
    ⟨some 27, .pick (.t 20) (.c (Value.bool true)) (.t 26), none⟩] [0, 3, 6, 27])
  (.cond (.t 27) (.seq (.reg [⟨some 2, .mv (.c (Value.bool false)), none⟩] [2])
   (.ret))
   (.skip)))
  (.seq (.reg [⟨some 28, .mv (.t 0), none⟩,
    ⟨some 29, .mv (.t 6), none⟩,
    ⟨some 30, .len 1 (.t 29), none⟩,
    ⟨some 31, .call 58 [.t 28, .t 30], none⟩,
    ⟨some 0, .mv (.t 31), none⟩] [0, 3, 6])
  (.seq (.seq (.reg [⟨some 32, .fadr 1 (.t 3), none⟩,
    ⟨some 33, .load (none) (.t 32), none⟩,
    ⟨some 34, .mv (.t 0), none⟩,
    ⟨some 35, .iadr 6 (.t 33) (.t 34), none⟩,
    ⟨some 36, .load (some 6) (.t 35), none⟩,
    ⟨some 37, .mv (.t 6), none⟩,
    ⟨some 38, .mv (.t 0), none⟩,
    ⟨some 39, .iadr 6 (.t 37) (.t 38), none⟩,
    ⟨some 40, .load (some 6) (.t 39), none⟩,
    ⟨some 41, .eqn true [2, 0, 0, 0, 0, 0] (.t 36) (.t 40), none⟩] [3, 41])
  (.cond (.t 41) (.seq (.reg [⟨some 2, .mv (.c (Value.bool false)), none⟩] [2])
   (.ret))
   (.skip)))
  (.seq (.reg [⟨some 42, .call 2 [], none⟩,
    ⟨some 43, .mv (.t 42), none⟩,
    ⟨some 44, .call 114 [], some (43, true)⟩,
    ⟨some 45, .call 116 [], some (43, true)⟩,
    ⟨some 46, .bin .eql (.t 44) (.t 45), some (43, true)⟩,
    ⟨some 47, .pick (.t 43) (.t 46) (.c (Value.bool false)), none⟩,
    ⟨some 48, .mv (.t 47), none⟩,
    ⟨some 49, .fadr 0 (.t 3), some (48, true)⟩,
    ⟨some 50, .load (none) (.t 49), some (48, true)⟩,
    ⟨some 51, .bin .eql (.t 50) (.c (Value.string ⟨#[99, 108, 117, 115, 116, 101, 114]⟩)), some (48, true)⟩,
    ⟨some 52, .pick (.t 48) (.t 51) (.c (Value.bool false)), none⟩,
    ⟨some 2, .mv (.t 52), none⟩] [2])
  (.ret))))))))⟩

-- 115 selfstab/program.Parse
def m_program_Parse : MF := ⟨49, [.cell 2 (some 3), .tmp 3, .tmp 4], true, (
  .seq (.reg [⟨some 2, .new [.v (Value.string ⟨#[]⟩), .v (Value.slice none 0 0), .v (Value.slice none 0 0)], none⟩,
    ⟨some 3, .mv (.c (Value.int IntKind.i64 0)), none⟩,
    ⟨some 4, .mv (.c (Value.int IntKind.i64 0)), none⟩] [0, 2])
  (.seq (.reg [⟨some 12, .mv (.t 0), none⟩,
    ⟨some 13, .call 136 [.t 12, .c (Value.slice none 0 0)], none⟩,
    ⟨some 11, .mv (.t 13), none⟩,
    ⟨some 14, .ext (.t 11) 0, none⟩,
    ⟨some 15, .ext (.t 11) 1, none⟩,
    ⟨some 16, .ext (.t 11) 2, none⟩,
    ⟨some 5, .mv (.t 14), none⟩,
    ⟨some 6, .mv (.t 15), none⟩,
    ⟨some 7, .mv (.t 16), none⟩] [2, 5, 6, 7])
  (.seq (.seq (.reg [⟨some 17, .mv (.t 7), none⟩,
    ⟨some 18, .bin .neq (.t 17) (.c (Value.int IntKind.i64 0)), none⟩] [2, 5, 6, 7, 18])
  (.cond (.t 18) (.seq (.reg [⟨some 19, .build [.v (Value.string ⟨#[]⟩), .v (Value.slice none 0 0), .v (Value.slice none 0 0)] [], none⟩,
     ⟨some 20, .mv (.t 6), none⟩,
     ⟨some 21, .mv (.t 7), none⟩,
     ⟨none, .store 3 (.t 2) (.t 19), none⟩,
     ⟨some 3, .mv (.t 20), none⟩,
     ⟨some 4, .mv (.t 21), none⟩] [2, 3, 4])
   (.ret))
   (.skip)))
  (.seq (.reg [⟨some 22, .mv (.t 5), none⟩,
    ⟨some 23, .build [.v (Value.pointer none), .v (Value.string ⟨#[]⟩), .v (Value.slice none 0 0), .v (Value.slice none 0 0), .v (Value.slice none 0 0)] [(0, 1, (.t 22))], none⟩,
    ⟨some 24, .boxm 5 (.t 23), none⟩,
    ⟨some 8, .mv (.t 24), none⟩] [2, 8])
  (.seq (.seq (.reg [⟨some 25, .mv (.t 8), none⟩,
    ⟨some 26, .mkb 173 [.t 25], none⟩,
    ⟨some 27, .call 165 [.t 26], none⟩,
    ⟨some 9, .alloc [.v (Value.int .i64 0), .v (Value.int .i64 0)], none⟩,
    ⟨none, .store 2 (.t 9) (.t 27), none⟩] [2, 8, 9])
  (.seq (.reg [⟨some 28, .fadr 1 (.t 9), none⟩,
    ⟨some 29, .load (none) (.t 28), none⟩,
    ⟨some 30, .bin .neq (.t 29) (.c (Value.int IntKind.i64 0)), none⟩] [2, 8, 9, 30])
  (.cond (.t 30) (.seq (.regd [0, 0, 2, 0, 8, 1, 39, 127] [⟨some 31, .build [.v (Value.string ⟨#[]⟩), .v (Value.slice none 0 0), .v (Value.slice none 0 0)] [], none⟩,
     ⟨some 32, .fadr 0 (.t 9), none⟩,
     ⟨some 33, .load (none) (.t 32), none⟩,
     ⟨some 34, .fadr 1 (.t 9), none⟩,
     ⟨some 35, .load (none) (.t 34), none⟩,
     ⟨none, .store 3 (.t 2) (.t 31), none⟩,
     ⟨some 3, .mv (.t 33), none⟩,
     ⟨some 4, .mv (.t 35), none⟩] [2, 3, 4])
   (.ret))
   (.skip))))
  (.seq (.seq (.reg [⟨some 36, .mv (.t 8), none⟩,
    ⟨some 37, .nck (.t 36), none⟩,
    ⟨some 38, .fadr 1 (.t 37), none⟩,
    ⟨some 39, .load (some 3) (.t 38), none⟩,
    ⟨some 40, .call 179 [.t 39], none⟩,
    ⟨some 10, .mv (.t 40), none⟩] [2, 8, 10])
  (.seq (.reg [⟨some 41, .mv (.t 10), none⟩,
    ⟨some 42, .bin .neq (.t 41) (.c (Value.int IntKind.i64 0)), none⟩] [2, 8, 10, 42])
  (.cond (.t 42) (.seq (.reg [⟨some 43, .build [.v (Value.string ⟨#[]⟩), .v (Value.slice none 0 0), .v (Value.slice none 0 0)] [], none⟩,
     ⟨some 44, .mv (.t 10), none⟩,
     ⟨none, .store 3 (.t 2) (.t 43), none⟩,
     ⟨some 3, .mv (.c (Value.int IntKind.i64 0)), none⟩,
     ⟨some 4, .mv (.t 44), none⟩] [2, 3, 4])
   (.ret))
   (.skip))))
  (.seq (.reg [⟨some 45, .mv (.t 8), none⟩,
    ⟨some 46, .nck (.t 45), none⟩,
    ⟨some 47, .fadr 1 (.t 46), none⟩,
    ⟨some 48, .load (some 3) (.t 47), none⟩,
    ⟨none, .store 3 (.t 2) (.t 48), none⟩,
    ⟨some 3, .mv (.c (Value.int IntKind.i64 0)), none⟩,
    ⟨some 4, .mv (.c (Value.int IntKind.i64 0)), none⟩] [2, 3, 4])
  (.ret))))))))⟩

-- 114 selfstab/cluster.Text
def m_cluster_Text : MF := ⟨1, [.tmp 0], true, (
  .seq (.reg [⟨some 0, .mv (.c (Value.string ⟨#[]⟩)), none⟩] [])
  (.seq (.reg [⟨some 0, .mv (.c (Value.string ⟨#[112, 114, 111, 103, 114, 97, 109, 32, 99, 108, 117, 115, 116, 101, 114, 59, 10, 118, 97, 114, 32, 109, 32, 58, 32, 98, 111, 111, 108, 59, 10, 118, 97, 114, 32, 104, 32, 58, 32, 112, 111, 114, 116, 59, 10, 114, 117, 108, 101, 32, 108, 101, 97, 118, 101, 58, 32, 109, 32, 38, 38, 32, 115, 111, 109, 101, 40, 113, 46, 109, 41, 32, 45, 62, 32, 109, 32, 58, 61, 32, 102, 97, 108, 115, 101, 59, 10, 114, 117, 108, 101, 32, 101, 110, 116, 101, 114, 58, 32, 33, 109, 32, 38, 38, 32, 33, 115, 111, 109, 101, 40, 113, 46, 109, 41, 32, 45, 62, 32, 109, 32, 58, 61, 32, 116, 114, 117, 101, 59, 10, 114, 117, 108, 101, 32, 112, 111, 105, 110, 116, 58, 32, 104, 32, 33, 61, 32, 40, 109, 32, 63, 32, 110, 111, 110, 101, 32, 58, 32, 102, 105, 114, 115, 116, 40, 113, 46, 109, 41, 41, 32, 45, 62, 32, 104, 32, 58, 61, 32, 40, 109, 32, 63, 32, 110, 111, 110, 101, 32, 58, 32, 102, 105, 114, 115, 116, 40, 113, 46, 109, 41, 41, 59, 10]⟩)), none⟩] [0])
  (.ret)))⟩

-- 37 selfstab/selfstabref34.Vars
def m_selfstabref34_Vars : MF := ⟨4, [.tmp 0], true, (
  .seq (.reg [⟨some 0, .mv (.c (Value.slice none 0 0)), none⟩] [])
  (.seq (.reg [⟨some 1, .call 64 [.c (Value.string ⟨#[109]⟩)], none⟩,
    ⟨some 2, .call 65 [.c (Value.string ⟨#[104]⟩)], none⟩,
    ⟨some 3, .lit 6 [.v (Value.string ⟨#[]⟩), .v (Value.int .i64 0), .v (Value.int .i64 0), .v (Value.int .i64 0), .v (Value.int .i64 0), .v (Value.int .i64 0), .v (Value.string ⟨#[]⟩), .v (Value.int .i64 0), .v (Value.int .i64 0), .v (Value.int .i64 0), .v (Value.int .i64 0), .v (Value.int .i64 0)] [(0, 6, (.t 1)), (6, 6, (.t 2))] false, none⟩,
    ⟨some 0, .mv (.t 3), none⟩] [0])
  (.ret)))⟩

-- 58 selfstab/selfstabworld.Within
def m_selfstabworld_Within : MF := ⟨16, [.tmp 4], true, (
  .seq (.reg [⟨some 4, .mv (.c (Value.int IntKind.i64 0)), none⟩] [0, 1])
  (.seq (.seq (.reg [⟨some 5, .mv (.t 1), none⟩,
    ⟨some 6, .bin .lss (.t 5) (.c (Value.int IntKind.i64 1)), none⟩] [0, 1, 6])
  (.cond (.t 6) (.seq (.reg [⟨some 4, .mv (.c (Value.int IntKind.i64 0)), none⟩] [4])
   (.ret))
   (.skip)))
  (.seq (.reg [⟨some 7, .mv (.t 0), none⟩,
    ⟨some 8, .mv (.t 1), none⟩,
    ⟨some 9, .bin .rem (.t 7) (.t 8), none⟩,
    ⟨some 0, .mv (.t 9), none⟩] [0, 1])
  (.seq (.seq (.reg [⟨some 10, .mv (.t 0), none⟩,
    ⟨some 11, .bin .lss (.t 10) (.c (Value.int IntKind.i64 0)), none⟩] [0, 1, 11])
  (.cond (.t 11) (.reg [⟨some 12, .mv (.t 0), none⟩,
     ⟨some 13, .mv (.t 1), none⟩,
     ⟨some 14, .bin .add (.t 12) (.t 13), none⟩,
     ⟨some 0, .mv (.t 14), none⟩] [0])
   (.skip)))
  (.seq (.reg [⟨some 15, .mv (.t 0), none⟩,
    ⟨some 4, .mv (.t 15), none⟩] [4])
  (.ret))))))⟩

-- 2 selfstab/selfstablaw34.known
def m_selfstablaw34_known : MF := ⟨29, [.tmp 0], true, (
  .seq (.reg [⟨some 0, .mv (.c (Value.bool false)), none⟩] [])
  (.seq (.reg [⟨some 3, .lit 1 [.v (Value.int .i64 0), .v (Value.int .i64 0)] [(0, 1, (.c (Value.int IntKind.i64 0))), (1, 1, (.c (Value.int IntKind.i64 1)))] false, none⟩,
    ⟨some 4, .build [.v (Value.int .i64 0), .v (Value.slice none 0 0), .v (Value.slice none 0 0), .v (Value.slice none 0 0), .v (Value.bool false), .v (Value.bool false)] [(0, 1, (.c (Value.int IntKind.i64 3))), (1, 1, (.t 3))], none⟩,
    ⟨some 5, .call 31 [.t 4, .c (Value.int IntKind.i64 3)], none⟩,
    ⟨some 1, .alloc [.v (Value.slice none 0 0), .v (Value.slice none 0 0)], none⟩,
    ⟨none, .store 2 (.t 1) (.t 5), none⟩] [1])
  (.seq (.reg [⟨some 6, .lit 1 [.v (Value.int .i64 0), .v (Value.int .i64 0)] [(0, 1, (.c (Value.int IntKind.i64 0))), (1, 1, (.c (Value.int IntKind.i64 0)))] false, none⟩,
    ⟨some 7, .lit 1 [.v (Value.int .i64 0), .v (Value.int .i64 0)] [(0, 1, (.c (Value.int IntKind.i64 1))), (1, 1, (.c (Value.int IntKind.i64 (-1))))] false, none⟩,
    ⟨some 8, .lit 1 [.v (Value.int .i64 0), .v (Value.int .i64 0)] [(0, 1, (.c (Value.int IntKind.i64 0))), (1, 1, (.c (Value.int IntKind.i64 0)))] false, none⟩,
    ⟨some 9, .lit 1 [.v (Value.slice none 0 0), .v (Value.slice none 0 0), .v (Value.slice none 0 0)] [(0, 1, (.t 6)), (1, 1, (.t 7)), (2, 1, (.t 8))] false, none⟩,
    ⟨some 2, .mv (.t 9), none⟩] [1, 2])
  (.seq (.reg [⟨some 10, .load (some 2) (.t 1), none⟩,
    ⟨some 11, .mv (.t 2), none⟩,
    ⟨some 12, .call 5 [.t 10, .t 11], none⟩,
    ⟨some 13, .mv (.t 12), none⟩,
    ⟨some 14, .load (some 2) (.t 1), some (13, true)⟩,
    ⟨some 15, .mv (.t 2), some (13, true)⟩,
    ⟨some 16, .call 9 [.t 14, .t 15], some (13, true)⟩,
    ⟨some 17, .lit 1 [.v (Value.int .i64 0), .v (Value.int .i64 0), .v (Value.int .i64 0)] [(0, 1, (.c (Value.int IntKind.i64 1))), (1, 1, (.c (Value.int IntKind.i64 1))), (2, 1, (.c (Value.int IntKind.i64 1)))] false, some (13, true)⟩,
    ⟨some 18, .call 11 [.t 16, .t 17], some (13, true)⟩,
    ⟨some 19, .pick (.t 13) (.t 18) (.c (Value.bool false)), none⟩,
    ⟨some 20, .mv (.t 19), none⟩,
    ⟨some 21, .load (some 2) (.t 1), some (20, true)⟩,
    ⟨some 22, .lit 1 [.v (Value.int .i64 0), .v (Value.int .i64 0)] [(0, 1, (.c (Value.int IntKind.i64 0))), (1, 1, (.c (Value.int IntKind.i64 0)))] false, some (20, true)⟩,
    ⟨some 23, .lit 1 [.v (Value.int .i64 0), .v (Value.int .i64 0)] [(0, 1, (.c (Value.int IntKind.i64 1))), (1, 1, (.c (Value.int IntKind.i64 0)))] false, some (20, true)⟩,
    ⟨some 24, .lit 1 [.v (Value.int .i64 0), .v (Value.int .i64 0)] [(0, 1, (.c (Value.int IntKind.i64 0))), (1, 1, (.c (Value.int IntKind.i64 0)))] false, some (20, true)⟩,
    ⟨some 25, .lit 1 [.v (Value.slice none 0 0), .v (Value.slice none 0 0), .v (Value.slice none 0 0)] [(0, 1, (.t 22)), (1, 1, (.t 23)), (2, 1, (.t 24))] false, some (20, true)⟩,
    ⟨some 26, .call 5 [.t 21, .t 25], some (20, true)⟩,
    ⟨some 27, .un .not (.t 26), some (20, true)⟩,
    ⟨some 28, .pick (.t 20) (.t 27) (.c (Value.bool false)), none⟩,
    ⟨some 0, .mv (.t 28), none⟩] [0])
  (.ret)))))⟩

-- 116 selfstab/selfstabref34.Text
def m_selfstabref34_Text : MF := ⟨1, [.tmp 0], true, (
  .seq (.reg [⟨some 0, .mv (.c (Value.string ⟨#[]⟩)), none⟩] [])
  (.seq (.reg [⟨some 0, .mv (.c (Value.string ⟨#[112, 114, 111, 103, 114, 97, 109, 32, 99, 108, 117, 115, 116, 101, 114, 59, 10, 118, 97, 114, 32, 109, 32, 58, 32, 98, 111, 111, 108, 59, 10, 118, 97, 114, 32, 104, 32, 58, 32, 112, 111, 114, 116, 59, 10, 114, 117, 108, 101, 32, 108, 101, 97, 118, 101, 58, 32, 109, 32, 38, 38, 32, 115, 111, 109, 101, 40, 113, 46, 109, 41, 32, 45, 62, 32, 109, 32, 58, 61, 32, 102, 97, 108, 115, 101, 59, 10, 114, 117, 108, 101, 32, 101, 110, 116, 101, 114, 58, 32, 33, 109, 32, 38, 38, 32, 33, 115, 111, 109, 101, 40, 113, 46, 109, 41, 32, 45, 62, 32, 109, 32, 58, 61, 32, 116, 114, 117, 101, 59, 10, 114, 117, 108, 101, 32, 112, 111, 105, 110, 116, 58, 32, 104, 32, 33, 61, 32, 40, 109, 32, 63, 32, 110, 111, 110, 101, 32, 58, 32, 102, 105, 114, 115, 116, 40, 113, 46, 109, 41, 41, 32, 45, 62, 32, 104, 32, 58, 61, 32, 40, 109, 32, 63, 32, 110, 111, 110, 101, 32, 58, 32, 102, 105, 114, 115, 116, 40, 113, 46, 109, 41, 41, 59, 10]⟩)), none⟩] [0])
  (.ret)))⟩

-- 136 selfstab/syntax.Open
def m_syntax_Open : MF := ⟨25, [.tmp 4, .tmp 5, .tmp 6], false, (
  .seq (.reg [⟨some 4, .mv (.c (Value.pointer none)), none⟩,
    ⟨some 5, .mv (.c (Value.int IntKind.i64 0)), none⟩,
    ⟨some 6, .mv (.c (Value.int IntKind.i64 0)), none⟩] [0, 1])
  (.seq (.reg [⟨some 11, .mv (.t 0), none⟩,
    ⟨some 12, .call 163 [.t 11], none⟩,
    ⟨some 10, .mv (.t 12), none⟩,
    ⟨some 13, .ext (.t 10) 0, none⟩,
    ⟨some 14, .ext (.t 10) 1, none⟩,
    ⟨some 15, .ext (.t 10) 2, none⟩,
    ⟨some 7, .mv (.t 13), none⟩,
    ⟨some 8, .mv (.t 14), none⟩,
    ⟨some 9, .mv (.t 15), none⟩] [0, 1, 7, 8, 9])
  (.seq (.seq (.reg [⟨some 16, .mv (.t 9), none⟩,
    ⟨some 17, .bin .neq (.t 16) (.c (Value.int IntKind.i64 0)), none⟩] [0, 1, 7, 8, 9, 17])
  (.cond (.t 17) (.seq (.reg [⟨some 18, .mv (.t 8), none⟩,
     ⟨some 19, .mv (.t 9), none⟩,
     ⟨some 4, .mv (.c (Value.pointer none)), none⟩,
     ⟨some 5, .mv (.t 18), none⟩,
     ⟨some 6, .mv (.t 19), none⟩] [4, 5, 6])
   (.ret))
   (.skip)))
  (.seq (.reg [⟨some 20, .mv (.t 0), none⟩,
    ⟨some 21, .mv (.t 7), none⟩,
    ⟨some 22, .mv (.t 1), none⟩,
    ⟨some 23, .build [.v (Value.string ⟨#[]⟩), .v (Value.slice none 0 0), .v (Value.int .i64 0), .v (Value.slice none 0 0)] [(0, 1, (.t 20)), (1, 1, (.t 21)), (3, 1, (.t 22))], none⟩,
    ⟨some 24, .boxm 4 (.t 23), none⟩,
    ⟨some 4, .mv (.t 24), none⟩,
    ⟨some 5, .mv (.c (Value.int IntKind.i64 0)), none⟩,
    ⟨some 6, .mv (.c (Value.int IntKind.i64 0)), none⟩] [4, 5, 6])
  (.ret)))))⟩

-- 173 (*selfstab/program.reader).all
def m_program_reader_all_L1 : MC :=
  .seq (.seq (.reg [⟨some 31, .mv (.t 0), none⟩,
    ⟨some 32, .mv (.t 0), none⟩,
    ⟨some 33, .nck (.t 32), none⟩,
    ⟨some 34, .fadr 1 (.t 33), none⟩,
    ⟨some 35, .fadr 2 (.t 34), none⟩,
    ⟨some 36, .load (none) (.t 35), none⟩,
    ⟨some 37, .len 1 (.t 36), none⟩,
    ⟨some 38, .call 168 [.t 31, .c (Value.string ⟨#[114, 117, 108, 101]⟩), .t 37, .c (Value.int IntKind.i64 12)], none⟩] [0, 38])
  (.cond (.t 38) (.skip)
   (.exit 2)))
  (.block 3 (.reg [⟨some 39, .mv (.t 0), none⟩,
     ⟨some 40, .call 170 [.t 39], none⟩] [0]))

def m_program_reader_all_L0 : MC :=
  .seq (.seq (.reg [⟨some 21, .mv (.t 0), none⟩,
    ⟨some 22, .mv (.t 0), none⟩,
    ⟨some 23, .nck (.t 22), none⟩,
    ⟨some 24, .fadr 1 (.t 23), none⟩,
    ⟨some 25, .fadr 1 (.t 24), none⟩,
    ⟨some 26, .load (none) (.t 25), none⟩,
    ⟨some 27, .len 1 (.t 26), none⟩,
    ⟨some 28, .call 168 [.t 21, .c (Value.string ⟨#[118, 97, 114]⟩), .t 27, .c (Value.int IntKind.i64 6)], none⟩] [0, 28])
  (.cond (.t 28) (.skip)
   (.exit 0)))
  (.block 1 (.reg [⟨some 29, .mv (.t 0), none⟩,
     ⟨some 30, .call 169 [.t 29], none⟩] [0]))

def m_program_reader_all : MF := ⟨52, [], false, (
  .seq (.reg [⟨some 2, .mv (.t 0), none⟩,
    ⟨some 3, .nck (.t 2), none⟩,
    ⟨some 4, .fadr 0 (.t 3), none⟩,
    ⟨some 5, .load (none) (.t 4), none⟩,
    ⟨some 6, .call 166 [.t 5, .c (Value.string ⟨#[112, 114, 111, 103, 114, 97, 109]⟩)], none⟩] [0])
  (.seq (.reg [⟨some 7, .mv (.t 0), none⟩,
    ⟨some 8, .mv (.t 0), none⟩,
    ⟨some 9, .nck (.t 8), none⟩,
    ⟨some 10, .fadr 0 (.t 9), none⟩,
    ⟨some 11, .load (none) (.t 10), none⟩,
    ⟨some 12, .call 167 [.t 11, .c (Value.slice none 0 0)], none⟩,
    ⟨some 13, .nck (.t 7), none⟩,
    ⟨some 14, .fadr 1 (.t 13), none⟩,
    ⟨some 15, .fadr 0 (.t 14), none⟩,
    ⟨none, .store 1 (.t 15) (.t 12), none⟩] [0])
  (.seq (.reg [⟨some 16, .mv (.t 0), none⟩,
    ⟨some 17, .nck (.t 16), none⟩,
    ⟨some 18, .fadr 0 (.t 17), none⟩,
    ⟨some 19, .load (none) (.t 18), none⟩,
    ⟨some 20, .call 166 [.t 19, .c (Value.string ⟨#[59]⟩)], none⟩] [0])
  (.seq (.block 0 (.loop [0] m_program_reader_all_L0))
  (.seq (.block 2 (.loop [0] m_program_reader_all_L1))
  (.seq (.reg [⟨some 41, .mv (.t 0), none⟩,
    ⟨some 42, .nck (.t 41), none⟩,
    ⟨some 43, .fadr 0 (.t 42), none⟩,
    ⟨some 44, .load (none) (.t 43), none⟩,
    ⟨some 45, .call 171 [.t 44], none⟩,
    ⟨some 46, .un .not (.t 45), none⟩] [0, 46])
  (.cond (.t 46) (.reg [⟨some 47, .mv (.t 0), none⟩,
     ⟨some 48, .nck (.t 47), none⟩,
     ⟨some 49, .fadr 0 (.t 48), none⟩,
     ⟨some 50, .load (none) (.t 49), none⟩,
     ⟨some 51, .call 172 [.t 50, .c (Value.int IntKind.i64 4)], none⟩] [])
   (.skip))))))))⟩

-- 179 selfstab/types.Check
def m_types_Check_L3 : MC :=
  .seq (.reg [⟨some 101, .bin .lss (.t 100) (.t 99), none⟩] [5, 98, 99, 100, 101])
  (.seq (.cond (.t 101) (.skip)
   (.exit 6))
  (.seq (.block 7 (.seq (.reg [⟨some 102, .iadr 3 (.t 98) (.t 100), none⟩,
     ⟨some 103, .load (some 3) (.t 102), none⟩,
     ⟨some 14, .alloc [.v (Value.string ⟨#[]⟩), .v (Value.slice none 0 0), .v (Value.slice none 0 0)], none⟩,
     ⟨none, .store 3 (.t 14) (.t 103), none⟩] [5, 14, 98, 99, 100])
   (.seq (.reg [⟨some 104, .load (some 3) (.t 14), none⟩,
     ⟨some 105, .mv (.t 5), none⟩,
     ⟨some 106, .call 178 [.t 104, .t 105], none⟩,
     ⟨some 107, .un .not (.t 106), none⟩] [5, 98, 99, 100, 107])
   (.cond (.t 107) (.seq (.reg [⟨some 2, .mv (.c (Value.int IntKind.i64 6)), none⟩] [2])
    (.ret))
    (.skip)))))
  (.reg [⟨some 108, .bin .add (.t 100) (.c (Value.int IntKind.i64 1)), none⟩,
    ⟨some 100, .mv (.t 108), none⟩] [5, 98, 99, 100])))

def m_types_Check_L2 : MC :=
  .seq (.reg [⟨some 87, .bin .lss (.t 86) (.t 85), none⟩] [1, 5, 84, 85, 86, 87])
  (.seq (.cond (.t 87) (.skip)
   (.exit 4))
  (.seq (.block 5 (.seq (.reg [⟨some 88, .iadr 3 (.t 84) (.t 86), none⟩,
     ⟨some 89, .load (some 3) (.t 88), none⟩,
     ⟨some 12, .alloc [.v (Value.string ⟨#[]⟩), .v (Value.slice none 0 0), .v (Value.slice none 0 0)], none⟩,
     ⟨none, .store 3 (.t 12) (.t 89), none⟩] [1, 5, 12, 84, 85, 86])
   (.seq (.reg [⟨some 90, .load (some 3) (.t 12), none⟩,
     ⟨some 91, .fadr 1 (.t 1), none⟩,
     ⟨some 92, .load (none) (.t 91), none⟩,
     ⟨some 93, .len 1 (.t 92), none⟩,
     ⟨some 94, .call 177 [.t 90, .t 93], none⟩,
     ⟨some 95, .un .not (.t 94), none⟩] [1, 5, 84, 85, 86, 95])
   (.cond (.t 95) (.seq (.reg [⟨some 2, .mv (.c (Value.int IntKind.i64 7)), none⟩] [2])
    (.ret))
    (.skip)))))
  (.reg [⟨some 96, .bin .add (.t 86) (.c (Value.int IntKind.i64 1)), none⟩,
    ⟨some 86, .mv (.t 96), none⟩] [1, 5, 84, 85, 86])))

def m_types_Check_L1 : MC :=
  .seq (.reg [⟨some 58, .bin .lss (.t 57) (.t 56), none⟩] [1, 3, 4, 5, 6, 55, 56, 57, 58])
  (.seq (.cond (.t 58) (.skip)
   (.exit 2))
  (.seq (.block 3 (.seq (.reg [⟨some 59, .iadr 3 (.t 55) (.t 57), none⟩,
     ⟨some 60, .load (some 3) (.t 59), none⟩,
     ⟨some 10, .alloc [.v (Value.string ⟨#[]⟩), .v (Value.slice none 0 0), .v (Value.slice none 0 0)], none⟩,
     ⟨none, .store 3 (.t 10) (.t 60), none⟩] [1, 3, 4, 5, 6, 10, 55, 56, 57])
   (.reg [⟨some 61, .mv (.t 4), none⟩,
     ⟨some 62, .fadr 0 (.t 10), none⟩,
     ⟨some 63, .load (none) (.t 62), none⟩,
     ⟨some 64, .lit 1 [.v (Value.string ⟨#[]⟩)] [(0, 1, (.t 63))] false, none⟩,
     ⟨some 65, .app 1 16 (.t 61) (.t 64), none⟩,
     ⟨some 4, .mv (.t 65), none⟩] [1, 3, 4, 5, 6, 55, 56, 57])))
  (.reg [⟨some 66, .bin .add (.t 57) (.c (Value.int IntKind.i64 1)), none⟩,
    ⟨some 57, .mv (.t 66), none⟩] [1, 3, 4, 5, 6, 55, 56, 57])))

def m_types_Check_L0 : MC :=
  .seq (.reg [⟨some 35, .bin .lss (.t 34) (.t 33), none⟩] [1, 3, 4, 5, 6, 32, 33, 34, 35])
  (.seq (.cond (.t 35) (.skip)
   (.exit 0))
  (.seq (.block 1 (.seq (.reg [⟨some 36, .iadr 6 (.t 32) (.t 34), none⟩,
     ⟨some 37, .load (some 6) (.t 36), none⟩,
     ⟨some 8, .alloc [.v (Value.string ⟨#[]⟩), .v (Value.int .i64 0), .v (Value.int .i64 0), .v (Value.int .i64 0), .v (Value.int .i64 0), .v (Value.int .i64 0)], none⟩,
     ⟨none, .store 6 (.t 8) (.t 37), none⟩] [1, 3, 4, 5, 6, 8, 32, 33, 34])
   (.seq (.regd [0, 0, 2, 6, 15, 0, 0, 64, 192, 511, 1023, 2047] [⟨some 38, .mv (.t 3), none⟩,
     ⟨some 39, .fadr 0 (.t 8), none⟩,
     ⟨some 40, .load (none) (.t 39), none⟩,
     ⟨some 41, .lit 1 [.v (Value.string ⟨#[]⟩)] [(0, 1, (.t 40))] false, none⟩,
     ⟨some 42, .app 1 16 (.t 38) (.t 41), none⟩,
     ⟨some 43, .mv (.t 5), none⟩,
     ⟨some 44, .fadr 1 (.t 8), none⟩,
     ⟨some 45, .load (none) (.t 44), none⟩,
     ⟨some 46, .lit 1 [.v (Value.int .i64 0)] [(0, 1, (.t 45))] false, none⟩,
     ⟨some 47, .app 1 8 (.t 43) (.t 46), none⟩,
     ⟨some 3, .mv (.t 42), none⟩,
     ⟨some 5, .mv (.t 47), none⟩] [1, 3, 4, 5, 6, 8, 32, 33, 34])
   (.reg [⟨some 48, .mv (.t 6), none⟩,
     ⟨some 49, .mv (.t 48), none⟩,
     ⟨some 50, .load (some 6) (.t 8), some (49, true)⟩,
     ⟨some 51, .call 174 [.t 50], some (49, true)⟩,
     ⟨some 52, .pick (.t 49) (.t 51) (.c (Value.bool false)), none⟩,
     ⟨some 6, .mv (.t 52), none⟩] [1, 3, 4, 5, 6, 32, 33, 34]))))
  (.reg [⟨some 53, .bin .add (.t 34) (.c (Value.int IntKind.i64 1)), none⟩,
    ⟨some 34, .mv (.t 53), none⟩] [1, 3, 4, 5, 6, 32, 33, 34])))

def m_types_Check : MF := ⟨109, [.tmp 2], true, (
  .seq (.reg [⟨some 1, .box 3 (.t 0), none⟩,
    ⟨some 2, .mv (.c (Value.int IntKind.i64 0)), none⟩] [1])
  (.seq (.seq (.reg [⟨some 15, .fadr 1 (.t 1), none⟩,
    ⟨some 16, .load (none) (.t 15), none⟩,
    ⟨some 17, .len 1 (.t 16), none⟩,
    ⟨some 18, .bin .eql (.t 17) (.c (Value.int IntKind.i64 0)), none⟩,
    ⟨some 19, .mv (.t 18), none⟩,
    ⟨some 20, .fadr 1 (.t 1), some (19, false)⟩,
    ⟨some 21, .load (none) (.t 20), some (19, false)⟩,
    ⟨some 22, .len 1 (.t 21), some (19, false)⟩,
    ⟨some 23, .bin .gtr (.t 22) (.c (Value.int IntKind.i64 6)), some (19, false)⟩,
    ⟨some 24, .pick (.t 19) (.c (Value.bool true)) (.t 23), none⟩,
    ⟨some 25, .mv (.t 24), none⟩,
    ⟨some 26, .fadr 2 (.t 1), some (25, false)⟩,
    ⟨some 27, .load (none) (.t 26), some (25, false)⟩,
    ⟨some 28, .len 1 (.t 27), some (25, false)⟩,
    ⟨some 29, .bin .gtr (.t 28) (.c (Value.int IntKind.i64 12)), some (25, false)⟩,
    ⟨some 30, .pick (.t 25) (.c (Value.bool true)) (.t 29), none⟩] [1, 30])
  (.cond (.t 30) (.seq (.reg [⟨some 2, .mv (.c (Value.int IntKind.i64 3)), none⟩] [2])
   (.ret))
   (.skip)))
  (.seq (.reg [⟨some 3, .mv (.c (Value.slice none 0 0)), none⟩,
    ⟨some 4, .mv (.c (Value.slice none 0 0)), none⟩] [1, 3, 4])
  (.seq (.reg [⟨some 5, .mv (.c (Value.slice none 0 0)), none⟩] [1, 3, 4, 5])
  (.seq (.reg [⟨some 6, .mv (.c (Value.bool true)), none⟩] [1, 3, 4, 5, 6])
  (.seq (.seq (.reg [⟨some 31, .fadr 1 (.t 1), none⟩,
    ⟨some 32, .load (none) (.t 31), none⟩,
    ⟨some 33, .len 1 (.t 32), none⟩,
    ⟨some 34, .mv (.c (Value.int IntKind.i64 0)), none⟩] [1, 3, 4, 5, 6, 32, 33, 34])
  (.block 0 (.loop [1, 3, 4, 5, 6, 32, 33, 34] m_types_Check_L0)))
  (.seq (.seq (.reg [⟨some 54, .fadr 2 (.t 1), none⟩,
    ⟨some 55, .load (none) (.t 54), none⟩,
    ⟨some 56, .len 1 (.t 55), none⟩,
    ⟨some 57, .mv (.c (Value.int IntKind.i64 0)), none⟩] [1, 3, 4, 5, 6, 55, 56, 57])
  (.block 2 (.loop [1, 3, 4, 5, 6, 55, 56, 57] m_types_Check_L1)))
  (.seq (.seq (.reg [⟨some 67, .fadr 0 (.t 1), none⟩,
    ⟨some 68, .load (none) (.t 67), none⟩,
    ⟨some 69, .call 175 [.t 68], none⟩,
    ⟨some 70, .un .not (.t 69), none⟩,
    ⟨some 71, .mv (.t 70), none⟩,
    ⟨some 72, .mv (.t 3), some (71, false)⟩,
    ⟨some 73, .call 176 [.t 72], some (71, false)⟩,
    ⟨some 74, .un .not (.t 73), some (71, false)⟩,
    ⟨some 75, .pick (.t 71) (.c (Value.bool true)) (.t 74), none⟩,
    ⟨some 76, .mv (.t 75), none⟩,
    ⟨some 77, .mv (.t 4), some (76, false)⟩,
    ⟨some 78, .call 176 [.t 77], some (76, false)⟩,
    ⟨some 79, .un .not (.t 78), some (76, false)⟩,
    ⟨some 80, .pick (.t 76) (.c (Value.bool true)) (.t 79), none⟩] [1, 5, 6, 80])
  (.cond (.t 80) (.seq (.reg [⟨some 2, .mv (.c (Value.int IntKind.i64 5)), none⟩] [2])
   (.ret))
   (.skip)))
  (.seq (.seq (.reg [⟨some 81, .mv (.t 6), none⟩,
    ⟨some 82, .un .not (.t 81), none⟩] [1, 5, 82])
  (.cond (.t 82) (.seq (.reg [⟨some 2, .mv (.c (Value.int IntKind.i64 2)), none⟩] [2])
   (.ret))
   (.skip)))
  (.seq (.seq (.reg [⟨some 83, .fadr 2 (.t 1), none⟩,
    ⟨some 84, .load (none) (.t 83), none⟩,
    ⟨some 85, .len 1 (.t 84), none⟩,
    ⟨some 86, .mv (.c (Value.int IntKind.i64 0)), none⟩] [1, 5, 84, 85, 86])
  (.block 4 (.loop [1, 5, 84, 85, 86] m_types_Check_L2)))
  (.seq (.seq (.reg [⟨some 97, .fadr 2 (.t 1), none⟩,
    ⟨some 98, .load (none) (.t 97), none⟩,
    ⟨some 99, .len 1 (.t 98), none⟩,
    ⟨some 100, .mv (.c (Value.int IntKind.i64 0)), none⟩] [5, 98, 99, 100])
  (.block 6 (.loop [5, 98, 99, 100] m_types_Check_L3)))
  (.seq (.reg [⟨some 2, .mv (.c (Value.int IntKind.i64 0)), none⟩] [2])
  (.ret)))))))))))))⟩

-- 64 selfstab/selfstabref23.Truth
def m_selfstabref23_Truth : MF := ⟨5, [.cell 2 (some 6)], true, (
  .seq (.reg [⟨some 2, .new [.v (Value.string ⟨#[]⟩), .v (Value.int .i64 0), .v (Value.int .i64 0), .v (Value.int .i64 0), .v (Value.int .i64 0), .v (Value.int .i64 0)], none⟩] [0, 2])
  (.seq (.reg [⟨some 3, .mv (.t 0), none⟩,
    ⟨some 4, .build [.v (Value.string ⟨#[]⟩), .v (Value.int .i64 0), .v (Value.int .i64 0), .v (Value.int .i64 0), .v (Value.int .i64 0), .v (Value.int .i64 0)] [(0, 1, (.t 3)), (1, 1, (.c (Value.int IntKind.i64 2)))], none⟩,
    ⟨none, .store 6 (.t 2) (.t 4), none⟩] [2])
  (.ret)))⟩

-- 65 selfstab/selfstabref23.Pointer
def m_selfstabref23_Pointer : MF := ⟨5, [.cell 2 (some 6)], true, (
  .seq (.reg [⟨some 2, .new [.v (Value.string ⟨#[]⟩), .v (Value.int .i64 0), .v (Value.int .i64 0), .v (Value.int .i64 0), .v (Value.int .i64 0), .v (Value.int .i64 0)], none⟩] [0, 2])
  (.seq (.reg [⟨some 3, .mv (.t 0), none⟩,
    ⟨some 4, .build [.v (Value.string ⟨#[]⟩), .v (Value.int .i64 0), .v (Value.int .i64 0), .v (Value.int .i64 0), .v (Value.int .i64 0), .v (Value.int .i64 0)] [(0, 1, (.t 3)), (1, 1, (.c (Value.int IntKind.i64 3)))], none⟩,
    ⟨none, .store 6 (.t 2) (.t 4), none⟩] [2])
  (.ret)))⟩

-- 31 (selfstab/selfstabworld.Net).Tree
def m_selfstabworld_Net_Tree_L0 : MC :=
  .seq (.seq (.reg [⟨some 10, .mv (.t 6), none⟩,
    ⟨some 11, .fadr 1 (.t 5), none⟩,
    ⟨some 12, .load (none) (.t 11), none⟩,
    ⟨some 13, .len 1 (.t 12), none⟩,
    ⟨some 14, .bin .lss (.t 10) (.t 13), none⟩] [2, 4, 5, 6, 14])
  (.cond (.t 14) (.skip)
   (.exit 0)))
  (.seq (.block 1 (.reg [⟨some 17, .load (some 6) (.t 2), none⟩,
     ⟨some 18, .load (some 2) (.t 5), none⟩,
     ⟨some 19, .fadr 1 (.t 2), none⟩,
     ⟨some 20, .load (none) (.t 19), none⟩,
     ⟨some 21, .mv (.t 6), none⟩,
     ⟨some 22, .bin .sub (.t 21) (.c (Value.int IntKind.i64 1)), none⟩,
     ⟨some 23, .call 57 [.t 20, .t 22], none⟩,
     ⟨some 24, .mv (.t 6), none⟩,
     ⟨some 25, .call 58 [.t 23, .t 24], none⟩,
     ⟨some 26, .mv (.t 6), none⟩,
     ⟨some 27, .fadr 2 (.t 2), none⟩,
     ⟨some 28, .load (none) (.t 27), none⟩,
     ⟨some 29, .mv (.t 6), none⟩,
     ⟨some 30, .bin .sub (.t 29) (.c (Value.int IntKind.i64 1)), none⟩,
     ⟨some 31, .call 57 [.t 28, .t 30], none⟩,
     ⟨some 32, .call 58 [.t 31, .c (Value.int IntKind.i64 15)], none⟩,
     ⟨some 33, .bin .add (.c (Value.int IntKind.i64 1)) (.t 32), none⟩,
     ⟨some 34, .call 59 [.t 17, .t 18, .t 25, .t 26, .t 33], none⟩] [2, 4, 5, 6]))
  (.reg [⟨some 15, .mv (.t 6), none⟩,
    ⟨some 16, .bin .add (.t 15) (.c (Value.int IntKind.i64 1)), none⟩,
    ⟨some 6, .mv (.t 16), none⟩] [2, 4, 5, 6]))

def m_selfstabworld_Net_Tree : MF := ⟨36, [.cell 4 (some 2)], true, (
  .seq (.reg [⟨some 2, .box 6 (.t 0), none⟩,
    ⟨some 4, .new [.v (Value.slice none 0 0), .v (Value.slice none 0 0)], none⟩] [1, 2, 4])
  (.seq (.reg [⟨some 7, .load (some 6) (.t 2), none⟩,
    ⟨some 8, .mv (.t 1), none⟩,
    ⟨some 9, .call 56 [.t 7, .t 8], none⟩,
    ⟨some 5, .alloc [.v (Value.slice none 0 0), .v (Value.slice none 0 0)], none⟩,
    ⟨none, .store 2 (.t 5) (.t 9), none⟩] [2, 4, 5])
  (.seq (.seq (.reg [⟨some 6, .mv (.c (Value.int IntKind.i64 1)), none⟩] [2, 4, 5, 6])
  (.block 0 (.loop [2, 4, 5, 6] m_selfstabworld_Net_Tree_L0)))
  (.seq (.reg [⟨some 35, .load (some 2) (.t 5), none⟩,
    ⟨none, .store 2 (.t 4) (.t 35), none⟩] [4])
  (.ret)))))⟩

-- 5 selfstab/cluster.Legit
def m_cluster_Legit_L0 : MC :=
  .seq (.reg [⟨some 16, .bin .lss (.t 15) (.t 14), none⟩] [2, 3, 13, 14, 15, 16])
  (.seq (.cond (.t 16) (.skip)
   (.exit 0))
  (.seq (.block 1 (.seq (.reg [⟨some 17, .mv (.t 15), none⟩,
     ⟨some 18, .iadr 1 (.t 13) (.t 15), none⟩,
     ⟨some 19, .load (none) (.t 18), none⟩,
     ⟨some 5, .mv (.t 17), none⟩,
     ⟨some 6, .mv (.t 19), none⟩] [2, 3, 5, 6, 13, 14, 15])
   (.seq (.reg [⟨some 20, .fadr 1 (.t 2), none⟩,
     ⟨some 21, .load (none) (.t 20), none⟩,
     ⟨some 22, .mv (.t 5), none⟩,
     ⟨some 23, .iadr 1 (.t 21) (.t 22), none⟩,
     ⟨some 24, .load (none) (.t 23), none⟩,
     ⟨some 25, .mkf 35 [.t 3], none⟩,
     ⟨some 26, .call 36 [.t 24, .t 25], none⟩,
     ⟨some 7, .mv (.t 26), none⟩] [2, 3, 6, 7, 13, 14, 15])
   (.seq (.reg [⟨some 27, .mv (.t 6), none⟩,
     ⟨some 28, .iadr 1 (.t 27) (.c (Value.int IntKind.i64 0)), none⟩,
     ⟨some 29, .load (none) (.t 28), none⟩,
     ⟨some 30, .bin .eql (.t 29) (.c (Value.int IntKind.i64 1)), none⟩,
     ⟨some 8, .mv (.t 30), none⟩] [2, 3, 6, 7, 8, 13, 14, 15])
   (.block 2 (.seq (.reg [⟨some 32, .mv (.t 8), none⟩,
      ⟨some 33, .mv (.t 32), none⟩,
      ⟨some 34, .mv (.t 7), some (33, true)⟩,
      ⟨some 35, .bin .geq (.t 34) (.c (Value.int IntKind.i64 0)), some (33, true)⟩,
      ⟨some 36, .mv (.t 35), some (33, true)⟩,
      ⟨some 37, .mv (.t 6), some (36, false)⟩,
      ⟨some 38, .iadr 1 (.t 37) (.c (Value.int IntKind.i64 1)), some (36, false)⟩,
      ⟨some 39, .load (none) (.t 38), some (36, false)⟩,
      ⟨some 40, .bin .neq (.t 39) (.c (Value.int IntKind.i64 (-1))), some (36, false)⟩,
      ⟨some 41, .pick (.t 36) (.c (Value.bool true)) (.t 40), some (33, true)⟩,
      ⟨some 42, .pick (.t 33) (.t 41) (.c (Value.bool false)), none⟩,
      ⟨some 31, .mv (.t 42), none⟩] [2, 3, 6, 7, 8, 13, 14, 15, 31])
    (.cond (.t 31) (.seq (.reg [⟨some 4, .mv (.c (Value.bool false)), none⟩] [4])
     (.ret))
     (.seq (.reg [⟨some 44, .mv (.t 8), none⟩,
       ⟨some 45, .un .not (.t 44), none⟩,
       ⟨some 46, .mv (.t 45), none⟩,
       ⟨some 47, .mv (.t 7), some (46, true)⟩,
       ⟨some 48, .bin .lss (.t 47) (.c (Value.int IntKind.i64 0)), some (46, true)⟩,
       ⟨some 49, .mv (.t 48), some (46, true)⟩,
       ⟨some 50, .mv (.t 6), some (49, false)⟩,
       ⟨some 51, .iadr 1 (.t 50) (.c (Value.int IntKind.i64 1)), some (49, false)⟩,
       ⟨some 52, .load (none) (.t 51), some (49, false)⟩,
       ⟨some 53, .mv (.t 7), some (49, false)⟩,
       ⟨some 54, .bin .neq (.t 52) (.t 53), some (49, false)⟩,
       ⟨some 55, .pick (.t 49) (.c (Value.bool true)) (.t 54), some (46, true)⟩,
       ⟨some 56, .pick (.t 46) (.t 55) (.c (Value.bool false)), none⟩,
       ⟨some 43, .mv (.t 56), none⟩] [2, 3, 13, 14, 15, 43])
     (.cond (.t 43) (.seq (.reg [⟨some 4, .mv (.c (Value.bool false)), none⟩] [4])
      (.ret))
      (.skip))))))))))
  (.reg [⟨some 57, .bin .add (.t 15) (.c (Value.int IntKind.i64 1)), none⟩,
    ⟨some 15, .mv (.t 57), none⟩] [2, 3, 13, 14, 15])))

def m_cluster_Legit : MF := ⟨58, [.tmp 4], true, (
  .seq (.reg [⟨some 2, .box 2 (.t 0), none⟩,
    ⟨some 3, .box 1 (.t 1), none⟩,
    ⟨some 4, .mv (.c (Value.bool false)), none⟩] [2, 3])
  (.seq (.seq (.reg [⟨some 9, .load (some 2) (.t 2), none⟩,
    ⟨some 10, .load (none) (.t 3), none⟩,
    ⟨some 11, .call 34 [.t 9, .t 10], none⟩,
    ⟨some 12, .un .not (.t 11), none⟩] [2, 3, 12])
  (.cond (.t 12) (.seq (.reg [⟨some 4, .mv (.c (Value.bool false)), none⟩] [4])
   (.ret))
   (.skip)))
  (.seq (.seq (.reg [⟨some 13, .load (none) (.t 3), none⟩,
    ⟨some 14, .len 1 (.t 13), none⟩,
    ⟨some 15, .mv (.c (Value.int IntKind.i64 0)), none⟩] [2, 3, 13, 14, 15])
  (.block 0 (.loop [2, 3, 13, 14, 15] m_cluster_Legit_L0)))
  (.seq (.reg [⟨some 4, .mv (.c (Value.bool true)), none⟩] [4])
  (.ret)))))⟩

-- 11 selfstab/selfstablaw34.sameInts
def m_selfstablaw34_sameInts_L0 : MC :=
  .seq (.seq (.reg [⟨some 11, .mv (.t 5), none⟩,
    ⟨some 12, .mv (.t 0), none⟩,
    ⟨some 13, .len 1 (.t 12), none⟩,
    ⟨some 14, .bin .lss (.t 11) (.t 13), none⟩] [0, 1, 5, 14])
  (.cond (.t 14) (.skip)
   (.exit 0)))
  (.seq (.block 1 (.seq (.reg [⟨some 17, .mv (.t 0), none⟩,
     ⟨some 18, .mv (.t 5), none⟩,
     ⟨some 19, .iadr 1 (.t 17) (.t 18), none⟩,
     ⟨some 20, .load (none) (.t 19), none⟩,
     ⟨some 21, .mv (.t 1), none⟩,
     ⟨some 22, .mv (.t 5), none⟩,
     ⟨some 23, .iadr 1 (.t 21) (.t 22), none⟩,
     ⟨some 24, .load (none) (.t 23), none⟩,
     ⟨some 25, .bin .neq (.t 20) (.t 24), none⟩] [0, 1, 5, 25])
   (.cond (.t 25) (.seq (.reg [⟨some 4, .mv (.c (Value.bool false)), none⟩] [4])
    (.ret))
    (.skip))))
  (.reg [⟨some 15, .mv (.t 5), none⟩,
    ⟨some 16, .bin .add (.t 15) (.c (Value.int IntKind.i64 1)), none⟩,
    ⟨some 5, .mv (.t 16), none⟩] [0, 1, 5]))

def m_selfstablaw34_sameInts : MF := ⟨26, [.tmp 4], true, (
  .seq (.reg [⟨some 4, .mv (.c (Value.bool false)), none⟩] [0, 1])
  (.seq (.seq (.reg [⟨some 6, .mv (.t 0), none⟩,
    ⟨some 7, .len 1 (.t 6), none⟩,
    ⟨some 8, .mv (.t 1), none⟩,
    ⟨some 9, .len 1 (.t 8), none⟩,
    ⟨some 10, .bin .neq (.t 7) (.t 9), none⟩] [0, 1, 10])
  (.cond (.t 10) (.seq (.reg [⟨some 4, .mv (.c (Value.bool false)), none⟩] [4])
   (.ret))
   (.skip)))
  (.seq (.seq (.reg [⟨some 5, .mv (.c (Value.int IntKind.i64 0)), none⟩] [0, 1, 5])
  (.block 0 (.loop [0, 1, 5] m_selfstablaw34_sameInts_L0)))
  (.seq (.reg [⟨some 4, .mv (.c (Value.bool true)), none⟩] [4])
  (.ret)))))⟩

-- 9 selfstab/cluster.Heads
def m_cluster_Heads_L0 : MC :=
  .seq (.reg [⟨some 18, .bin .lss (.t 17) (.t 16), none⟩] [2, 5, 15, 16, 17, 18])
  (.seq (.cond (.t 18) (.skip)
   (.exit 0))
  (.seq (.block 1 (.seq (.reg [⟨some 19, .mv (.t 17), none⟩,
     ⟨some 20, .iadr 1 (.t 15) (.t 17), none⟩,
     ⟨some 21, .load (none) (.t 20), none⟩,
     ⟨some 6, .mv (.t 19), none⟩,
     ⟨some 7, .mv (.t 21), none⟩] [2, 5, 6, 7, 15, 16, 17])
   (.seq (.reg [⟨some 22, .mv (.t 5), none⟩,
     ⟨some 23, .mv (.t 6), none⟩,
     ⟨some 24, .mv (.t 6), none⟩,
     ⟨some 25, .iadr 1 (.t 22) (.t 23), none⟩,
     ⟨none, .store 1 (.t 25) (.t 24), none⟩] [2, 5, 6, 7, 15, 16, 17])
   (.seq (.reg [⟨some 26, .mv (.t 7), none⟩,
     ⟨some 27, .iadr 1 (.t 26) (.c (Value.int IntKind.i64 0)), none⟩,
     ⟨some 28, .load (none) (.t 27), none⟩,
     ⟨some 29, .bin .eql (.t 28) (.c (Value.int IntKind.i64 0)), none⟩] [2, 5, 6, 7, 15, 16, 17, 29])
   (.cond (.t 29) (.reg [⟨some 30, .mv (.t 5), none⟩,
      ⟨some 31, .mv (.t 6), none⟩,
      ⟨some 32, .load (some 2) (.t 2), none⟩,
      ⟨some 33, .mv (.t 6), none⟩,
      ⟨some 34, .mv (.t 7), none⟩,
      ⟨some 35, .iadr 1 (.t 34) (.c (Value.int IntKind.i64 1)), none⟩,
      ⟨some 36, .load (none) (.t 35), none⟩,
      ⟨some 37, .call 43 [.t 32, .t 33, .t 36], none⟩,
      ⟨some 38, .iadr 1 (.t 30) (.t 31), none⟩,
      ⟨none, .store 1 (.t 38) (.t 37), none⟩] [2, 5, 15, 16, 17])
    (.skip))))))
  (.reg [⟨some 39, .bin .add (.t 17) (.c (Value.int IntKind.i64 1)), none⟩,
    ⟨some 17, .mv (.t 39), none⟩] [2, 5, 15, 16, 17])))

def m_cluster_Heads : MF := ⟨41, [.tmp 4], true, (
  .seq (.reg [⟨some 2, .box 2 (.t 0), none⟩,
    ⟨some 4, .mv (.c (Value.slice none 0 0)), none⟩] [1, 2])
  (.seq (.seq (.reg [⟨some 8, .load (some 2) (.t 2), none⟩,
    ⟨some 9, .mv (.t 1), none⟩,
    ⟨some 10, .call 34 [.t 8, .t 9], none⟩,
    ⟨some 11, .un .not (.t 10), none⟩] [1, 2, 11])
  (.cond (.t 11) (.seq (.reg [⟨some 4, .mv (.c (Value.slice none 0 0)), none⟩] [4])
   (.ret))
   (.skip)))
  (.seq (.reg [⟨some 12, .mv (.t 1), none⟩,
    ⟨some 13, .len 1 (.t 12), none⟩,
    ⟨some 14, .mks 1 8 [.v (Value.int .i64 0)] (.t 13) (.t 13), none⟩,
    ⟨some 5, .mv (.t 14), none⟩] [1, 2, 5])
  (.seq (.seq (.reg [⟨some 15, .mv (.t 1), none⟩,
    ⟨some 16, .len 1 (.t 15), none⟩,
    ⟨some 17, .mv (.c (Value.int IntKind.i64 0)), none⟩] [2, 5, 15, 16, 17])
  (.block 0 (.loop [2, 5, 15, 16, 17] m_cluster_Heads_L0)))
  (.seq (.reg [⟨some 40, .mv (.t 5), none⟩,
    ⟨some 4, .mv (.t 40), none⟩] [4])
  (.ret))))))⟩

-- 32 selfstab/graph.Valid
def m_graph_Valid_L3 : MC :=
  .seq (.cond (.t 112) (.skip)
   (.exit 6))
  (.block 7 (.seq (.reg [⟨some 113, .ent (.t 110), none⟩,
     ⟨some 114, .ext (.t 113) 0, none⟩,
     ⟨some 115, .ext (.t 113) 1, none⟩,
     ⟨some 13, .alloc [.v (Value.int .i64 0), .v (Value.int .i64 0)], none⟩,
     ⟨none, .store 2 (.t 13) (.t 114), none⟩,
     ⟨some 14, .mv (.t 115), none⟩] [7, 13, 14, 110])
   (.seq (.reg [⟨some 116, .mv (.t 7), none⟩,
     ⟨some 117, .fadr 1 (.t 13), none⟩,
     ⟨some 118, .load (none) (.t 117), none⟩,
     ⟨some 119, .fadr 0 (.t 13), none⟩,
     ⟨some 120, .load (none) (.t 119), none⟩,
     ⟨some 121, .build [.v (Value.int .i64 0), .v (Value.int .i64 0)] [(0, 1, (.t 118)), (1, 1, (.t 120))], none⟩,
     ⟨some 122, .look true [0, 0] (.v (Value.int .i64 0)) false (.t 116) (.t 121), none⟩,
     ⟨some 123, .mv (.t 14), none⟩,
     ⟨some 124, .bin .neq (.t 122) (.t 123), none⟩] [7, 110, 124])
   (.cond (.t 124) (.seq (.reg [⟨some 2, .mv (.c (Value.bool false)), none⟩] [2])
    (.ret))
    (.skip)))))

def m_graph_Valid_L2 : MC :=
  .seq (.reg [⟨some 65, .bin .lss (.t 64) (.t 63), none⟩] [3, 7, 8, 55, 56, 57, 62, 63, 64, 65])
  (.seq (.cond (.t 65) (.skip)
   (.exit 4))
  (.seq (.block 5 (.seq (.reg [⟨some 66, .iadr 2 (.t 62) (.t 64), none⟩,
     ⟨some 67, .load (some 2) (.t 66), none⟩,
     ⟨some 11, .alloc [.v (Value.int .i64 0), .v (Value.int .i64 0)], none⟩,
     ⟨none, .store 2 (.t 11) (.t 67), none⟩] [3, 7, 8, 11, 55, 56, 57, 62, 63, 64])
   (.seq (.reg [⟨some 68, .mv (.t 8), none⟩,
     ⟨some 69, .fadr 0 (.t 11), none⟩,
     ⟨some 70, .load (none) (.t 69), none⟩,
     ⟨some 71, .build [.v (Value.int .i64 0), .v (Value.int .i64 0)] [(0, 1, (.t 68)), (1, 1, (.t 70))], none⟩,
     ⟨some 12, .alloc [.v (Value.int .i64 0), .v (Value.int .i64 0)], none⟩,
     ⟨none, .store 2 (.t 12) (.t 71), none⟩] [3, 7, 8, 11, 12, 55, 56, 57, 62, 63, 64])
   (.seq (.seq (.reg [⟨some 72, .fadr 0 (.t 11), none⟩,
     ⟨some 73, .load (none) (.t 72), none⟩,
     ⟨some 74, .bin .lss (.t 73) (.c (Value.int IntKind.i64 0)), none⟩,
     ⟨some 75, .mv (.t 74), none⟩,
     ⟨some 76, .fadr 0 (.t 11), some (75, false)⟩,
     ⟨some 77, .load (none) (.t 76), some (75, false)⟩,
     ⟨some 78, .mv (.t 3), some (75, false)⟩,
     ⟨some 79, .bin .geq (.t 77) (.t 78), some (75, false)⟩,
     ⟨some 80, .pick (.t 75) (.c (Value.bool true)) (.t 79), none⟩,
     ⟨some 81, .mv (.t 80), none⟩,
     ⟨some 82, .fadr 0 (.t 11), some (81, false)⟩,
     ⟨some 83, .load (none) (.t 82), some (81, false)⟩,
     ⟨some 84, .mv (.t 8), some (81, false)⟩,
     ⟨some 85, .bin .eql (.t 83) (.t 84), some (81, false)⟩,
     ⟨some 86, .pick (.t 81) (.c (Value.bool true)) (.t 85), none⟩,
     ⟨some 87, .mv (.t 86), none⟩,
     ⟨some 88, .fadr 1 (.t 11), some (87, false)⟩,
     ⟨some 89, .load (none) (.t 88), some (87, false)⟩,
     ⟨some 90, .bin .lss (.t 89) (.c (Value.int IntKind.i64 1)), some (87, false)⟩,
     ⟨some 91, .pick (.t 87) (.c (Value.bool true)) (.t 90), none⟩,
     ⟨some 92, .mv (.t 91), none⟩,
     ⟨some 93, .fadr 1 (.t 11), some (92, false)⟩,
     ⟨some 94, .load (none) (.t 93), some (92, false)⟩,
     ⟨some 95, .bin .gtr (.t 94) (.c (Value.int IntKind.i64 15)), some (92, false)⟩,
     ⟨some 96, .pick (.t 92) (.c (Value.bool true)) (.t 95), none⟩,
     ⟨some 97, .mv (.t 96), none⟩,
     ⟨some 98, .mv (.t 7), some (97, false)⟩,
     ⟨some 99, .load (some 2) (.t 12), some (97, false)⟩,
     ⟨some 100, .look true [0, 0] (.v (Value.int .i64 0)) false (.t 98) (.t 99), some (97, false)⟩,
     ⟨some 101, .bin .neq (.t 100) (.c (Value.int IntKind.i64 0)), some (97, false)⟩,
     ⟨some 102, .pick (.t 97) (.c (Value.bool true)) (.t 101), none⟩] [3, 7, 8, 11, 12, 55, 56, 57, 62, 63, 64, 102])
   (.cond (.t 102) (.seq (.reg [⟨some 2, .mv (.c (Value.bool false)), none⟩] [2])
    (.ret))
    (.skip)))
   (.reg [⟨some 103, .mv (.t 7), none⟩,
     ⟨some 104, .load (some 2) (.t 12), none⟩,
     ⟨some 105, .fadr 1 (.t 11), none⟩,
     ⟨some 106, .load (none) (.t 105), none⟩,
     ⟨none, .mput true [0, 0] (.t 103) (.t 104) (.t 106), none⟩] [3, 7, 8, 55, 56, 57, 62, 63, 64])))))
  (.reg [⟨some 107, .bin .add (.t 64) (.c (Value.int IntKind.i64 1)), none⟩,
    ⟨some 64, .mv (.t 107), none⟩] [3, 7, 8, 55, 56, 57, 62, 63, 64])))

def m_graph_Valid_L1 : MC :=
  .seq (.reg [⟨some 58, .bin .lss (.t 57) (.t 56), none⟩] [3, 7, 55, 56, 57, 58])
  (.seq (.cond (.t 58) (.skip)
   (.exit 2))
  (.seq (.block 3 (.seq (.reg [⟨some 59, .mv (.t 57), none⟩,
     ⟨some 60, .iadr 1 (.t 55) (.t 57), none⟩,
     ⟨some 61, .load (none) (.t 60), none⟩,
     ⟨some 8, .mv (.t 59), none⟩,
     ⟨some 9, .mv (.t 61), none⟩] [3, 7, 8, 9, 55, 56, 57])
   (.seq (.reg [⟨some 62, .mv (.t 9), none⟩,
     ⟨some 63, .len 1 (.t 62), none⟩,
     ⟨some 64, .mv (.c (Value.int IntKind.i64 0)), none⟩] [3, 7, 8, 55, 56, 57, 62, 63, 64])
   (.block 4 (.loop [3, 7, 8, 55, 56, 57, 62, 63, 64] m_graph_Valid_L2)))))
  (.reg [⟨some 108, .bin .add (.t 57) (.c (Value.int IntKind.i64 1)), none⟩,
    ⟨some 57, .mv (.t 108), none⟩] [3, 7, 55, 56, 57])))

def m_graph_Valid_L0 : MC :=
  .seq (.reg [⟨some 36, .bin .lss (.t 35) (.t 34), none⟩] [1, 3, 4, 33, 34, 35, 36])
  (.seq (.cond (.t 36) (.skip)
   (.exit 0))
  (.seq (.block 1 (.seq (.reg [⟨some 37, .iadr 1 (.t 33) (.t 35), none⟩,
     ⟨some 38, .load (none) (.t 37), none⟩,
     ⟨some 6, .mv (.t 38), none⟩] [1, 3, 4, 6, 33, 34, 35])
   (.seq (.seq (.reg [⟨some 39, .mv (.t 6), none⟩,
     ⟨some 40, .bin .lss (.t 39) (.c (Value.int IntKind.i64 0)), none⟩,
     ⟨some 41, .mv (.t 40), none⟩,
     ⟨some 42, .mv (.t 6), some (41, false)⟩,
     ⟨some 43, .bin .gtr (.t 42) (.c (Value.int IntKind.i64 255)), some (41, false)⟩,
     ⟨some 44, .pick (.t 41) (.c (Value.bool true)) (.t 43), none⟩,
     ⟨some 45, .mv (.t 44), none⟩,
     ⟨some 46, .mv (.t 4), some (45, false)⟩,
     ⟨some 47, .mv (.t 6), some (45, false)⟩,
     ⟨some 48, .look false [0] (.v (Value.bool false)) false (.t 46) (.t 47), some (45, false)⟩,
     ⟨some 49, .pick (.t 45) (.c (Value.bool true)) (.t 48), none⟩] [1, 3, 4, 6, 33, 34, 35, 49])
   (.cond (.t 49) (.seq (.reg [⟨some 2, .mv (.c (Value.bool false)), none⟩] [2])
    (.ret))
    (.skip)))
   (.reg [⟨some 50, .mv (.t 4), none⟩,
     ⟨some 51, .mv (.t 6), none⟩,
     ⟨none, .mput false [0] (.t 50) (.t 51) (.c (Value.bool true)), none⟩] [1, 3, 4, 33, 34, 35]))))
  (.reg [⟨some 52, .bin .add (.t 35) (.c (Value.int IntKind.i64 1)), none⟩,
    ⟨some 35, .mv (.t 52), none⟩] [1, 3, 4, 33, 34, 35])))

def m_graph_Valid : MF := ⟨125, [.tmp 2], true, (
  .seq (.reg [⟨some 1, .box 2 (.t 0), none⟩,
    ⟨some 2, .mv (.c (Value.bool false)), none⟩] [1])
  (.seq (.reg [⟨some 15, .fadr 1 (.t 1), none⟩,
    ⟨some 16, .load (none) (.t 15), none⟩,
    ⟨some 17, .len 1 (.t 16), none⟩,
    ⟨some 3, .mv (.t 17), none⟩] [1, 3])
  (.seq (.seq (.reg [⟨some 18, .mv (.t 3), none⟩,
    ⟨some 19, .bin .lss (.t 18) (.c (Value.int IntKind.i64 1)), none⟩,
    ⟨some 20, .mv (.t 19), none⟩,
    ⟨some 21, .mv (.t 3), some (20, false)⟩,
    ⟨some 22, .bin .gtr (.t 21) (.c (Value.int IntKind.i64 24)), some (20, false)⟩,
    ⟨some 23, .pick (.t 20) (.c (Value.bool true)) (.t 22), none⟩,
    ⟨some 24, .mv (.t 23), none⟩,
    ⟨some 25, .fadr 0 (.t 1), some (24, false)⟩,
    ⟨some 26, .load (none) (.t 25), some (24, false)⟩,
    ⟨some 27, .len 1 (.t 26), some (24, false)⟩,
    ⟨some 28, .mv (.t 3), some (24, false)⟩,
    ⟨some 29, .bin .neq (.t 27) (.t 28), some (24, false)⟩,
    ⟨some 30, .pick (.t 24) (.c (Value.bool true)) (.t 29), none⟩] [1, 3, 30])
  (.cond (.t 30) (.seq (.reg [⟨some 2, .mv (.c (Value.bool false)), none⟩] [2])
   (.ret))
   (.skip)))
  (.seq (.reg [⟨some 31, .mkmap, none⟩,
    ⟨some 4, .mv (.t 31), none⟩] [1, 3, 4])
  (.seq (.seq (.reg [⟨some 32, .fadr 0 (.t 1), none⟩,
    ⟨some 33, .load (none) (.t 32), none⟩,
    ⟨some 34, .len 1 (.t 33), none⟩,
    ⟨some 35, .mv (.c (Value.int IntKind.i64 0)), none⟩] [1, 3, 4, 33, 34, 35])
  (.block 0 (.loop [1, 3, 4, 33, 34, 35] m_graph_Valid_L0)))
  (.seq (.reg [⟨some 53, .mkmap, none⟩,
    ⟨some 7, .mv (.t 53), none⟩] [1, 3, 7])
  (.seq (.seq (.reg [⟨some 54, .fadr 1 (.t 1), none⟩,
    ⟨some 55, .load (none) (.t 54), none⟩,
    ⟨some 56, .len 1 (.t 55), none⟩,
    ⟨some 57, .mv (.c (Value.int IntKind.i64 0)), none⟩] [3, 7, 55, 56, 57])
  (.block 2 (.loop [3, 7, 55, 56, 57] m_graph_Valid_L1)))
  (.seq (.seq (.reg [⟨some 109, .mv (.t 7), none⟩,
    ⟨some 110, .rng (.t 109), none⟩] [7, 110])
  (.block 6 (.each 110 111 112 [7, 110] [(2, .bool false)] m_graph_Valid_L3)))
  (.seq (.reg [⟨some 2, .mv (.c (Value.bool true)), none⟩] [2])
  (.ret))))))))))⟩

-- 43 selfstab/shape.At
def m_shape_At : MF := ⟨18, [.tmp 6], true, (
  .seq (.reg [⟨some 3, .box 2 (.t 0), none⟩,
    ⟨some 6, .mv (.c (Value.int IntKind.i64 0)), none⟩] [1, 2, 3])
  (.seq (.seq (.reg [⟨some 7, .mv (.t 2), none⟩,
    ⟨some 8, .bin .lss (.t 7) (.c (Value.int IntKind.i64 0)), none⟩] [1, 2, 3, 8])
  (.cond (.t 8) (.seq (.reg [⟨some 6, .mv (.c (Value.int IntKind.i64 (-1))), none⟩] [6])
   (.ret))
   (.skip)))
  (.seq (.reg [⟨some 9, .fadr 1 (.t 3), none⟩,
    ⟨some 10, .load (none) (.t 9), none⟩,
    ⟨some 11, .mv (.t 1), none⟩,
    ⟨some 12, .iadr 1 (.t 10) (.t 11), none⟩,
    ⟨some 13, .load (none) (.t 12), none⟩,
    ⟨some 14, .mv (.t 2), none⟩,
    ⟨some 15, .iadr 2 (.t 13) (.t 14), none⟩,
    ⟨some 16, .fadr 0 (.t 15), none⟩,
    ⟨some 17, .load (none) (.t 16), none⟩,
    ⟨some 6, .mv (.t 17), none⟩] [6])
  (.ret))))⟩

-- 163 selfstab/lexer.Scan
def m_lexer_Scan_L0 : MC :=
  .seq (.seq (.reg [⟨some 14, .mv (.t 6), none⟩,
    ⟨some 15, .mv (.t 0), none⟩,
    ⟨some 16, .len 0 (.t 15), none⟩,
    ⟨some 17, .bin .lss (.t 14) (.t 16), none⟩] [0, 5, 6, 17])
  (.cond (.t 17) (.skip)
   (.exit 0)))
  (.seq (.block 1 (.seq (.seq (.reg [⟨some 27, .mv (.t 5), none⟩,
     ⟨some 28, .len 1 (.t 27), none⟩,
     ⟨some 29, .bin .eql (.t 28) (.c (Value.int IntKind.i64 4096)), none⟩] [0, 5, 6, 29])
   (.cond (.t 29) (.seq (.reg [⟨some 30, .mv (.t 6), none⟩,
      ⟨some 2, .mv (.c (Value.slice none 0 0)), none⟩,
      ⟨some 3, .mv (.t 30), none⟩,
      ⟨some 4, .mv (.c (Value.int IntKind.i64 3)), none⟩] [2, 3, 4])
    (.ret))
    (.skip)))
   (.seq (.reg [⟨some 32, .mv (.t 0), none⟩,
     ⟨some 33, .mv (.t 6), none⟩,
     ⟨some 34, .call 194 [.t 32, .t 33], none⟩,
     ⟨some 31, .mv (.t 34), none⟩,
     ⟨some 35, .ext (.t 31) 0, none⟩,
     ⟨some 36, .ext (.t 31) 1, none⟩,
     ⟨some 7, .alloc [.v (Value.int .i64 0), .v (Value.int .i64 0), .v (Value.int .i64 0), .v (Value.int .i64 0)], none⟩,
     ⟨none, .store 4 (.t 7) (.t 35), none⟩,
     ⟨some 8, .mv (.t 36), none⟩] [0, 5, 6, 7, 8])
   (.seq (.seq (.reg [⟨some 37, .mv (.t 8), none⟩,
     ⟨some 38, .bin .neq (.t 37) (.c (Value.int IntKind.i64 0)), none⟩] [0, 5, 6, 7, 8, 38])
   (.cond (.t 38) (.seq (.reg [⟨some 39, .mv (.t 6), none⟩,
      ⟨some 40, .mv (.t 8), none⟩,
      ⟨some 2, .mv (.c (Value.slice none 0 0)), none⟩,
      ⟨some 3, .mv (.t 39), none⟩,
      ⟨some 4, .mv (.t 40), none⟩] [2, 3, 4])
    (.ret))
    (.skip)))
   (.reg [⟨some 41, .mv (.t 5), none⟩,
     ⟨some 42, .load (some 4) (.t 7), none⟩,
     ⟨some 43, .lit 4 [.v (Value.int .i64 0), .v (Value.int .i64 0), .v (Value.int .i64 0), .v (Value.int .i64 0)] [(0, 4, (.t 42))] false, none⟩,
     ⟨some 44, .app 4 32 (.t 41) (.t 43), none⟩,
     ⟨some 5, .mv (.t 44), none⟩] [0, 5])))))
  (.reg [⟨some 18, .mv (.t 0), none⟩,
    ⟨some 19, .mv (.t 5), none⟩,
    ⟨some 20, .mv (.t 5), none⟩,
    ⟨some 21, .len 1 (.t 20), none⟩,
    ⟨some 22, .bin .sub (.t 21) (.c (Value.int IntKind.i64 1)), none⟩,
    ⟨some 23, .iadr 4 (.t 19) (.t 22), none⟩,
    ⟨some 24, .fadr 2 (.t 23), none⟩,
    ⟨some 25, .load (none) (.t 24), none⟩,
    ⟨some 26, .call 193 [.t 18, .t 25], none⟩,
    ⟨some 6, .mv (.t 26), none⟩] [0, 5, 6]))

def m_lexer_Scan : MF := ⟨46, [.tmp 2, .tmp 3, .tmp 4], true, (
  .seq (.reg [⟨some 2, .mv (.c (Value.slice none 0 0)), none⟩,
    ⟨some 3, .mv (.c (Value.int IntKind.i64 0)), none⟩,
    ⟨some 4, .mv (.c (Value.int IntKind.i64 0)), none⟩] [0])
  (.seq (.seq (.reg [⟨some 9, .mv (.t 0), none⟩,
    ⟨some 10, .len 0 (.t 9), none⟩,
    ⟨some 11, .bin .gtr (.t 10) (.c (Value.int IntKind.i64 16384)), none⟩] [0, 11])
  (.cond (.t 11) (.seq (.reg [⟨some 2, .mv (.c (Value.slice none 0 0)), none⟩,
     ⟨some 3, .mv (.c (Value.int IntKind.i64 0)), none⟩,
     ⟨some 4, .mv (.c (Value.int IntKind.i64 3)), none⟩] [2, 3, 4])
   (.ret))
   (.skip)))
  (.seq (.reg [⟨some 5, .mv (.c (Value.slice none 0 0)), none⟩] [0, 5])
  (.seq (.seq (.reg [⟨some 12, .mv (.t 0), none⟩,
    ⟨some 13, .call 193 [.t 12, .c (Value.int IntKind.i64 0)], none⟩,
    ⟨some 6, .mv (.t 13), none⟩] [0, 5, 6])
  (.block 0 (.loop [0, 5, 6] m_lexer_Scan_L0)))
  (.seq (.reg [⟨some 45, .mv (.t 5), none⟩,
    ⟨some 2, .mv (.t 45), none⟩,
    ⟨some 3, .mv (.c (Value.int IntKind.i64 0)), none⟩,
    ⟨some 4, .mv (.c (Value.int IntKind.i64 0)), none⟩] [2, 3, 4])
  (.ret))))))⟩

-- 166 (*selfstab/syntax.Reader).Wants
def m_syntax_Reader_Wants : MF := ⟨11, [], false, (
  .seq (.reg [⟨some 4, .mv (.t 0), none⟩,
    ⟨some 5, .mv (.t 1), none⟩,
    ⟨some 6, .lit 1 [.v (Value.string ⟨#[]⟩)] [(0, 1, (.t 5))] false, none⟩,
    ⟨some 7, .call 195 [.t 4, .t 6], none⟩,
    ⟨some 8, .bin .eql (.t 7) (.c (Value.string ⟨#[]⟩)), none⟩] [0, 8])
  (.cond (.t 8) (.reg [⟨some 9, .mv (.t 0), none⟩,
     ⟨some 10, .call 172 [.t 9, .c (Value.int IntKind.i64 4)], none⟩] [])
   (.skip)))⟩

-- 167 (*selfstab/syntax.Reader).Fresh
def m_syntax_Reader_Fresh : MF := ⟨34, [.tmp 4], false, (
  .seq (.reg [⟨some 4, .mv (.c (Value.string ⟨#[]⟩)), none⟩] [0, 1])
  (.seq (.reg [⟨some 8, .mv (.t 0), none⟩,
    ⟨some 9, .call 196 [.t 8, .c (Value.int IntKind.i64 0)], none⟩,
    ⟨some 7, .mv (.t 9), none⟩,
    ⟨some 10, .ext (.t 7) 0, none⟩,
    ⟨some 11, .ext (.t 7) 1, none⟩,
    ⟨some 5, .mv (.t 10), none⟩,
    ⟨some 6, .mv (.t 11), none⟩] [0, 1, 5, 6])
  (.seq (.seq (.reg [⟨some 12, .mv (.t 6), none⟩,
    ⟨some 13, .bin .neq (.t 12) (.c (Value.int IntKind.i64 1)), none⟩,
    ⟨some 14, .mv (.t 13), none⟩,
    ⟨some 15, .mv (.t 5), some (14, false)⟩,
    ⟨some 16, .call 175 [.t 15], some (14, false)⟩,
    ⟨some 17, .un .not (.t 16), some (14, false)⟩,
    ⟨some 18, .pick (.t 14) (.c (Value.bool true)) (.t 17), none⟩] [0, 1, 5, 18])
  (.cond (.t 18) (.reg [⟨some 19, .mv (.t 0), none⟩,
     ⟨some 20, .call 172 [.t 19, .c (Value.int IntKind.i64 4)], none⟩] [0, 1, 5])
   (.skip)))
  (.seq (.seq (.reg [⟨some 21, .mv (.t 1), none⟩,
    ⟨some 22, .mv (.t 5), none⟩,
    ⟨some 23, .call 197 [.t 21, .t 22], none⟩] [0, 5, 23])
  (.cond (.t 23) (.reg [⟨some 24, .mv (.t 0), none⟩,
     ⟨some 25, .call 172 [.t 24, .c (Value.int IntKind.i64 5)], none⟩] [0, 5])
   (.skip)))
  (.seq (.reg [⟨some 26, .mv (.t 0), none⟩,
    ⟨some 27, .nck (.t 26), none⟩,
    ⟨some 28, .fadr 2 (.t 27), none⟩,
    ⟨some 29, .load (none) (.t 28), none⟩,
    ⟨some 30, .bin .add (.t 29) (.c (Value.int IntKind.i64 1)), none⟩,
    ⟨some 31, .nck (.t 26), none⟩,
    ⟨some 32, .fadr 2 (.t 31), none⟩,
    ⟨none, .store 1 (.t 32) (.t 30), none⟩] [5])
  (.seq (.reg [⟨some 33, .mv (.t 5), none⟩,
    ⟨some 4, .mv (.t 33), none⟩] [4])
  (.ret)))))))⟩

-- 168 (*selfstab/program.reader).word
def m_program_reader_word : MF := ⟨33, [.tmp 8], false, (
  .seq (.reg [⟨some 8, .mv (.c (Value.bool false)), none⟩] [0, 1, 2, 3])
  (.seq (.seq (.reg [⟨some 9, .mv (.t 0), none⟩,
    ⟨some 10, .nck (.t 9), none⟩,
    ⟨some 11, .fadr 0 (.t 10), none⟩,
    ⟨some 12, .load (none) (.t 11), none⟩,
    ⟨some 13, .mv (.t 1), none⟩,
    ⟨some 14, .lit 1 [.v (Value.string ⟨#[]⟩)] [(0, 1, (.t 13))] false, none⟩,
    ⟨some 15, .call 198 [.t 12, .t 14], none⟩,
    ⟨some 16, .bin .eql (.t 15) (.c (Value.string ⟨#[]⟩)), none⟩] [0, 1, 2, 3, 16])
  (.cond (.t 16) (.seq (.reg [⟨some 8, .mv (.c (Value.bool false)), none⟩] [8])
   (.ret))
   (.skip)))
  (.seq (.seq (.reg [⟨some 17, .mv (.t 2), none⟩,
    ⟨some 18, .mv (.t 3), none⟩,
    ⟨some 19, .bin .eql (.t 17) (.t 18), none⟩] [0, 1, 19])
  (.cond (.t 19) (.reg [⟨some 20, .mv (.t 0), none⟩,
     ⟨some 21, .nck (.t 20), none⟩,
     ⟨some 22, .fadr 0 (.t 21), none⟩,
     ⟨some 23, .load (none) (.t 22), none⟩,
     ⟨some 24, .call 172 [.t 23, .c (Value.int IntKind.i64 3)], none⟩] [0, 1])
   (.skip)))
  (.seq (.reg [⟨some 25, .mv (.t 0), none⟩,
    ⟨some 26, .nck (.t 25), none⟩,
    ⟨some 27, .fadr 0 (.t 26), none⟩,
    ⟨some 28, .load (none) (.t 27), none⟩,
    ⟨some 29, .mv (.t 1), none⟩,
    ⟨some 30, .lit 1 [.v (Value.string ⟨#[]⟩)] [(0, 1, (.t 29))] false, none⟩,
    ⟨some 31, .call 195 [.t 28, .t 30], none⟩,
    ⟨some 32, .bin .neq (.t 31) (.c (Value.string ⟨#[]⟩)), none⟩,
    ⟨some 8, .mv (.t 32), none⟩] [8])
  (.ret)))))⟩

-- 169 (*selfstab/program.reader).variable
def m_program_reader_variable : MF := ⟨81, [], false, (
  .seq (.reg [⟨some 3, .mv (.t 0), none⟩,
    ⟨some 4, .nck (.t 3), none⟩,
    ⟨some 5, .fadr 0 (.t 4), none⟩,
    ⟨some 6, .load (none) (.t 5), none⟩,
    ⟨some 7, .mv (.t 0), none⟩,
    ⟨some 8, .nck (.t 7), none⟩,
    ⟨some 9, .fadr 0 (.t 8), none⟩,
    ⟨some 10, .load (none) (.t 9), none⟩,
    ⟨some 11, .nck (.t 10), none⟩,
    ⟨some 12, .fadr 3 (.t 11), none⟩,
    ⟨some 13, .load (none) (.t 12), none⟩,
    ⟨some 14, .call 167 [.t 6, .t 13], none⟩,
    ⟨some 15, .build [.v (Value.string ⟨#[]⟩), .v (Value.int .i64 0), .v (Value.int .i64 0), .v (Value.int .i64 0), .v (Value.int .i64 0), .v (Value.int .i64 0)] [(0, 1, (.t 14))], none⟩,
    ⟨some 2, .alloc [.v (Value.string ⟨#[]⟩), .v (Value.int .i64 0), .v (Value.int .i64 0), .v (Value.int .i64 0), .v (Value.int .i64 0), .v (Value.int .i64 0)], none⟩,
    ⟨none, .mat 6 2 (.t 15), none⟩] [0, 2])
  (.seq (.reg [⟨some 16, .mv (.t 0), none⟩,
    ⟨some 17, .nck (.t 16), none⟩,
    ⟨some 18, .fadr 0 (.t 17), none⟩,
    ⟨some 19, .load (none) (.t 18), none⟩,
    ⟨some 20, .call 166 [.t 19, .c (Value.string ⟨#[58]⟩)], none⟩] [0, 2])
  (.seq (.seq (.reg [⟨some 21, .mv (.t 0), none⟩,
    ⟨some 22, .nck (.t 21), none⟩,
    ⟨some 23, .fadr 0 (.t 22), none⟩,
    ⟨some 24, .load (none) (.t 23), none⟩,
    ⟨some 25, .lit 1 [.v (Value.string ⟨#[]⟩), .v (Value.string ⟨#[]⟩)] [(0, 1, (.c (Value.string ⟨#[98, 111, 111, 108]⟩))), (1, 1, (.c (Value.string ⟨#[112, 111, 114, 116]⟩)))] false, none⟩,
    ⟨some 26, .call 195 [.t 24, .t 25], none⟩] [0, 2, 26])
  (.block 0 (.seq (.reg [⟨some 42, .bin .eql (.t 26) (.c (Value.string ⟨#[98, 111, 111, 108]⟩)), none⟩,
     ⟨some 41, .mv (.t 42), none⟩] [0, 2, 26, 41])
   (.cond (.t 41) (.reg [⟨some 43, .fadr 1 (.t 2), none⟩,
      ⟨none, .store 1 (.t 43) (.c (Value.int IntKind.i64 2)), none⟩] [0, 2])
    (.seq (.reg [⟨some 45, .bin .eql (.t 26) (.c (Value.string ⟨#[112, 111, 114, 116]⟩)), none⟩,
      ⟨some 44, .mv (.t 45), none⟩] [0, 2, 44])
    (.cond (.t 44) (.reg [⟨some 46, .fadr 1 (.t 2), none⟩,
       ⟨none, .store 1 (.t 46) (.c (Value.int IntKind.i64 3)), none⟩] [0, 2])
     (.seq (.reg [⟨some 27, .mv (.t 0), none⟩,
       ⟨some 28, .nck (.t 27), none⟩,
       ⟨some 29, .fadr 0 (.t 28), none⟩,
       ⟨some 30, .load (none) (.t 29), none⟩,
       ⟨some 31, .call 199 [.t 30, .c (Value.int IntKind.i64 0), .c (Value.int IntKind.i64 4096)], none⟩,
       ⟨some 32, .fadr 1 (.t 2), none⟩,
       ⟨none, .store 1 (.t 32) (.c (Value.int IntKind.i64 1)), none⟩,
       ⟨some 33, .fadr 2 (.t 2), none⟩,
       ⟨none, .store 1 (.t 33) (.t 31), none⟩] [0, 2])
     (.seq (.reg [⟨some 34, .mv (.t 0), none⟩,
       ⟨some 35, .nck (.t 34), none⟩,
       ⟨some 36, .fadr 0 (.t 35), none⟩,
       ⟨some 37, .load (none) (.t 36), none⟩,
       ⟨some 38, .call 166 [.t 37, .c (Value.string ⟨#[46, 46]⟩)], none⟩] [0, 2])
     (.reg [⟨some 39, .mv (.t 0), none⟩,
       ⟨some 40, .call 200 [.t 39, .t 2], none⟩] [0, 2])))))))))
  (.seq (.reg [⟨some 47, .mv (.t 0), none⟩,
    ⟨some 48, .nck (.t 47), none⟩,
    ⟨some 49, .fadr 0 (.t 48), none⟩,
    ⟨some 50, .load (none) (.t 49), none⟩,
    ⟨some 51, .call 166 [.t 50, .c (Value.string ⟨#[59]⟩)], none⟩] [0, 2])
  (.regd [0, 0, 2, 6, 14, 0, 32, 96, 224, 480, 0, 1024, 4064, 0, 8192, 24576, 57344, 122880, 253952, 516096, 0, 1048576, 3145728, 8388576, 16777215, 33554431, 67108863, 134217727, 268435455, 536870911, 1073741823] [⟨some 52, .mv (.t 0), none⟩,
    ⟨some 53, .mv (.t 0), none⟩,
    ⟨some 54, .nck (.t 53), none⟩,
    ⟨some 55, .fadr 0 (.t 54), none⟩,
    ⟨some 56, .load (none) (.t 55), none⟩,
    ⟨some 57, .mv (.t 0), none⟩,
    ⟨some 58, .nck (.t 57), none⟩,
    ⟨some 59, .fadr 1 (.t 58), none⟩,
    ⟨some 60, .fadr 1 (.t 59), none⟩,
    ⟨some 61, .load (none) (.t 60), none⟩,
    ⟨some 62, .load (some 6) (.t 2), none⟩,
    ⟨some 63, .lit 6 [.v (Value.string ⟨#[]⟩), .v (Value.int .i64 0), .v (Value.int .i64 0), .v (Value.int .i64 0), .v (Value.int .i64 0), .v (Value.int .i64 0)] [(0, 6, (.t 62))] false, none⟩,
    ⟨some 64, .app 6 56 (.t 61) (.t 63), none⟩,
    ⟨some 65, .mv (.t 0), none⟩,
    ⟨some 66, .nck (.t 65), none⟩,
    ⟨some 67, .fadr 0 (.t 66), none⟩,
    ⟨some 68, .load (none) (.t 67), none⟩,
    ⟨some 69, .nck (.t 68), none⟩,
    ⟨some 70, .fadr 3 (.t 69), none⟩,
    ⟨some 71, .load (none) (.t 70), none⟩,
    ⟨some 72, .fadr 0 (.t 2), none⟩,
    ⟨some 73, .load (none) (.t 72), none⟩,
    ⟨some 74, .lit 1 [.v (Value.string ⟨#[]⟩)] [(0, 1, (.t 73))] false, none⟩,
    ⟨some 75, .app 1 16 (.t 71) (.t 74), none⟩,
    ⟨some 76, .nck (.t 52), none⟩,
    ⟨some 77, .fadr 1 (.t 76), none⟩,
    ⟨some 78, .fadr 1 (.t 77), none⟩,
    ⟨none, .store 1 (.t 78) (.t 64), none⟩,
    ⟨some 79, .nck (.t 56), none⟩,
    ⟨some 80, .fadr 3 (.t 79), none⟩,
    ⟨none, .store 1 (.t 80) (.t 75), none⟩] [])))))⟩

-- 170 (*selfstab/program.reader).rule
def m_program_reader_rule_L0 : MC :=
  .block 1 (.seq (.reg [⟨some 30, .mv (.t 0), none⟩,
     ⟨some 31, .nck (.t 30), none⟩,
     ⟨some 32, .fadr 0 (.t 31), none⟩,
     ⟨some 33, .load (none) (.t 32), none⟩,
     ⟨some 34, .call 202 [.t 33], none⟩,
     ⟨some 35, .build [.v (Value.int .i64 0), .v (Value.slice none 0 0)] [(0, 1, (.t 34))], none⟩,
     ⟨some 3, .new [.v (Value.int .i64 0), .v (Value.slice none 0 0)], none⟩,
     ⟨none, .store 2 (.t 3) (.t 35), none⟩] [0, 2, 3])
   (.seq (.reg [⟨some 36, .mv (.t 0), none⟩,
     ⟨some 37, .nck (.t 36), none⟩,
     ⟨some 38, .fadr 0 (.t 37), none⟩,
     ⟨some 39, .load (none) (.t 38), none⟩,
     ⟨some 40, .call 166 [.t 39, .c (Value.string ⟨#[58, 61]⟩)], none⟩] [0, 2, 3])
   (.seq (.reg [⟨some 41, .mv (.t 0), none⟩,
     ⟨some 42, .nck (.t 41), none⟩,
     ⟨some 43, .fadr 0 (.t 42), none⟩,
     ⟨some 44, .load (none) (.t 43), none⟩,
     ⟨some 45, .call 201 [.t 44], none⟩,
     ⟨some 46, .fadr 1 (.t 3), none⟩,
     ⟨none, .store 1 (.t 46) (.t 45), none⟩] [0, 2, 3])
   (.seq (.reg [⟨some 47, .fadr 2 (.t 2), none⟩,
     ⟨some 48, .load (none) (.t 47), none⟩,
     ⟨some 49, .load (some 2) (.t 3), none⟩,
     ⟨some 50, .lit 2 [.v (Value.int .i64 0), .v (Value.slice none 0 0)] [(0, 2, (.t 49))] true, none⟩,
     ⟨some 51, .app 2 32 (.t 48) (.t 50), none⟩,
     ⟨some 52, .fadr 2 (.t 2), none⟩,
     ⟨none, .store 1 (.t 52) (.t 51), none⟩] [0, 2])
   (.seq (.reg [⟨some 53, .mv (.t 0), none⟩,
     ⟨some 54, .nck (.t 53), none⟩,
     ⟨some 55, .fadr 0 (.t 54), none⟩,
     ⟨some 56, .load (none) (.t 55), none⟩,
     ⟨some 57, .lit 1 [.v (Value.string ⟨#[]⟩)] [(0, 1, (.c (Value.string ⟨#[44]⟩)))] false, none⟩,
     ⟨some 58, .call 195 [.t 56, .t 57], none⟩,
     ⟨some 59, .bin .eql (.t 58) (.c (Value.string ⟨#[]⟩)), none⟩] [0, 2, 59])
   (.cond (.t 59) (.exit 0)
    (.skip)))))))

def m_program_reader_rule : MF := ⟨88, [], false, (
  .seq (.reg [⟨some 4, .mv (.t 0), none⟩,
    ⟨some 5, .nck (.t 4), none⟩,
    ⟨some 6, .fadr 0 (.t 5), none⟩,
    ⟨some 7, .load (none) (.t 6), none⟩,
    ⟨some 8, .mv (.t 0), none⟩,
    ⟨some 9, .nck (.t 8), none⟩,
    ⟨some 10, .fadr 4 (.t 9), none⟩,
    ⟨some 11, .load (none) (.t 10), none⟩,
    ⟨some 12, .call 167 [.t 7, .t 11], none⟩,
    ⟨some 13, .build [.v (Value.string ⟨#[]⟩), .v (Value.slice none 0 0), .v (Value.slice none 0 0)] [(0, 1, (.t 12))], none⟩,
    ⟨some 2, .alloc [.v (Value.string ⟨#[]⟩), .v (Value.slice none 0 0), .v (Value.slice none 0 0)], none⟩,
    ⟨none, .mat 3 2 (.t 13), none⟩] [0, 2])
  (.seq (.reg [⟨some 14, .mv (.t 0), none⟩,
    ⟨some 15, .nck (.t 14), none⟩,
    ⟨some 16, .fadr 0 (.t 15), none⟩,
    ⟨some 17, .load (none) (.t 16), none⟩,
    ⟨some 18, .call 166 [.t 17, .c (Value.string ⟨#[58]⟩)], none⟩] [0, 2])
  (.seq (.reg [⟨some 19, .mv (.t 0), none⟩,
    ⟨some 20, .nck (.t 19), none⟩,
    ⟨some 21, .fadr 0 (.t 20), none⟩,
    ⟨some 22, .load (none) (.t 21), none⟩,
    ⟨some 23, .call 201 [.t 22], none⟩,
    ⟨some 24, .fadr 1 (.t 2), none⟩,
    ⟨none, .store 1 (.t 24) (.t 23), none⟩] [0, 2])
  (.seq (.reg [⟨some 25, .mv (.t 0), none⟩,
    ⟨some 26, .nck (.t 25), none⟩,
    ⟨some 27, .fadr 0 (.t 26), none⟩,
    ⟨some 28, .load (none) (.t 27), none⟩,
    ⟨some 29, .call 166 [.t 28, .c (Value.string ⟨#[45, 62]⟩)], none⟩] [0, 2])
  (.seq (.block 0 (.loop [0, 2] m_program_reader_rule_L0))
  (.seq (.reg [⟨some 60, .mv (.t 0), none⟩,
    ⟨some 61, .nck (.t 60), none⟩,
    ⟨some 62, .fadr 0 (.t 61), none⟩,
    ⟨some 63, .load (none) (.t 62), none⟩,
    ⟨some 64, .call 166 [.t 63, .c (Value.string ⟨#[59]⟩)], none⟩] [0, 2])
  (.regd [0, 0, 0, 4, 12, 28, 60, 0, 128, 508, 0, 1024, 3072, 7168, 0, 16384, 49152, 131068, 262141, 524285, 1048573, 2097149, 4194303, 8388607, 16777215] [⟨some 65, .mv (.t 0), none⟩,
    ⟨some 66, .mv (.t 0), none⟩,
    ⟨some 67, .mv (.t 0), none⟩,
    ⟨some 68, .nck (.t 67), none⟩,
    ⟨some 69, .fadr 1 (.t 68), none⟩,
    ⟨some 70, .fadr 2 (.t 69), none⟩,
    ⟨some 71, .load (none) (.t 70), none⟩,
    ⟨some 72, .load (some 3) (.t 2), none⟩,
    ⟨some 73, .lit 3 [.v (Value.string ⟨#[]⟩), .v (Value.slice none 0 0), .v (Value.slice none 0 0)] [(0, 3, (.t 72))] true, none⟩,
    ⟨some 74, .app 3 64 (.t 71) (.t 73), none⟩,
    ⟨some 75, .mv (.t 0), none⟩,
    ⟨some 76, .nck (.t 75), none⟩,
    ⟨some 77, .fadr 4 (.t 76), none⟩,
    ⟨some 78, .load (none) (.t 77), none⟩,
    ⟨some 79, .fadr 0 (.t 2), none⟩,
    ⟨some 80, .load (none) (.t 79), none⟩,
    ⟨some 81, .lit 1 [.v (Value.string ⟨#[]⟩)] [(0, 1, (.t 80))] false, none⟩,
    ⟨some 82, .app 1 16 (.t 78) (.t 81), none⟩,
    ⟨some 83, .nck (.t 65), none⟩,
    ⟨some 84, .fadr 1 (.t 83), none⟩,
    ⟨some 85, .fadr 2 (.t 84), none⟩,
    ⟨none, .store 1 (.t 85) (.t 74), none⟩,
    ⟨some 86, .nck (.t 66), none⟩,
    ⟨some 87, .fadr 4 (.t 86), none⟩,
    ⟨none, .store 1 (.t 87) (.t 82), none⟩] [])))))))⟩

-- 171 (*selfstab/syntax.Reader).Done
def m_syntax_Reader_Done : MF := ⟨13, [.tmp 2], false, (
  .seq (.reg [⟨some 2, .mv (.c (Value.bool false)), none⟩] [0])
  (.seq (.reg [⟨some 3, .mv (.t 0), none⟩,
    ⟨some 4, .nck (.t 3), none⟩,
    ⟨some 5, .fadr 2 (.t 4), none⟩,
    ⟨some 6, .load (none) (.t 5), none⟩,
    ⟨some 7, .mv (.t 0), none⟩,
    ⟨some 8, .nck (.t 7), none⟩,
    ⟨some 9, .fadr 1 (.t 8), none⟩,
    ⟨some 10, .load (none) (.t 9), none⟩,
    ⟨some 11, .len 1 (.t 10), none⟩,
    ⟨some 12, .bin .eql (.t 6) (.t 11), none⟩,
    ⟨some 2, .mv (.t 12), none⟩] [2])
  (.ret)))⟩

-- 172 (*selfstab/syntax.Reader).Fail
def m_syntax_Reader_Fail : MF := ⟨9, [], false, (
  .reg [⟨some 4, .mv (.t 0), none⟩,
    ⟨some 5, .call 203 [.t 4], none⟩,
    ⟨some 6, .mv (.t 1), none⟩,
    ⟨some 7, .build [.v (Value.int .i64 0), .v (Value.int .i64 0)] [(0, 1, (.t 5)), (1, 1, (.t 6))], none⟩,
    ⟨some 8, .nop, none⟩,
    ⟨none, .nop, none⟩] [])⟩

-- 174 selfstab/types.ranged
def m_types_ranged : MF := ⟨67, [.tmp 2], true, (
  .seq (.reg [⟨some 1, .box 6 (.t 0), none⟩,
    ⟨some 2, .mv (.c (Value.bool false)), none⟩] [1])
  (.seq (.seq (.reg [⟨some 4, .fadr 1 (.t 1), none⟩,
    ⟨some 5, .load (none) (.t 4), none⟩,
    ⟨some 6, .bin .neq (.t 5) (.c (Value.int IntKind.i64 1)), none⟩] [1, 6])
  (.cond (.t 6) (.seq (.reg [⟨some 7, .fadr 1 (.t 1), none⟩,
     ⟨some 8, .load (none) (.t 7), none⟩,
     ⟨some 9, .call 204 [.t 8], none⟩,
     ⟨some 10, .mv (.t 9), none⟩,
     ⟨some 11, .fadr 2 (.t 1), some (10, true)⟩,
     ⟨some 12, .load (none) (.t 11), some (10, true)⟩,
     ⟨some 13, .bin .eql (.t 12) (.c (Value.int IntKind.i64 0)), some (10, true)⟩,
     ⟨some 14, .pick (.t 10) (.t 13) (.c (Value.bool false)), none⟩,
     ⟨some 15, .mv (.t 14), none⟩,
     ⟨some 16, .fadr 3 (.t 1), some (15, true)⟩,
     ⟨some 17, .load (none) (.t 16), some (15, true)⟩,
     ⟨some 18, .bin .eql (.t 17) (.c (Value.int IntKind.i64 0)), some (15, true)⟩,
     ⟨some 19, .pick (.t 15) (.t 18) (.c (Value.bool false)), none⟩,
     ⟨some 20, .mv (.t 19), none⟩,
     ⟨some 21, .fadr 4 (.t 1), some (20, true)⟩,
     ⟨some 22, .load (none) (.t 21), some (20, true)⟩,
     ⟨some 23, .bin .eql (.t 22) (.c (Value.int IntKind.i64 0)), some (20, true)⟩,
     ⟨some 24, .pick (.t 20) (.t 23) (.c (Value.bool false)), none⟩,
     ⟨some 25, .mv (.t 24), none⟩,
     ⟨some 26, .fadr 5 (.t 1), some (25, true)⟩,
     ⟨some 27, .load (none) (.t 26), some (25, true)⟩,
     ⟨some 28, .bin .eql (.t 27) (.c (Value.int IntKind.i64 0)), some (25, true)⟩,
     ⟨some 29, .pick (.t 25) (.t 28) (.c (Value.bool false)), none⟩,
     ⟨some 2, .mv (.t 29), none⟩] [2])
   (.ret))
   (.skip)))
  (.seq (.reg [⟨some 3, .mv (.c (Value.int IntKind.i64 (-4096))), none⟩] [1, 3])
  (.seq (.seq (.reg [⟨some 30, .fadr 4 (.t 1), none⟩,
    ⟨some 31, .load (none) (.t 30), none⟩,
    ⟨some 32, .bin .eql (.t 31) (.c (Value.int IntKind.i64 0)), none⟩,
    ⟨some 33, .mv (.t 32), none⟩,
    ⟨some 34, .fadr 5 (.t 1), some (33, true)⟩,
    ⟨some 35, .load (none) (.t 34), some (33, true)⟩,
    ⟨some 36, .bin .eql (.t 35) (.c (Value.int IntKind.i64 0)), some (33, true)⟩,
    ⟨some 37, .pick (.t 33) (.t 36) (.c (Value.bool false)), none⟩] [1, 3, 37])
  (.cond (.t 37) (.reg [⟨some 3, .mv (.c (Value.int IntKind.i64 0)), none⟩] [1, 3])
   (.skip)))
  (.seq (.reg [⟨some 38, .fadr 2 (.t 1), none⟩,
    ⟨some 39, .load (none) (.t 38), none⟩,
    ⟨some 40, .call 205 [.t 39, .c (Value.int IntKind.i64 0), .c (Value.int IntKind.i64 4096)], none⟩,
    ⟨some 41, .mv (.t 40), none⟩,
    ⟨some 42, .fadr 4 (.t 1), some (41, true)⟩,
    ⟨some 43, .load (none) (.t 42), some (41, true)⟩,
    ⟨some 44, .call 205 [.t 43, .c (Value.int IntKind.i64 0), .c (Value.int IntKind.i64 255)], some (41, true)⟩,
    ⟨some 45, .pick (.t 41) (.t 44) (.c (Value.bool false)), none⟩,
    ⟨some 46, .mv (.t 45), none⟩,
    ⟨some 47, .fadr 5 (.t 1), some (46, true)⟩,
    ⟨some 48, .load (none) (.t 47), some (46, true)⟩,
    ⟨some 49, .call 205 [.t 48, .c (Value.int IntKind.i64 0), .c (Value.int IntKind.i64 255)], some (46, true)⟩,
    ⟨some 50, .pick (.t 46) (.t 49) (.c (Value.bool false)), none⟩,
    ⟨some 51, .mv (.t 50), none⟩,
    ⟨some 52, .fadr 4 (.t 1), some (51, true)⟩,
    ⟨some 53, .load (none) (.t 52), some (51, true)⟩,
    ⟨some 54, .bin .eql (.t 53) (.c (Value.int IntKind.i64 0)), some (51, true)⟩,
    ⟨some 55, .mv (.t 54), some (51, true)⟩,
    ⟨some 56, .fadr 5 (.t 1), some (55, false)⟩,
    ⟨some 57, .load (none) (.t 56), some (55, false)⟩,
    ⟨some 58, .bin .eql (.t 57) (.c (Value.int IntKind.i64 0)), some (55, false)⟩,
    ⟨some 59, .pick (.t 55) (.c (Value.bool true)) (.t 58), some (51, true)⟩,
    ⟨some 60, .pick (.t 51) (.t 59) (.c (Value.bool false)), none⟩,
    ⟨some 61, .mv (.t 60), none⟩,
    ⟨some 62, .fadr 3 (.t 1), some (61, true)⟩,
    ⟨some 63, .load (none) (.t 62), some (61, true)⟩,
    ⟨some 64, .mv (.t 3), some (61, true)⟩,
    ⟨some 65, .call 205 [.t 63, .t 64, .c (Value.int IntKind.i64 4096)], some (61, true)⟩,
    ⟨some 66, .pick (.t 61) (.t 65) (.c (Value.bool false)), none⟩,
    ⟨some 2, .mv (.t 66), none⟩] [2])
  (.ret))))))⟩

-- 175 selfstab/lexer.Name
def m_lexer_Name : MF := ⟨27, [.tmp 2], true, (
  .seq (.reg [⟨some 2, .mv (.c (Value.bool false)), none⟩] [0])
  (.seq (.reg [⟨some 3, .mv (.t 0), none⟩,
    ⟨some 4, .bin .neq (.t 3) (.c (Value.string ⟨#[]⟩)), none⟩,
    ⟨some 5, .mv (.t 4), none⟩,
    ⟨some 6, .mv (.t 0), some (5, true)⟩,
    ⟨some 7, .len 0 (.t 6), some (5, true)⟩,
    ⟨some 8, .bin .leq (.t 7) (.c (Value.int IntKind.i64 24)), some (5, true)⟩,
    ⟨some 9, .pick (.t 5) (.t 8) (.c (Value.bool false)), none⟩,
    ⟨some 10, .mv (.t 9), none⟩,
    ⟨some 11, .mv (.t 0), some (10, true)⟩,
    ⟨some 12, .sidx (.t 11) (.c (Value.int IntKind.i64 0)), some (10, true)⟩,
    ⟨some 13, .call 206 [.t 12], some (10, true)⟩,
    ⟨some 14, .pick (.t 10) (.t 13) (.c (Value.bool false)), none⟩,
    ⟨some 15, .mv (.t 14), none⟩,
    ⟨some 16, .mv (.t 0), some (15, true)⟩,
    ⟨some 17, .call 208 [.t 16, .c (Value.int IntKind.i64 0), .f 207], some (15, true)⟩,
    ⟨some 18, .mv (.t 0), some (15, true)⟩,
    ⟨some 19, .len 0 (.t 18), some (15, true)⟩,
    ⟨some 20, .bin .eql (.t 17) (.t 19), some (15, true)⟩,
    ⟨some 21, .pick (.t 15) (.t 20) (.c (Value.bool false)), none⟩,
    ⟨some 22, .mv (.t 21), none⟩,
    ⟨some 23, .mv (.t 0), some (22, true)⟩,
    ⟨some 24, .call 209 [.t 23], some (22, true)⟩,
    ⟨some 25, .un .not (.t 24), some (22, true)⟩,
    ⟨some 26, .pick (.t 22) (.t 25) (.c (Value.bool false)), none⟩,
    ⟨some 2, .mv (.t 26), none⟩] [2])
  (.ret)))⟩

-- 176 selfstab/types.named
def m_types_named_L0 : MC :=
  .seq (.reg [⟨some 10, .bin .lss (.t 9) (.t 8), none⟩] [3, 7, 8, 9, 10])
  (.seq (.cond (.t 10) (.skip)
   (.exit 0))
  (.seq (.block 1 (.seq (.reg [⟨some 11, .iadr 1 (.t 7) (.t 9), none⟩,
     ⟨some 12, .load (none) (.t 11), none⟩,
     ⟨some 5, .mv (.t 12), none⟩] [3, 5, 7, 8, 9])
   (.seq (.seq (.reg [⟨some 13, .mv (.t 5), none⟩,
     ⟨some 14, .call 175 [.t 13], none⟩,
     ⟨some 15, .un .not (.t 14), none⟩,
     ⟨some 16, .mv (.t 15), none⟩,
     ⟨some 17, .mv (.t 3), some (16, false)⟩,
     ⟨some 18, .mv (.t 5), some (16, false)⟩,
     ⟨some 19, .look false [2] (.v (Value.bool false)) false (.t 17) (.t 18), some (16, false)⟩,
     ⟨some 20, .pick (.t 16) (.c (Value.bool true)) (.t 19), none⟩] [3, 5, 7, 8, 9, 20])
   (.cond (.t 20) (.seq (.reg [⟨some 2, .mv (.c (Value.bool false)), none⟩] [2])
    (.ret))
    (.skip)))
   (.reg [⟨some 21, .mv (.t 3), none⟩,
     ⟨some 22, .mv (.t 5), none⟩,
     ⟨none, .mput false [2] (.t 21) (.t 22) (.c (Value.bool true)), none⟩] [3, 7, 8, 9]))))
  (.reg [⟨some 23, .bin .add (.t 9) (.c (Value.int IntKind.i64 1)), none⟩,
    ⟨some 9, .mv (.t 23), none⟩] [3, 7, 8, 9])))

def m_types_named : MF := ⟨24, [.tmp 2], true, (
  .seq (.reg [⟨some 2, .mv (.c (Value.bool false)), none⟩] [0])
  (.seq (.reg [⟨some 6, .mkmap, none⟩,
    ⟨some 3, .mv (.t 6), none⟩] [0, 3])
  (.seq (.seq (.reg [⟨some 7, .mv (.t 0), none⟩,
    ⟨some 8, .len 1 (.t 7), none⟩,
    ⟨some 9, .mv (.c (Value.int IntKind.i64 0)), none⟩] [3, 7, 8, 9])
  (.block 0 (.loop [3, 7, 8, 9] m_types_named_L0)))
  (.seq (.reg [⟨some 2, .mv (.c (Value.bool true)), none⟩] [2])
  (.ret)))))⟩

-- 177 selfstab/types.formed
def m_types_formed_L0 : MC :=
  .seq (.reg [⟨some 30, .bin .lss (.t 29) (.t 28), none⟩] [1, 5, 27, 28, 29, 30])
  (.seq (.cond (.t 30) (.skip)
   (.exit 0))
  (.seq (.block 1 (.seq (.reg [⟨some 31, .iadr 2 (.t 27) (.t 29), none⟩,
     ⟨some 32, .load (some 2) (.t 31), none⟩,
     ⟨some 7, .alloc [.v (Value.int .i64 0), .v (Value.slice none 0 0)], none⟩,
     ⟨none, .store 2 (.t 7) (.t 32), none⟩] [1, 5, 7, 27, 28, 29])
   (.seq (.seq (.reg [⟨some 33, .fadr 0 (.t 7), none⟩,
     ⟨some 34, .load (none) (.t 33), none⟩,
     ⟨some 35, .mv (.t 1), none⟩,
     ⟨some 36, .bin .sub (.t 35) (.c (Value.int IntKind.i64 1)), none⟩,
     ⟨some 37, .call 205 [.t 34, .c (Value.int IntKind.i64 0), .t 36], none⟩,
     ⟨some 38, .un .not (.t 37), none⟩,
     ⟨some 39, .mv (.t 38), none⟩,
     ⟨some 40, .mv (.t 5), some (39, false)⟩,
     ⟨some 41, .fadr 0 (.t 7), some (39, false)⟩,
     ⟨some 42, .load (none) (.t 41), some (39, false)⟩,
     ⟨some 43, .look false [0] (.v (Value.bool false)) false (.t 40) (.t 42), some (39, false)⟩,
     ⟨some 44, .pick (.t 39) (.c (Value.bool true)) (.t 43), none⟩,
     ⟨some 45, .mv (.t 44), none⟩,
     ⟨some 46, .fadr 1 (.t 7), some (45, false)⟩,
     ⟨some 47, .load (none) (.t 46), some (45, false)⟩,
     ⟨some 48, .mv (.t 1), some (45, false)⟩,
     ⟨some 49, .call 210 [.t 47, .t 48], some (45, false)⟩,
     ⟨some 50, .un .not (.t 49), some (45, false)⟩,
     ⟨some 51, .pick (.t 45) (.c (Value.bool true)) (.t 50), none⟩] [1, 5, 7, 27, 28, 29, 51])
   (.cond (.t 51) (.seq (.reg [⟨some 4, .mv (.c (Value.bool false)), none⟩] [4])
    (.ret))
    (.skip)))
   (.reg [⟨some 52, .mv (.t 5), none⟩,
     ⟨some 53, .fadr 0 (.t 7), none⟩,
     ⟨some 54, .load (none) (.t 53), none⟩,
     ⟨none, .mput false [0] (.t 52) (.t 54) (.c (Value.bool true)), none⟩] [1, 5, 27, 28, 29]))))
  (.reg [⟨some 55, .bin .add (.t 29) (.c (Value.int IntKind.i64 1)), none⟩,
    ⟨some 29, .mv (.t 55), none⟩] [1, 5, 27, 28, 29])))

def m_types_formed : MF := ⟨56, [.tmp 4], true, (
  .seq (.reg [⟨some 2, .box 3 (.t 0), none⟩,
    ⟨some 4, .mv (.c (Value.bool false)), none⟩] [1, 2])
  (.seq (.seq (.reg [⟨some 8, .fadr 2 (.t 2), none⟩,
    ⟨some 9, .load (none) (.t 8), none⟩,
    ⟨some 10, .len 1 (.t 9), none⟩,
    ⟨some 11, .bin .eql (.t 10) (.c (Value.int IntKind.i64 0)), none⟩,
    ⟨some 12, .mv (.t 11), none⟩,
    ⟨some 13, .fadr 2 (.t 2), some (12, false)⟩,
    ⟨some 14, .load (none) (.t 13), some (12, false)⟩,
    ⟨some 15, .len 1 (.t 14), some (12, false)⟩,
    ⟨some 16, .bin .gtr (.t 15) (.c (Value.int IntKind.i64 6)), some (12, false)⟩,
    ⟨some 17, .pick (.t 12) (.c (Value.bool true)) (.t 16), none⟩,
    ⟨some 18, .mv (.t 17), none⟩,
    ⟨some 19, .fadr 1 (.t 2), some (18, false)⟩,
    ⟨some 20, .load (none) (.t 19), some (18, false)⟩,
    ⟨some 21, .mv (.t 1), some (18, false)⟩,
    ⟨some 22, .call 210 [.t 20, .t 21], some (18, false)⟩,
    ⟨some 23, .un .not (.t 22), some (18, false)⟩,
    ⟨some 24, .pick (.t 18) (.c (Value.bool true)) (.t 23), none⟩] [1, 2, 24])
  (.cond (.t 24) (.seq (.reg [⟨some 4, .mv (.c (Value.bool false)), none⟩] [4])
   (.ret))
   (.skip)))
  (.seq (.reg [⟨some 25, .mkmap, none⟩,
    ⟨some 5, .mv (.t 25), none⟩] [1, 2, 5])
  (.seq (.seq (.reg [⟨some 26, .fadr 2 (.t 2), none⟩,
    ⟨some 27, .load (none) (.t 26), none⟩,
    ⟨some 28, .len 1 (.t 27), none⟩,
    ⟨some 29, .mv (.c (Value.int IntKind.i64 0)), none⟩] [1, 5, 27, 28, 29])
  (.block 0 (.loop [1, 5, 27, 28, 29] m_types_formed_L0)))
  (.seq (.reg [⟨some 4, .mv (.c (Value.bool true)), none⟩] [4])
  (.ret))))))⟩

-- 178 selfstab/types.typed
def m_types_typed_L0 : MC :=
  .seq (.reg [⟨some 16, .bin .lss (.t 15) (.t 14), none⟩] [1, 13, 14, 15, 16])
  (.seq (.cond (.t 16) (.skip)
   (.exit 0))
  (.seq (.block 1 (.seq (.reg [⟨some 17, .iadr 2 (.t 13) (.t 15), none⟩,
     ⟨some 18, .load (some 2) (.t 17), none⟩,
     ⟨some 6, .alloc [.v (Value.int .i64 0), .v (Value.slice none 0 0)], none⟩,
     ⟨none, .store 2 (.t 6) (.t 18), none⟩] [1, 6, 13, 14, 15])
   (.seq (.reg [⟨some 19, .fadr 1 (.t 6), none⟩,
     ⟨some 20, .load (none) (.t 19), none⟩,
     ⟨some 21, .mv (.t 1), none⟩,
     ⟨some 22, .call 211 [.t 20, .t 21, .c (Value.bool false)], none⟩,
     ⟨some 23, .mv (.t 1), none⟩,
     ⟨some 24, .fadr 0 (.t 6), none⟩,
     ⟨some 25, .load (none) (.t 24), none⟩,
     ⟨some 26, .iadr 1 (.t 23) (.t 25), none⟩,
     ⟨some 27, .load (none) (.t 26), none⟩,
     ⟨some 28, .bin .neq (.t 22) (.t 27), none⟩] [1, 13, 14, 15, 28])
   (.cond (.t 28) (.seq (.reg [⟨some 4, .mv (.c (Value.bool false)), none⟩] [4])
    (.ret))
    (.skip)))))
  (.reg [⟨some 29, .bin .add (.t 15) (.c (Value.int IntKind.i64 1)), none⟩,
    ⟨some 15, .mv (.t 29), none⟩] [1, 13, 14, 15])))

def m_types_typed : MF := ⟨30, [.tmp 4], true, (
  .seq (.reg [⟨some 2, .box 3 (.t 0), none⟩,
    ⟨some 4, .mv (.c (Value.bool false)), none⟩] [1, 2])
  (.seq (.seq (.reg [⟨some 7, .fadr 1 (.t 2), none⟩,
    ⟨some 8, .load (none) (.t 7), none⟩,
    ⟨some 9, .mv (.t 1), none⟩,
    ⟨some 10, .call 211 [.t 8, .t 9, .c (Value.bool false)], none⟩,
    ⟨some 11, .bin .neq (.t 10) (.c (Value.int IntKind.i64 2)), none⟩] [1, 2, 11])
  (.cond (.t 11) (.seq (.reg [⟨some 4, .mv (.c (Value.bool false)), none⟩] [4])
   (.ret))
   (.skip)))
  (.seq (.seq (.reg [⟨some 12, .fadr 2 (.t 2), none⟩,
    ⟨some 13, .load (none) (.t 12), none⟩,
    ⟨some 14, .len 1 (.t 13), none⟩,
    ⟨some 15, .mv (.c (Value.int IntKind.i64 0)), none⟩] [1, 13, 14, 15])
  (.block 0 (.loop [1, 13, 14, 15] m_types_typed_L0)))
  (.seq (.reg [⟨some 4, .mv (.c (Value.bool true)), none⟩] [4])
  (.ret)))))⟩

-- 56 (selfstab/selfstabworld.Net).nodes
def m_selfstabworld_Net_nodes_L1 : MC :=
  .seq (.seq (.reg [⟨some 29, .mv (.t 9), none⟩,
    ⟨some 30, .mv (.t 7), none⟩,
    ⟨some 31, .bin .lss (.t 29) (.t 30), none⟩] [2, 4, 5, 6, 7, 8, 9, 31])
  (.cond (.t 31) (.skip)
   (.exit 2)))
  (.seq (.block 3 (.seq (.reg [⟨some 34, .fadr 0 (.t 6), none⟩,
     ⟨some 35, .load (none) (.t 34), none⟩,
     ⟨some 36, .mv (.t 9), none⟩,
     ⟨some 37, .iadr 1 (.t 35) (.t 36), none⟩,
     ⟨some 38, .load (none) (.t 37), none⟩,
     ⟨some 39, .mv (.t 8), none⟩,
     ⟨some 40, .bin .eql (.t 38) (.t 39), none⟩] [2, 4, 5, 6, 7, 8, 9, 40])
   (.cond (.t 40) (.reg [⟨some 41, .mv (.t 8), none⟩,
      ⟨some 42, .bin .add (.t 41) (.c (Value.int IntKind.i64 1)), none⟩,
      ⟨some 43, .bin .rem (.t 42) (.c (Value.int IntKind.i64 256)), none⟩,
      ⟨some 8, .mv (.t 43), none⟩,
      ⟨some 9, .mv (.c (Value.int IntKind.i64 (-1))), none⟩] [2, 4, 5, 6, 7, 8, 9])
    (.skip))))
  (.reg [⟨some 32, .mv (.t 9), none⟩,
    ⟨some 33, .bin .add (.t 32) (.c (Value.int IntKind.i64 1)), none⟩,
    ⟨some 9, .mv (.t 33), none⟩] [2, 4, 5, 6, 7, 8, 9]))

def m_selfstabworld_Net_nodes_L0 : MC :=
  .seq (.seq (.reg [⟨some 19, .mv (.t 7), none⟩,
    ⟨some 20, .mv (.t 5), none⟩,
    ⟨some 21, .bin .lss (.t 19) (.t 20), none⟩] [2, 4, 5, 6, 7, 21])
  (.cond (.t 21) (.skip)
   (.exit 0)))
  (.seq (.block 1 (.seq (.reg [⟨some 24, .fadr 3 (.t 2), none⟩,
     ⟨some 25, .load (none) (.t 24), none⟩,
     ⟨some 26, .mv (.t 7), none⟩,
     ⟨some 27, .call 57 [.t 25, .t 26], none⟩,
     ⟨some 28, .call 58 [.t 27, .c (Value.int IntKind.i64 256)], none⟩,
     ⟨some 8, .mv (.t 28), none⟩] [2, 4, 5, 6, 7, 8])
   (.seq (.seq (.reg [⟨some 9, .mv (.c (Value.int IntKind.i64 0)), none⟩] [2, 4, 5, 6, 7, 8, 9])
   (.block 2 (.loop [2, 4, 5, 6, 7, 8, 9] m_selfstabworld_Net_nodes_L1)))
   (.reg [⟨some 44, .fadr 0 (.t 6), none⟩,
     ⟨some 45, .load (none) (.t 44), none⟩,
     ⟨some 46, .mv (.t 8), none⟩,
     ⟨some 47, .lit 1 [.v (Value.int .i64 0)] [(0, 1, (.t 46))] false, none⟩,
     ⟨some 48, .app 1 8 (.t 45) (.t 47), none⟩,
     ⟨some 49, .fadr 0 (.t 6), none⟩,
     ⟨none, .store 1 (.t 49) (.t 48), none⟩] [2, 4, 5, 6, 7]))))
  (.reg [⟨some 22, .mv (.t 7), none⟩,
    ⟨some 23, .bin .add (.t 22) (.c (Value.int IntKind.i64 1)), none⟩,
    ⟨some 7, .mv (.t 23), none⟩] [2, 4, 5, 6, 7]))

def m_selfstabworld_Net_nodes : MF := ⟨51, [.cell 4 (some 2)], false, (
  .seq (.reg [⟨some 2, .box 6 (.t 0), none⟩,
    ⟨some 4, .new [.v (Value.slice none 0 0), .v (Value.slice none 0 0)], none⟩] [1, 2, 4])
  (.seq (.reg [⟨some 10, .fadr 0 (.t 2), none⟩,
    ⟨some 11, .load (none) (.t 10), none⟩,
    ⟨some 12, .bin .sub (.t 11) (.c (Value.int IntKind.i64 1)), none⟩,
    ⟨some 13, .mv (.t 1), none⟩,
    ⟨some 14, .call 58 [.t 12, .t 13], none⟩,
    ⟨some 15, .bin .add (.c (Value.int IntKind.i64 1)) (.t 14), none⟩,
    ⟨some 5, .mv (.t 15), none⟩] [2, 4, 5])
  (.seq (.reg [⟨some 16, .mv (.t 5), none⟩,
    ⟨some 17, .mks 1 24 [.v (Value.slice none 0 0)] (.t 16) (.t 16), none⟩,
    ⟨some 18, .build [.v (Value.slice none 0 0), .v (Value.slice none 0 0)] [(1, 1, (.t 17))], none⟩,
    ⟨some 6, .new [.v (Value.slice none 0 0), .v (Value.slice none 0 0)], none⟩,
    ⟨none, .store 2 (.t 6) (.t 18), none⟩] [2, 4, 5, 6])
  (.seq (.seq (.reg [⟨some 7, .mv (.c (Value.int IntKind.i64 0)), none⟩] [2, 4, 5, 6, 7])
  (.block 0 (.loop [2, 4, 5, 6, 7] m_selfstabworld_Net_nodes_L0)))
  (.seq (.reg [⟨some 50, .load (some 2) (.t 6), none⟩,
    ⟨none, .store 2 (.t 4) (.t 50), none⟩] [4])
  (.ret))))))⟩

-- 59 (selfstab/selfstabworld.Net).link
def m_selfstabworld_Net_link : MF := ⟨77, [], false, (
  .seq (.reg [⟨some 5, .box 6 (.t 0), none⟩,
    ⟨some 6, .box 2 (.t 1), none⟩] [2, 3, 4, 5, 6])
  (.seq (.seq (.reg [⟨some 12, .mv (.t 2), none⟩,
    ⟨some 13, .mv (.t 3), none⟩,
    ⟨some 14, .bin .eql (.t 12) (.t 13), none⟩,
    ⟨some 15, .mv (.t 14), none⟩,
    ⟨some 16, .load (some 2) (.t 6), some (15, false)⟩,
    ⟨some 17, .mv (.t 2), some (15, false)⟩,
    ⟨some 18, .mv (.t 3), some (15, false)⟩,
    ⟨some 19, .call 82 [.t 16, .t 17, .t 18], some (15, false)⟩,
    ⟨some 20, .pick (.t 15) (.c (Value.bool true)) (.t 19), none⟩] [2, 3, 4, 5, 6, 20])
  (.cond (.t 20) (.ret)
   (.skip)))
  (.seq (.reg [⟨some 21, .mv (.t 3), none⟩,
    ⟨some 22, .mv (.t 4), none⟩,
    ⟨some 23, .build [.v (Value.int .i64 0), .v (Value.int .i64 0)] [(0, 1, (.t 21)), (1, 1, (.t 22))], none⟩,
    ⟨some 24, .mv (.t 2), none⟩,
    ⟨some 25, .mv (.t 4), none⟩,
    ⟨some 26, .build [.v (Value.int .i64 0), .v (Value.int .i64 0)] [(0, 1, (.t 24)), (1, 1, (.t 25))], none⟩,
    ⟨some 10, .alloc [.v (Value.int .i64 0), .v (Value.int .i64 0)], none⟩,
    ⟨some 11, .alloc [.v (Value.int .i64 0), .v (Value.int .i64 0)], none⟩,
    ⟨none, .store 2 (.t 10) (.t 23), none⟩,
    ⟨none, .store 2 (.t 11) (.t 26), none⟩] [2, 3, 5, 6, 10, 11])
  (.seq (.seq (.reg [⟨some 27, .fadr 5 (.t 5), none⟩,
    ⟨some 28, .load (none) (.t 27), none⟩] [2, 3, 6, 10, 11, 28])
  (.cond (.t 28) (.seq (.regd [0, 1, 0, 0, 8, 0, 32, 0, 224, 480, 1016, 2047, 4095] [⟨some 29, .fadr 1 (.t 6), none⟩,
     ⟨some 30, .load (none) (.t 29), none⟩,
     ⟨some 31, .mv (.t 2), none⟩,
     ⟨some 32, .load (some 2) (.t 10), none⟩,
     ⟨some 33, .lit 2 [.v (Value.int .i64 0), .v (Value.int .i64 0)] [(0, 2, (.t 32))] true, none⟩,
     ⟨some 34, .fadr 1 (.t 6), none⟩,
     ⟨some 35, .load (none) (.t 34), none⟩,
     ⟨some 36, .mv (.t 2), none⟩,
     ⟨some 37, .iadr 1 (.t 35) (.t 36), none⟩,
     ⟨some 38, .load (none) (.t 37), none⟩,
     ⟨some 39, .app 2 16 (.t 33) (.t 38), none⟩,
     ⟨some 40, .iadr 1 (.t 30) (.t 31), none⟩,
     ⟨none, .store 1 (.t 40) (.t 39), none⟩] [3, 6, 11])
   (.seq (.regd [0, 1, 0, 0, 8, 0, 32, 0, 224, 480, 1016, 2047, 4095] [⟨some 41, .fadr 1 (.t 6), none⟩,
     ⟨some 42, .load (none) (.t 41), none⟩,
     ⟨some 43, .mv (.t 3), none⟩,
     ⟨some 44, .load (some 2) (.t 11), none⟩,
     ⟨some 45, .lit 2 [.v (Value.int .i64 0), .v (Value.int .i64 0)] [(0, 2, (.t 44))] true, none⟩,
     ⟨some 46, .fadr 1 (.t 6), none⟩,
     ⟨some 47, .load (none) (.t 46), none⟩,
     ⟨some 48, .mv (.t 3), none⟩,
     ⟨some 49, .iadr 1 (.t 47) (.t 48), none⟩,
     ⟨some 50, .load (none) (.t 49), none⟩,
     ⟨some 51, .app 2 16 (.t 45) (.t 50), none⟩,
     ⟨some 52, .iadr 1 (.t 42) (.t 43), none⟩,
     ⟨none, .store 1 (.t 52) (.t 51), none⟩] [])
   (.ret)))
   (.skip)))
  (.regd [0, 1, 0, 0, 8, 0, 0, 64, 0, 448, 960, 0, 2048, 8128, 0, 16384, 0, 114688, 245760, 0, 524288, 2097088, 4194247, 8388551, 16777215, 33554431] [⟨some 53, .fadr 1 (.t 6), none⟩,
    ⟨some 54, .load (none) (.t 53), none⟩,
    ⟨some 55, .mv (.t 2), none⟩,
    ⟨some 56, .fadr 1 (.t 6), none⟩,
    ⟨some 57, .load (none) (.t 56), none⟩,
    ⟨some 58, .mv (.t 3), none⟩,
    ⟨some 59, .fadr 1 (.t 6), none⟩,
    ⟨some 60, .load (none) (.t 59), none⟩,
    ⟨some 61, .mv (.t 2), none⟩,
    ⟨some 62, .iadr 1 (.t 60) (.t 61), none⟩,
    ⟨some 63, .load (none) (.t 62), none⟩,
    ⟨some 64, .load (some 2) (.t 10), none⟩,
    ⟨some 65, .lit 2 [.v (Value.int .i64 0), .v (Value.int .i64 0)] [(0, 2, (.t 64))] false, none⟩,
    ⟨some 66, .app 2 16 (.t 63) (.t 65), none⟩,
    ⟨some 67, .fadr 1 (.t 6), none⟩,
    ⟨some 68, .load (none) (.t 67), none⟩,
    ⟨some 69, .mv (.t 3), none⟩,
    ⟨some 70, .iadr 1 (.t 68) (.t 69), none⟩,
    ⟨some 71, .load (none) (.t 70), none⟩,
    ⟨some 72, .load (some 2) (.t 11), none⟩,
    ⟨some 73, .lit 2 [.v (Value.int .i64 0), .v (Value.int .i64 0)] [(0, 2, (.t 72))] false, none⟩,
    ⟨some 74, .app 2 16 (.t 71) (.t 73), none⟩,
    ⟨some 75, .iadr 1 (.t 54) (.t 55), none⟩,
    ⟨none, .store 1 (.t 75) (.t 66), none⟩,
    ⟨some 76, .iadr 1 (.t 57) (.t 58), none⟩,
    ⟨none, .store 1 (.t 76) (.t 74), none⟩] [])))))⟩

-- 57 selfstab/selfstabworld.at
def m_selfstabworld_at : MF := ⟨13, [.tmp 4], true, (
  .seq (.reg [⟨some 4, .mv (.c (Value.int IntKind.i64 0)), none⟩] [0, 1])
  (.seq (.seq (.reg [⟨some 5, .mv (.t 1), none⟩,
    ⟨some 6, .mv (.t 0), none⟩,
    ⟨some 7, .len 1 (.t 6), none⟩,
    ⟨some 8, .bin .lss (.t 5) (.t 7), none⟩] [0, 1, 8])
  (.cond (.t 8) (.seq (.reg [⟨some 9, .mv (.t 0), none⟩,
     ⟨some 10, .mv (.t 1), none⟩,
     ⟨some 11, .iadr 1 (.t 9) (.t 10), none⟩,
     ⟨some 12, .load (none) (.t 11), none⟩,
     ⟨some 4, .mv (.t 12), none⟩] [4])
   (.ret))
   (.skip)))
  (.seq (.reg [⟨some 4, .mv (.c (Value.int IntKind.i64 0)), none⟩] [4])
  (.ret))))⟩

-- 34 selfstab/cluster.configuration
def m_cluster_configuration : MF := ⟨13, [.tmp 4], true, (
  .seq (.reg [⟨some 2, .box 2 (.t 0), none⟩,
    ⟨some 4, .mv (.c (Value.bool false)), none⟩] [1, 2])
  (.seq (.reg [⟨some 5, .load (some 2) (.t 2), none⟩,
    ⟨some 6, .call 3 [.t 5], none⟩,
    ⟨some 7, .mv (.t 6), none⟩,
    ⟨some 8, .load (some 2) (.t 2), some (7, true)⟩,
    ⟨some 9, .mv (.t 1), some (7, true)⟩,
    ⟨some 10, .lit 1 [.v (Value.int .i64 0), .v (Value.int .i64 0)] [(0, 1, (.c (Value.int IntKind.i64 1))), (1, 1, (.c (Value.int IntKind.i64 (-1))))] false, some (7, true)⟩,
    ⟨some 11, .call 62 [.t 8, .t 9, .t 10], some (7, true)⟩,
    ⟨some 12, .pick (.t 7) (.t 11) (.c (Value.bool false)), none⟩,
    ⟨some 4, .mv (.t 12), none⟩] [4])
  (.ret)))⟩

-- 36 slices.IndexFunc[[]selfstab/api.Link,selfstab/api.Link]
def m_slices_IndexFunc_api_Link_api_Link_L0 : MC :=
  .seq (.reg [⟨some 9, .bin .lss (.t 8) (.t 7), none⟩] [0, 1, 7, 8, 9])
  (.seq (.cond (.t 9) (.skip)
   (.exit 0))
  (.seq (.block 1 (.seq (.reg [⟨some 10, .mv (.t 8), none⟩,
     ⟨some 5, .mv (.t 10), none⟩] [0, 1, 5, 7, 8])
   (.seq (.reg [⟨some 11, .mv (.t 1), none⟩,
     ⟨some 12, .mv (.t 0), none⟩,
     ⟨some 13, .mv (.t 5), none⟩,
     ⟨some 14, .iadr 2 (.t 12) (.t 13), none⟩,
     ⟨some 15, .load (some 2) (.t 14), none⟩,
     ⟨some 16, .callv (.t 11) [.t 15], none⟩] [0, 1, 5, 7, 8, 16])
   (.cond (.t 16) (.seq (.reg [⟨some 17, .mv (.t 5), none⟩,
      ⟨some 4, .mv (.t 17), none⟩] [4])
    (.ret))
    (.skip)))))
  (.reg [⟨some 18, .bin .add (.t 8) (.c (Value.int IntKind.i64 1)), none⟩,
    ⟨some 8, .mv (.t 18), none⟩] [0, 1, 7, 8])))

def m_slices_IndexFunc_api_Link_api_Link : MF := ⟨19, [.tmp 4], true, (
  .seq (.reg [⟨some 4, .mv (.c (Value.int IntKind.i64 0)), none⟩] [0, 1])
  (.seq (.seq (.reg [⟨some 6, .mv (.t 0), none⟩,
    ⟨some 7, .len 1 (.t 6), none⟩,
    ⟨some 8, .mv (.c (Value.int IntKind.i64 0)), none⟩] [0, 1, 7, 8])
  (.block 0 (.loop [0, 1, 7, 8] m_slices_IndexFunc_api_Link_api_Link_L0)))
  (.seq (.reg [⟨some 4, .mv (.c (Value.int IntKind.i64 (-1))), none⟩] [4])
  (.ret))))⟩

-- 35 selfstab/cluster.Legit$1
def m_cluster_Legit_1 : MF := ⟨12, [.tmp 3], true, (
  .seq (.reg [⟨some 2, .box 2 (.t 0), none⟩,
    ⟨some 3, .mv (.c (Value.bool false)), none⟩] [1, 2])
  (.seq (.reg [⟨some 4, .load (none) (.t 1), none⟩,
    ⟨some 5, .fadr 0 (.t 2), none⟩,
    ⟨some 6, .load (none) (.t 5), none⟩,
    ⟨some 7, .iadr 1 (.t 4) (.t 6), none⟩,
    ⟨some 8, .load (none) (.t 7), none⟩,
    ⟨some 9, .iadr 1 (.t 8) (.c (Value.int IntKind.i64 0)), none⟩,
    ⟨some 10, .load (none) (.t 9), none⟩,
    ⟨some 11, .bin .eql (.t 10) (.c (Value.int IntKind.i64 1)), none⟩,
    ⟨some 3, .mv (.t 11), none⟩] [3])
  (.ret)))⟩

-- 62 selfstab/shape.Holds
def m_shape_Holds_L1 : MC :=
  .seq (.reg [⟨some 34, .bin .lss (.t 33) (.t 32), none⟩] [2, 3, 7, 19, 20, 21, 31, 32, 33, 34])
  (.seq (.cond (.t 34) (.skip)
   (.exit 2))
  (.seq (.block 3 (.seq (.reg [⟨some 35, .mv (.t 33), none⟩,
     ⟨some 36, .iadr 1 (.t 31) (.t 33), none⟩,
     ⟨some 37, .load (none) (.t 36), none⟩,
     ⟨some 9, .mv (.t 35), none⟩,
     ⟨some 10, .mv (.t 37), none⟩] [2, 3, 7, 9, 10, 19, 20, 21, 31, 32, 33])
   (.seq (.reg [⟨some 38, .mv (.t 2), none⟩,
     ⟨some 39, .mv (.t 9), none⟩,
     ⟨some 40, .iadr 1 (.t 38) (.t 39), none⟩,
     ⟨some 41, .load (none) (.t 40), none⟩,
     ⟨some 11, .mv (.c (Value.int IntKind.i64 0)), none⟩,
     ⟨some 12, .mv (.t 41), none⟩] [2, 3, 7, 10, 11, 12, 19, 20, 21, 31, 32, 33])
   (.seq (.seq (.reg [⟨some 42, .mv (.t 12), none⟩,
     ⟨some 43, .bin .eql (.t 42) (.c (Value.int IntKind.i64 (-1))), none⟩] [2, 3, 7, 10, 11, 12, 19, 20, 21, 31, 32, 33, 43])
   (.cond (.t 43) (.reg [⟨some 44, .fadr 1 (.t 3), none⟩,
      ⟨some 45, .load (none) (.t 44), none⟩,
      ⟨some 46, .mv (.t 7), none⟩,
      ⟨some 47, .iadr 1 (.t 45) (.t 46), none⟩,
      ⟨some 48, .load (none) (.t 47), none⟩,
      ⟨some 49, .len 1 (.t 48), none⟩,
      ⟨some 50, .bin .sub (.t 49) (.c (Value.int IntKind.i64 1)), none⟩,
      ⟨some 11, .mv (.c (Value.int IntKind.i64 (-1))), none⟩,
      ⟨some 12, .mv (.t 50), none⟩] [2, 3, 7, 10, 11, 12, 19, 20, 21, 31, 32, 33])
    (.skip)))
   (.seq (.reg [⟨some 51, .mv (.t 10), none⟩,
     ⟨some 52, .mv (.t 11), none⟩,
     ⟨some 53, .bin .lss (.t 51) (.t 52), none⟩,
     ⟨some 54, .mv (.t 53), none⟩,
     ⟨some 55, .mv (.t 10), some (54, false)⟩,
     ⟨some 56, .mv (.t 12), some (54, false)⟩,
     ⟨some 57, .bin .gtr (.t 55) (.t 56), some (54, false)⟩,
     ⟨some 58, .pick (.t 54) (.c (Value.bool true)) (.t 57), none⟩] [2, 3, 7, 19, 20, 21, 31, 32, 33, 58])
   (.cond (.t 58) (.seq (.reg [⟨some 6, .mv (.c (Value.bool false)), none⟩] [6])
    (.ret))
    (.skip)))))))
  (.reg [⟨some 59, .bin .add (.t 33) (.c (Value.int IntKind.i64 1)), none⟩,
    ⟨some 33, .mv (.t 59), none⟩] [2, 3, 7, 19, 20, 21, 31, 32, 33])))

def m_shape_Holds_L0 : MC :=
  .seq (.reg [⟨some 22, .bin .lss (.t 21) (.t 20), none⟩] [2, 3, 19, 20, 21, 22])
  (.seq (.cond (.t 22) (.skip)
   (.exit 0))
  (.seq (.block 1 (.seq (.reg [⟨some 23, .mv (.t 21), none⟩,
     ⟨some 24, .iadr 1 (.t 19) (.t 21), none⟩,
     ⟨some 25, .load (none) (.t 24), none⟩,
     ⟨some 7, .mv (.t 23), none⟩,
     ⟨some 8, .mv (.t 25), none⟩] [2, 3, 7, 8, 19, 20, 21])
   (.seq (.seq (.reg [⟨some 26, .mv (.t 8), none⟩,
     ⟨some 27, .len 1 (.t 26), none⟩,
     ⟨some 28, .mv (.t 2), none⟩,
     ⟨some 29, .len 1 (.t 28), none⟩,
     ⟨some 30, .bin .neq (.t 27) (.t 29), none⟩] [2, 3, 7, 8, 19, 20, 21, 30])
   (.cond (.t 30) (.seq (.reg [⟨some 6, .mv (.c (Value.bool false)), none⟩] [6])
    (.ret))
    (.skip)))
   (.seq (.reg [⟨some 31, .mv (.t 8), none⟩,
     ⟨some 32, .len 1 (.t 31), none⟩,
     ⟨some 33, .mv (.c (Value.int IntKind.i64 0)), none⟩] [2, 3, 7, 19, 20, 21, 31, 32, 33])
   (.block 2 (.loop [2, 3, 7, 19, 20, 21, 31, 32, 33] m_shape_Holds_L1))))))
  (.reg [⟨some 60, .bin .add (.t 21) (.c (Value.int IntKind.i64 1)), none⟩,
    ⟨some 21, .mv (.t 60), none⟩] [2, 3, 19, 20, 21])))

def m_shape_Holds : MF := ⟨61, [.tmp 6], true, (
  .seq (.reg [⟨some 3, .box 2 (.t 0), none⟩,
    ⟨some 6, .mv (.c (Value.bool false)), none⟩] [1, 2, 3])
  (.seq (.seq (.reg [⟨some 13, .mv (.t 1), none⟩,
    ⟨some 14, .len 1 (.t 13), none⟩,
    ⟨some 15, .fadr 1 (.t 3), none⟩,
    ⟨some 16, .load (none) (.t 15), none⟩,
    ⟨some 17, .len 1 (.t 16), none⟩,
    ⟨some 18, .bin .neq (.t 14) (.t 17), none⟩] [1, 2, 3, 18])
  (.cond (.t 18) (.seq (.reg [⟨some 6, .mv (.c (Value.bool false)), none⟩] [6])
   (.ret))
   (.skip)))
  (.seq (.seq (.reg [⟨some 19, .mv (.t 1), none⟩,
    ⟨some 20, .len 1 (.t 19), none⟩,
    ⟨some 21, .mv (.c (Value.int IntKind.i64 0)), none⟩] [2, 3, 19, 20, 21])
  (.block 0 (.loop [2, 3, 19, 20, 21] m_shape_Holds_L0)))
  (.seq (.reg [⟨some 6, .mv (.c (Value.bool true)), none⟩] [6])
  (.ret)))))⟩

-- 193 selfstab/lexer.skip
def m_lexer_skip_L0 : MC :=
  .block 1 (.seq (.reg [⟨some 5, .mv (.t 0), none⟩,
     ⟨some 6, .mv (.t 1), none⟩,
     ⟨some 7, .call 208 [.t 5, .t 6, .f 226], none⟩,
     ⟨some 1, .mv (.t 7), none⟩] [0, 1])
   (.seq (.seq (.reg [⟨some 8, .mv (.t 1), none⟩,
     ⟨some 9, .mv (.t 0), none⟩,
     ⟨some 10, .len 0 (.t 9), none⟩,
     ⟨some 11, .bin .eql (.t 8) (.t 10), none⟩,
     ⟨some 12, .mv (.t 11), none⟩,
     ⟨some 13, .mv (.t 0), some (12, false)⟩,
     ⟨some 14, .mv (.t 1), some (12, false)⟩,
     ⟨some 15, .sidx (.t 13) (.t 14), some (12, false)⟩,
     ⟨some 16, .bin .neq (.t 15) (.c (Value.int IntKind.u8 35)), some (12, false)⟩,
     ⟨some 17, .pick (.t 12) (.c (Value.bool true)) (.t 16), none⟩] [0, 1, 17])
   (.cond (.t 17) (.seq (.reg [⟨some 18, .mv (.t 1), none⟩,
      ⟨some 4, .mv (.t 18), none⟩] [4])
    (.ret))
    (.skip)))
   (.reg [⟨some 19, .mv (.t 0), none⟩,
     ⟨some 20, .mv (.t 1), none⟩,
     ⟨some 21, .call 208 [.t 19, .t 20, .f 227], none⟩,
     ⟨some 1, .mv (.t 21), none⟩] [0, 1])))

def m_lexer_skip : MF := ⟨22, [.tmp 4], true, (
  .seq (.reg [⟨some 4, .mv (.c (Value.int IntKind.i64 0)), none⟩] [0, 1])
  (.block 0 (.loop [0, 1] m_lexer_skip_L0)))⟩

-- 194 selfstab/lexer.next
def m_lexer_next : MF := ⟨89, [.cell 4 (some 4), .tmp 5], true, (
  .seq (.reg [⟨some 4, .new [.v (Value.int .i64 0), .v (Value.int .i64 0), .v (Value.int .i64 0), .v (Value.int .i64 0)], none⟩,
    ⟨some 5, .mv (.c (Value.int IntKind.i64 0)), none⟩] [0, 1, 4])
  (.seq (.reg [⟨some 9, .mv (.t 1), none⟩,
    ⟨some 10, .build [.v (Value.int .i64 0), .v (Value.int .i64 0), .v (Value.int .i64 0), .v (Value.int .i64 0)] [(1, 1, (.t 9))], none⟩,
    ⟨some 6, .new [.v (Value.int .i64 0), .v (Value.int .i64 0), .v (Value.int .i64 0), .v (Value.int .i64 0)], none⟩,
    ⟨none, .store 4 (.t 6) (.t 10), none⟩] [0, 1, 4, 6])
  (.seq (.seq (.reg [⟨some 11, .mv (.t 0), none⟩,
    ⟨some 12, .mv (.t 1), none⟩,
    ⟨some 13, .sidx (.t 11) (.t 12), none⟩,
    ⟨some 7, .mv (.t 13), none⟩] [0, 1, 4, 6, 7])
  (.block 0 (.seq (.reg [⟨some 16, .mv (.t 7), none⟩,
     ⟨some 17, .call 206 [.t 16], none⟩,
     ⟨some 15, .mv (.t 17), none⟩] [0, 1, 4, 6, 7, 15])
   (.cond (.t 15) (.seq (.reg [⟨some 18, .mv (.t 0), none⟩,
      ⟨some 19, .mv (.t 1), none⟩,
      ⟨some 20, .call 208 [.t 18, .t 19, .f 207], none⟩,
      ⟨some 21, .fadr 0 (.t 6), none⟩,
      ⟨none, .store 1 (.t 21) (.c (Value.int IntKind.i64 1)), none⟩,
      ⟨some 22, .fadr 2 (.t 6), none⟩,
      ⟨none, .store 1 (.t 22) (.t 20), none⟩] [1, 4, 6])
    (.seq (.reg [⟨some 23, .fadr 2 (.t 6), none⟩,
      ⟨some 24, .load (none) (.t 23), none⟩,
      ⟨some 25, .mv (.t 1), none⟩,
      ⟨some 26, .bin .sub (.t 24) (.t 25), none⟩,
      ⟨some 27, .bin .gtr (.t 26) (.c (Value.int IntKind.i64 24)), none⟩] [4, 6, 27])
    (.cond (.t 27) (.seq (.reg [⟨some 28, .load (some 4) (.t 6), none⟩,
       ⟨none, .store 4 (.t 4) (.t 28), none⟩,
       ⟨some 5, .mv (.c (Value.int IntKind.i64 5)), none⟩] [4, 5])
     (.ret))
     (.skip))))
    (.seq (.reg [⟨some 30, .mv (.t 7), none⟩,
      ⟨some 31, .call 228 [.t 30], none⟩,
      ⟨some 29, .mv (.t 31), none⟩] [0, 1, 4, 6, 7, 29])
    (.cond (.t 29) (.seq (.reg [⟨some 32, .mv (.t 0), none⟩,
       ⟨some 33, .mv (.t 1), none⟩,
       ⟨some 34, .call 208 [.t 32, .t 33, .f 228], none⟩,
       ⟨some 35, .fadr 0 (.t 6), none⟩,
       ⟨none, .store 1 (.t 35) (.c (Value.int IntKind.i64 2)), none⟩,
       ⟨some 36, .fadr 2 (.t 6), none⟩,
       ⟨none, .store 1 (.t 36) (.t 34), none⟩] [0, 1, 4, 6])
     (.seq (.reg [⟨some 8, .mv (.c (Value.int IntKind.i64 0)), none⟩] [0, 1, 4, 6])
     (.seq (.reg [⟨some 38, .mv (.t 0), none⟩,
       ⟨some 39, .mv (.t 1), none⟩,
       ⟨some 40, .fadr 2 (.t 6), none⟩,
       ⟨some 41, .load (none) (.t 40), none⟩,
       ⟨some 42, .slc 0 (.t 38) (some (.t 39)) (some (.t 41)) none, none⟩,
       ⟨some 43, .call 229 [.t 42], none⟩,
       ⟨some 37, .mv (.t 43), none⟩,
       ⟨some 44, .ext (.t 37) 0, none⟩,
       ⟨some 45, .ext (.t 37) 1, none⟩,
       ⟨some 46, .fadr 3 (.t 6), none⟩,
       ⟨none, .store 1 (.t 46) (.t 44), none⟩,
       ⟨some 8, .mv (.t 45), none⟩] [4, 6, 8])
     (.seq (.reg [⟨some 47, .mv (.t 8), none⟩,
       ⟨some 48, .bin .neq (.t 47) (.c (Value.int IntKind.i64 0)), none⟩] [4, 6, 8, 48])
     (.cond (.t 48) (.seq (.reg [⟨some 49, .load (some 4) (.t 6), none⟩,
        ⟨some 50, .mv (.t 8), none⟩,
        ⟨none, .store 4 (.t 4) (.t 49), none⟩,
        ⟨some 5, .mv (.t 50), none⟩] [4, 5])
      (.ret))
      (.skip))))))
     (.seq (.reg [⟨some 52, .mv (.t 1), none⟩,
       ⟨some 53, .bin .add (.t 52) (.c (Value.int IntKind.i64 2)), none⟩,
       ⟨some 54, .mv (.t 0), none⟩,
       ⟨some 55, .len 0 (.t 54), none⟩,
       ⟨some 56, .bin .leq (.t 53) (.t 55), none⟩,
       ⟨some 57, .mv (.t 56), none⟩,
       ⟨some 58, .mv (.t 0), some (57, true)⟩,
       ⟨some 59, .mv (.t 1), some (57, true)⟩,
       ⟨some 60, .mv (.t 1), some (57, true)⟩,
       ⟨some 61, .bin .add (.t 60) (.c (Value.int IntKind.i64 2)), some (57, true)⟩,
       ⟨some 62, .slc 0 (.t 58) (some (.t 59)) (some (.t 61)) none, some (57, true)⟩,
       ⟨some 63, .call 230 [.t 62, .c (Value.int IntKind.i32 32)], some (57, true)⟩,
       ⟨some 64, .un .not (.t 63), some (57, true)⟩,
       ⟨some 65, .pick (.t 57) (.t 64) (.c (Value.bool false)), none⟩,
       ⟨some 66, .mv (.t 65), none⟩,
       ⟨some 67, .mv (.t 0), some (66, true)⟩,
       ⟨some 68, .mv (.t 1), some (66, true)⟩,
       ⟨some 69, .mv (.t 1), some (66, true)⟩,
       ⟨some 70, .bin .add (.t 69) (.c (Value.int IntKind.i64 2)), some (66, true)⟩,
       ⟨some 71, .slc 0 (.t 67) (some (.t 68)) (some (.t 70)) none, some (66, true)⟩,
       ⟨some 72, .bin .add (.c (Value.string ⟨#[32]⟩)) (.t 71), some (66, true)⟩,
       ⟨some 73, .bin .add (.t 72) (.c (Value.string ⟨#[32]⟩)), some (66, true)⟩,
       ⟨some 74, .call 231 [.c (Value.string ⟨#[32, 46, 46, 32, 45, 62, 32, 58, 61, 32, 38, 38, 32, 124, 124, 32, 61, 61, 32, 33, 61, 32, 60, 61, 32, 62, 61, 32]⟩), .t 73], some (66, true)⟩,
       ⟨some 75, .pick (.t 66) (.t 74) (.c (Value.bool false)), none⟩,
       ⟨some 51, .mv (.t 75), none⟩] [1, 4, 6, 7, 51])
     (.cond (.t 51) (.reg [⟨some 76, .mv (.t 1), none⟩,
        ⟨some 77, .bin .add (.t 76) (.c (Value.int IntKind.i64 2)), none⟩,
        ⟨some 78, .fadr 0 (.t 6), none⟩,
        ⟨none, .store 1 (.t 78) (.c (Value.int IntKind.i64 3)), none⟩,
        ⟨some 79, .fadr 2 (.t 6), none⟩,
        ⟨none, .store 1 (.t 79) (.t 77), none⟩] [4, 6])
      (.seq (.reg [⟨some 81, .mv (.t 7), none⟩,
        ⟨some 82, .call 232 [.c (Value.string ⟨#[59, 58, 44, 40, 41, 46, 63, 60, 62, 43, 45, 42, 47, 37, 33]⟩), .t 81], none⟩,
        ⟨some 83, .bin .geq (.t 82) (.c (Value.int IntKind.i64 0)), none⟩,
        ⟨some 80, .mv (.t 83), none⟩] [1, 4, 6, 80])
      (.cond (.t 80) (.reg [⟨some 84, .mv (.t 1), none⟩,
         ⟨some 85, .bin .add (.t 84) (.c (Value.int IntKind.i64 1)), none⟩,
         ⟨some 86, .fadr 0 (.t 6), none⟩,
         ⟨none, .store 1 (.t 86) (.c (Value.int IntKind.i64 3)), none⟩,
         ⟨some 87, .fadr 2 (.t 6), none⟩,
         ⟨none, .store 1 (.t 87) (.t 85), none⟩] [4, 6])
       (.seq (.reg [⟨some 14, .load (some 4) (.t 6), none⟩,
         ⟨none, .store 4 (.t 4) (.t 14), none⟩,
         ⟨some 5, .mv (.c (Value.int IntKind.i64 4)), none⟩] [4, 5])
       (.ret))))))))))))
  (.seq (.reg [⟨some 88, .load (some 4) (.t 6), none⟩,
    ⟨none, .store 4 (.t 4) (.t 88), none⟩,
    ⟨some 5, .mv (.c (Value.int IntKind.i64 0)), none⟩] [4, 5])
  (.ret)))))⟩

-- 195 (*selfstab/syntax.Reader).Takes
def m_syntax_Reader_Takes : MF := ⟨19, [.tmp 4], false, (
  .seq (.reg [⟨some 4, .mv (.c (Value.string ⟨#[]⟩)), none⟩] [0, 1])
  (.seq (.reg [⟨some 6, .mv (.t 0), none⟩,
    ⟨some 7, .mv (.t 1), none⟩,
    ⟨some 8, .call 198 [.t 6, .t 7], none⟩,
    ⟨some 5, .mv (.t 8), none⟩] [0, 5])
  (.seq (.seq (.reg [⟨some 9, .mv (.t 5), none⟩,
    ⟨some 10, .bin .neq (.t 9) (.c (Value.string ⟨#[]⟩)), none⟩] [0, 5, 10])
  (.cond (.t 10) (.reg [⟨some 11, .mv (.t 0), none⟩,
     ⟨some 12, .nck (.t 11), none⟩,
     ⟨some 13, .fadr 2 (.t 12), none⟩,
     ⟨some 14, .load (none) (.t 13), none⟩,
     ⟨some 15, .bin .add (.t 14) (.c (Value.int IntKind.i64 1)), none⟩,
     ⟨some 16, .nck (.t 11), none⟩,
     ⟨some 17, .fadr 2 (.t 16), none⟩,
     ⟨none, .store 1 (.t 17) (.t 15), none⟩] [5])
   (.skip)))
  (.seq (.reg [⟨some 18, .mv (.t 5), none⟩,
    ⟨some 4, .mv (.t 18), none⟩] [4])
  (.ret)))))⟩

-- 196 (*selfstab/syntax.Reader).ahead
def m_syntax_Reader_ahead : MF := ⟨42, [.tmp 4, .tmp 5], false, (
  .seq (.reg [⟨some 4, .mv (.c (Value.string ⟨#[]⟩)), none⟩,
    ⟨some 5, .mv (.c (Value.int IntKind.i64 0)), none⟩] [0, 1])
  (.seq (.seq (.reg [⟨some 7, .mv (.t 0), none⟩,
    ⟨some 8, .nck (.t 7), none⟩,
    ⟨some 9, .fadr 2 (.t 8), none⟩,
    ⟨some 10, .load (none) (.t 9), none⟩,
    ⟨some 11, .mv (.t 1), none⟩,
    ⟨some 12, .bin .add (.t 10) (.t 11), none⟩,
    ⟨some 13, .mv (.t 0), none⟩,
    ⟨some 14, .nck (.t 13), none⟩,
    ⟨some 15, .fadr 1 (.t 14), none⟩,
    ⟨some 16, .load (none) (.t 15), none⟩,
    ⟨some 17, .len 1 (.t 16), none⟩,
    ⟨some 18, .bin .geq (.t 12) (.t 17), none⟩] [0, 1, 18])
  (.cond (.t 18) (.seq (.reg [⟨some 4, .mv (.c (Value.string ⟨#[]⟩)), none⟩,
     ⟨some 5, .mv (.c (Value.int IntKind.i64 0)), none⟩] [4, 5])
   (.ret))
   (.skip)))
  (.seq (.reg [⟨some 19, .mv (.t 0), none⟩,
    ⟨some 20, .nck (.t 19), none⟩,
    ⟨some 21, .fadr 1 (.t 20), none⟩,
    ⟨some 22, .load (none) (.t 21), none⟩,
    ⟨some 23, .mv (.t 0), none⟩,
    ⟨some 24, .nck (.t 23), none⟩,
    ⟨some 25, .fadr 2 (.t 24), none⟩,
    ⟨some 26, .load (none) (.t 25), none⟩,
    ⟨some 27, .mv (.t 1), none⟩,
    ⟨some 28, .bin .add (.t 26) (.t 27), none⟩,
    ⟨some 29, .iadr 4 (.t 22) (.t 28), none⟩,
    ⟨some 30, .load (some 4) (.t 29), none⟩,
    ⟨some 6, .alloc [.v (Value.int .i64 0), .v (Value.int .i64 0), .v (Value.int .i64 0), .v (Value.int .i64 0)], none⟩,
    ⟨none, .store 4 (.t 6) (.t 30), none⟩] [0, 6])
  (.seq (.reg [⟨some 31, .mv (.t 0), none⟩,
    ⟨some 32, .nck (.t 31), none⟩,
    ⟨some 33, .fadr 0 (.t 32), none⟩,
    ⟨some 34, .load (none) (.t 33), none⟩,
    ⟨some 35, .fadr 1 (.t 6), none⟩,
    ⟨some 36, .load (none) (.t 35), none⟩,
    ⟨some 37, .fadr 2 (.t 6), none⟩,
    ⟨some 38, .load (none) (.t 37), none⟩,
    ⟨some 39, .slc 0 (.t 34) (some (.t 36)) (some (.t 38)) none, none⟩,
    ⟨some 40, .fadr 0 (.t 6), none⟩,
    ⟨some 41, .load (none) (.t 40), none⟩,
    ⟨some 4, .mv (.t 39), none⟩,
    ⟨some 5, .mv (.t 41), none⟩] [4, 5])
  (.ret)))))⟩

-- 197 slices.Contains[[]string,string]
def m_slices_Contains_string_string : MF := ⟨9, [.tmp 4], true, (
  .seq (.reg [⟨some 4, .mv (.c (Value.bool false)), none⟩] [0, 1])
  (.seq (.reg [⟨some 5, .mv (.t 0), none⟩,
    ⟨some 6, .mv (.t 1), none⟩,
    ⟨some 7, .call 233 [.t 5, .t 6], none⟩,
    ⟨some 8, .bin .geq (.t 7) (.c (Value.int IntKind.i64 0)), none⟩,
    ⟨some 4, .mv (.t 8), none⟩] [4])
  (.ret)))⟩

-- 198 (*selfstab/syntax.Reader).Sees
def m_syntax_Reader_Sees : MF := ⟨20, [.tmp 4], false, (
  .seq (.reg [⟨some 4, .mv (.c (Value.string ⟨#[]⟩)), none⟩] [0, 1])
  (.seq (.seq (.reg [⟨some 8, .mv (.t 0), none⟩,
    ⟨some 9, .call 196 [.t 8, .c (Value.int IntKind.i64 0)], none⟩,
    ⟨some 7, .mv (.t 9), none⟩,
    ⟨some 10, .ext (.t 7) 0, none⟩,
    ⟨some 11, .ext (.t 7) 1, none⟩,
    ⟨some 5, .mv (.t 10), none⟩,
    ⟨some 6, .mv (.t 11), none⟩] [1, 5, 6])
  (.seq (.reg [⟨some 12, .mv (.t 6), none⟩,
    ⟨some 13, .bin .neq (.t 12) (.c (Value.int IntKind.i64 2)), none⟩,
    ⟨some 14, .mv (.t 13), none⟩,
    ⟨some 15, .mv (.t 1), some (14, true)⟩,
    ⟨some 16, .mv (.t 5), some (14, true)⟩,
    ⟨some 17, .call 197 [.t 15, .t 16], some (14, true)⟩,
    ⟨some 18, .pick (.t 14) (.t 17) (.c (Value.bool false)), none⟩] [5, 18])
  (.cond (.t 18) (.seq (.reg [⟨some 19, .mv (.t 5), none⟩,
     ⟨some 4, .mv (.t 19), none⟩] [4])
   (.ret))
   (.skip))))
  (.seq (.reg [⟨some 4, .mv (.c (Value.string ⟨#[]⟩)), none⟩] [4])
  (.ret))))⟩

-- 199 (*selfstab/syntax.Reader).Number
def m_syntax_Reader_Number : MF := ⟨48, [.tmp 6], false, (
  .seq (.reg [⟨some 6, .mv (.c (Value.int IntKind.i64 0)), none⟩] [0, 1, 2])
  (.seq (.seq (.reg [⟨some 11, .mv (.t 0), none⟩,
    ⟨some 12, .call 196 [.t 11, .c (Value.int IntKind.i64 0)], none⟩,
    ⟨some 10, .mv (.t 12), none⟩,
    ⟨some 13, .ext (.t 10) 0, none⟩,
    ⟨some 14, .ext (.t 10) 1, none⟩,
    ⟨some 7, .mv (.t 13), none⟩,
    ⟨some 8, .mv (.t 14), none⟩] [0, 1, 2, 8])
  (.seq (.reg [⟨some 15, .mv (.t 8), none⟩,
    ⟨some 16, .bin .neq (.t 15) (.c (Value.int IntKind.i64 2)), none⟩] [0, 1, 2, 16])
  (.cond (.t 16) (.reg [⟨some 17, .mv (.t 0), none⟩,
     ⟨some 18, .call 172 [.t 17, .c (Value.int IntKind.i64 4)], none⟩] [0, 1, 2])
   (.skip))))
  (.seq (.reg [⟨some 19, .mv (.t 0), none⟩,
    ⟨some 20, .nck (.t 19), none⟩,
    ⟨some 21, .fadr 1 (.t 20), none⟩,
    ⟨some 22, .load (none) (.t 21), none⟩,
    ⟨some 23, .mv (.t 0), none⟩,
    ⟨some 24, .nck (.t 23), none⟩,
    ⟨some 25, .fadr 2 (.t 24), none⟩,
    ⟨some 26, .load (none) (.t 25), none⟩,
    ⟨some 27, .iadr 4 (.t 22) (.t 26), none⟩,
    ⟨some 28, .fadr 3 (.t 27), none⟩,
    ⟨some 29, .load (none) (.t 28), none⟩,
    ⟨some 9, .mv (.t 29), none⟩] [0, 1, 2, 9])
  (.seq (.seq (.reg [⟨some 30, .mv (.t 9), none⟩,
    ⟨some 31, .mv (.t 1), none⟩,
    ⟨some 32, .bin .lss (.t 30) (.t 31), none⟩,
    ⟨some 33, .mv (.t 32), none⟩,
    ⟨some 34, .mv (.t 9), some (33, false)⟩,
    ⟨some 35, .mv (.t 2), some (33, false)⟩,
    ⟨some 36, .bin .gtr (.t 34) (.t 35), some (33, false)⟩,
    ⟨some 37, .pick (.t 33) (.c (Value.bool true)) (.t 36), none⟩] [0, 9, 37])
  (.cond (.t 37) (.reg [⟨some 38, .mv (.t 0), none⟩,
     ⟨some 39, .call 172 [.t 38, .c (Value.int IntKind.i64 2)], none⟩] [0, 9])
   (.skip)))
  (.seq (.reg [⟨some 40, .mv (.t 0), none⟩,
    ⟨some 41, .nck (.t 40), none⟩,
    ⟨some 42, .fadr 2 (.t 41), none⟩,
    ⟨some 43, .load (none) (.t 42), none⟩,
    ⟨some 44, .bin .add (.t 43) (.c (Value.int IntKind.i64 1)), none⟩,
    ⟨some 45, .nck (.t 40), none⟩,
    ⟨some 46, .fadr 2 (.t 45), none⟩,
    ⟨none, .store 1 (.t 46) (.t 44), none⟩] [9])
  (.seq (.reg [⟨some 47, .mv (.t 9), none⟩,
    ⟨some 6, .mv (.t 47), none⟩] [6])
  (.ret)))))))⟩

-- 200 (*selfstab/program.reader).bound
def m_program_reader_bound : MF := ⟨84, [], false, (
  .seq (.reg [⟨some 4, .mv (.c (Value.int IntKind.i64 1)), none⟩] [0, 1, 4])
  (.seq (.seq (.reg [⟨some 5, .mv (.t 0), none⟩,
    ⟨some 6, .nck (.t 5), none⟩,
    ⟨some 7, .fadr 0 (.t 6), none⟩,
    ⟨some 8, .load (none) (.t 7), none⟩,
    ⟨some 9, .call 234 [.t 8], none⟩] [0, 1, 4, 9])
  (.cond (.t 9) (.seq (.seq (.reg [⟨some 10, .mv (.t 0), none⟩,
     ⟨some 11, .nck (.t 10), none⟩,
     ⟨some 12, .fadr 0 (.t 11), none⟩,
     ⟨some 13, .load (none) (.t 12), none⟩,
     ⟨some 14, .call 235 [.t 13, .c (Value.string ⟨#[42]⟩)], none⟩,
     ⟨some 15, .un .not (.t 14), none⟩] [0, 1, 15])
   (.cond (.t 15) (.seq (.reg [⟨some 16, .mv (.t 1), none⟩,
      ⟨some 17, .mv (.t 0), none⟩,
      ⟨some 18, .nck (.t 17), none⟩,
      ⟨some 19, .fadr 0 (.t 18), none⟩,
      ⟨some 20, .load (none) (.t 19), none⟩,
      ⟨some 21, .call 199 [.t 20, .c (Value.int IntKind.i64 0), .c (Value.int IntKind.i64 4096)], none⟩,
      ⟨some 22, .nck (.t 16), none⟩,
      ⟨some 23, .fadr 3 (.t 22), none⟩,
      ⟨none, .store 1 (.t 23) (.t 21), none⟩] [])
    (.ret))
    (.skip)))
   (.seq (.reg [⟨some 24, .mv (.t 0), none⟩,
     ⟨some 25, .nck (.t 24), none⟩,
     ⟨some 26, .fadr 0 (.t 25), none⟩,
     ⟨some 27, .load (none) (.t 26), none⟩,
     ⟨some 28, .call 199 [.t 27, .c (Value.int IntKind.i64 1), .c (Value.int IntKind.i64 255)], none⟩,
     ⟨some 4, .mv (.t 28), none⟩] [0, 1, 4])
   (.reg [⟨some 29, .mv (.t 0), none⟩,
     ⟨some 30, .nck (.t 29), none⟩,
     ⟨some 31, .fadr 0 (.t 30), none⟩,
     ⟨some 32, .load (none) (.t 31), none⟩,
     ⟨some 33, .call 166 [.t 32, .c (Value.string ⟨#[42]⟩)], none⟩] [0, 1, 4])))
   (.skip)))
  (.seq (.seq (.reg [⟨some 34, .mv (.t 0), none⟩,
    ⟨some 35, .nck (.t 34), none⟩,
    ⟨some 36, .fadr 0 (.t 35), none⟩,
    ⟨some 37, .load (none) (.t 36), none⟩,
    ⟨some 38, .lit 1 [.v (Value.string ⟨#[]⟩), .v (Value.string ⟨#[]⟩)] [(0, 1, (.c (Value.string ⟨#[110]⟩))), (1, 1, (.c (Value.string ⟨#[105, 100, 115]⟩)))] false, none⟩,
    ⟨some 39, .call 195 [.t 37, .t 38], none⟩] [0, 1, 4, 39])
  (.block 0 (.seq (.reg [⟨some 46, .bin .eql (.t 39) (.c (Value.string ⟨#[110]⟩)), none⟩,
     ⟨some 45, .mv (.t 46), none⟩] [0, 1, 4, 39, 45])
   (.cond (.t 45) (.reg [⟨some 47, .mv (.t 1), none⟩,
      ⟨some 48, .mv (.t 4), none⟩,
      ⟨some 49, .nck (.t 47), none⟩,
      ⟨some 50, .fadr 4 (.t 49), none⟩,
      ⟨none, .store 1 (.t 50) (.t 48), none⟩] [0, 1])
    (.seq (.reg [⟨some 52, .bin .eql (.t 39) (.c (Value.string ⟨#[105, 100, 115]⟩)), none⟩,
      ⟨some 51, .mv (.t 52), none⟩] [0, 1, 4, 51])
    (.cond (.t 51) (.reg [⟨some 53, .mv (.t 1), none⟩,
       ⟨some 54, .mv (.t 4), none⟩,
       ⟨some 55, .nck (.t 53), none⟩,
       ⟨some 56, .fadr 5 (.t 55), none⟩,
       ⟨none, .store 1 (.t 56) (.t 54), none⟩] [0, 1])
     (.reg [⟨some 40, .mv (.t 0), none⟩,
       ⟨some 41, .nck (.t 40), none⟩,
       ⟨some 42, .fadr 0 (.t 41), none⟩,
       ⟨some 43, .load (none) (.t 42), none⟩,
       ⟨some 44, .call 172 [.t 43, .c (Value.int IntKind.i64 4)], none⟩] [0, 1])))))))
  (.seq (.reg [⟨some 57, .mv (.t 0), none⟩,
    ⟨some 58, .nck (.t 57), none⟩,
    ⟨some 59, .fadr 0 (.t 58), none⟩,
    ⟨some 60, .load (none) (.t 59), none⟩,
    ⟨some 61, .lit 1 [.v (Value.string ⟨#[]⟩), .v (Value.string ⟨#[]⟩)] [(0, 1, (.c (Value.string ⟨#[43]⟩))), (1, 1, (.c (Value.string ⟨#[45]⟩)))] false, none⟩,
    ⟨some 62, .call 195 [.t 60, .t 61], none⟩] [0, 1, 62])
  (.block 1 (.seq (.reg [⟨some 64, .bin .eql (.t 62) (.c (Value.string ⟨#[43]⟩)), none⟩,
     ⟨some 63, .mv (.t 64), none⟩] [0, 1, 62, 63])
   (.cond (.t 63) (.reg [⟨some 65, .mv (.t 1), none⟩,
      ⟨some 66, .mv (.t 0), none⟩,
      ⟨some 67, .nck (.t 66), none⟩,
      ⟨some 68, .fadr 0 (.t 67), none⟩,
      ⟨some 69, .load (none) (.t 68), none⟩,
      ⟨some 70, .call 199 [.t 69, .c (Value.int IntKind.i64 0), .c (Value.int IntKind.i64 4096)], none⟩,
      ⟨some 71, .nck (.t 65), none⟩,
      ⟨some 72, .fadr 3 (.t 71), none⟩,
      ⟨none, .store 1 (.t 72) (.t 70), none⟩] [])
    (.seq (.reg [⟨some 74, .bin .eql (.t 62) (.c (Value.string ⟨#[45]⟩)), none⟩,
      ⟨some 73, .mv (.t 74), none⟩] [0, 1, 73])
    (.cond (.t 73) (.reg [⟨some 75, .mv (.t 1), none⟩,
       ⟨some 76, .mv (.t 0), none⟩,
       ⟨some 77, .nck (.t 76), none⟩,
       ⟨some 78, .fadr 0 (.t 77), none⟩,
       ⟨some 79, .load (none) (.t 78), none⟩,
       ⟨some 80, .call 199 [.t 79, .c (Value.int IntKind.i64 0), .c (Value.int IntKind.i64 4096)], none⟩,
       ⟨some 81, .un .neg (.t 80), none⟩,
       ⟨some 82, .nck (.t 75), none⟩,
       ⟨some 83, .fadr 3 (.t 82), none⟩,
       ⟨none, .store 1 (.t 83) (.t 81), none⟩] [])
     (.skip))))))))))⟩

-- 201 (*selfstab/syntax.Reader).Choice
def m_syntax_Reader_Choice : MF := ⟨22, [.tmp 2], false, (
  .seq (.reg [⟨some 2, .mv (.c (Value.slice none 0 0)), none⟩] [0])
  (.seq (.reg [⟨some 5, .mv (.t 0), none⟩,
    ⟨some 6, .call 236 [.t 5, .c (Value.int IntKind.i64 0)], none⟩,
    ⟨some 3, .mv (.t 6), none⟩] [0, 3])
  (.seq (.seq (.reg [⟨some 7, .mv (.t 0), none⟩,
    ⟨some 8, .lit 1 [.v (Value.string ⟨#[]⟩)] [(0, 1, (.c (Value.string ⟨#[63]⟩)))] false, none⟩,
    ⟨some 9, .call 195 [.t 7, .t 8], none⟩,
    ⟨some 10, .bin .eql (.t 9) (.c (Value.string ⟨#[]⟩)), none⟩] [0, 3, 10])
  (.cond (.t 10) (.seq (.reg [⟨some 11, .mv (.t 3), none⟩,
     ⟨some 2, .mv (.t 11), none⟩] [2])
   (.ret))
   (.skip)))
  (.seq (.reg [⟨some 12, .mv (.t 0), none⟩,
    ⟨some 13, .call 201 [.t 12], none⟩,
    ⟨some 4, .mv (.t 13), none⟩] [0, 3, 4])
  (.seq (.reg [⟨some 14, .mv (.t 0), none⟩,
    ⟨some 15, .call 166 [.t 14, .c (Value.string ⟨#[58]⟩)], none⟩] [0, 3, 4])
  (.seq (.reg [⟨some 16, .mv (.t 3), none⟩,
    ⟨some 17, .mv (.t 4), none⟩,
    ⟨some 18, .mv (.t 0), none⟩,
    ⟨some 19, .call 201 [.t 18], none⟩,
    ⟨some 20, .lit 1 [.v (Value.slice none 0 0), .v (Value.slice none 0 0), .v (Value.slice none 0 0)] [(0, 1, (.t 16)), (1, 1, (.t 17)), (2, 1, (.t 19))] true, none⟩,
    ⟨some 21, .call 237 [.c (Value.int IntKind.i64 43), .t 20], none⟩,
    ⟨some 2, .mv (.t 21), none⟩] [2])
  (.ret)))))))⟩

-- 202 (*selfstab/syntax.Reader).Variable
def m_syntax_Reader_Variable : MF := ⟨38, [.tmp 2], false, (
  .seq (.reg [⟨some 2, .mv (.c (Value.int IntKind.i64 0)), none⟩] [0])
  (.seq (.reg [⟨some 7, .mv (.t 0), none⟩,
    ⟨some 8, .call 196 [.t 7, .c (Value.int IntKind.i64 0)], none⟩,
    ⟨some 6, .mv (.t 8), none⟩,
    ⟨some 9, .ext (.t 6) 0, none⟩,
    ⟨some 10, .ext (.t 6) 1, none⟩,
    ⟨some 3, .mv (.t 9), none⟩,
    ⟨some 4, .mv (.t 10), none⟩] [0, 3, 4])
  (.seq (.seq (.reg [⟨some 11, .mv (.t 4), none⟩,
    ⟨some 12, .bin .neq (.t 11) (.c (Value.int IntKind.i64 1)), none⟩,
    ⟨some 13, .mv (.t 12), none⟩,
    ⟨some 14, .mv (.t 3), some (13, false)⟩,
    ⟨some 15, .call 175 [.t 14], some (13, false)⟩,
    ⟨some 16, .un .not (.t 15), some (13, false)⟩,
    ⟨some 17, .pick (.t 13) (.c (Value.bool true)) (.t 16), none⟩] [0, 3, 17])
  (.cond (.t 17) (.reg [⟨some 18, .mv (.t 0), none⟩,
     ⟨some 19, .call 172 [.t 18, .c (Value.int IntKind.i64 4)], none⟩] [0, 3])
   (.skip)))
  (.seq (.reg [⟨some 20, .mv (.t 0), none⟩,
    ⟨some 21, .nck (.t 20), none⟩,
    ⟨some 22, .fadr 3 (.t 21), none⟩,
    ⟨some 23, .load (none) (.t 22), none⟩,
    ⟨some 24, .mv (.t 3), none⟩,
    ⟨some 25, .call 233 [.t 23, .t 24], none⟩,
    ⟨some 5, .mv (.t 25), none⟩] [0, 5])
  (.seq (.seq (.reg [⟨some 26, .mv (.t 5), none⟩,
    ⟨some 27, .bin .lss (.t 26) (.c (Value.int IntKind.i64 0)), none⟩] [0, 5, 27])
  (.cond (.t 27) (.reg [⟨some 28, .mv (.t 0), none⟩,
     ⟨some 29, .call 172 [.t 28, .c (Value.int IntKind.i64 5)], none⟩] [0, 5])
   (.skip)))
  (.seq (.reg [⟨some 30, .mv (.t 0), none⟩,
    ⟨some 31, .nck (.t 30), none⟩,
    ⟨some 32, .fadr 2 (.t 31), none⟩,
    ⟨some 33, .load (none) (.t 32), none⟩,
    ⟨some 34, .bin .add (.t 33) (.c (Value.int IntKind.i64 1)), none⟩,
    ⟨some 35, .nck (.t 30), none⟩,
    ⟨some 36, .fadr 2 (.t 35), none⟩,
    ⟨none, .store 1 (.t 36) (.t 34), none⟩] [5])
  (.seq (.reg [⟨some 37, .mv (.t 5), none⟩,
    ⟨some 2, .mv (.t 37), none⟩] [2])
  (.ret))))))))⟩

-- 203 (*selfstab/syntax.Reader).Place
def m_syntax_Reader_Place : MF := ⟨21, [.tmp 2], false, (
  .seq (.reg [⟨some 2, .mv (.c (Value.int IntKind.i64 0)), none⟩] [0])
  (.seq (.seq (.reg [⟨some 3, .mv (.t 0), none⟩,
    ⟨some 4, .call 171 [.t 3], none⟩] [0, 4])
  (.cond (.t 4) (.seq (.reg [⟨some 5, .mv (.t 0), none⟩,
     ⟨some 6, .nck (.t 5), none⟩,
     ⟨some 7, .fadr 0 (.t 6), none⟩,
     ⟨some 8, .load (none) (.t 7), none⟩,
     ⟨some 9, .len 0 (.t 8), none⟩,
     ⟨some 2, .mv (.t 9), none⟩] [2])
   (.ret))
   (.skip)))
  (.seq (.reg [⟨some 10, .mv (.t 0), none⟩,
    ⟨some 11, .nck (.t 10), none⟩,
    ⟨some 12, .fadr 1 (.t 11), none⟩,
    ⟨some 13, .load (none) (.t 12), none⟩,
    ⟨some 14, .mv (.t 0), none⟩,
    ⟨some 15, .nck (.t 14), none⟩,
    ⟨some 16, .fadr 2 (.t 15), none⟩,
    ⟨some 17, .load (none) (.t 16), none⟩,
    ⟨some 18, .iadr 4 (.t 13) (.t 17), none⟩,
    ⟨some 19, .fadr 1 (.t 18), none⟩,
    ⟨some 20, .load (none) (.t 19), none⟩,
    ⟨some 2, .mv (.t 20), none⟩] [2])
  (.ret))))⟩

-- 204 selfstab/types.kind
def m_types_kind : MF := ⟨13, [.tmp 2], true, (
  .seq (.reg [⟨some 2, .mv (.c (Value.bool false)), none⟩] [0])
  (.seq (.reg [⟨some 3, .mv (.t 0), none⟩,
    ⟨some 4, .bin .eql (.t 3) (.c (Value.int IntKind.i64 1)), none⟩,
    ⟨some 5, .mv (.t 4), none⟩,
    ⟨some 6, .mv (.t 0), some (5, false)⟩,
    ⟨some 7, .bin .eql (.t 6) (.c (Value.int IntKind.i64 2)), some (5, false)⟩,
    ⟨some 8, .pick (.t 5) (.c (Value.bool true)) (.t 7), none⟩,
    ⟨some 9, .mv (.t 8), none⟩,
    ⟨some 10, .mv (.t 0), some (9, false)⟩,
    ⟨some 11, .bin .eql (.t 10) (.c (Value.int IntKind.i64 3)), some (9, false)⟩,
    ⟨some 12, .pick (.t 9) (.c (Value.bool true)) (.t 11), none⟩,
    ⟨some 2, .mv (.t 12), none⟩] [2])
  (.ret)))⟩

-- 205 selfstab/types.within
def m_types_within : MF := ⟨15, [.tmp 6], true, (
  .seq (.reg [⟨some 6, .mv (.c (Value.bool false)), none⟩] [0, 1, 2])
  (.seq (.reg [⟨some 7, .mv (.t 0), none⟩,
    ⟨some 8, .mv (.t 1), none⟩,
    ⟨some 9, .bin .geq (.t 7) (.t 8), none⟩,
    ⟨some 10, .mv (.t 9), none⟩,
    ⟨some 11, .mv (.t 0), some (10, true)⟩,
    ⟨some 12, .mv (.t 2), some (10, true)⟩,
    ⟨some 13, .bin .leq (.t 11) (.t 12), some (10, true)⟩,
    ⟨some 14, .pick (.t 10) (.t 13) (.c (Value.bool false)), none⟩,
    ⟨some 6, .mv (.t 14), none⟩] [6])
  (.ret)))⟩

-- 206 selfstab/lexer.letter
def m_lexer_letter : MF := ⟨17, [.tmp 2], true, (
  .seq (.reg [⟨some 2, .mv (.c (Value.bool false)), none⟩] [0])
  (.seq (.reg [⟨some 3, .mv (.t 0), none⟩,
    ⟨some 4, .bin .geq (.t 3) (.c (Value.int IntKind.u8 97)), none⟩,
    ⟨some 5, .mv (.t 4), none⟩,
    ⟨some 6, .mv (.t 0), some (5, true)⟩,
    ⟨some 7, .bin .leq (.t 6) (.c (Value.int IntKind.u8 122)), some (5, true)⟩,
    ⟨some 8, .pick (.t 5) (.t 7) (.c (Value.bool false)), none⟩,
    ⟨some 9, .mv (.t 8), none⟩,
    ⟨some 10, .mv (.t 0), some (9, false)⟩,
    ⟨some 11, .bin .geq (.t 10) (.c (Value.int IntKind.u8 65)), some (9, false)⟩,
    ⟨some 12, .mv (.t 11), some (9, false)⟩,
    ⟨some 13, .mv (.t 0), some (12, true)⟩,
    ⟨some 14, .bin .leq (.t 13) (.c (Value.int IntKind.u8 90)), some (12, true)⟩,
    ⟨some 15, .pick (.t 12) (.t 14) (.c (Value.bool false)), some (9, false)⟩,
    ⟨some 16, .pick (.t 9) (.c (Value.bool true)) (.t 15), none⟩,
    ⟨some 2, .mv (.t 16), none⟩] [2])
  (.ret)))⟩

-- 208 selfstab/lexer.while
def m_lexer_while_L0 : MC :=
  .seq (.seq (.reg [⟨some 7, .mv (.t 1), none⟩,
    ⟨some 8, .mv (.t 0), none⟩,
    ⟨some 9, .len 0 (.t 8), none⟩,
    ⟨some 10, .bin .lss (.t 7) (.t 9), none⟩,
    ⟨some 11, .mv (.t 10), none⟩,
    ⟨some 12, .mv (.t 2), some (11, true)⟩,
    ⟨some 13, .mv (.t 0), some (11, true)⟩,
    ⟨some 14, .mv (.t 1), some (11, true)⟩,
    ⟨some 15, .sidx (.t 13) (.t 14), some (11, true)⟩,
    ⟨some 16, .callv (.t 12) [.t 15], some (11, true)⟩,
    ⟨some 17, .pick (.t 11) (.t 16) (.c (Value.bool false)), none⟩] [0, 1, 2, 17])
  (.cond (.t 17) (.skip)
   (.exit 0)))
  (.block 1 (.reg [⟨some 18, .mv (.t 1), none⟩,
     ⟨some 19, .bin .add (.t 18) (.c (Value.int IntKind.i64 1)), none⟩,
     ⟨some 1, .mv (.t 19), none⟩] [0, 1, 2]))

def m_lexer_while : MF := ⟨21, [.tmp 6], true, (
  .seq (.reg [⟨some 6, .mv (.c (Value.int IntKind.i64 0)), none⟩] [0, 1, 2])
  (.seq (.block 0 (.loop [0, 1, 2] m_lexer_while_L0))
  (.seq (.reg [⟨some 20, .mv (.t 1), none⟩,
    ⟨some 6, .mv (.t 20), none⟩] [6])
  (.ret))))⟩

-- 207 selfstab/lexer.inside
def m_lexer_inside : MF := ⟨13, [.tmp 2], true, (
  .seq (.reg [⟨some 2, .mv (.c (Value.bool false)), none⟩] [0])
  (.seq (.reg [⟨some 3, .mv (.t 0), none⟩,
    ⟨some 4, .call 206 [.t 3], none⟩,
    ⟨some 5, .mv (.t 4), none⟩,
    ⟨some 6, .mv (.t 0), some (5, false)⟩,
    ⟨some 7, .call 228 [.t 6], some (5, false)⟩,
    ⟨some 8, .pick (.t 5) (.c (Value.bool true)) (.t 7), none⟩,
    ⟨some 9, .mv (.t 8), none⟩,
    ⟨some 10, .mv (.t 0), some (9, false)⟩,
    ⟨some 11, .bin .eql (.t 10) (.c (Value.int IntKind.u8 95)), some (9, false)⟩,
    ⟨some 12, .pick (.t 9) (.c (Value.bool true)) (.t 11), none⟩,
    ⟨some 2, .mv (.t 12), none⟩] [2])
  (.ret)))⟩

-- 209 selfstab/lexer.Reserved
def m_lexer_Reserved : MF := ⟨18, [.tmp 2], true, (
  .seq (.reg [⟨some 2, .mv (.c (Value.bool false)), none⟩] [0])
  (.seq (.reg [⟨some 3, .mv (.t 0), none⟩,
    ⟨some 4, .bin .neq (.t 3) (.c (Value.string ⟨#[]⟩)), none⟩,
    ⟨some 5, .mv (.t 4), none⟩,
    ⟨some 6, .mv (.t 0), some (5, true)⟩,
    ⟨some 7, .call 208 [.t 6, .c (Value.int IntKind.i64 0), .f 206], some (5, true)⟩,
    ⟨some 8, .mv (.t 0), some (5, true)⟩,
    ⟨some 9, .len 0 (.t 8), some (5, true)⟩,
    ⟨some 10, .bin .eql (.t 7) (.t 9), some (5, true)⟩,
    ⟨some 11, .pick (.t 5) (.t 10) (.c (Value.bool false)), none⟩,
    ⟨some 12, .mv (.t 11), none⟩,
    ⟨some 13, .mv (.t 0), some (12, true)⟩,
    ⟨some 14, .bin .add (.c (Value.string ⟨#[32]⟩)) (.t 13), some (12, true)⟩,
    ⟨some 15, .bin .add (.t 14) (.c (Value.string ⟨#[32]⟩)), some (12, true)⟩,
    ⟨some 16, .call 231 [.c (Value.string ⟨#[32, 112, 114, 111, 103, 114, 97, 109, 32, 118, 97, 114, 32, 114, 117, 108, 101, 32, 98, 111, 111, 108, 32, 112, 111, 114, 116, 32, 116, 114, 117, 101, 32, 102, 97, 108, 115, 101, 32, 110, 111, 110, 101, 32, 110, 32, 105, 100, 115, 32, 105, 100, 32, 100, 101, 103, 32, 114, 111, 111, 116, 32, 113, 32, 119, 101, 105, 103, 104, 116, 32, 98, 97, 99, 107, 32, 97, 108, 108, 32, 115, 111, 109, 101, 32, 99, 111, 117, 110, 116, 32, 102, 105, 114, 115, 116, 32, 109, 105, 110, 32, 109, 97, 120, 32, 115, 117, 109, 32, 109, 101, 120, 32, 115, 101, 99, 111, 110, 100, 32, 104, 101, 97, 100, 32]⟩), .t 15], some (12, true)⟩,
    ⟨some 17, .pick (.t 12) (.t 16) (.c (Value.bool false)), none⟩,
    ⟨some 2, .mv (.t 17), none⟩] [2])
  (.ret)))⟩

-- 210 selfstab/term.Valid
def m_term_Valid_L0 : MC :=
  .seq (.reg [⟨some 28, .bin .lss (.t 27) (.t 26), none⟩] [1, 25, 26, 27, 28])
  (.seq (.cond (.t 28) (.skip)
   (.exit 0))
  (.seq (.block 1 (.seq (.reg [⟨some 29, .iadr 2 (.t 25) (.t 27), none⟩,
     ⟨some 30, .load (some 2) (.t 29), none⟩,
     ⟨some 6, .alloc [.v (Value.int .i64 0), .v (Value.int .i64 0)], none⟩,
     ⟨none, .store 2 (.t 6) (.t 30), none⟩] [1, 6, 25, 26, 27])
   (.seq (.reg [⟨some 31, .fadr 1 (.t 6), none⟩,
     ⟨some 32, .load (none) (.t 31), none⟩,
     ⟨some 33, .bin .lss (.t 32) (.c (Value.int IntKind.i64 0)), none⟩,
     ⟨some 34, .mv (.t 33), none⟩,
     ⟨some 35, .fadr 1 (.t 6), some (34, false)⟩,
     ⟨some 36, .load (none) (.t 35), some (34, false)⟩,
     ⟨some 37, .fadr 0 (.t 6), some (34, false)⟩,
     ⟨some 38, .load (none) (.t 37), some (34, false)⟩,
     ⟨some 39, .mv (.t 1), some (34, false)⟩,
     ⟨some 40, .call 241 [.t 38, .t 39], some (34, false)⟩,
     ⟨some 41, .bin .gtr (.t 36) (.t 40), some (34, false)⟩,
     ⟨some 42, .pick (.t 34) (.c (Value.bool true)) (.t 41), none⟩] [1, 25, 26, 27, 42])
   (.cond (.t 42) (.seq (.reg [⟨some 4, .mv (.c (Value.bool false)), none⟩] [4])
    (.ret))
    (.skip)))))
  (.reg [⟨some 43, .bin .add (.t 27) (.c (Value.int IntKind.i64 1)), none⟩,
    ⟨some 27, .mv (.t 43), none⟩] [1, 25, 26, 27])))

def m_term_Valid : MF := ⟨44, [.tmp 4], true, (
  .seq (.reg [⟨some 4, .mv (.c (Value.bool false)), none⟩] [0, 1])
  (.seq (.seq (.reg [⟨some 7, .mv (.t 0), none⟩,
    ⟨some 8, .len 1 (.t 7), none⟩,
    ⟨some 9, .bin .gtr (.t 8) (.c (Value.int IntKind.i64 200)), none⟩,
    ⟨some 10, .mv (.t 9), none⟩,
    ⟨some 11, .mv (.t 0), some (10, false)⟩,
    ⟨some 12, .call 238 [.t 11], some (10, false)⟩,
    ⟨some 13, .un .not (.t 12), some (10, false)⟩,
    ⟨some 14, .pick (.t 10) (.c (Value.bool true)) (.t 13), none⟩,
    ⟨some 15, .mv (.t 14), none⟩,
    ⟨some 16, .mv (.t 0), some (15, false)⟩,
    ⟨some 17, .call 239 [.t 16], some (15, false)⟩,
    ⟨some 18, .bin .gtr (.t 17) (.c (Value.int IntKind.i64 24)), some (15, false)⟩,
    ⟨some 19, .pick (.t 15) (.c (Value.bool true)) (.t 18), none⟩,
    ⟨some 20, .mv (.t 19), none⟩,
    ⟨some 21, .mv (.t 0), some (20, false)⟩,
    ⟨some 22, .call 240 [.t 21], some (20, false)⟩,
    ⟨some 23, .bin .gtr (.t 22) (.c (Value.int IntKind.i64 2)), some (20, false)⟩,
    ⟨some 24, .pick (.t 20) (.c (Value.bool true)) (.t 23), none⟩] [0, 1, 24])
  (.cond (.t 24) (.seq (.reg [⟨some 4, .mv (.c (Value.bool false)), none⟩] [4])
   (.ret))
   (.skip)))
  (.seq (.seq (.reg [⟨some 25, .mv (.t 0), none⟩,
    ⟨some 26, .len 1 (.t 25), none⟩,
    ⟨some 27, .mv (.c (Value.int IntKind.i64 0)), none⟩] [1, 25, 26, 27])
  (.block 0 (.loop [1, 25, 26, 27] m_term_Valid_L0)))
  (.seq (.reg [⟨some 4, .mv (.c (Value.bool true)), none⟩] [4])
  (.ret)))))⟩

-- 211 selfstab/types.of
def m_types_of : MF := ⟨13, [.tmp 6], true, (
  .seq (.reg [⟨some 6, .mv (.c (Value.int IntKind.i64 0)), none⟩] [0, 1, 2])
  (.seq (.reg [⟨some 8, .mv (.t 0), none⟩,
    ⟨some 9, .mv (.t 1), none⟩,
    ⟨some 10, .build [.v (Value.slice none 0 0), .v (Value.slice none 0 0), .v (Value.int .i64 0)] [(0, 1, (.t 8)), (1, 1, (.t 9))], none⟩,
    ⟨some 7, .new [.v (Value.slice none 0 0), .v (Value.slice none 0 0), .v (Value.int .i64 0)], none⟩,
    ⟨none, .store 3 (.t 7) (.t 10), none⟩] [2, 7])
  (.seq (.reg [⟨some 11, .mv (.t 2), none⟩,
    ⟨some 12, .call 242 [.t 7, .t 11], none⟩,
    ⟨some 6, .mv (.t 12), none⟩] [6])
  (.ret))))⟩

-- 82 selfstab/selfstabworld.linked
def m_selfstabworld_linked_L0 : MC :=
  .seq (.seq (.reg [⟨some 8, .mv (.t 7), none⟩,
    ⟨some 9, .fadr 1 (.t 3), none⟩,
    ⟨some 10, .load (none) (.t 9), none⟩,
    ⟨some 11, .mv (.t 1), none⟩,
    ⟨some 12, .iadr 1 (.t 10) (.t 11), none⟩,
    ⟨some 13, .load (none) (.t 12), none⟩,
    ⟨some 14, .len 1 (.t 13), none⟩,
    ⟨some 15, .bin .lss (.t 8) (.t 14), none⟩] [1, 2, 3, 7, 15])
  (.cond (.t 15) (.skip)
   (.exit 0)))
  (.seq (.block 1 (.seq (.reg [⟨some 18, .fadr 1 (.t 3), none⟩,
     ⟨some 19, .load (none) (.t 18), none⟩,
     ⟨some 20, .mv (.t 1), none⟩,
     ⟨some 21, .iadr 1 (.t 19) (.t 20), none⟩,
     ⟨some 22, .load (none) (.t 21), none⟩,
     ⟨some 23, .mv (.t 7), none⟩,
     ⟨some 24, .iadr 2 (.t 22) (.t 23), none⟩,
     ⟨some 25, .fadr 0 (.t 24), none⟩,
     ⟨some 26, .load (none) (.t 25), none⟩,
     ⟨some 27, .mv (.t 2), none⟩,
     ⟨some 28, .bin .eql (.t 26) (.t 27), none⟩] [1, 2, 3, 7, 28])
   (.cond (.t 28) (.seq (.reg [⟨some 6, .mv (.c (Value.bool true)), none⟩] [6])
    (.ret))
    (.skip))))
  (.reg [⟨some 16, .mv (.t 7), none⟩,
    ⟨some 17, .bin .add (.t 16) (.c (Value.int IntKind.i64 1)), none⟩,
    ⟨some 7, .mv (.t 17), none⟩] [1, 2, 3, 7]))

def m_selfstabworld_linked : MF := ⟨29, [.tmp 6], true, (
  .seq (.reg [⟨some 3, .box 2 (.t 0), none⟩,
    ⟨some 6, .mv (.c (Value.bool false)), none⟩] [1, 2, 3])
  (.seq (.seq (.reg [⟨some 7, .mv (.c (Value.int IntKind.i64 0)), none⟩] [1, 2, 3, 7])
  (.block 0 (.loop [1, 2, 3, 7] m_selfstabworld_linked_L0)))
  (.seq (.reg [⟨some 6, .mv (.c (Value.bool false)), none⟩] [6])
  (.ret))))⟩

-- 3 selfstab/cluster.Fit
def m_cluster_Fit : MF := ⟨5, [.tmp 2], true, (
  .seq (.reg [⟨some 1, .box 2 (.t 0), none⟩,
    ⟨some 2, .mv (.c (Value.bool false)), none⟩] [1])
  (.seq (.reg [⟨some 3, .load (some 2) (.t 1), none⟩,
    ⟨some 4, .call 32 [.t 3], none⟩,
    ⟨some 2, .mv (.t 4), none⟩] [2])
  (.ret)))⟩

-- 226 selfstab/lexer.blank
def m_lexer_blank : MF := ⟨17, [.tmp 2], true, (
  .seq (.reg [⟨some 2, .mv (.c (Value.bool false)), none⟩] [0])
  (.seq (.reg [⟨some 3, .mv (.t 0), none⟩,
    ⟨some 4, .bin .eql (.t 3) (.c (Value.int IntKind.u8 32)), none⟩,
    ⟨some 5, .mv (.t 4), none⟩,
    ⟨some 6, .mv (.t 0), some (5, false)⟩,
    ⟨some 7, .bin .eql (.t 6) (.c (Value.int IntKind.u8 9)), some (5, false)⟩,
    ⟨some 8, .pick (.t 5) (.c (Value.bool true)) (.t 7), none⟩,
    ⟨some 9, .mv (.t 8), none⟩,
    ⟨some 10, .mv (.t 0), some (9, false)⟩,
    ⟨some 11, .bin .eql (.t 10) (.c (Value.int IntKind.u8 10)), some (9, false)⟩,
    ⟨some 12, .pick (.t 9) (.c (Value.bool true)) (.t 11), none⟩,
    ⟨some 13, .mv (.t 12), none⟩,
    ⟨some 14, .mv (.t 0), some (13, false)⟩,
    ⟨some 15, .bin .eql (.t 14) (.c (Value.int IntKind.u8 13)), some (13, false)⟩,
    ⟨some 16, .pick (.t 13) (.c (Value.bool true)) (.t 15), none⟩,
    ⟨some 2, .mv (.t 16), none⟩] [2])
  (.ret)))⟩

-- 227 selfstab/lexer.skip$1
def m_lexer_skip_1 : MF := ⟨5, [.tmp 2], true, (
  .seq (.reg [⟨some 2, .mv (.c (Value.bool false)), none⟩] [0])
  (.seq (.reg [⟨some 3, .mv (.t 0), none⟩,
    ⟨some 4, .bin .neq (.t 3) (.c (Value.int IntKind.u8 10)), none⟩,
    ⟨some 2, .mv (.t 4), none⟩] [2])
  (.ret)))⟩

-- 228 selfstab/lexer.digit
def m_lexer_digit : MF := ⟨9, [.tmp 2], true, (
  .seq (.reg [⟨some 2, .mv (.c (Value.bool false)), none⟩] [0])
  (.seq (.reg [⟨some 3, .mv (.t 0), none⟩,
    ⟨some 4, .bin .geq (.t 3) (.c (Value.int IntKind.u8 48)), none⟩,
    ⟨some 5, .mv (.t 4), none⟩,
    ⟨some 6, .mv (.t 0), some (5, true)⟩,
    ⟨some 7, .bin .leq (.t 6) (.c (Value.int IntKind.u8 57)), some (5, true)⟩,
    ⟨some 8, .pick (.t 5) (.t 7) (.c (Value.bool false)), none⟩,
    ⟨some 2, .mv (.t 8), none⟩] [2])
  (.ret)))⟩

-- 233 slices.Index[[]string,string]
def m_slices_Index_string_string_L0 : MC :=
  .seq (.reg [⟨some 9, .bin .lss (.t 8) (.t 7), none⟩] [0, 1, 7, 8, 9])
  (.seq (.cond (.t 9) (.skip)
   (.exit 0))
  (.seq (.block 1 (.seq (.reg [⟨some 10, .mv (.t 8), none⟩,
     ⟨some 5, .mv (.t 10), none⟩] [0, 1, 5, 7, 8])
   (.seq (.reg [⟨some 11, .mv (.t 1), none⟩,
     ⟨some 12, .mv (.t 0), none⟩,
     ⟨some 13, .mv (.t 5), none⟩,
     ⟨some 14, .iadr 1 (.t 12) (.t 13), none⟩,
     ⟨some 15, .load (none) (.t 14), none⟩,
     ⟨some 16, .bin .eql (.t 11) (.t 15), none⟩] [0, 1, 5, 7, 8, 16])
   (.cond (.t 16) (.seq (.reg [⟨some 17, .mv (.t 5), none⟩,
      ⟨some 4, .mv (.t 17), none⟩] [4])
    (.ret))
    (.skip)))))
  (.reg [⟨some 18, .bin .add (.t 8) (.c (Value.int IntKind.i64 1)), none⟩,
    ⟨some 8, .mv (.t 18), none⟩] [0, 1, 7, 8])))

def m_slices_Index_string_string : MF := ⟨19, [.tmp 4], true, (
  .seq (.reg [⟨some 4, .mv (.c (Value.int IntKind.i64 0)), none⟩] [0, 1])
  (.seq (.seq (.reg [⟨some 6, .mv (.t 0), none⟩,
    ⟨some 7, .len 1 (.t 6), none⟩,
    ⟨some 8, .mv (.c (Value.int IntKind.i64 0)), none⟩] [0, 1, 7, 8])
  (.block 0 (.loop [0, 1, 7, 8] m_slices_Index_string_string_L0)))
  (.seq (.reg [⟨some 4, .mv (.c (Value.int IntKind.i64 (-1))), none⟩] [4])
  (.ret))))⟩

-- 234 (*selfstab/syntax.Reader).Counts
def m_syntax_Reader_Counts : MF := ⟨12, [.tmp 2], false, (
  .seq (.reg [⟨some 2, .mv (.c (Value.bool false)), none⟩] [0])
  (.seq (.reg [⟨some 6, .mv (.t 0), none⟩,
    ⟨some 7, .call 196 [.t 6, .c (Value.int IntKind.i64 0)], none⟩,
    ⟨some 5, .mv (.t 7), none⟩,
    ⟨some 8, .ext (.t 5) 0, none⟩,
    ⟨some 9, .ext (.t 5) 1, none⟩,
    ⟨some 3, .mv (.t 8), none⟩,
    ⟨some 4, .mv (.t 9), none⟩] [4])
  (.seq (.reg [⟨some 10, .mv (.t 4), none⟩,
    ⟨some 11, .bin .eql (.t 10) (.c (Value.int IntKind.i64 2)), none⟩,
    ⟨some 2, .mv (.t 11), none⟩] [2])
  (.ret))))⟩

-- 235 (*selfstab/syntax.Reader).Follows
def m_syntax_Reader_Follows : MF := ⟨19, [.tmp 4], false, (
  .seq (.reg [⟨some 4, .mv (.c (Value.bool false)), none⟩] [0, 1])
  (.seq (.reg [⟨some 8, .mv (.t 0), none⟩,
    ⟨some 9, .call 196 [.t 8, .c (Value.int IntKind.i64 1)], none⟩,
    ⟨some 7, .mv (.t 9), none⟩,
    ⟨some 10, .ext (.t 7) 0, none⟩,
    ⟨some 11, .ext (.t 7) 1, none⟩,
    ⟨some 5, .mv (.t 10), none⟩,
    ⟨some 6, .mv (.t 11), none⟩] [1, 5, 6])
  (.seq (.reg [⟨some 12, .mv (.t 6), none⟩,
    ⟨some 13, .bin .eql (.t 12) (.c (Value.int IntKind.i64 3)), none⟩,
    ⟨some 14, .mv (.t 13), none⟩,
    ⟨some 15, .mv (.t 5), some (14, true)⟩,
    ⟨some 16, .mv (.t 1), some (14, true)⟩,
    ⟨some 17, .bin .eql (.t 15) (.t 16), some (14, true)⟩,
    ⟨some 18, .pick (.t 14) (.t 17) (.c (Value.bool false)), none⟩,
    ⟨some 4, .mv (.t 18), none⟩] [4])
  (.ret))))⟩

-- 236 (*selfstab/syntax.Reader).level
def m_syntax_Reader_level_L0 : MC :=
  .block 1 (.seq (.reg [⟨some 24, .mv (.t 0), none⟩,
     ⟨some 25, .fadr 0 (.t 6), none⟩,
     ⟨some 26, .load (none) (.t 25), none⟩,
     ⟨some 27, .call 195 [.t 24, .t 26], none⟩,
     ⟨some 8, .mv (.t 27), none⟩] [0, 1, 6, 7, 8])
   (.seq (.seq (.reg [⟨some 28, .mv (.t 8), none⟩,
     ⟨some 29, .bin .eql (.t 28) (.c (Value.string ⟨#[]⟩)), none⟩] [0, 1, 6, 7, 8, 29])
   (.cond (.t 29) (.seq (.reg [⟨some 30, .mv (.t 7), none⟩,
      ⟨some 4, .mv (.t 30), none⟩] [4])
    (.ret))
    (.skip)))
   (.seq (.regd [0, 1, 0, 4, 0, 28, 63, 127, 0, 0, 0, 1024, 3644, 7996, 16383, 32767] [⟨some 31, .fadr 1 (.t 6), none⟩,
     ⟨some 32, .load (none) (.t 31), none⟩,
     ⟨some 33, .fadr 0 (.t 6), none⟩,
     ⟨some 34, .load (none) (.t 33), none⟩,
     ⟨some 35, .mv (.t 8), none⟩,
     ⟨some 36, .call 233 [.t 34, .t 35], none⟩,
     ⟨some 37, .iadr 1 (.t 32) (.t 36), none⟩,
     ⟨some 38, .load (none) (.t 37), none⟩,
     ⟨some 39, .mv (.t 7), none⟩,
     ⟨some 40, .mv (.t 0), none⟩,
     ⟨some 41, .mv (.t 1), none⟩,
     ⟨some 42, .bin .add (.t 41) (.c (Value.int IntKind.i64 1)), none⟩,
     ⟨some 43, .call 236 [.t 40, .t 42], none⟩,
     ⟨some 44, .lit 1 [.v (Value.slice none 0 0), .v (Value.slice none 0 0)] [(0, 1, (.t 39)), (1, 1, (.t 43))] true, none⟩,
     ⟨some 45, .call 237 [.t 38, .t 44], none⟩,
     ⟨some 7, .mv (.t 45), none⟩] [0, 1, 6, 7])
   (.seq (.reg [⟨some 46, .mv (.t 1), none⟩,
     ⟨some 47, .bin .eql (.t 46) (.c (Value.int IntKind.i64 2)), none⟩] [0, 1, 6, 7, 47])
   (.cond (.t 47) (.seq (.reg [⟨some 48, .mv (.t 7), none⟩,
      ⟨some 4, .mv (.t 48), none⟩] [4])
    (.ret))
    (.skip))))))

def m_syntax_Reader_level : MF := ⟨49, [.tmp 4], false, (
  .seq (.reg [⟨some 4, .mv (.c (Value.slice none 0 0)), none⟩] [0, 1])
  (.seq (.reg [⟨some 9, .call 254 [], none⟩,
    ⟨some 5, .mv (.t 9), none⟩] [0, 1, 5])
  (.seq (.seq (.reg [⟨some 10, .mv (.t 1), none⟩,
    ⟨some 11, .mv (.t 5), none⟩,
    ⟨some 12, .len 1 (.t 11), none⟩,
    ⟨some 13, .bin .eql (.t 10) (.t 12), none⟩] [0, 1, 5, 13])
  (.cond (.t 13) (.seq (.reg [⟨some 14, .mv (.t 0), none⟩,
     ⟨some 15, .call 255 [.t 14], none⟩,
     ⟨some 4, .mv (.t 15), none⟩] [4])
   (.ret))
   (.skip)))
  (.seq (.reg [⟨some 16, .mv (.t 5), none⟩,
    ⟨some 17, .mv (.t 1), none⟩,
    ⟨some 18, .iadr 2 (.t 16) (.t 17), none⟩,
    ⟨some 19, .load (some 2) (.t 18), none⟩,
    ⟨some 6, .alloc [.v (Value.slice none 0 0), .v (Value.slice none 0 0)], none⟩,
    ⟨none, .store 2 (.t 6) (.t 19), none⟩] [0, 1, 6])
  (.seq (.reg [⟨some 20, .mv (.t 0), none⟩,
    ⟨some 21, .mv (.t 1), none⟩,
    ⟨some 22, .bin .add (.t 21) (.c (Value.int IntKind.i64 1)), none⟩,
    ⟨some 23, .call 236 [.t 20, .t 22], none⟩,
    ⟨some 7, .mv (.t 23), none⟩] [0, 1, 6, 7])
  (.block 0 (.loop [0, 1, 6, 7] m_syntax_Reader_level_L0)))))))⟩

-- 237 selfstab/syntax.with
def m_syntax_with_L0 : MC :=
  .seq (.reg [⟨some 14, .bin .lss (.t 13) (.t 12), none⟩] [5, 11, 12, 13, 14])
  (.seq (.cond (.t 14) (.skip)
   (.exit 0))
  (.seq (.block 1 (.seq (.reg [⟨some 15, .iadr 1 (.t 11) (.t 13), none⟩,
     ⟨some 16, .load (none) (.t 15), none⟩,
     ⟨some 7, .mv (.t 16), none⟩] [5, 7, 11, 12, 13])
   (.reg [⟨some 17, .mv (.t 5), none⟩,
     ⟨some 18, .mv (.t 7), none⟩,
     ⟨some 19, .app 2 16 (.t 17) (.t 18), none⟩,
     ⟨some 5, .mv (.t 19), none⟩] [5, 11, 12, 13])))
  (.reg [⟨some 20, .bin .add (.t 13) (.c (Value.int IntKind.i64 1)), none⟩,
    ⟨some 13, .mv (.t 20), none⟩] [5, 11, 12, 13])))

def m_syntax_with : MF := ⟨22, [.tmp 4], false, (
  .seq (.reg [⟨some 4, .mv (.c (Value.slice none 0 0)), none⟩] [0, 1])
  (.seq (.reg [⟨some 8, .mv (.t 0), none⟩,
    ⟨some 9, .build [.v (Value.int .i64 0), .v (Value.int .i64 0)] [(0, 1, (.t 8))], none⟩,
    ⟨some 10, .lit 2 [.v (Value.int .i64 0), .v (Value.int .i64 0)] [(0, 2, (.t 9))] true, none⟩,
    ⟨some 5, .mv (.t 10), none⟩] [1, 5])
  (.seq (.seq (.reg [⟨some 11, .mv (.t 1), none⟩,
    ⟨some 12, .len 1 (.t 11), none⟩,
    ⟨some 13, .mv (.c (Value.int IntKind.i64 0)), none⟩] [5, 11, 12, 13])
  (.block 0 (.loop [5, 11, 12, 13] m_syntax_with_L0)))
  (.seq (.reg [⟨some 21, .mv (.t 5), none⟩,
    ⟨some 4, .mv (.t 21), none⟩] [4])
  (.ret)))))⟩

-- 238 selfstab/term.one
def m_term_one : MF := ⟨8, [.tmp 2], true, (
  .seq (.reg [⟨some 2, .mv (.c (Value.bool false)), none⟩] [0])
  (.seq (.reg [⟨some 3, .mv (.t 0), none⟩,
    ⟨some 4, .call 256 [.t 3, .c (Value.int IntKind.i64 0)], none⟩,
    ⟨some 5, .mv (.t 0), none⟩,
    ⟨some 6, .len 1 (.t 5), none⟩,
    ⟨some 7, .bin .eql (.t 4) (.t 6), none⟩,
    ⟨some 2, .mv (.t 7), none⟩] [2])
  (.ret)))⟩

-- 239 selfstab/term.Depth
def m_term_Depth : MF := ⟨5, [.tmp 2], true, (
  .seq (.reg [⟨some 2, .mv (.c (Value.int IntKind.i64 0)), none⟩] [0])
  (.seq (.reg [⟨some 3, .mv (.t 0), none⟩,
    ⟨some 4, .call 258 [.t 3, .f 257], none⟩,
    ⟨some 2, .mv (.t 4), none⟩] [2])
  (.ret)))⟩

-- 240 selfstab/term.Nest
def m_term_Nest : MF := ⟨5, [.tmp 2], true, (
  .seq (.reg [⟨some 2, .mv (.c (Value.int IntKind.i64 0)), none⟩] [0])
  (.seq (.reg [⟨some 3, .mv (.t 0), none⟩,
    ⟨some 4, .call 258 [.t 3, .f 259], none⟩,
    ⟨some 2, .mv (.t 4), none⟩] [2])
  (.ret)))⟩

-- 241 selfstab/term.limit
def m_term_limit : MF := ⟨13, [.tmp 4], true, (
  .seq (.reg [⟨some 4, .mv (.c (Value.int IntKind.i64 0)), none⟩] [0, 1])
  (.seq (.seq (.reg [⟨some 5, .mv (.t 0), none⟩] [1, 5])
  (.block 0 (.seq (.reg [⟨some 7, .bin .eql (.t 5) (.c (Value.int IntKind.i64 1)), none⟩,
     ⟨some 6, .mv (.t 7), none⟩] [1, 5, 6])
   (.cond (.t 6) (.seq (.reg [⟨some 4, .mv (.c (Value.int IntKind.i64 1073741824)), none⟩] [4])
    (.ret))
    (.seq (.seq (.reg [⟨some 9, .bin .eql (.t 5) (.c (Value.int IntKind.i64 5)), none⟩,
      ⟨some 8, .mv (.t 9), none⟩] [1, 5, 8])
    (.cond (.t 8) (.skip)
     (.reg [⟨some 10, .bin .eql (.t 5) (.c (Value.int IntKind.i64 12)), none⟩,
       ⟨some 8, .mv (.t 10), none⟩] [1, 8])))
    (.cond (.t 8) (.seq (.reg [⟨some 11, .mv (.t 1), none⟩,
       ⟨some 12, .bin .sub (.t 11) (.c (Value.int IntKind.i64 1)), none⟩,
       ⟨some 4, .mv (.t 12), none⟩] [4])
     (.ret))
     (.skip)))))))
  (.seq (.reg [⟨some 4, .mv (.c (Value.int IntKind.i64 0)), none⟩] [4])
  (.ret))))⟩

-- 242 (*selfstab/types.checker).read
def m_types_checker_read : MF := ⟨159, [.tmp 4], false, (
  .seq (.reg [⟨some 4, .mv (.c (Value.int IntKind.i64 0)), none⟩] [0, 1])
  (.seq (.reg [⟨some 8, .mv (.t 0), none⟩,
    ⟨some 9, .nck (.t 8), none⟩,
    ⟨some 10, .fadr 0 (.t 9), none⟩,
    ⟨some 11, .load (none) (.t 10), none⟩,
    ⟨some 12, .mv (.t 0), none⟩,
    ⟨some 13, .nck (.t 12), none⟩,
    ⟨some 14, .fadr 2 (.t 13), none⟩,
    ⟨some 15, .load (none) (.t 14), none⟩,
    ⟨some 16, .iadr 2 (.t 11) (.t 15), none⟩,
    ⟨some 17, .load (some 2) (.t 16), none⟩,
    ⟨some 5, .alloc [.v (Value.int .i64 0), .v (Value.int .i64 0)], none⟩,
    ⟨none, .store 2 (.t 5) (.t 17), none⟩] [0, 1, 5])
  (.seq (.reg [⟨some 18, .mv (.t 0), none⟩,
    ⟨some 19, .nck (.t 18), none⟩,
    ⟨some 20, .fadr 2 (.t 19), none⟩,
    ⟨some 21, .load (none) (.t 20), none⟩,
    ⟨some 22, .bin .add (.t 21) (.c (Value.int IntKind.i64 1)), none⟩,
    ⟨some 23, .nck (.t 18), none⟩,
    ⟨some 24, .fadr 2 (.t 23), none⟩,
    ⟨none, .store 1 (.t 24) (.t 22), none⟩] [0, 1, 5])
  (.seq (.reg [⟨some 25, .mv (.t 1), none⟩,
    ⟨some 26, .mv (.t 25), none⟩,
    ⟨some 27, .fadr 0 (.t 5), some (26, false)⟩,
    ⟨some 28, .load (none) (.t 27), some (26, false)⟩,
    ⟨some 29, .bin .geq (.t 28) (.c (Value.int IntKind.i64 20)), some (26, false)⟩,
    ⟨some 30, .mv (.t 29), some (26, false)⟩,
    ⟨some 31, .fadr 0 (.t 5), some (30, true)⟩,
    ⟨some 32, .load (none) (.t 31), some (30, true)⟩,
    ⟨some 33, .bin .leq (.t 32) (.c (Value.int IntKind.i64 29)), some (30, true)⟩,
    ⟨some 34, .pick (.t 30) (.t 33) (.c (Value.bool false)), some (26, false)⟩,
    ⟨some 35, .pick (.t 26) (.c (Value.bool true)) (.t 34), none⟩,
    ⟨some 6, .mv (.t 35), none⟩] [0, 1, 5, 6])
  (.seq (.reg [⟨some 36, .mv (.t 0), none⟩,
    ⟨some 37, .fadr 0 (.t 5), none⟩,
    ⟨some 38, .load (none) (.t 37), none⟩,
    ⟨some 39, .call 260 [.t 38], none⟩,
    ⟨some 40, .mv (.t 6), none⟩,
    ⟨some 41, .call 261 [.t 36, .t 39, .t 40], none⟩,
    ⟨some 7, .mv (.t 41), none⟩] [0, 1, 5, 7])
  (.seq (.seq (.reg [⟨some 42, .fadr 0 (.t 5), none⟩,
    ⟨some 43, .load (none) (.t 42), none⟩] [0, 1, 5, 7, 43])
  (.block 0 (.seq (.seq (.reg [⟨some 45, .bin .eql (.t 43) (.c (Value.int IntKind.i64 1)), none⟩,
     ⟨some 44, .mv (.t 45), none⟩] [0, 1, 5, 7, 43, 44])
   (.cond (.t 44) (.skip)
    (.seq (.reg [⟨some 46, .bin .eql (.t 43) (.c (Value.int IntKind.i64 6)), none⟩,
      ⟨some 44, .mv (.t 46), none⟩] [0, 1, 5, 7, 43, 44])
    (.cond (.t 44) (.skip)
     (.seq (.reg [⟨some 47, .bin .eql (.t 43) (.c (Value.int IntKind.i64 7)), none⟩,
       ⟨some 44, .mv (.t 47), none⟩] [0, 1, 5, 7, 43, 44])
     (.cond (.t 44) (.skip)
      (.seq (.reg [⟨some 48, .bin .eql (.t 43) (.c (Value.int IntKind.i64 8)), none⟩,
        ⟨some 44, .mv (.t 48), none⟩] [0, 1, 5, 7, 43, 44])
      (.cond (.t 44) (.skip)
       (.reg [⟨some 49, .bin .eql (.t 43) (.c (Value.int IntKind.i64 9)), none⟩,
         ⟨some 44, .mv (.t 49), none⟩] [0, 1, 5, 7, 43, 44])))))))))
   (.cond (.t 44) (.seq (.reg [⟨some 4, .mv (.c (Value.int IntKind.i64 1)), none⟩] [4])
    (.ret))
    (.seq (.seq (.reg [⟨some 51, .bin .eql (.t 43) (.c (Value.int IntKind.i64 13)), none⟩,
      ⟨some 50, .mv (.t 51), none⟩] [0, 1, 5, 7, 43, 50])
    (.cond (.t 50) (.skip)
     (.seq (.reg [⟨some 52, .bin .eql (.t 43) (.c (Value.int IntKind.i64 14)), none⟩,
       ⟨some 50, .mv (.t 52), none⟩] [0, 1, 5, 7, 43, 50])
     (.cond (.t 50) (.skip)
      (.reg [⟨some 53, .bin .eql (.t 43) (.c (Value.int IntKind.i64 16)), none⟩,
        ⟨some 50, .mv (.t 53), none⟩] [0, 1, 5, 7, 43, 50])))))
    (.cond (.t 50) (.seq (.reg [⟨some 54, .mv (.t 1), none⟩,
       ⟨some 55, .call 262 [.t 54, .c (Value.int IntKind.i64 1)], none⟩,
       ⟨some 4, .mv (.t 55), none⟩] [4])
     (.ret))
     (.seq (.seq (.reg [⟨some 57, .bin .eql (.t 43) (.c (Value.int IntKind.i64 2)), none⟩,
       ⟨some 56, .mv (.t 57), none⟩] [0, 1, 5, 7, 43, 56])
     (.cond (.t 56) (.skip)
      (.seq (.reg [⟨some 58, .bin .eql (.t 43) (.c (Value.int IntKind.i64 3)), none⟩,
        ⟨some 56, .mv (.t 58), none⟩] [0, 1, 5, 7, 43, 56])
      (.cond (.t 56) (.skip)
       (.reg [⟨some 59, .bin .eql (.t 43) (.c (Value.int IntKind.i64 10)), none⟩,
         ⟨some 56, .mv (.t 59), none⟩] [0, 1, 5, 7, 43, 56])))))
     (.cond (.t 56) (.seq (.reg [⟨some 4, .mv (.c (Value.int IntKind.i64 2)), none⟩] [4])
      (.ret))
      (.seq (.reg [⟨some 61, .bin .eql (.t 43) (.c (Value.int IntKind.i64 15)), none⟩,
        ⟨some 60, .mv (.t 61), none⟩] [0, 1, 5, 7, 43, 60])
      (.cond (.t 60) (.seq (.reg [⟨some 62, .mv (.t 1), none⟩,
         ⟨some 63, .call 262 [.t 62, .c (Value.int IntKind.i64 2)], none⟩,
         ⟨some 4, .mv (.t 63), none⟩] [4])
       (.ret))
       (.seq (.reg [⟨some 65, .bin .eql (.t 43) (.c (Value.int IntKind.i64 4)), none⟩,
         ⟨some 64, .mv (.t 65), none⟩] [0, 1, 5, 7, 43, 64])
       (.cond (.t 64) (.seq (.reg [⟨some 4, .mv (.c (Value.int IntKind.i64 3)), none⟩] [4])
        (.ret))
        (.seq (.seq (.reg [⟨some 67, .bin .eql (.t 43) (.c (Value.int IntKind.i64 11)), none⟩,
          ⟨some 66, .mv (.t 67), none⟩] [0, 1, 5, 7, 43, 66])
        (.cond (.t 66) (.skip)
         (.reg [⟨some 68, .bin .eql (.t 43) (.c (Value.int IntKind.i64 17)), none⟩,
           ⟨some 66, .mv (.t 68), none⟩] [0, 1, 5, 7, 43, 66])))
        (.cond (.t 66) (.seq (.reg [⟨some 69, .mv (.t 1), none⟩,
           ⟨some 70, .call 262 [.t 69, .c (Value.int IntKind.i64 3)], none⟩,
           ⟨some 4, .mv (.t 70), none⟩] [4])
         (.ret))
         (.seq (.reg [⟨some 72, .bin .eql (.t 43) (.c (Value.int IntKind.i64 5)), none⟩,
           ⟨some 71, .mv (.t 72), none⟩] [0, 1, 5, 7, 43, 71])
         (.cond (.t 71) (.seq (.reg [⟨some 73, .mv (.t 0), none⟩,
            ⟨some 74, .nck (.t 73), none⟩,
            ⟨some 75, .fadr 1 (.t 74), none⟩,
            ⟨some 76, .load (none) (.t 75), none⟩,
            ⟨some 77, .fadr 1 (.t 5), none⟩,
            ⟨some 78, .load (none) (.t 77), none⟩,
            ⟨some 79, .iadr 1 (.t 76) (.t 78), none⟩,
            ⟨some 80, .load (none) (.t 79), none⟩,
            ⟨some 4, .mv (.t 80), none⟩] [4])
          (.ret))
          (.seq (.reg [⟨some 82, .bin .eql (.t 43) (.c (Value.int IntKind.i64 12)), none⟩,
            ⟨some 81, .mv (.t 82), none⟩] [0, 1, 5, 7, 43, 81])
          (.cond (.t 81) (.seq (.reg [⟨some 83, .mv (.t 1), none⟩,
             ⟨some 84, .mv (.t 0), none⟩,
             ⟨some 85, .nck (.t 84), none⟩,
             ⟨some 86, .fadr 1 (.t 85), none⟩,
             ⟨some 87, .load (none) (.t 86), none⟩,
             ⟨some 88, .fadr 1 (.t 5), none⟩,
             ⟨some 89, .load (none) (.t 88), none⟩,
             ⟨some 90, .iadr 1 (.t 87) (.t 89), none⟩,
             ⟨some 91, .load (none) (.t 90), none⟩,
             ⟨some 92, .call 262 [.t 83, .t 91], none⟩,
             ⟨some 4, .mv (.t 92), none⟩] [4])
           (.ret))
           (.seq (.seq (.reg [⟨some 94, .bin .eql (.t 43) (.c (Value.int IntKind.i64 19)), none⟩,
             ⟨some 93, .mv (.t 94), none⟩] [7, 43, 93])
           (.cond (.t 93) (.skip)
            (.seq (.reg [⟨some 95, .bin .eql (.t 43) (.c (Value.int IntKind.i64 20)), none⟩,
              ⟨some 93, .mv (.t 95), none⟩] [7, 43, 93])
            (.cond (.t 93) (.skip)
             (.seq (.reg [⟨some 96, .bin .eql (.t 43) (.c (Value.int IntKind.i64 21)), none⟩,
               ⟨some 93, .mv (.t 96), none⟩] [7, 43, 93])
             (.cond (.t 93) (.skip)
              (.seq (.reg [⟨some 97, .bin .eql (.t 43) (.c (Value.int IntKind.i64 41)), none⟩,
                ⟨some 93, .mv (.t 97), none⟩] [7, 43, 93])
              (.cond (.t 93) (.skip)
               (.reg [⟨some 98, .bin .eql (.t 43) (.c (Value.int IntKind.i64 42)), none⟩,
                 ⟨some 93, .mv (.t 98), none⟩] [7, 43, 93])))))))))
           (.cond (.t 93) (.seq (.reg [⟨some 99, .mv (.t 7), none⟩,
              ⟨some 100, .call 263 [.t 99, .c (Value.int IntKind.i64 2)], none⟩,
              ⟨some 101, .call 262 [.t 100, .c (Value.int IntKind.i64 2)], none⟩,
              ⟨some 4, .mv (.t 101), none⟩] [4])
            (.ret))
            (.seq (.reg [⟨some 103, .bin .eql (.t 43) (.c (Value.int IntKind.i64 22)), none⟩,
              ⟨some 102, .mv (.t 103), none⟩] [7, 43, 102])
            (.cond (.t 102) (.seq (.reg [⟨some 104, .mv (.t 7), none⟩,
               ⟨some 105, .call 263 [.t 104, .c (Value.int IntKind.i64 2)], none⟩,
               ⟨some 106, .call 262 [.t 105, .c (Value.int IntKind.i64 1)], none⟩,
               ⟨some 4, .mv (.t 106), none⟩] [4])
             (.ret))
             (.seq (.reg [⟨some 108, .bin .eql (.t 43) (.c (Value.int IntKind.i64 23)), none⟩,
               ⟨some 107, .mv (.t 108), none⟩] [7, 43, 107])
             (.cond (.t 107) (.seq (.reg [⟨some 109, .mv (.t 7), none⟩,
                ⟨some 110, .call 263 [.t 109, .c (Value.int IntKind.i64 2)], none⟩,
                ⟨some 111, .call 262 [.t 110, .c (Value.int IntKind.i64 3)], none⟩,
                ⟨some 4, .mv (.t 111), none⟩] [4])
              (.ret))
              (.seq (.seq (.reg [⟨some 113, .bin .eql (.t 43) (.c (Value.int IntKind.i64 35)), none⟩,
                ⟨some 112, .mv (.t 113), none⟩] [7, 43, 112])
              (.cond (.t 112) (.skip)
               (.reg [⟨some 114, .bin .eql (.t 43) (.c (Value.int IntKind.i64 36)), none⟩,
                 ⟨some 112, .mv (.t 114), none⟩] [7, 43, 112])))
              (.cond (.t 112) (.seq (.reg [⟨some 115, .mv (.t 7), none⟩,
                 ⟨some 116, .iadr 1 (.t 115) (.c (Value.int IntKind.i64 0)), none⟩,
                 ⟨some 117, .load (none) (.t 116), none⟩,
                 ⟨some 118, .call 204 [.t 117], none⟩,
                 ⟨some 119, .mv (.t 118), none⟩,
                 ⟨some 120, .mv (.t 7), some (119, true)⟩,
                 ⟨some 121, .iadr 1 (.t 120) (.c (Value.int IntKind.i64 0)), some (119, true)⟩,
                 ⟨some 122, .load (none) (.t 121), some (119, true)⟩,
                 ⟨some 123, .mv (.t 7), some (119, true)⟩,
                 ⟨some 124, .iadr 1 (.t 123) (.c (Value.int IntKind.i64 1)), some (119, true)⟩,
                 ⟨some 125, .load (none) (.t 124), some (119, true)⟩,
                 ⟨some 126, .bin .eql (.t 122) (.t 125), some (119, true)⟩,
                 ⟨some 127, .pick (.t 119) (.t 126) (.c (Value.bool false)), none⟩,
                 ⟨some 128, .call 262 [.t 127, .c (Value.int IntKind.i64 2)], none⟩,
                 ⟨some 4, .mv (.t 128), none⟩] [4])
               (.ret))
               (.seq (.seq (.reg [⟨some 130, .bin .eql (.t 43) (.c (Value.int IntKind.i64 37)), none⟩,
                 ⟨some 129, .mv (.t 130), none⟩] [7, 43, 129])
               (.cond (.t 129) (.skip)
                (.seq (.reg [⟨some 131, .bin .eql (.t 43) (.c (Value.int IntKind.i64 38)), none⟩,
                  ⟨some 129, .mv (.t 131), none⟩] [7, 43, 129])
                (.cond (.t 129) (.skip)
                 (.seq (.reg [⟨some 132, .bin .eql (.t 43) (.c (Value.int IntKind.i64 39)), none⟩,
                   ⟨some 129, .mv (.t 132), none⟩] [7, 43, 129])
                 (.cond (.t 129) (.skip)
                  (.reg [⟨some 133, .bin .eql (.t 43) (.c (Value.int IntKind.i64 40)), none⟩,
                    ⟨some 129, .mv (.t 133), none⟩] [7, 43, 129])))))))
               (.cond (.t 129) (.seq (.reg [⟨some 134, .mv (.t 7), none⟩,
                  ⟨some 135, .call 263 [.t 134, .c (Value.int IntKind.i64 1)], none⟩,
                  ⟨some 136, .call 262 [.t 135, .c (Value.int IntKind.i64 2)], none⟩,
                  ⟨some 4, .mv (.t 136), none⟩] [4])
                (.ret))
                (.seq (.reg [⟨some 138, .bin .eql (.t 43) (.c (Value.int IntKind.i64 43)), none⟩,
                  ⟨some 137, .mv (.t 138), none⟩] [7, 137])
                (.cond (.t 137) (.seq (.reg [⟨some 139, .mv (.t 7), none⟩,
                   ⟨some 140, .iadr 1 (.t 139) (.c (Value.int IntKind.i64 0)), none⟩,
                   ⟨some 141, .load (none) (.t 140), none⟩,
                   ⟨some 142, .bin .eql (.t 141) (.c (Value.int IntKind.i64 2)), none⟩,
                   ⟨some 143, .mv (.t 142), none⟩,
                   ⟨some 144, .mv (.t 7), some (143, true)⟩,
                   ⟨some 145, .iadr 1 (.t 144) (.c (Value.int IntKind.i64 1)), some (143, true)⟩,
                   ⟨some 146, .load (none) (.t 145), some (143, true)⟩,
                   ⟨some 147, .mv (.t 7), some (143, true)⟩,
                   ⟨some 148, .iadr 1 (.t 147) (.c (Value.int IntKind.i64 2)), some (143, true)⟩,
                   ⟨some 149, .load (none) (.t 148), some (143, true)⟩,
                   ⟨some 150, .bin .eql (.t 146) (.t 149), some (143, true)⟩,
                   ⟨some 151, .pick (.t 143) (.t 150) (.c (Value.bool false)), none⟩,
                   ⟨some 152, .mv (.t 7), none⟩,
                   ⟨some 153, .iadr 1 (.t 152) (.c (Value.int IntKind.i64 1)), none⟩,
                   ⟨some 154, .load (none) (.t 153), none⟩,
                   ⟨some 155, .call 262 [.t 151, .t 154], none⟩,
                   ⟨some 4, .mv (.t 155), none⟩] [4])
                 (.ret))
                 (.skip)))))))))))))))))))))))))))))))
  (.seq (.reg [⟨some 156, .mv (.t 7), none⟩,
    ⟨some 157, .call 263 [.t 156, .c (Value.int IntKind.i64 1)], none⟩,
    ⟨some 158, .call 262 [.t 157, .c (Value.int IntKind.i64 1)], none⟩,
    ⟨some 4, .mv (.t 158), none⟩] [4])
  (.ret))))))))⟩

-- 254 selfstab/syntax.Levels
def m_syntax_Levels : MF := ⟨17, [.tmp 0], true, (
  .seq (.reg [⟨some 0, .mv (.c (Value.slice none 0 0)), none⟩] [])
  (.seq (.reg [⟨some 1, .lit 1 [.v (Value.string ⟨#[]⟩)] [(0, 1, (.c (Value.string ⟨#[124, 124]⟩)))] false, none⟩,
    ⟨some 2, .lit 1 [.v (Value.int .i64 0)] [(0, 1, (.c (Value.int IntKind.i64 42)))] false, none⟩,
    ⟨some 3, .build [.v (Value.slice none 0 0), .v (Value.slice none 0 0)] [(0, 1, (.t 1)), (1, 1, (.t 2))], none⟩,
    ⟨some 4, .lit 1 [.v (Value.string ⟨#[]⟩)] [(0, 1, (.c (Value.string ⟨#[38, 38]⟩)))] false, none⟩,
    ⟨some 5, .lit 1 [.v (Value.int .i64 0)] [(0, 1, (.c (Value.int IntKind.i64 41)))] false, none⟩,
    ⟨some 6, .build [.v (Value.slice none 0 0), .v (Value.slice none 0 0)] [(0, 1, (.t 4)), (1, 1, (.t 5))], none⟩,
    ⟨some 7, .lit 1 [.v (Value.string ⟨#[]⟩), .v (Value.string ⟨#[]⟩), .v (Value.string ⟨#[]⟩), .v (Value.string ⟨#[]⟩), .v (Value.string ⟨#[]⟩), .v (Value.string ⟨#[]⟩)] [(0, 1, (.c (Value.string ⟨#[61, 61]⟩))), (1, 1, (.c (Value.string ⟨#[33, 61]⟩))), (2, 1, (.c (Value.string ⟨#[60]⟩))), (3, 1, (.c (Value.string ⟨#[60, 61]⟩))), (4, 1, (.c (Value.string ⟨#[62]⟩))), (5, 1, (.c (Value.string ⟨#[62, 61]⟩)))] false, none⟩,
    ⟨some 8, .lit 1 [.v (Value.int .i64 0), .v (Value.int .i64 0), .v (Value.int .i64 0), .v (Value.int .i64 0), .v (Value.int .i64 0), .v (Value.int .i64 0)] [(0, 1, (.c (Value.int IntKind.i64 35))), (1, 1, (.c (Value.int IntKind.i64 36))), (2, 1, (.c (Value.int IntKind.i64 37))), (3, 1, (.c (Value.int IntKind.i64 38))), (4, 1, (.c (Value.int IntKind.i64 39))), (5, 1, (.c (Value.int IntKind.i64 40)))] false, none⟩,
    ⟨some 9, .build [.v (Value.slice none 0 0), .v (Value.slice none 0 0)] [(0, 1, (.t 7)), (1, 1, (.t 8))], none⟩,
    ⟨some 10, .lit 1 [.v (Value.string ⟨#[]⟩), .v (Value.string ⟨#[]⟩)] [(0, 1, (.c (Value.string ⟨#[43]⟩))), (1, 1, (.c (Value.string ⟨#[45]⟩)))] false, none⟩,
    ⟨some 11, .lit 1 [.v (Value.int .i64 0), .v (Value.int .i64 0)] [(0, 1, (.c (Value.int IntKind.i64 33))), (1, 1, (.c (Value.int IntKind.i64 34)))] false, none⟩,
    ⟨some 12, .build [.v (Value.slice none 0 0), .v (Value.slice none 0 0)] [(0, 1, (.t 10)), (1, 1, (.t 11))], none⟩,
    ⟨some 13, .lit 1 [.v (Value.string ⟨#[]⟩), .v (Value.string ⟨#[]⟩), .v (Value.string ⟨#[]⟩)] [(0, 1, (.c (Value.string ⟨#[42]⟩))), (1, 1, (.c (Value.string ⟨#[47]⟩))), (2, 1, (.c (Value.string ⟨#[37]⟩)))] false, none⟩,
    ⟨some 14, .lit 1 [.v (Value.int .i64 0), .v (Value.int .i64 0), .v (Value.int .i64 0)] [(0, 1, (.c (Value.int IntKind.i64 30))), (1, 1, (.c (Value.int IntKind.i64 31))), (2, 1, (.c (Value.int IntKind.i64 32)))] false, none⟩,
    ⟨some 15, .build [.v (Value.slice none 0 0), .v (Value.slice none 0 0)] [(0, 1, (.t 13)), (1, 1, (.t 14))], none⟩,
    ⟨some 16, .lit 2 [.v (Value.slice none 0 0), .v (Value.slice none 0 0), .v (Value.slice none 0 0), .v (Value.slice none 0 0), .v (Value.slice none 0 0), .v (Value.slice none 0 0), .v (Value.slice none 0 0), .v (Value.slice none 0 0), .v (Value.slice none 0 0), .v (Value.slice none 0 0)] [(0, 2, (.t 3)), (2, 2, (.t 6)), (4, 2, (.t 9)), (6, 2, (.t 12)), (8, 2, (.t 15))] false, none⟩,
    ⟨some 0, .mv (.t 16), none⟩] [0])
  (.ret)))⟩

-- 255 (*selfstab/syntax.Reader).unary
def m_syntax_Reader_unary : MF := ⟨20, [.tmp 2], false, (
  .seq (.reg [⟨some 2, .mv (.c (Value.slice none 0 0)), none⟩] [0])
  (.seq (.seq (.reg [⟨some 3, .mv (.t 0), none⟩,
    ⟨some 4, .lit 1 [.v (Value.string ⟨#[]⟩), .v (Value.string ⟨#[]⟩)] [(0, 1, (.c (Value.string ⟨#[45]⟩))), (1, 1, (.c (Value.string ⟨#[33]⟩)))] false, none⟩,
    ⟨some 5, .call 195 [.t 3, .t 4], none⟩] [0, 5])
  (.block 0 (.seq (.reg [⟨some 7, .bin .eql (.t 5) (.c (Value.string ⟨#[45]⟩)), none⟩,
     ⟨some 6, .mv (.t 7), none⟩] [0, 5, 6])
   (.cond (.t 6) (.seq (.reg [⟨some 8, .mv (.t 0), none⟩,
      ⟨some 9, .call 255 [.t 8], none⟩,
      ⟨some 10, .lit 1 [.v (Value.slice none 0 0)] [(0, 1, (.t 9))] true, none⟩,
      ⟨some 11, .call 237 [.c (Value.int IntKind.i64 18), .t 10], none⟩,
      ⟨some 2, .mv (.t 11), none⟩] [2])
    (.ret))
    (.seq (.reg [⟨some 13, .bin .eql (.t 5) (.c (Value.string ⟨#[33]⟩)), none⟩,
      ⟨some 12, .mv (.t 13), none⟩] [0, 12])
    (.cond (.t 12) (.seq (.reg [⟨some 14, .mv (.t 0), none⟩,
       ⟨some 15, .call 255 [.t 14], none⟩,
       ⟨some 16, .lit 1 [.v (Value.slice none 0 0)] [(0, 1, (.t 15))] true, none⟩,
       ⟨some 17, .call 237 [.c (Value.int IntKind.i64 19), .t 16], none⟩,
       ⟨some 2, .mv (.t 17), none⟩] [2])
     (.ret))
     (.skip)))))))
  (.seq (.reg [⟨some 18, .mv (.t 0), none⟩,
    ⟨some 19, .call 279 [.t 18], none⟩,
    ⟨some 2, .mv (.t 19), none⟩] [2])
  (.ret))))⟩

-- 256 selfstab/term.End
def m_term_End_L0 : MC :=
  .seq (.seq (.reg [⟨some 8, .mv (.t 5), none⟩,
    ⟨some 9, .bin .gtr (.t 8) (.c (Value.int IntKind.i64 0)), none⟩] [0, 1, 5, 9])
  (.cond (.t 9) (.skip)
   (.exit 0)))
  (.seq (.block 1 (.seq (.seq (.reg [⟨some 12, .mv (.t 1), none⟩,
     ⟨some 13, .mv (.t 0), none⟩,
     ⟨some 14, .len 1 (.t 13), none⟩,
     ⟨some 15, .bin .geq (.t 12) (.t 14), none⟩,
     ⟨some 16, .mv (.t 15), none⟩,
     ⟨some 17, .mv (.t 0), some (16, false)⟩,
     ⟨some 18, .mv (.t 1), some (16, false)⟩,
     ⟨some 19, .iadr 2 (.t 17) (.t 18), some (16, false)⟩,
     ⟨some 20, .fadr 0 (.t 19), some (16, false)⟩,
     ⟨some 21, .load (none) (.t 20), some (16, false)⟩,
     ⟨some 22, .call 260 [.t 21], some (16, false)⟩,
     ⟨some 23, .bin .lss (.t 22) (.c (Value.int IntKind.i64 0)), some (16, false)⟩,
     ⟨some 24, .pick (.t 16) (.c (Value.bool true)) (.t 23), none⟩] [0, 1, 5, 24])
   (.cond (.t 24) (.seq (.reg [⟨some 4, .mv (.c (Value.int IntKind.i64 (-1))), none⟩] [4])
    (.ret))
    (.skip)))
   (.reg [⟨some 25, .mv (.t 5), none⟩,
     ⟨some 26, .mv (.t 0), none⟩,
     ⟨some 27, .mv (.t 1), none⟩,
     ⟨some 28, .iadr 2 (.t 26) (.t 27), none⟩,
     ⟨some 29, .fadr 0 (.t 28), none⟩,
     ⟨some 30, .load (none) (.t 29), none⟩,
     ⟨some 31, .call 260 [.t 30], none⟩,
     ⟨some 32, .bin .sub (.t 31) (.c (Value.int IntKind.i64 1)), none⟩,
     ⟨some 33, .bin .add (.t 25) (.t 32), none⟩,
     ⟨some 5, .mv (.t 33), none⟩] [0, 1, 5])))
  (.reg [⟨some 10, .mv (.t 1), none⟩,
    ⟨some 11, .bin .add (.t 10) (.c (Value.int IntKind.i64 1)), none⟩,
    ⟨some 1, .mv (.t 11), none⟩] [0, 1, 5]))

def m_term_End : MF := ⟨35, [.tmp 4], true, (
  .seq (.reg [⟨some 4, .mv (.c (Value.int IntKind.i64 0)), none⟩] [0, 1])
  (.seq (.seq (.reg [⟨some 6, .mv (.t 1), none⟩,
    ⟨some 7, .bin .lss (.t 6) (.c (Value.int IntKind.i64 0)), none⟩] [0, 1, 7])
  (.cond (.t 7) (.seq (.reg [⟨some 4, .mv (.c (Value.int IntKind.i64 (-1))), none⟩] [4])
   (.ret))
   (.skip)))
  (.seq (.seq (.reg [⟨some 5, .mv (.c (Value.int IntKind.i64 1)), none⟩] [0, 1, 5])
  (.block 0 (.loop [0, 1, 5] m_term_End_L0)))
  (.seq (.reg [⟨some 34, .mv (.t 1), none⟩,
    ⟨some 4, .mv (.t 34), none⟩] [4])
  (.ret)))))⟩

-- 258 selfstab/term.fold
def m_term_fold_L1 : MC :=
  .seq (.reg [⟨some 25, .bin .lss (.t 24) (.t 23), none⟩] [0, 1, 5, 6, 7, 23, 24, 25])
  (.seq (.cond (.t 25) (.skip)
   (.exit 2))
  (.seq (.block 3 (.seq (.reg [⟨some 26, .mv (.t 7), none⟩,
     ⟨some 27, .mv (.t 5), none⟩,
     ⟨some 28, .mv (.t 5), none⟩,
     ⟨some 29, .len 1 (.t 28), none⟩,
     ⟨some 30, .bin .sub (.t 29) (.c (Value.int IntKind.i64 1)), none⟩,
     ⟨some 31, .iadr 1 (.t 27) (.t 30), none⟩,
     ⟨some 32, .load (none) (.t 31), none⟩,
     ⟨some 33, .mx [.t 26, .t 32], none⟩,
     ⟨some 7, .mv (.t 33), none⟩] [0, 1, 5, 6, 7, 23, 24])
   (.reg [⟨some 34, .mv (.t 5), none⟩,
     ⟨some 35, .mv (.t 5), none⟩,
     ⟨some 36, .len 1 (.t 35), none⟩,
     ⟨some 37, .bin .sub (.t 36) (.c (Value.int IntKind.i64 1)), none⟩,
     ⟨some 38, .slc 1 (.t 34) none (some (.t 37)) none, none⟩,
     ⟨some 5, .mv (.t 38), none⟩] [0, 1, 5, 6, 7, 23, 24])))
  (.reg [⟨some 39, .bin .add (.t 24) (.c (Value.int IntKind.i64 1)), none⟩,
    ⟨some 24, .mv (.t 39), none⟩] [0, 1, 5, 6, 7, 23, 24])))

def m_term_fold_L0 : MC :=
  .seq (.seq (.reg [⟨some 14, .mv (.t 6), none⟩,
    ⟨some 15, .bin .geq (.t 14) (.c (Value.int IntKind.i64 0)), none⟩] [0, 1, 5, 6, 15])
  (.cond (.t 15) (.skip)
   (.exit 0)))
  (.seq (.block 1 (.seq (.reg [⟨some 7, .mv (.c (Value.int IntKind.i64 0)), none⟩] [0, 1, 5, 6, 7])
   (.seq (.seq (.reg [⟨some 18, .mv (.t 0), none⟩,
     ⟨some 19, .mv (.t 6), none⟩,
     ⟨some 20, .iadr 2 (.t 18) (.t 19), none⟩,
     ⟨some 21, .fadr 0 (.t 20), none⟩,
     ⟨some 22, .load (none) (.t 21), none⟩,
     ⟨some 23, .call 260 [.t 22], none⟩,
     ⟨some 24, .mv (.c (Value.int IntKind.i64 0)), none⟩] [0, 1, 5, 6, 7, 23, 24])
   (.block 2 (.loop [0, 1, 5, 6, 7, 23, 24] m_term_fold_L1)))
   (.reg [⟨some 40, .mv (.t 5), none⟩,
     ⟨some 41, .mv (.t 1), none⟩,
     ⟨some 42, .mv (.t 0), none⟩,
     ⟨some 43, .mv (.t 6), none⟩,
     ⟨some 44, .iadr 2 (.t 42) (.t 43), none⟩,
     ⟨some 45, .fadr 0 (.t 44), none⟩,
     ⟨some 46, .load (none) (.t 45), none⟩,
     ⟨some 47, .mv (.t 7), none⟩,
     ⟨some 48, .callv (.t 41) [.t 46, .t 47], none⟩,
     ⟨some 49, .lit 1 [.v (Value.int .i64 0)] [(0, 1, (.t 48))] false, none⟩,
     ⟨some 50, .app 1 8 (.t 40) (.t 49), none⟩,
     ⟨some 5, .mv (.t 50), none⟩] [0, 1, 5, 6]))))
  (.reg [⟨some 16, .mv (.t 6), none⟩,
    ⟨some 17, .bin .sub (.t 16) (.c (Value.int IntKind.i64 1)), none⟩,
    ⟨some 6, .mv (.t 17), none⟩] [0, 1, 5, 6]))

def m_term_fold : MF := ⟨54, [.tmp 4], true, (
  .seq (.reg [⟨some 4, .mv (.c (Value.int IntKind.i64 0)), none⟩] [0, 1])
  (.seq (.seq (.reg [⟨some 8, .mv (.t 0), none⟩,
    ⟨some 9, .call 238 [.t 8], none⟩,
    ⟨some 10, .un .not (.t 9), none⟩] [0, 1, 10])
  (.cond (.t 10) (.seq (.reg [⟨some 4, .mv (.c (Value.int IntKind.i64 0)), none⟩] [4])
   (.ret))
   (.skip)))
  (.seq (.reg [⟨some 5, .mv (.c (Value.slice none 0 0)), none⟩] [0, 1, 5])
  (.seq (.seq (.reg [⟨some 11, .mv (.t 0), none⟩,
    ⟨some 12, .len 1 (.t 11), none⟩,
    ⟨some 13, .bin .sub (.t 12) (.c (Value.int IntKind.i64 1)), none⟩,
    ⟨some 6, .mv (.t 13), none⟩] [0, 1, 5, 6])
  (.block 0 (.loop [0, 1, 5, 6] m_term_fold_L0)))
  (.seq (.reg [⟨some 51, .mv (.t 5), none⟩,
    ⟨some 52, .iadr 1 (.t 51) (.c (Value.int IntKind.i64 0)), none⟩,
    ⟨some 53, .load (none) (.t 52), none⟩,
    ⟨some 4, .mv (.t 53), none⟩] [4])
  (.ret))))))⟩

-- 257 selfstab/term.Depth$1
def m_term_Depth_1 : MF := ⟨7, [.tmp 4], true, (
  .seq (.reg [⟨some 4, .mv (.c (Value.int IntKind.i64 0)), none⟩] [1])
  (.seq (.reg [⟨some 5, .mv (.t 1), none⟩,
    ⟨some 6, .bin .add (.t 5) (.c (Value.int IntKind.i64 1)), none⟩,
    ⟨some 4, .mv (.t 6), none⟩] [4])
  (.ret)))⟩

-- 259 selfstab/term.Nest$1
def m_term_Nest_1 : MF := ⟨10, [.tmp 4], true, (
  .seq (.reg [⟨some 4, .mv (.c (Value.int IntKind.i64 0)), none⟩] [0, 1])
  (.seq (.seq (.reg [⟨some 5, .mv (.t 0), none⟩,
    ⟨some 6, .call 280 [.t 5], none⟩] [1, 6])
  (.cond (.t 6) (.reg [⟨some 7, .mv (.t 1), none⟩,
     ⟨some 8, .bin .add (.t 7) (.c (Value.int IntKind.i64 1)), none⟩,
     ⟨some 1, .mv (.t 8), none⟩] [1])
   (.skip)))
  (.seq (.reg [⟨some 9, .mv (.t 1), none⟩,
    ⟨some 4, .mv (.t 9), none⟩] [4])
  (.ret))))⟩

-- 280 selfstab/term.aggregate
def m_term_aggregate : MF := ⟨9, [.tmp 2], true, (
  .seq (.reg [⟨some 2, .mv (.c (Value.bool false)), none⟩] [0])
  (.seq (.reg [⟨some 3, .mv (.t 0), none⟩,
    ⟨some 4, .bin .geq (.t 3) (.c (Value.int IntKind.i64 20)), none⟩,
    ⟨some 5, .mv (.t 4), none⟩,
    ⟨some 6, .mv (.t 0), some (5, true)⟩,
    ⟨some 7, .bin .leq (.t 6) (.c (Value.int IntKind.i64 29)), some (5, true)⟩,
    ⟨some 8, .pick (.t 5) (.t 7) (.c (Value.bool false)), none⟩,
    ⟨some 2, .mv (.t 8), none⟩] [2])
  (.ret)))⟩

-- 261 (*selfstab/types.checker).operands
def m_types_checker_operands_L0 : MC :=
  .seq (.reg [⟨some 14, .bin .lss (.t 13) (.t 12), none⟩] [0, 2, 7, 12, 13, 14])
  (.seq (.cond (.t 14) (.skip)
   (.exit 0))
  (.seq (.block 1 (.seq (.reg [⟨some 15, .mv (.t 13), none⟩,
     ⟨some 8, .mv (.t 15), none⟩] [0, 2, 7, 8, 12, 13])
   (.reg [⟨some 16, .mv (.t 7), none⟩,
     ⟨some 17, .mv (.t 8), none⟩,
     ⟨some 18, .mv (.t 0), none⟩,
     ⟨some 19, .mv (.t 2), none⟩,
     ⟨some 20, .call 242 [.t 18, .t 19], none⟩,
     ⟨some 21, .iadr 1 (.t 16) (.t 17), none⟩,
     ⟨none, .store 1 (.t 21) (.t 20), none⟩] [0, 2, 7, 12, 13])))
  (.reg [⟨some 22, .bin .add (.t 13) (.c (Value.int IntKind.i64 1)), none⟩,
    ⟨some 13, .mv (.t 22), none⟩] [0, 2, 7, 12, 13])))

def m_types_checker_operands : MF := ⟨24, [.tmp 6], false, (
  .seq (.reg [⟨some 6, .mv (.c (Value.slice none 0 0)), none⟩] [0, 1, 2])
  (.seq (.reg [⟨some 9, .mv (.t 1), none⟩,
    ⟨some 10, .mks 1 8 [.v (Value.int .i64 0)] (.t 9) (.t 9), none⟩,
    ⟨some 7, .mv (.t 10), none⟩] [0, 2, 7])
  (.seq (.seq (.reg [⟨some 11, .mv (.t 7), none⟩,
    ⟨some 12, .len 1 (.t 11), none⟩,
    ⟨some 13, .mv (.c (Value.int IntKind.i64 0)), none⟩] [0, 2, 7, 12, 13])
  (.block 0 (.loop [0, 2, 7, 12, 13] m_types_checker_operands_L0)))
  (.seq (.reg [⟨some 23, .mv (.t 7), none⟩,
    ⟨some 6, .mv (.t 23), none⟩] [6])
  (.ret)))))⟩

-- 260 selfstab/term.Arity
def m_term_Arity : MF := ⟨19, [.tmp 2], true, (
  .seq (.reg [⟨some 2, .mv (.c (Value.int IntKind.i64 0)), none⟩] [0])
  (.seq (.block 0 (.seq (.reg [⟨some 4, .mv (.t 0), none⟩,
     ⟨some 5, .bin .lss (.t 4) (.c (Value.int IntKind.i64 1)), none⟩,
     ⟨some 6, .mv (.t 5), none⟩,
     ⟨some 7, .mv (.t 0), some (6, false)⟩,
     ⟨some 8, .bin .gtr (.t 7) (.c (Value.int IntKind.i64 43)), some (6, false)⟩,
     ⟨some 9, .pick (.t 6) (.c (Value.bool true)) (.t 8), none⟩,
     ⟨some 3, .mv (.t 9), none⟩] [0, 3])
   (.cond (.t 3) (.seq (.reg [⟨some 2, .mv (.c (Value.int IntKind.i64 (-1))), none⟩] [2])
    (.ret))
    (.seq (.reg [⟨some 11, .mv (.t 0), none⟩,
      ⟨some 12, .bin .leq (.t 11) (.c (Value.int IntKind.i64 17)), none⟩,
      ⟨some 10, .mv (.t 12), none⟩] [0, 10])
    (.cond (.t 10) (.seq (.reg [⟨some 2, .mv (.c (Value.int IntKind.i64 0)), none⟩] [2])
     (.ret))
     (.seq (.reg [⟨some 14, .mv (.t 0), none⟩,
       ⟨some 15, .bin .leq (.t 14) (.c (Value.int IntKind.i64 29)), none⟩,
       ⟨some 13, .mv (.t 15), none⟩] [0, 13])
     (.cond (.t 13) (.seq (.reg [⟨some 2, .mv (.c (Value.int IntKind.i64 1)), none⟩] [2])
      (.ret))
      (.seq (.reg [⟨some 17, .mv (.t 0), none⟩,
        ⟨some 18, .bin .leq (.t 17) (.c (Value.int IntKind.i64 42)), none⟩,
        ⟨some 16, .mv (.t 18), none⟩] [16])
      (.cond (.t 16) (.seq (.reg [⟨some 2, .mv (.c (Value.int IntKind.i64 2)), none⟩] [2])
       (.ret))
       (.skip))))))))))
  (.seq (.reg [⟨some 2, .mv (.c (Value.int IntKind.i64 3)), none⟩] [2])
  (.ret))))⟩

-- 262 selfstab/types.when
def m_types_when : MF := ⟨7, [.tmp 4], true, (
  .seq (.reg [⟨some 4, .mv (.c (Value.int IntKind.i64 0)), none⟩] [0, 1])
  (.seq (.seq (.reg [⟨some 5, .mv (.t 0), none⟩] [1, 5])
  (.cond (.t 5) (.seq (.reg [⟨some 6, .mv (.t 1), none⟩,
     ⟨some 4, .mv (.t 6), none⟩] [4])
   (.ret))
   (.skip)))
  (.seq (.reg [⟨some 4, .mv (.c (Value.int IntKind.i64 0)), none⟩] [4])
  (.ret))))⟩

-- 263 selfstab/types.all
def m_types_all_L0 : MC :=
  .seq (.reg [⟨some 10, .bin .lss (.t 9) (.t 8), none⟩] [1, 7, 8, 9, 10])
  (.seq (.cond (.t 10) (.skip)
   (.exit 0))
  (.seq (.block 1 (.seq (.reg [⟨some 11, .iadr 1 (.t 7) (.t 9), none⟩,
     ⟨some 12, .load (none) (.t 11), none⟩,
     ⟨some 6, .mv (.t 12), none⟩] [1, 6, 7, 8, 9])
   (.seq (.reg [⟨some 13, .mv (.t 6), none⟩,
     ⟨some 14, .mv (.t 1), none⟩,
     ⟨some 15, .bin .neq (.t 13) (.t 14), none⟩] [1, 7, 8, 9, 15])
   (.cond (.t 15) (.seq (.reg [⟨some 4, .mv (.c (Value.bool false)), none⟩] [4])
    (.ret))
    (.skip)))))
  (.reg [⟨some 16, .bin .add (.t 9) (.c (Value.int IntKind.i64 1)), none⟩,
    ⟨some 9, .mv (.t 16), none⟩] [1, 7, 8, 9])))

def m_types_all : MF := ⟨17, [.tmp 4], true, (
  .seq (.reg [⟨some 4, .mv (.c (Value.bool false)), none⟩] [0, 1])
  (.seq (.seq (.reg [⟨some 7, .mv (.t 0), none⟩,
    ⟨some 8, .len 1 (.t 7), none⟩,
    ⟨some 9, .mv (.c (Value.int IntKind.i64 0)), none⟩] [1, 7, 8, 9])
  (.block 0 (.loop [1, 7, 8, 9] m_types_all_L0)))
  (.seq (.reg [⟨some 4, .mv (.c (Value.bool true)), none⟩] [4])
  (.ret))))⟩

-- 279 (*selfstab/syntax.Reader).primary
def m_syntax_Reader_primary : MF := ⟨75, [.tmp 2], false, (
  .seq (.reg [⟨some 2, .mv (.c (Value.slice none 0 0)), none⟩] [0])
  (.seq (.seq (.reg [⟨some 8, .mv (.t 0), none⟩,
    ⟨some 9, .call 234 [.t 8], none⟩] [0, 9])
  (.cond (.t 9) (.seq (.reg [⟨some 10, .mv (.t 0), none⟩,
     ⟨some 11, .call 199 [.t 10, .c (Value.int IntKind.i64 0), .c (Value.int IntKind.i64 1073741824)], none⟩,
     ⟨some 12, .build [.v (Value.int .i64 0), .v (Value.int .i64 0)] [(0, 1, (.c (Value.int IntKind.i64 1))), (1, 1, (.t 11))], none⟩,
     ⟨some 13, .lit 2 [.v (Value.int .i64 0), .v (Value.int .i64 0)] [(0, 2, (.t 12))] false, none⟩,
     ⟨some 2, .mv (.t 13), none⟩] [2])
   (.ret))
   (.skip)))
  (.seq (.seq (.reg [⟨some 14, .mv (.t 0), none⟩,
    ⟨some 15, .call 290 [], none⟩,
    ⟨some 16, .ext (.t 15) 0, none⟩,
    ⟨some 17, .ext (.t 15) 1, none⟩,
    ⟨some 18, .call 291 [.t 14, .t 16, .t 17], none⟩,
    ⟨some 3, .mv (.t 18), none⟩] [0, 3])
  (.seq (.reg [⟨some 19, .mv (.t 3), none⟩,
    ⟨some 20, .bin .neq (.t 19) (.c (Value.int IntKind.i64 0)), none⟩] [0, 3, 20])
  (.cond (.t 20) (.seq (.reg [⟨some 21, .mv (.t 3), none⟩,
     ⟨some 22, .call 237 [.t 21, .c (Value.slice none 0 0)], none⟩,
     ⟨some 2, .mv (.t 22), none⟩] [2])
   (.ret))
   (.skip))))
  (.seq (.seq (.reg [⟨some 23, .mv (.t 0), none⟩,
    ⟨some 24, .call 292 [], none⟩,
    ⟨some 25, .ext (.t 24) 0, none⟩,
    ⟨some 26, .ext (.t 24) 1, none⟩,
    ⟨some 27, .call 291 [.t 23, .t 25, .t 26], none⟩,
    ⟨some 4, .mv (.t 27), none⟩] [0, 4])
  (.seq (.reg [⟨some 28, .mv (.t 4), none⟩,
    ⟨some 29, .bin .neq (.t 28) (.c (Value.int IntKind.i64 0)), none⟩] [0, 4, 29])
  (.cond (.t 29) (.seq (.reg [⟨some 30, .mv (.t 0), none⟩,
     ⟨some 31, .call 166 [.t 30, .c (Value.string ⟨#[40]⟩)], none⟩] [0, 4])
   (.seq (.reg [⟨some 32, .mv (.t 0), none⟩,
     ⟨some 33, .call 201 [.t 32], none⟩,
     ⟨some 5, .mv (.t 33), none⟩] [0, 4, 5])
   (.seq (.reg [⟨some 34, .mv (.t 0), none⟩,
     ⟨some 35, .call 166 [.t 34, .c (Value.string ⟨#[41]⟩)], none⟩] [4, 5])
   (.seq (.reg [⟨some 36, .mv (.t 4), none⟩,
     ⟨some 37, .mv (.t 5), none⟩,
     ⟨some 38, .lit 1 [.v (Value.slice none 0 0)] [(0, 1, (.t 37))] true, none⟩,
     ⟨some 39, .call 237 [.t 36, .t 38], none⟩,
     ⟨some 2, .mv (.t 39), none⟩] [2])
   (.ret)))))
   (.skip))))
  (.seq (.seq (.reg [⟨some 40, .mv (.t 0), none⟩,
    ⟨some 41, .lit 1 [.v (Value.string ⟨#[]⟩)] [(0, 1, (.c (Value.string ⟨#[40]⟩)))] false, none⟩,
    ⟨some 42, .call 195 [.t 40, .t 41], none⟩,
    ⟨some 43, .bin .neq (.t 42) (.c (Value.string ⟨#[]⟩)), none⟩] [0, 43])
  (.cond (.t 43) (.seq (.reg [⟨some 44, .mv (.t 0), none⟩,
     ⟨some 45, .call 201 [.t 44], none⟩,
     ⟨some 6, .mv (.t 45), none⟩] [0, 6])
   (.seq (.reg [⟨some 46, .mv (.t 0), none⟩,
     ⟨some 47, .call 166 [.t 46, .c (Value.string ⟨#[41]⟩)], none⟩] [6])
   (.seq (.reg [⟨some 48, .mv (.t 6), none⟩,
     ⟨some 2, .mv (.t 48), none⟩] [2])
   (.ret))))
   (.skip)))
  (.seq (.seq (.reg [⟨some 49, .mv (.t 0), none⟩,
    ⟨some 50, .lit 1 [.v (Value.string ⟨#[]⟩)] [(0, 1, (.c (Value.string ⟨#[113]⟩)))] false, none⟩,
    ⟨some 51, .call 195 [.t 49, .t 50], none⟩,
    ⟨some 52, .bin .eql (.t 51) (.c (Value.string ⟨#[]⟩)), none⟩] [0, 52])
  (.cond (.t 52) (.seq (.reg [⟨some 53, .mv (.t 0), none⟩,
     ⟨some 54, .call 202 [.t 53], none⟩,
     ⟨some 55, .build [.v (Value.int .i64 0), .v (Value.int .i64 0)] [(0, 1, (.c (Value.int IntKind.i64 5))), (1, 1, (.t 54))], none⟩,
     ⟨some 56, .lit 2 [.v (Value.int .i64 0), .v (Value.int .i64 0)] [(0, 2, (.t 55))] false, none⟩,
     ⟨some 2, .mv (.t 56), none⟩] [2])
   (.ret))
   (.skip)))
  (.seq (.seq (.reg [⟨some 57, .mv (.t 0), none⟩,
    ⟨some 58, .lit 1 [.v (Value.string ⟨#[]⟩)] [(0, 1, (.c (Value.string ⟨#[46]⟩)))] false, none⟩,
    ⟨some 59, .call 195 [.t 57, .t 58], none⟩,
    ⟨some 60, .bin .eql (.t 59) (.c (Value.string ⟨#[]⟩)), none⟩] [0, 60])
  (.cond (.t 60) (.seq (.reg [⟨some 61, .call 237 [.c (Value.int IntKind.i64 11), .c (Value.slice none 0 0)], none⟩,
     ⟨some 2, .mv (.t 61), none⟩] [2])
   (.ret))
   (.skip)))
  (.seq (.seq (.reg [⟨some 62, .mv (.t 0), none⟩,
    ⟨some 63, .call 293 [], none⟩,
    ⟨some 64, .ext (.t 63) 0, none⟩,
    ⟨some 65, .ext (.t 63) 1, none⟩,
    ⟨some 66, .call 291 [.t 62, .t 64, .t 65], none⟩,
    ⟨some 7, .mv (.t 66), none⟩] [0, 7])
  (.seq (.reg [⟨some 67, .mv (.t 7), none⟩,
    ⟨some 68, .bin .neq (.t 67) (.c (Value.int IntKind.i64 0)), none⟩] [0, 7, 68])
  (.cond (.t 68) (.seq (.reg [⟨some 69, .mv (.t 7), none⟩,
     ⟨some 70, .call 237 [.t 69, .c (Value.slice none 0 0)], none⟩,
     ⟨some 2, .mv (.t 70), none⟩] [2])
   (.ret))
   (.skip))))
  (.seq (.reg [⟨some 71, .mv (.t 0), none⟩,
    ⟨some 72, .call 202 [.t 71], none⟩,
    ⟨some 73, .build [.v (Value.int .i64 0), .v (Value.int .i64 0)] [(0, 1, (.c (Value.int IntKind.i64 12))), (1, 1, (.t 72))], none⟩,
    ⟨some 74, .lit 2 [.v (Value.int .i64 0), .v (Value.int .i64 0)] [(0, 2, (.t 73))] false, none⟩,
    ⟨some 2, .mv (.t 74), none⟩] [2])
  (.ret))))))))))⟩

-- 291 (*selfstab/syntax.Reader).pick
def m_syntax_Reader_pick : MF := ⟨19, [.tmp 6], false, (
  .seq (.reg [⟨some 6, .mv (.c (Value.int IntKind.i64 0)), none⟩] [0, 1, 2])
  (.seq (.seq (.reg [⟨some 8, .mv (.t 0), none⟩,
    ⟨some 9, .mv (.t 1), none⟩,
    ⟨some 10, .call 195 [.t 8, .t 9], none⟩,
    ⟨some 7, .mv (.t 10), none⟩] [1, 2, 7])
  (.seq (.reg [⟨some 11, .mv (.t 7), none⟩,
    ⟨some 12, .bin .neq (.t 11) (.c (Value.string ⟨#[]⟩)), none⟩] [1, 2, 7, 12])
  (.cond (.t 12) (.seq (.reg [⟨some 13, .mv (.t 2), none⟩,
     ⟨some 14, .mv (.t 1), none⟩,
     ⟨some 15, .mv (.t 7), none⟩,
     ⟨some 16, .call 233 [.t 14, .t 15], none⟩,
     ⟨some 17, .iadr 1 (.t 13) (.t 16), none⟩,
     ⟨some 18, .load (none) (.t 17), none⟩,
     ⟨some 6, .mv (.t 18), none⟩] [6])
   (.ret))
   (.skip))))
  (.seq (.reg [⟨some 6, .mv (.c (Value.int IntKind.i64 0)), none⟩] [6])
  (.ret))))⟩

-- 290 selfstab/syntax.Words
def m_syntax_Words : MF := ⟨4, [.tmp 0, .tmp 1], true, (
  .seq (.reg [⟨some 0, .mv (.c (Value.slice none 0 0)), none⟩,
    ⟨some 1, .mv (.c (Value.slice none 0 0)), none⟩] [])
  (.seq (.reg [⟨some 2, .lit 1 [.v (Value.string ⟨#[]⟩), .v (Value.string ⟨#[]⟩), .v (Value.string ⟨#[]⟩), .v (Value.string ⟨#[]⟩), .v (Value.string ⟨#[]⟩), .v (Value.string ⟨#[]⟩), .v (Value.string ⟨#[]⟩), .v (Value.string ⟨#[]⟩)] [(0, 1, (.c (Value.string ⟨#[116, 114, 117, 101]⟩))), (1, 1, (.c (Value.string ⟨#[102, 97, 108, 115, 101]⟩))), (2, 1, (.c (Value.string ⟨#[110, 111, 110, 101]⟩))), (3, 1, (.c (Value.string ⟨#[110]⟩))), (4, 1, (.c (Value.string ⟨#[105, 100, 115]⟩))), (5, 1, (.c (Value.string ⟨#[105, 100]⟩))), (6, 1, (.c (Value.string ⟨#[100, 101, 103]⟩))), (7, 1, (.c (Value.string ⟨#[114, 111, 111, 116]⟩)))] false, none⟩,
    ⟨some 3, .lit 1 [.v (Value.int .i64 0), .v (Value.int .i64 0), .v (Value.int .i64 0), .v (Value.int .i64 0), .v (Value.int .i64 0), .v (Value.int .i64 0), .v (Value.int .i64 0), .v (Value.int .i64 0)] [(0, 1, (.c (Value.int IntKind.i64 2))), (1, 1, (.c (Value.int IntKind.i64 3))), (2, 1, (.c (Value.int IntKind.i64 4))), (3, 1, (.c (Value.int IntKind.i64 6))), (4, 1, (.c (Value.int IntKind.i64 7))), (5, 1, (.c (Value.int IntKind.i64 8))), (6, 1, (.c (Value.int IntKind.i64 9))), (7, 1, (.c (Value.int IntKind.i64 10)))] false, none⟩,
    ⟨some 0, .mv (.t 2), none⟩,
    ⟨some 1, .mv (.t 3), none⟩] [0, 1])
  (.ret)))⟩

-- 292 selfstab/syntax.Aggregates
def m_syntax_Aggregates : MF := ⟨4, [.tmp 0, .tmp 1], true, (
  .seq (.reg [⟨some 0, .mv (.c (Value.slice none 0 0)), none⟩,
    ⟨some 1, .mv (.c (Value.slice none 0 0)), none⟩] [])
  (.seq (.reg [⟨some 2, .lit 1 [.v (Value.string ⟨#[]⟩), .v (Value.string ⟨#[]⟩), .v (Value.string ⟨#[]⟩), .v (Value.string ⟨#[]⟩), .v (Value.string ⟨#[]⟩), .v (Value.string ⟨#[]⟩), .v (Value.string ⟨#[]⟩), .v (Value.string ⟨#[]⟩), .v (Value.string ⟨#[]⟩), .v (Value.string ⟨#[]⟩)] [(0, 1, (.c (Value.string ⟨#[97, 108, 108]⟩))), (1, 1, (.c (Value.string ⟨#[115, 111, 109, 101]⟩))), (2, 1, (.c (Value.string ⟨#[99, 111, 117, 110, 116]⟩))), (3, 1, (.c (Value.string ⟨#[102, 105, 114, 115, 116]⟩))), (4, 1, (.c (Value.string ⟨#[109, 105, 110]⟩))), (5, 1, (.c (Value.string ⟨#[109, 97, 120]⟩))), (6, 1, (.c (Value.string ⟨#[115, 117, 109]⟩))), (7, 1, (.c (Value.string ⟨#[109, 101, 120]⟩))), (8, 1, (.c (Value.string ⟨#[115, 101, 99, 111, 110, 100]⟩))), (9, 1, (.c (Value.string ⟨#[104, 101, 97, 100]⟩)))] false, none⟩,
    ⟨some 3, .lit 1 [.v (Value.int .i64 0), .v (Value.int .i64 0), .v (Value.int .i64 0), .v (Value.int .i64 0), .v (Value.int .i64 0), .v (Value.int .i64 0), .v (Value.int .i64 0), .v (Value.int .i64 0), .v (Value.int .i64 0), .v (Value.int .i64 0)] [(0, 1, (.c (Value.int IntKind.i64 20))), (1, 1, (.c (Value.int IntKind.i64 21))), (2, 1, (.c (Value.int IntKind.i64 22))), (3, 1, (.c (Value.int IntKind.i64 23))), (4, 1, (.c (Value.int IntKind.i64 24))), (5, 1, (.c (Value.int IntKind.i64 25))), (6, 1, (.c (Value.int IntKind.i64 26))), (7, 1, (.c (Value.int IntKind.i64 27))), (8, 1, (.c (Value.int IntKind.i64 28))), (9, 1, (.c (Value.int IntKind.i64 29)))] false, none⟩,
    ⟨some 0, .mv (.t 2), none⟩,
    ⟨some 1, .mv (.t 3), none⟩] [0, 1])
  (.ret)))⟩

-- 293 selfstab/syntax.Fields
def m_syntax_Fields : MF := ⟨4, [.tmp 0, .tmp 1], true, (
  .seq (.reg [⟨some 0, .mv (.c (Value.slice none 0 0)), none⟩,
    ⟨some 1, .mv (.c (Value.slice none 0 0)), none⟩] [])
  (.seq (.reg [⟨some 2, .lit 1 [.v (Value.string ⟨#[]⟩), .v (Value.string ⟨#[]⟩), .v (Value.string ⟨#[]⟩), .v (Value.string ⟨#[]⟩), .v (Value.string ⟨#[]⟩)] [(0, 1, (.c (Value.string ⟨#[105, 100]⟩))), (1, 1, (.c (Value.string ⟨#[100, 101, 103]⟩))), (2, 1, (.c (Value.string ⟨#[114, 111, 111, 116]⟩))), (3, 1, (.c (Value.string ⟨#[119, 101, 105, 103, 104, 116]⟩))), (4, 1, (.c (Value.string ⟨#[98, 97, 99, 107]⟩)))] false, none⟩,
    ⟨some 3, .lit 1 [.v (Value.int .i64 0), .v (Value.int .i64 0), .v (Value.int .i64 0), .v (Value.int .i64 0), .v (Value.int .i64 0)] [(0, 1, (.c (Value.int IntKind.i64 13))), (1, 1, (.c (Value.int IntKind.i64 14))), (2, 1, (.c (Value.int IntKind.i64 15))), (3, 1, (.c (Value.int IntKind.i64 16))), (4, 1, (.c (Value.int IntKind.i64 17)))] false, none⟩,
    ⟨some 0, .mv (.t 2), none⟩,
    ⟨some 1, .mv (.t 3), none⟩] [0, 1])
  (.ret)))⟩

def fnsL : List (Nat × MF) :=
  [(117, m_selfstablaw34_ClusterText),
   (115, m_program_Parse),
   (114, m_cluster_Text),
   (37, m_selfstabref34_Vars),
   (58, m_selfstabworld_Within),
   (2, m_selfstablaw34_known),
   (116, m_selfstabref34_Text),
   (136, m_syntax_Open),
   (173, m_program_reader_all),
   (179, m_types_Check),
   (64, m_selfstabref23_Truth),
   (65, m_selfstabref23_Pointer),
   (31, m_selfstabworld_Net_Tree),
   (5, m_cluster_Legit),
   (11, m_selfstablaw34_sameInts),
   (9, m_cluster_Heads),
   (32, m_graph_Valid),
   (43, m_shape_At),
   (163, m_lexer_Scan),
   (166, m_syntax_Reader_Wants),
   (167, m_syntax_Reader_Fresh),
   (168, m_program_reader_word),
   (169, m_program_reader_variable),
   (170, m_program_reader_rule),
   (171, m_syntax_Reader_Done),
   (172, m_syntax_Reader_Fail),
   (174, m_types_ranged),
   (175, m_lexer_Name),
   (176, m_types_named),
   (177, m_types_formed),
   (178, m_types_typed),
   (56, m_selfstabworld_Net_nodes),
   (59, m_selfstabworld_Net_link),
   (57, m_selfstabworld_at),
   (34, m_cluster_configuration),
   (36, m_slices_IndexFunc_api_Link_api_Link),
   (35, m_cluster_Legit_1),
   (62, m_shape_Holds),
   (193, m_lexer_skip),
   (194, m_lexer_next),
   (195, m_syntax_Reader_Takes),
   (196, m_syntax_Reader_ahead),
   (197, m_slices_Contains_string_string),
   (198, m_syntax_Reader_Sees),
   (199, m_syntax_Reader_Number),
   (200, m_program_reader_bound),
   (201, m_syntax_Reader_Choice),
   (202, m_syntax_Reader_Variable),
   (203, m_syntax_Reader_Place),
   (204, m_types_kind),
   (205, m_types_within),
   (206, m_lexer_letter),
   (208, m_lexer_while),
   (207, m_lexer_inside),
   (209, m_lexer_Reserved),
   (210, m_term_Valid),
   (211, m_types_of),
   (82, m_selfstabworld_linked),
   (3, m_cluster_Fit),
   (226, m_lexer_blank),
   (227, m_lexer_skip_1),
   (228, m_lexer_digit),
   (233, m_slices_Index_string_string),
   (234, m_syntax_Reader_Counts),
   (235, m_syntax_Reader_Follows),
   (236, m_syntax_Reader_level),
   (237, m_syntax_with),
   (238, m_term_one),
   (239, m_term_Depth),
   (240, m_term_Nest),
   (241, m_term_limit),
   (242, m_types_checker_read),
   (254, m_syntax_Levels),
   (255, m_syntax_Reader_unary),
   (256, m_term_End),
   (258, m_term_fold),
   (257, m_term_Depth_1),
   (259, m_term_Nest_1),
   (280, m_term_aggregate),
   (261, m_types_checker_operands),
   (260, m_term_Arity),
   (262, m_types_when),
   (263, m_types_all),
   (279, m_syntax_Reader_primary),
   (291, m_syntax_Reader_pick),
   (290, m_syntax_Words),
   (292, m_syntax_Aggregates),
   (293, m_syntax_Fields)]
def prgF (g : Nat) : Option MF := (fnsL.find? (·.1 = g)).map (·.2)
@[simp] theorem prgF_117 : prgF 117 = some m_selfstablaw34_ClusterText := rfl
@[simp] theorem prgF_115 : prgF 115 = some m_program_Parse := rfl
@[simp] theorem prgF_114 : prgF 114 = some m_cluster_Text := rfl
@[simp] theorem prgF_37 : prgF 37 = some m_selfstabref34_Vars := rfl
@[simp] theorem prgF_58 : prgF 58 = some m_selfstabworld_Within := rfl
@[simp] theorem prgF_2 : prgF 2 = some m_selfstablaw34_known := rfl
@[simp] theorem prgF_116 : prgF 116 = some m_selfstabref34_Text := rfl
@[simp] theorem prgF_136 : prgF 136 = some m_syntax_Open := rfl
@[simp] theorem prgF_173 : prgF 173 = some m_program_reader_all := rfl
@[simp] theorem prgF_179 : prgF 179 = some m_types_Check := rfl
@[simp] theorem prgF_64 : prgF 64 = some m_selfstabref23_Truth := rfl
@[simp] theorem prgF_65 : prgF 65 = some m_selfstabref23_Pointer := rfl
@[simp] theorem prgF_31 : prgF 31 = some m_selfstabworld_Net_Tree := rfl
@[simp] theorem prgF_5 : prgF 5 = some m_cluster_Legit := rfl
@[simp] theorem prgF_11 : prgF 11 = some m_selfstablaw34_sameInts := rfl
@[simp] theorem prgF_9 : prgF 9 = some m_cluster_Heads := rfl
@[simp] theorem prgF_32 : prgF 32 = some m_graph_Valid := rfl
@[simp] theorem prgF_43 : prgF 43 = some m_shape_At := rfl
@[simp] theorem prgF_163 : prgF 163 = some m_lexer_Scan := rfl
@[simp] theorem prgF_166 : prgF 166 = some m_syntax_Reader_Wants := rfl
@[simp] theorem prgF_167 : prgF 167 = some m_syntax_Reader_Fresh := rfl
@[simp] theorem prgF_168 : prgF 168 = some m_program_reader_word := rfl
@[simp] theorem prgF_169 : prgF 169 = some m_program_reader_variable := rfl
@[simp] theorem prgF_170 : prgF 170 = some m_program_reader_rule := rfl
@[simp] theorem prgF_171 : prgF 171 = some m_syntax_Reader_Done := rfl
@[simp] theorem prgF_172 : prgF 172 = some m_syntax_Reader_Fail := rfl
@[simp] theorem prgF_174 : prgF 174 = some m_types_ranged := rfl
@[simp] theorem prgF_175 : prgF 175 = some m_lexer_Name := rfl
@[simp] theorem prgF_176 : prgF 176 = some m_types_named := rfl
@[simp] theorem prgF_177 : prgF 177 = some m_types_formed := rfl
@[simp] theorem prgF_178 : prgF 178 = some m_types_typed := rfl
@[simp] theorem prgF_56 : prgF 56 = some m_selfstabworld_Net_nodes := rfl
@[simp] theorem prgF_59 : prgF 59 = some m_selfstabworld_Net_link := rfl
@[simp] theorem prgF_57 : prgF 57 = some m_selfstabworld_at := rfl
@[simp] theorem prgF_34 : prgF 34 = some m_cluster_configuration := rfl
@[simp] theorem prgF_36 : prgF 36 = some m_slices_IndexFunc_api_Link_api_Link := rfl
@[simp] theorem prgF_35 : prgF 35 = some m_cluster_Legit_1 := rfl
@[simp] theorem prgF_62 : prgF 62 = some m_shape_Holds := rfl
@[simp] theorem prgF_193 : prgF 193 = some m_lexer_skip := rfl
@[simp] theorem prgF_194 : prgF 194 = some m_lexer_next := rfl
@[simp] theorem prgF_195 : prgF 195 = some m_syntax_Reader_Takes := rfl
@[simp] theorem prgF_196 : prgF 196 = some m_syntax_Reader_ahead := rfl
@[simp] theorem prgF_197 : prgF 197 = some m_slices_Contains_string_string := rfl
@[simp] theorem prgF_198 : prgF 198 = some m_syntax_Reader_Sees := rfl
@[simp] theorem prgF_199 : prgF 199 = some m_syntax_Reader_Number := rfl
@[simp] theorem prgF_200 : prgF 200 = some m_program_reader_bound := rfl
@[simp] theorem prgF_201 : prgF 201 = some m_syntax_Reader_Choice := rfl
@[simp] theorem prgF_202 : prgF 202 = some m_syntax_Reader_Variable := rfl
@[simp] theorem prgF_203 : prgF 203 = some m_syntax_Reader_Place := rfl
@[simp] theorem prgF_204 : prgF 204 = some m_types_kind := rfl
@[simp] theorem prgF_205 : prgF 205 = some m_types_within := rfl
@[simp] theorem prgF_206 : prgF 206 = some m_lexer_letter := rfl
@[simp] theorem prgF_208 : prgF 208 = some m_lexer_while := rfl
@[simp] theorem prgF_207 : prgF 207 = some m_lexer_inside := rfl
@[simp] theorem prgF_209 : prgF 209 = some m_lexer_Reserved := rfl
@[simp] theorem prgF_210 : prgF 210 = some m_term_Valid := rfl
@[simp] theorem prgF_211 : prgF 211 = some m_types_of := rfl
@[simp] theorem prgF_82 : prgF 82 = some m_selfstabworld_linked := rfl
@[simp] theorem prgF_3 : prgF 3 = some m_cluster_Fit := rfl
@[simp] theorem prgF_226 : prgF 226 = some m_lexer_blank := rfl
@[simp] theorem prgF_227 : prgF 227 = some m_lexer_skip_1 := rfl
@[simp] theorem prgF_228 : prgF 228 = some m_lexer_digit := rfl
@[simp] theorem prgF_233 : prgF 233 = some m_slices_Index_string_string := rfl
@[simp] theorem prgF_234 : prgF 234 = some m_syntax_Reader_Counts := rfl
@[simp] theorem prgF_235 : prgF 235 = some m_syntax_Reader_Follows := rfl
@[simp] theorem prgF_236 : prgF 236 = some m_syntax_Reader_level := rfl
@[simp] theorem prgF_237 : prgF 237 = some m_syntax_with := rfl
@[simp] theorem prgF_238 : prgF 238 = some m_term_one := rfl
@[simp] theorem prgF_239 : prgF 239 = some m_term_Depth := rfl
@[simp] theorem prgF_240 : prgF 240 = some m_term_Nest := rfl
@[simp] theorem prgF_241 : prgF 241 = some m_term_limit := rfl
@[simp] theorem prgF_242 : prgF 242 = some m_types_checker_read := rfl
@[simp] theorem prgF_254 : prgF 254 = some m_syntax_Levels := rfl
@[simp] theorem prgF_255 : prgF 255 = some m_syntax_Reader_unary := rfl
@[simp] theorem prgF_256 : prgF 256 = some m_term_End := rfl
@[simp] theorem prgF_258 : prgF 258 = some m_term_fold := rfl
@[simp] theorem prgF_257 : prgF 257 = some m_term_Depth_1 := rfl
@[simp] theorem prgF_259 : prgF 259 = some m_term_Nest_1 := rfl
@[simp] theorem prgF_280 : prgF 280 = some m_term_aggregate := rfl
@[simp] theorem prgF_261 : prgF 261 = some m_types_checker_operands := rfl
@[simp] theorem prgF_260 : prgF 260 = some m_term_Arity := rfl
@[simp] theorem prgF_262 : prgF 262 = some m_types_when := rfl
@[simp] theorem prgF_263 : prgF 263 = some m_types_all := rfl
@[simp] theorem prgF_279 : prgF 279 = some m_syntax_Reader_primary := rfl
@[simp] theorem prgF_291 : prgF 291 = some m_syntax_Reader_pick := rfl
@[simp] theorem prgF_290 : prgF 290 = some m_syntax_Words := rfl
@[simp] theorem prgF_292 : prgF 292 = some m_syntax_Aggregates := rfl
@[simp] theorem prgF_293 : prgF 293 = some m_syntax_Fields := rfl
end Sx
