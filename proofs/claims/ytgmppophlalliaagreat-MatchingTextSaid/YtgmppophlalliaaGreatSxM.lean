/-
  Sx: the evaluator's code of the functions, printed by wip/tools/link.py.
-/
import Derived.Test.YtgmppophlalliaaGreatSxDefs
namespace Sx
open Go

-- 135 selfstab/selfstablaw30.MatchingText
def m_selfstablaw30_MatchingText : MF := ⟨53, [.tmp 2], true, (
  .seq (.reg [oo 2 (.mv (.c (Value.bool false)))] [0])
  (.seq (.reg [oo 8 (.call 131 []),
oo 9 (.call 115 [.t 8]),
oo 7 (.mv (.t 9)),
oo 10 (.ext (.t 7) 0),
oo 11 (.ext (.t 7) 1),
oo 12 (.ext (.t 7) 2),
oo 3 (.alloc [.v (Value.string ⟨#[]⟩), .v (Value.slice none 0 0), .v (Value.slice none 0 0)]),
nn (.store 3 (.t 3) (.t 10)),
oo 4 (.mv (.t 11)),
oo 5 (.mv (.t 12))] [0, 3, 4, 5])
  (.seq (.reg [oo 13 (.call 132 []),
oo 6 (.mv (.t 13))] [0, 3, 4, 5, 6])
  (.seq (.seq (.reg [oo 14 (.mv (.t 5)),
oo 15 (.bin .neq (.t 14) (.c (Value.int IntKind.i64 0))),
oo 16 (.mv (.t 15)),
⟨some 17, .mv (.t 4), some (16, false)⟩,
⟨some 18, .bin .neq (.t 17) (.c (Value.int IntKind.i64 0)), some (16, false)⟩,
oo 19 (.pick (.t 16) (.c (Value.bool true)) (.t 18)),
oo 20 (.mv (.t 19)),
⟨some 21, .fadr 1 (.t 3), some (20, false)⟩,
⟨some 22, .load (none) (.t 21), some (20, false)⟩,
⟨some 23, .len 1 (.t 22), some (20, false)⟩,
⟨some 24, .mv (.t 6), some (20, false)⟩,
⟨some 25, .len 1 (.t 24), some (20, false)⟩,
⟨some 26, .bin .neq (.t 23) (.t 25), some (20, false)⟩,
oo 27 (.pick (.t 20) (.c (Value.bool true)) (.t 26))] [0, 3, 6, 27])
  (.cond (.t 27) (.seq (.reg [oo 2 (.mv (.c (Value.bool false)))] [2])
   (.ret))
   (.skip)))
  (.seq (.reg [oo 28 (.mv (.t 0)),
oo 29 (.mv (.t 6)),
oo 30 (.len 1 (.t 29)),
oo 31 (.call 58 [.t 28, .t 30]),
oo 0 (.mv (.t 31))] [0, 3, 6])
  (.seq (.seq (.reg [oo 32 (.fadr 1 (.t 3)),
oo 33 (.load (none) (.t 32)),
oo 34 (.mv (.t 0)),
oo 35 (.iadr 6 (.t 33) (.t 34)),
oo 36 (.load (some 6) (.t 35)),
oo 37 (.mv (.t 6)),
oo 38 (.mv (.t 0)),
oo 39 (.iadr 6 (.t 37) (.t 38)),
oo 40 (.load (some 6) (.t 39)),
oo 41 (.eqn true [2, 0, 0, 0, 0, 0] (.t 36) (.t 40))] [3, 41])
  (.cond (.t 41) (.seq (.reg [oo 2 (.mv (.c (Value.bool false)))] [2])
   (.ret))
   (.skip)))
  (.seq (.reg [oo 42 (.call 133 []),
oo 43 (.mv (.t 42)),
⟨some 44, .call 131 [], some (43, true)⟩,
⟨some 45, .call 134 [], some (43, true)⟩,
⟨some 46, .bin .eql (.t 44) (.t 45), some (43, true)⟩,
oo 47 (.pick (.t 43) (.t 46) (.c (Value.bool false))),
oo 48 (.mv (.t 47)),
⟨some 49, .fadr 0 (.t 3), some (48, true)⟩,
⟨some 50, .load (none) (.t 49), some (48, true)⟩,
⟨some 51, .bin .eql (.t 50) (.c (Value.string ⟨#[109, 97, 116, 99, 104, 105, 110, 103]⟩)), some (48, true)⟩,
oo 52 (.pick (.t 48) (.t 51) (.c (Value.bool false))),
oo 2 (.mv (.t 52))] [2])
  (.ret))))))))⟩

-- 115 selfstab/program.Parse
def m_program_Parse : MF := ⟨49, [.cell 2 (some 3), .tmp 3, .tmp 4], true, (
  .seq (.reg [oo 2 (.new [.v (Value.string ⟨#[]⟩), .v (Value.slice none 0 0), .v (Value.slice none 0 0)]),
oo 3 (.mv (.c (Value.int IntKind.i64 0))),
oo 4 (.mv (.c (Value.int IntKind.i64 0)))] [0, 2])
  (.seq (.reg [oo 12 (.mv (.t 0)),
oo 13 (.call 136 [.t 12, .c (Value.slice none 0 0)]),
oo 11 (.mv (.t 13)),
oo 14 (.ext (.t 11) 0),
oo 15 (.ext (.t 11) 1),
oo 16 (.ext (.t 11) 2),
oo 5 (.mv (.t 14)),
oo 6 (.mv (.t 15)),
oo 7 (.mv (.t 16))] [2, 5, 6, 7])
  (.seq (.seq (.reg [oo 17 (.mv (.t 7)),
oo 18 (.bin .neq (.t 17) (.c (Value.int IntKind.i64 0)))] [2, 5, 6, 7, 18])
  (.cond (.t 18) (.seq (.reg [oo 19 (.build [.v (Value.string ⟨#[]⟩), .v (Value.slice none 0 0), .v (Value.slice none 0 0)] []),
oo 20 (.mv (.t 6)),
oo 21 (.mv (.t 7)),
nn (.store 3 (.t 2) (.t 19)),
oo 3 (.mv (.t 20)),
oo 4 (.mv (.t 21))] [2, 3, 4])
   (.ret))
   (.skip)))
  (.seq (.reg [oo 22 (.mv (.t 5)),
oo 23 (.build [.v (Value.pointer none), .v (Value.string ⟨#[]⟩), .v (Value.slice none 0 0), .v (Value.slice none 0 0), .v (Value.slice none 0 0)] [(0, 1, (.t 22))]),
oo 24 (.boxm 5 (.t 23)),
oo 8 (.mv (.t 24))] [2, 8])
  (.seq (.seq (.reg [oo 25 (.mv (.t 8)),
oo 26 (.mkb 173 [.t 25]),
oo 27 (.call 165 [.t 26]),
oo 9 (.alloc [.v (Value.int .i64 0), .v (Value.int .i64 0)]),
nn (.store 2 (.t 9) (.t 27))] [2, 8, 9])
  (.seq (.reg [oo 28 (.fadr 1 (.t 9)),
oo 29 (.load (none) (.t 28)),
oo 30 (.bin .neq (.t 29) (.c (Value.int IntKind.i64 0)))] [2, 8, 9, 30])
  (.cond (.t 30) (.seq (.regd [0, 0, 2, 0, 8, 1, 39, 127] [oo 31 (.build [.v (Value.string ⟨#[]⟩), .v (Value.slice none 0 0), .v (Value.slice none 0 0)] []),
oo 32 (.fadr 0 (.t 9)),
oo 33 (.load (none) (.t 32)),
oo 34 (.fadr 1 (.t 9)),
oo 35 (.load (none) (.t 34)),
nn (.store 3 (.t 2) (.t 31)),
oo 3 (.mv (.t 33)),
oo 4 (.mv (.t 35))] [2, 3, 4])
   (.ret))
   (.skip))))
  (.seq (.seq (.reg [oo 36 (.mv (.t 8)),
oo 37 (.nck (.t 36)),
oo 38 (.fadr 1 (.t 37)),
oo 39 (.load (some 3) (.t 38)),
oo 40 (.call 179 [.t 39]),
oo 10 (.mv (.t 40))] [2, 8, 10])
  (.seq (.reg [oo 41 (.mv (.t 10)),
oo 42 (.bin .neq (.t 41) (.c (Value.int IntKind.i64 0)))] [2, 8, 10, 42])
  (.cond (.t 42) (.seq (.reg [oo 43 (.build [.v (Value.string ⟨#[]⟩), .v (Value.slice none 0 0), .v (Value.slice none 0 0)] []),
oo 44 (.mv (.t 10)),
nn (.store 3 (.t 2) (.t 43)),
oo 3 (.mv (.c (Value.int IntKind.i64 0))),
oo 4 (.mv (.t 44))] [2, 3, 4])
   (.ret))
   (.skip))))
  (.seq (.reg [oo 45 (.mv (.t 8)),
oo 46 (.nck (.t 45)),
oo 47 (.fadr 1 (.t 46)),
oo 48 (.load (some 3) (.t 47)),
nn (.store 3 (.t 2) (.t 48)),
oo 3 (.mv (.c (Value.int IntKind.i64 0))),
oo 4 (.mv (.c (Value.int IntKind.i64 0)))] [2, 3, 4])
  (.ret))))))))⟩

-- 58 selfstab/selfstabworld.Within
def m_selfstabworld_Within : MF := ⟨16, [.tmp 4], true, (
  .seq (.reg [oo 4 (.mv (.c (Value.int IntKind.i64 0)))] [0, 1])
  (.seq (.seq (.reg [oo 5 (.mv (.t 1)),
oo 6 (.bin .lss (.t 5) (.c (Value.int IntKind.i64 1)))] [0, 1, 6])
  (.cond (.t 6) (.seq (.reg [oo 4 (.mv (.c (Value.int IntKind.i64 0)))] [4])
   (.ret))
   (.skip)))
  (.seq (.reg [oo 7 (.mv (.t 0)),
oo 8 (.mv (.t 1)),
oo 9 (.bin .rem (.t 7) (.t 8)),
oo 0 (.mv (.t 9))] [0, 1])
  (.seq (.seq (.reg [oo 10 (.mv (.t 0)),
oo 11 (.bin .lss (.t 10) (.c (Value.int IntKind.i64 0)))] [0, 1, 11])
  (.cond (.t 11) (.reg [oo 12 (.mv (.t 0)),
oo 13 (.mv (.t 1)),
oo 14 (.bin .add (.t 12) (.t 13)),
oo 0 (.mv (.t 14))] [0])
   (.skip)))
  (.seq (.reg [oo 15 (.mv (.t 0)),
oo 4 (.mv (.t 15))] [4])
  (.ret))))))⟩

-- 131 selfstab/matching.Text
def m_matching_Text : MF := ⟨1, [.tmp 0], true, (
  .seq (.reg [oo 0 (.mv (.c (Value.string ⟨#[]⟩)))] [])
  (.seq (.reg [oo 0 (.mv (.c (Value.string ⟨#[112, 114, 111, 103, 114, 97, 109, 32, 109, 97, 116, 99, 104, 105, 110, 103, 59, 10, 118, 97, 114, 32, 112, 32, 58, 32, 112, 111, 114, 116, 59, 10, 114, 117, 108, 101, 32, 97, 99, 99, 101, 112, 116, 58, 32, 112, 32, 61, 61, 32, 110, 111, 110, 101, 32, 38, 38, 32, 115, 111, 109, 101, 40, 113, 46, 112, 32, 61, 61, 32, 113, 46, 98, 97, 99, 107, 41, 32, 45, 62, 32, 112, 32, 58, 61, 32, 102, 105, 114, 115, 116, 40, 113, 46, 112, 32, 61, 61, 32, 113, 46, 98, 97, 99, 107, 41, 59, 10, 114, 117, 108, 101, 32, 112, 114, 111, 112, 111, 115, 101, 58, 32, 112, 32, 61, 61, 32, 110, 111, 110, 101, 32, 38, 38, 32, 115, 111, 109, 101, 40, 113, 46, 112, 32, 61, 61, 32, 110, 111, 110, 101, 41, 32, 45, 62, 32, 112, 32, 58, 61, 32, 102, 105, 114, 115, 116, 40, 113, 46, 112, 32, 61, 61, 32, 110, 111, 110, 101, 41, 59, 10, 114, 117, 108, 101, 32, 119, 105, 116, 104, 100, 114, 97, 119, 58, 32, 115, 111, 109, 101, 40, 113, 32, 61, 61, 32, 112, 32, 38, 38, 32, 113, 46, 112, 32, 33, 61, 32, 110, 111, 110, 101, 32, 38, 38, 32, 113, 46, 112, 32, 33, 61, 32, 113, 46, 98, 97, 99, 107, 41, 32, 45, 62, 32, 112, 32, 58, 61, 32, 110, 111, 110, 101, 59, 10]⟩)))] [0])
  (.ret)))⟩

-- 132 selfstab/selfstabref30.Vars
def m_selfstabref30_Vars : MF := ⟨3, [.tmp 0], true, (
  .seq (.reg [oo 0 (.mv (.c (Value.slice none 0 0)))] [])
  (.seq (.reg [oo 1 (.call 65 [.c (Value.string ⟨#[112]⟩)]),
oo 2 (.lit 6 [.v (Value.string ⟨#[]⟩), .v (Value.int .i64 0), .v (Value.int .i64 0), .v (Value.int .i64 0), .v (Value.int .i64 0), .v (Value.int .i64 0)] [(0, 6, (.t 1))] false),
oo 0 (.mv (.t 2))] [0])
  (.ret)))⟩

-- 133 selfstab/selfstablaw30.known
def m_selfstablaw30_known : MF := ⟨54, [.tmp 0], true, (
  .seq (.reg [oo 0 (.mv (.c (Value.bool false)))] [])
  (.seq (.reg [oo 7 (.lit 1 [.v (Value.int .i64 0), .v (Value.int .i64 0)] [(0, 1, (.c (Value.int IntKind.i64 0))), (1, 1, (.c (Value.int IntKind.i64 1)))] false),
oo 8 (.build [.v (Value.int .i64 0), .v (Value.slice none 0 0), .v (Value.slice none 0 0), .v (Value.slice none 0 0), .v (Value.bool false), .v (Value.bool false)] [(0, 1, (.c (Value.int IntKind.i64 3))), (1, 1, (.t 7))]),
oo 9 (.call 31 [.t 8, .c (Value.int IntKind.i64 3)]),
oo 1 (.alloc [.v (Value.slice none 0 0), .v (Value.slice none 0 0)]),
nn (.store 2 (.t 1) (.t 9))] [1])
  (.seq (.reg [oo 10 (.call 131 []),
oo 11 (.call 138 [.t 10]),
oo 2 (.alloc [.v (Value.string ⟨#[]⟩), .v (Value.slice none 0 0), .v (Value.slice none 0 0)]),
nn (.store 3 (.t 2) (.t 11))] [1, 2])
  (.seq (.reg [oo 13 (.load (some 3) (.t 2)),
oo 14 (.load (some 2) (.t 1)),
oo 15 (.lit 1 [.v (Value.int .i64 0)] [(0, 1, (.c (Value.int IntKind.i64 (-1))))] false),
oo 16 (.lit 1 [.v (Value.int .i64 0)] [(0, 1, (.c (Value.int IntKind.i64 (-1))))] false),
oo 17 (.lit 1 [.v (Value.int .i64 0)] [(0, 1, (.c (Value.int IntKind.i64 (-1))))] false),
oo 18 (.lit 1 [.v (Value.slice none 0 0), .v (Value.slice none 0 0), .v (Value.slice none 0 0)] [(0, 1, (.t 15)), (1, 1, (.t 16)), (2, 1, (.t 17))] false),
oo 19 (.call 155 [.t 13, .t 14, .t 18, .c (Value.int IntKind.u32 2)]),
oo 12 (.mv (.t 19)),
oo 20 (.ext (.t 12) 0),
oo 21 (.ext (.t 12) 1),
oo 3 (.mv (.t 20)),
oo 4 (.mv (.t 21))] [1, 2, 3, 4])
  (.seq (.reg [oo 23 (.load (some 3) (.t 2)),
oo 24 (.load (some 2) (.t 1)),
oo 25 (.mv (.t 3)),
oo 26 (.call 155 [.t 23, .t 24, .t 25, .c (Value.int IntKind.u32 1)]),
oo 22 (.mv (.t 26)),
oo 27 (.ext (.t 22) 0),
oo 28 (.ext (.t 22) 1),
oo 5 (.mv (.t 27)),
oo 6 (.mv (.t 28))] [1, 3, 4, 5, 6])
  (.seq (.reg [oo 29 (.mv (.t 4)),
oo 30 (.bin .eql (.t 29) (.c (Value.int IntKind.i64 0))),
oo 31 (.mv (.t 30)),
⟨some 32, .mv (.t 6), some (31, true)⟩,
⟨some 33, .bin .eql (.t 32) (.c (Value.int IntKind.i64 0)), some (31, true)⟩,
oo 34 (.pick (.t 31) (.t 33) (.c (Value.bool false))),
oo 35 (.mv (.t 34)),
⟨some 36, .load (some 2) (.t 1), some (35, true)⟩,
⟨some 37, .mv (.t 3), some (35, true)⟩,
⟨some 38, .call 156 [.t 36, .t 37], some (35, true)⟩,
⟨some 39, .un .not (.t 38), some (35, true)⟩,
oo 40 (.pick (.t 35) (.t 39) (.c (Value.bool false))),
oo 41 (.mv (.t 40)),
⟨some 42, .load (some 2) (.t 1), some (41, true)⟩,
⟨some 43, .mv (.t 5), some (41, true)⟩,
⟨some 44, .call 156 [.t 42, .t 43], some (41, true)⟩,
oo 45 (.pick (.t 41) (.t 44) (.c (Value.bool false))),
oo 46 (.mv (.t 45)),
⟨some 47, .load (some 2) (.t 1), some (46, true)⟩,
⟨some 48, .mv (.t 5), some (46, true)⟩,
⟨some 49, .call 157 [.t 47, .t 48], some (46, true)⟩,
⟨some 50, .build [.v (Value.int .i64 0), .v (Value.int .i64 0)] [(0, 1, (.c (Value.int IntKind.i64 0))), (1, 1, (.c (Value.int IntKind.i64 1)))], some (46, true)⟩,
⟨some 51, .lit 2 [.v (Value.int .i64 0), .v (Value.int .i64 0)] [(0, 2, (.t 50))] false, some (46, true)⟩,
⟨some 52, .call 158 [.t 49, .t 51], some (46, true)⟩,
oo 53 (.pick (.t 46) (.t 52) (.c (Value.bool false))),
oo 0 (.mv (.t 53))] [0])
  (.ret)))))))⟩

-- 134 selfstab/selfstabref30.Text
def m_selfstabref30_Text : MF := ⟨1, [.tmp 0], true, (
  .seq (.reg [oo 0 (.mv (.c (Value.string ⟨#[]⟩)))] [])
  (.seq (.reg [oo 0 (.mv (.c (Value.string ⟨#[112, 114, 111, 103, 114, 97, 109, 32, 109, 97, 116, 99, 104, 105, 110, 103, 59, 10, 118, 97, 114, 32, 112, 32, 58, 32, 112, 111, 114, 116, 59, 10, 114, 117, 108, 101, 32, 97, 99, 99, 101, 112, 116, 58, 32, 112, 32, 61, 61, 32, 110, 111, 110, 101, 32, 38, 38, 32, 115, 111, 109, 101, 40, 113, 46, 112, 32, 61, 61, 32, 113, 46, 98, 97, 99, 107, 41, 32, 45, 62, 32, 112, 32, 58, 61, 32, 102, 105, 114, 115, 116, 40, 113, 46, 112, 32, 61, 61, 32, 113, 46, 98, 97, 99, 107, 41, 59, 10, 114, 117, 108, 101, 32, 112, 114, 111, 112, 111, 115, 101, 58, 32, 112, 32, 61, 61, 32, 110, 111, 110, 101, 32, 38, 38, 32, 115, 111, 109, 101, 40, 113, 46, 112, 32, 61, 61, 32, 110, 111, 110, 101, 41, 32, 45, 62, 32, 112, 32, 58, 61, 32, 102, 105, 114, 115, 116, 40, 113, 46, 112, 32, 61, 61, 32, 110, 111, 110, 101, 41, 59, 10, 114, 117, 108, 101, 32, 119, 105, 116, 104, 100, 114, 97, 119, 58, 32, 115, 111, 109, 101, 40, 113, 32, 61, 61, 32, 112, 32, 38, 38, 32, 113, 46, 112, 32, 33, 61, 32, 110, 111, 110, 101, 32, 38, 38, 32, 113, 46, 112, 32, 33, 61, 32, 113, 46, 98, 97, 99, 107, 41, 32, 45, 62, 32, 112, 32, 58, 61, 32, 110, 111, 110, 101, 59, 10]⟩)))] [0])
  (.ret)))⟩

-- 159 selfstab/matching.Fit
def m_matching_Fit : MF := ⟨5, [.tmp 2], true, (
  .seq (.reg [oo 1 (.box 2 (.t 0)),
oo 2 (.mv (.c (Value.bool false)))] [1])
  (.seq (.reg [oo 3 (.load (some 2) (.t 1)),
oo 4 (.call 32 [.t 3]),
oo 2 (.mv (.t 4))] [2])
  (.ret)))⟩

-- 156 selfstab/matching.Legit
def m_matching_Legit_L1 : MC :=
  .seq (.reg [oo 52 (.bin .lss (.t 51) (.t 50))] [1, 2, 14, 15, 16, 49, 50, 51, 52])
  (.seq (.cond (.t 52) (.skip)
   (.exit 2))
  (.seq (.block 3 (.seq (.reg [oo 53 (.iadr 2 (.t 49) (.t 51)),
oo 54 (.load (some 2) (.t 53)),
oo 9 (.alloc [.v (Value.int .i64 0), .v (Value.int .i64 0)]),
nn (.store 2 (.t 9) (.t 54))] [1, 2, 9, 14, 15, 16, 49, 50, 51])
   (.seq (.reg [oo 55 (.mv (.t 1)),
oo 56 (.fadr 0 (.t 9)),
oo 57 (.load (none) (.t 56)),
oo 58 (.iadr 1 (.t 55) (.t 57)),
oo 59 (.load (none) (.t 58)),
oo 60 (.iadr 1 (.t 59) (.c (Value.int IntKind.i64 0))),
oo 61 (.load (none) (.t 60)),
oo 62 (.bin .eql (.t 61) (.c (Value.int IntKind.i64 (-1))))] [1, 2, 14, 15, 16, 49, 50, 51, 62])
   (.cond (.t 62) (.seq (.reg [oo 4 (.mv (.c (Value.bool false)))] [4])
    (.ret))
    (.skip)))))
  (.reg [oo 63 (.bin .add (.t 51) (.c (Value.int IntKind.i64 1))),
oo 51 (.mv (.t 63))] [1, 2, 14, 15, 16, 49, 50, 51])))

def m_matching_Legit_L0 : MC :=
  .seq (.reg [oo 17 (.bin .lss (.t 16) (.t 15))] [1, 2, 14, 15, 16, 17])
  (.seq (.cond (.t 17) (.skip)
   (.exit 0))
  (.seq (.block 1 (.seq (.reg [oo 18 (.mv (.t 16)),
oo 19 (.iadr 1 (.t 14) (.t 16)),
oo 20 (.load (none) (.t 19)),
oo 5 (.mv (.t 18)),
oo 6 (.mv (.t 20))] [1, 2, 5, 6, 14, 15, 16])
   (.seq (.seq (.reg [oo 21 (.mv (.t 6)),
oo 22 (.iadr 1 (.t 21) (.c (Value.int IntKind.i64 0))),
oo 23 (.load (none) (.t 22)),
oo 7 (.mv (.t 23))] [1, 2, 5, 7, 14, 15, 16])
   (.seq (.reg [oo 24 (.mv (.t 7)),
oo 25 (.bin .geq (.t 24) (.c (Value.int IntKind.i64 0)))] [1, 2, 5, 7, 14, 15, 16, 25])
   (.cond (.t 25) (.seq (.seq (.reg [oo 26 (.mv (.t 1)),
oo 27 (.fadr 1 (.t 2)),
oo 28 (.load (none) (.t 27)),
oo 29 (.mv (.t 5)),
oo 30 (.iadr 1 (.t 28) (.t 29)),
oo 31 (.load (none) (.t 30)),
oo 32 (.mv (.t 7)),
oo 33 (.iadr 2 (.t 31) (.t 32)),
oo 34 (.fadr 0 (.t 33)),
oo 35 (.load (none) (.t 34)),
oo 36 (.iadr 1 (.t 26) (.t 35)),
oo 37 (.load (none) (.t 36)),
oo 38 (.iadr 1 (.t 37) (.c (Value.int IntKind.i64 0))),
oo 39 (.load (none) (.t 38)),
oo 40 (.load (some 2) (.t 2)),
oo 41 (.mv (.t 5)),
oo 42 (.mv (.t 7)),
oo 43 (.call 161 [.t 40, .t 41, .t 42]),
oo 44 (.bin .neq (.t 39) (.t 43))] [1, 2, 14, 15, 16, 44])
    (.cond (.t 44) (.seq (.reg [oo 4 (.mv (.c (Value.bool false)))] [4])
     (.ret))
     (.skip)))
    (.exit 1))
    (.skip))))
   (.seq (.reg [oo 45 (.fadr 1 (.t 2)),
oo 46 (.load (none) (.t 45)),
oo 47 (.mv (.t 5)),
oo 48 (.iadr 1 (.t 46) (.t 47)),
oo 49 (.load (none) (.t 48)),
oo 50 (.len 1 (.t 49)),
oo 51 (.mv (.c (Value.int IntKind.i64 0)))] [1, 2, 14, 15, 16, 49, 50, 51])
   (.block 2 (.loop [1, 2, 14, 15, 16, 49, 50, 51] m_matching_Legit_L1))))))
  (.reg [oo 64 (.bin .add (.t 16) (.c (Value.int IntKind.i64 1))),
oo 16 (.mv (.t 64))] [1, 2, 14, 15, 16])))

def m_matching_Legit : MF := ⟨65, [.tmp 4], true, (
  .seq (.reg [oo 2 (.box 2 (.t 0)),
oo 4 (.mv (.c (Value.bool false)))] [1, 2])
  (.seq (.seq (.reg [oo 10 (.load (some 2) (.t 2)),
oo 11 (.mv (.t 1)),
oo 12 (.call 160 [.t 10, .t 11]),
oo 13 (.un .not (.t 12))] [1, 2, 13])
  (.cond (.t 13) (.seq (.reg [oo 4 (.mv (.c (Value.bool false)))] [4])
   (.ret))
   (.skip)))
  (.seq (.seq (.reg [oo 14 (.mv (.t 1)),
oo 15 (.len 1 (.t 14)),
oo 16 (.mv (.c (Value.int IntKind.i64 0)))] [1, 2, 14, 15, 16])
  (.block 0 (.loop [1, 2, 14, 15, 16] m_matching_Legit_L0)))
  (.seq (.reg [oo 4 (.mv (.c (Value.bool true)))] [4])
  (.ret)))))⟩

-- 158 selfstab/selfstablaw30.samePairs
def m_selfstablaw30_samePairs_L0 : MC :=
  .seq (.seq (.reg [oo 11 (.mv (.t 5)),
oo 12 (.mv (.t 0)),
oo 13 (.len 1 (.t 12)),
oo 14 (.bin .lss (.t 11) (.t 13))] [0, 1, 5, 14])
  (.cond (.t 14) (.skip)
   (.exit 0)))
  (.seq (.block 1 (.seq (.reg [oo 17 (.mv (.t 0)),
oo 18 (.mv (.t 5)),
oo 19 (.iadr 2 (.t 17) (.t 18)),
oo 20 (.load (some 2) (.t 19)),
oo 21 (.mv (.t 1)),
oo 22 (.mv (.t 5)),
oo 23 (.iadr 2 (.t 21) (.t 22)),
oo 24 (.load (some 2) (.t 23)),
oo 25 (.eqn true [0, 0] (.t 20) (.t 24))] [0, 1, 5, 25])
   (.cond (.t 25) (.seq (.reg [oo 4 (.mv (.c (Value.bool false)))] [4])
    (.ret))
    (.skip))))
  (.reg [oo 15 (.mv (.t 5)),
oo 16 (.bin .add (.t 15) (.c (Value.int IntKind.i64 1))),
oo 5 (.mv (.t 16))] [0, 1, 5]))

def m_selfstablaw30_samePairs : MF := ⟨26, [.tmp 4], true, (
  .seq (.reg [oo 4 (.mv (.c (Value.bool false)))] [0, 1])
  (.seq (.seq (.reg [oo 6 (.mv (.t 0)),
oo 7 (.len 1 (.t 6)),
oo 8 (.mv (.t 1)),
oo 9 (.len 1 (.t 8)),
oo 10 (.bin .neq (.t 7) (.t 9))] [0, 1, 10])
  (.cond (.t 10) (.seq (.reg [oo 4 (.mv (.c (Value.bool false)))] [4])
   (.ret))
   (.skip)))
  (.seq (.seq (.reg [oo 5 (.mv (.c (Value.int IntKind.i64 0)))] [0, 1, 5])
  (.block 0 (.loop [0, 1, 5] m_selfstablaw30_samePairs_L0)))
  (.seq (.reg [oo 4 (.mv (.c (Value.bool true)))] [4])
  (.ret)))))⟩

-- 157 selfstab/matching.Pairs
def m_matching_Pairs_L0 : MC :=
  .seq (.reg [oo 17 (.bin .lss (.t 16) (.t 15))] [1, 2, 5, 14, 15, 16, 17])
  (.seq (.cond (.t 17) (.skip)
   (.exit 0))
  (.seq (.block 1 (.seq (.reg [oo 18 (.mv (.t 16)),
oo 19 (.iadr 1 (.t 14) (.t 16)),
oo 20 (.load (none) (.t 19)),
oo 6 (.mv (.t 18)),
oo 7 (.mv (.t 20))] [1, 2, 5, 6, 7, 14, 15, 16])
   (.seq (.reg [oo 21 (.mv (.t 7)),
oo 22 (.iadr 1 (.t 21) (.c (Value.int IntKind.i64 0))),
oo 23 (.load (none) (.t 22)),
oo 8 (.mv (.t 23))] [1, 2, 5, 6, 8, 14, 15, 16])
   (.seq (.reg [oo 24 (.load (some 2) (.t 2)),
oo 25 (.mv (.t 6)),
oo 26 (.mv (.t 8)),
oo 27 (.call 43 [.t 24, .t 25, .t 26]),
oo 9 (.mv (.t 27))] [1, 2, 5, 6, 8, 9, 14, 15, 16])
   (.seq (.reg [oo 28 (.mv (.t 9)),
oo 29 (.mv (.t 6)),
oo 30 (.bin .gtr (.t 28) (.t 29)),
oo 31 (.mv (.t 30)),
⟨some 32, .mv (.t 1), some (31, true)⟩,
⟨some 33, .mv (.t 9), some (31, true)⟩,
⟨some 34, .iadr 1 (.t 32) (.t 33), some (31, true)⟩,
⟨some 35, .load (none) (.t 34), some (31, true)⟩,
⟨some 36, .iadr 1 (.t 35) (.c (Value.int IntKind.i64 0)), some (31, true)⟩,
⟨some 37, .load (none) (.t 36), some (31, true)⟩,
⟨some 38, .load (some 2) (.t 2), some (31, true)⟩,
⟨some 39, .mv (.t 6), some (31, true)⟩,
⟨some 40, .mv (.t 8), some (31, true)⟩,
⟨some 41, .call 161 [.t 38, .t 39, .t 40], some (31, true)⟩,
⟨some 42, .bin .eql (.t 37) (.t 41), some (31, true)⟩,
oo 43 (.pick (.t 31) (.t 42) (.c (Value.bool false)))] [1, 2, 5, 6, 9, 14, 15, 16, 43])
   (.cond (.t 43) (.reg [oo 44 (.mv (.t 5)),
oo 45 (.mv (.t 6)),
oo 46 (.mv (.t 9)),
oo 47 (.build [.v (Value.int .i64 0), .v (Value.int .i64 0)] [(0, 1, (.t 45)), (1, 1, (.t 46))]),
oo 48 (.lit 2 [.v (Value.int .i64 0), .v (Value.int .i64 0)] [(0, 2, (.t 47))] false),
oo 49 (.app 2 16 (.t 44) (.t 48)),
oo 5 (.mv (.t 49))] [1, 2, 5, 14, 15, 16])
    (.skip)))))))
  (.reg [oo 50 (.bin .add (.t 16) (.c (Value.int IntKind.i64 1))),
oo 16 (.mv (.t 50))] [1, 2, 5, 14, 15, 16])))

def m_matching_Pairs : MF := ⟨54, [.tmp 4], true, (
  .seq (.reg [oo 2 (.box 2 (.t 0)),
oo 4 (.mv (.c (Value.slice none 0 0)))] [1, 2])
  (.seq (.seq (.reg [oo 10 (.load (some 2) (.t 2)),
oo 11 (.mv (.t 1)),
oo 12 (.call 160 [.t 10, .t 11]),
oo 13 (.un .not (.t 12))] [1, 2, 13])
  (.cond (.t 13) (.seq (.reg [oo 4 (.mv (.c (Value.slice none 0 0)))] [4])
   (.ret))
   (.skip)))
  (.seq (.reg [oo 5 (.mv (.c (Value.slice none 0 0)))] [1, 2, 5])
  (.seq (.seq (.reg [oo 14 (.mv (.t 1)),
oo 15 (.len 1 (.t 14)),
oo 16 (.mv (.c (Value.int IntKind.i64 0)))] [1, 2, 5, 14, 15, 16])
  (.block 0 (.loop [1, 2, 5, 14, 15, 16] m_matching_Pairs_L0)))
  (.seq (.reg [oo 51 (.mv (.t 5)),
oo 52 (.call 78 [.t 51, .f 162])] [5])
  (.seq (.reg [oo 53 (.mv (.t 5)),
oo 4 (.mv (.t 53))] [4])
  (.ret)))))))⟩

-- 136 selfstab/syntax.Open
def m_syntax_Open : MF := ⟨25, [.tmp 4, .tmp 5, .tmp 6], false, (
  .seq (.reg [oo 4 (.mv (.c (Value.pointer none))),
oo 5 (.mv (.c (Value.int IntKind.i64 0))),
oo 6 (.mv (.c (Value.int IntKind.i64 0)))] [0, 1])
  (.seq (.reg [oo 11 (.mv (.t 0)),
oo 12 (.call 163 [.t 11]),
oo 10 (.mv (.t 12)),
oo 13 (.ext (.t 10) 0),
oo 14 (.ext (.t 10) 1),
oo 15 (.ext (.t 10) 2),
oo 7 (.mv (.t 13)),
oo 8 (.mv (.t 14)),
oo 9 (.mv (.t 15))] [0, 1, 7, 8, 9])
  (.seq (.seq (.reg [oo 16 (.mv (.t 9)),
oo 17 (.bin .neq (.t 16) (.c (Value.int IntKind.i64 0)))] [0, 1, 7, 8, 9, 17])
  (.cond (.t 17) (.seq (.reg [oo 18 (.mv (.t 8)),
oo 19 (.mv (.t 9)),
oo 4 (.mv (.c (Value.pointer none))),
oo 5 (.mv (.t 18)),
oo 6 (.mv (.t 19))] [4, 5, 6])
   (.ret))
   (.skip)))
  (.seq (.reg [oo 20 (.mv (.t 0)),
oo 21 (.mv (.t 7)),
oo 22 (.mv (.t 1)),
oo 23 (.build [.v (Value.string ⟨#[]⟩), .v (Value.slice none 0 0), .v (Value.int .i64 0), .v (Value.slice none 0 0)] [(0, 1, (.t 20)), (1, 1, (.t 21)), (3, 1, (.t 22))]),
oo 24 (.boxm 4 (.t 23)),
oo 4 (.mv (.t 24)),
oo 5 (.mv (.c (Value.int IntKind.i64 0))),
oo 6 (.mv (.c (Value.int IntKind.i64 0)))] [4, 5, 6])
  (.ret)))))⟩

-- 173 (*selfstab/program.reader).all
def m_program_reader_all_L1 : MC :=
  .seq (.seq (.reg [oo 31 (.mv (.t 0)),
oo 32 (.mv (.t 0)),
oo 33 (.nck (.t 32)),
oo 34 (.fadr 1 (.t 33)),
oo 35 (.fadr 2 (.t 34)),
oo 36 (.load (none) (.t 35)),
oo 37 (.len 1 (.t 36)),
oo 38 (.call 168 [.t 31, .c (Value.string ⟨#[114, 117, 108, 101]⟩), .t 37, .c (Value.int IntKind.i64 12)])] [0, 38])
  (.cond (.t 38) (.skip)
   (.exit 2)))
  (.block 3 (.reg [oo 39 (.mv (.t 0)),
oo 40 (.call 170 [.t 39])] [0]))

def m_program_reader_all_L0 : MC :=
  .seq (.seq (.reg [oo 21 (.mv (.t 0)),
oo 22 (.mv (.t 0)),
oo 23 (.nck (.t 22)),
oo 24 (.fadr 1 (.t 23)),
oo 25 (.fadr 1 (.t 24)),
oo 26 (.load (none) (.t 25)),
oo 27 (.len 1 (.t 26)),
oo 28 (.call 168 [.t 21, .c (Value.string ⟨#[118, 97, 114]⟩), .t 27, .c (Value.int IntKind.i64 6)])] [0, 28])
  (.cond (.t 28) (.skip)
   (.exit 0)))
  (.block 1 (.reg [oo 29 (.mv (.t 0)),
oo 30 (.call 169 [.t 29])] [0]))

def m_program_reader_all : MF := ⟨52, [], false, (
  .seq (.reg [oo 2 (.mv (.t 0)),
oo 3 (.nck (.t 2)),
oo 4 (.fadr 0 (.t 3)),
oo 5 (.load (none) (.t 4)),
oo 6 (.call 166 [.t 5, .c (Value.string ⟨#[112, 114, 111, 103, 114, 97, 109]⟩)])] [0])
  (.seq (.reg [oo 7 (.mv (.t 0)),
oo 8 (.mv (.t 0)),
oo 9 (.nck (.t 8)),
oo 10 (.fadr 0 (.t 9)),
oo 11 (.load (none) (.t 10)),
oo 12 (.call 167 [.t 11, .c (Value.slice none 0 0)]),
oo 13 (.nck (.t 7)),
oo 14 (.fadr 1 (.t 13)),
oo 15 (.fadr 0 (.t 14)),
nn (.store 1 (.t 15) (.t 12))] [0])
  (.seq (.reg [oo 16 (.mv (.t 0)),
oo 17 (.nck (.t 16)),
oo 18 (.fadr 0 (.t 17)),
oo 19 (.load (none) (.t 18)),
oo 20 (.call 166 [.t 19, .c (Value.string ⟨#[59]⟩)])] [0])
  (.seq (.block 0 (.loop [0] m_program_reader_all_L0))
  (.seq (.block 2 (.loop [0] m_program_reader_all_L1))
  (.seq (.reg [oo 41 (.mv (.t 0)),
oo 42 (.nck (.t 41)),
oo 43 (.fadr 0 (.t 42)),
oo 44 (.load (none) (.t 43)),
oo 45 (.call 171 [.t 44]),
oo 46 (.un .not (.t 45))] [0, 46])
  (.cond (.t 46) (.reg [oo 47 (.mv (.t 0)),
oo 48 (.nck (.t 47)),
oo 49 (.fadr 0 (.t 48)),
oo 50 (.load (none) (.t 49)),
oo 51 (.call 172 [.t 50, .c (Value.int IntKind.i64 4)])] [])
   (.skip))))))))⟩

-- 179 selfstab/types.Check
def m_types_Check_L3 : MC :=
  .seq (.reg [oo 101 (.bin .lss (.t 100) (.t 99))] [5, 98, 99, 100, 101])
  (.seq (.cond (.t 101) (.skip)
   (.exit 6))
  (.seq (.block 7 (.seq (.reg [oo 102 (.iadr 3 (.t 98) (.t 100)),
oo 103 (.load (some 3) (.t 102)),
oo 14 (.alloc [.v (Value.string ⟨#[]⟩), .v (Value.slice none 0 0), .v (Value.slice none 0 0)]),
nn (.store 3 (.t 14) (.t 103))] [5, 14, 98, 99, 100])
   (.seq (.reg [oo 104 (.load (some 3) (.t 14)),
oo 105 (.mv (.t 5)),
oo 106 (.call 178 [.t 104, .t 105]),
oo 107 (.un .not (.t 106))] [5, 98, 99, 100, 107])
   (.cond (.t 107) (.seq (.reg [oo 2 (.mv (.c (Value.int IntKind.i64 6)))] [2])
    (.ret))
    (.skip)))))
  (.reg [oo 108 (.bin .add (.t 100) (.c (Value.int IntKind.i64 1))),
oo 100 (.mv (.t 108))] [5, 98, 99, 100])))

def m_types_Check_L2 : MC :=
  .seq (.reg [oo 87 (.bin .lss (.t 86) (.t 85))] [1, 5, 84, 85, 86, 87])
  (.seq (.cond (.t 87) (.skip)
   (.exit 4))
  (.seq (.block 5 (.seq (.reg [oo 88 (.iadr 3 (.t 84) (.t 86)),
oo 89 (.load (some 3) (.t 88)),
oo 12 (.alloc [.v (Value.string ⟨#[]⟩), .v (Value.slice none 0 0), .v (Value.slice none 0 0)]),
nn (.store 3 (.t 12) (.t 89))] [1, 5, 12, 84, 85, 86])
   (.seq (.reg [oo 90 (.load (some 3) (.t 12)),
oo 91 (.fadr 1 (.t 1)),
oo 92 (.load (none) (.t 91)),
oo 93 (.len 1 (.t 92)),
oo 94 (.call 177 [.t 90, .t 93]),
oo 95 (.un .not (.t 94))] [1, 5, 84, 85, 86, 95])
   (.cond (.t 95) (.seq (.reg [oo 2 (.mv (.c (Value.int IntKind.i64 7)))] [2])
    (.ret))
    (.skip)))))
  (.reg [oo 96 (.bin .add (.t 86) (.c (Value.int IntKind.i64 1))),
oo 86 (.mv (.t 96))] [1, 5, 84, 85, 86])))

def m_types_Check_L1 : MC :=
  .seq (.reg [oo 58 (.bin .lss (.t 57) (.t 56))] [1, 3, 4, 5, 6, 55, 56, 57, 58])
  (.seq (.cond (.t 58) (.skip)
   (.exit 2))
  (.seq (.block 3 (.seq (.reg [oo 59 (.iadr 3 (.t 55) (.t 57)),
oo 60 (.load (some 3) (.t 59)),
oo 10 (.alloc [.v (Value.string ⟨#[]⟩), .v (Value.slice none 0 0), .v (Value.slice none 0 0)]),
nn (.store 3 (.t 10) (.t 60))] [1, 3, 4, 5, 6, 10, 55, 56, 57])
   (.reg [oo 61 (.mv (.t 4)),
oo 62 (.fadr 0 (.t 10)),
oo 63 (.load (none) (.t 62)),
oo 64 (.lit 1 [.v (Value.string ⟨#[]⟩)] [(0, 1, (.t 63))] false),
oo 65 (.app 1 16 (.t 61) (.t 64)),
oo 4 (.mv (.t 65))] [1, 3, 4, 5, 6, 55, 56, 57])))
  (.reg [oo 66 (.bin .add (.t 57) (.c (Value.int IntKind.i64 1))),
oo 57 (.mv (.t 66))] [1, 3, 4, 5, 6, 55, 56, 57])))

def m_types_Check_L0 : MC :=
  .seq (.reg [oo 35 (.bin .lss (.t 34) (.t 33))] [1, 3, 4, 5, 6, 32, 33, 34, 35])
  (.seq (.cond (.t 35) (.skip)
   (.exit 0))
  (.seq (.block 1 (.seq (.reg [oo 36 (.iadr 6 (.t 32) (.t 34)),
oo 37 (.load (some 6) (.t 36)),
oo 8 (.alloc [.v (Value.string ⟨#[]⟩), .v (Value.int .i64 0), .v (Value.int .i64 0), .v (Value.int .i64 0), .v (Value.int .i64 0), .v (Value.int .i64 0)]),
nn (.store 6 (.t 8) (.t 37))] [1, 3, 4, 5, 6, 8, 32, 33, 34])
   (.seq (.regd [0, 0, 2, 6, 15, 0, 0, 64, 192, 511, 1023, 2047] [oo 38 (.mv (.t 3)),
oo 39 (.fadr 0 (.t 8)),
oo 40 (.load (none) (.t 39)),
oo 41 (.lit 1 [.v (Value.string ⟨#[]⟩)] [(0, 1, (.t 40))] false),
oo 42 (.app 1 16 (.t 38) (.t 41)),
oo 43 (.mv (.t 5)),
oo 44 (.fadr 1 (.t 8)),
oo 45 (.load (none) (.t 44)),
oo 46 (.lit 1 [.v (Value.int .i64 0)] [(0, 1, (.t 45))] false),
oo 47 (.app 1 8 (.t 43) (.t 46)),
oo 3 (.mv (.t 42)),
oo 5 (.mv (.t 47))] [1, 3, 4, 5, 6, 8, 32, 33, 34])
   (.reg [oo 48 (.mv (.t 6)),
oo 49 (.mv (.t 48)),
⟨some 50, .load (some 6) (.t 8), some (49, true)⟩,
⟨some 51, .call 174 [.t 50], some (49, true)⟩,
oo 52 (.pick (.t 49) (.t 51) (.c (Value.bool false))),
oo 6 (.mv (.t 52))] [1, 3, 4, 5, 6, 32, 33, 34]))))
  (.reg [oo 53 (.bin .add (.t 34) (.c (Value.int IntKind.i64 1))),
oo 34 (.mv (.t 53))] [1, 3, 4, 5, 6, 32, 33, 34])))

def m_types_Check : MF := ⟨109, [.tmp 2], true, (
  .seq (.reg [oo 1 (.box 3 (.t 0)),
oo 2 (.mv (.c (Value.int IntKind.i64 0)))] [1])
  (.seq (.seq (.reg [oo 15 (.fadr 1 (.t 1)),
oo 16 (.load (none) (.t 15)),
oo 17 (.len 1 (.t 16)),
oo 18 (.bin .eql (.t 17) (.c (Value.int IntKind.i64 0))),
oo 19 (.mv (.t 18)),
⟨some 20, .fadr 1 (.t 1), some (19, false)⟩,
⟨some 21, .load (none) (.t 20), some (19, false)⟩,
⟨some 22, .len 1 (.t 21), some (19, false)⟩,
⟨some 23, .bin .gtr (.t 22) (.c (Value.int IntKind.i64 6)), some (19, false)⟩,
oo 24 (.pick (.t 19) (.c (Value.bool true)) (.t 23)),
oo 25 (.mv (.t 24)),
⟨some 26, .fadr 2 (.t 1), some (25, false)⟩,
⟨some 27, .load (none) (.t 26), some (25, false)⟩,
⟨some 28, .len 1 (.t 27), some (25, false)⟩,
⟨some 29, .bin .gtr (.t 28) (.c (Value.int IntKind.i64 12)), some (25, false)⟩,
oo 30 (.pick (.t 25) (.c (Value.bool true)) (.t 29))] [1, 30])
  (.cond (.t 30) (.seq (.reg [oo 2 (.mv (.c (Value.int IntKind.i64 3)))] [2])
   (.ret))
   (.skip)))
  (.seq (.reg [oo 3 (.mv (.c (Value.slice none 0 0))),
oo 4 (.mv (.c (Value.slice none 0 0)))] [1, 3, 4])
  (.seq (.reg [oo 5 (.mv (.c (Value.slice none 0 0)))] [1, 3, 4, 5])
  (.seq (.reg [oo 6 (.mv (.c (Value.bool true)))] [1, 3, 4, 5, 6])
  (.seq (.seq (.reg [oo 31 (.fadr 1 (.t 1)),
oo 32 (.load (none) (.t 31)),
oo 33 (.len 1 (.t 32)),
oo 34 (.mv (.c (Value.int IntKind.i64 0)))] [1, 3, 4, 5, 6, 32, 33, 34])
  (.block 0 (.loop [1, 3, 4, 5, 6, 32, 33, 34] m_types_Check_L0)))
  (.seq (.seq (.reg [oo 54 (.fadr 2 (.t 1)),
oo 55 (.load (none) (.t 54)),
oo 56 (.len 1 (.t 55)),
oo 57 (.mv (.c (Value.int IntKind.i64 0)))] [1, 3, 4, 5, 6, 55, 56, 57])
  (.block 2 (.loop [1, 3, 4, 5, 6, 55, 56, 57] m_types_Check_L1)))
  (.seq (.seq (.reg [oo 67 (.fadr 0 (.t 1)),
oo 68 (.load (none) (.t 67)),
oo 69 (.call 175 [.t 68]),
oo 70 (.un .not (.t 69)),
oo 71 (.mv (.t 70)),
⟨some 72, .mv (.t 3), some (71, false)⟩,
⟨some 73, .call 176 [.t 72], some (71, false)⟩,
⟨some 74, .un .not (.t 73), some (71, false)⟩,
oo 75 (.pick (.t 71) (.c (Value.bool true)) (.t 74)),
oo 76 (.mv (.t 75)),
⟨some 77, .mv (.t 4), some (76, false)⟩,
⟨some 78, .call 176 [.t 77], some (76, false)⟩,
⟨some 79, .un .not (.t 78), some (76, false)⟩,
oo 80 (.pick (.t 76) (.c (Value.bool true)) (.t 79))] [1, 5, 6, 80])
  (.cond (.t 80) (.seq (.reg [oo 2 (.mv (.c (Value.int IntKind.i64 5)))] [2])
   (.ret))
   (.skip)))
  (.seq (.seq (.reg [oo 81 (.mv (.t 6)),
oo 82 (.un .not (.t 81))] [1, 5, 82])
  (.cond (.t 82) (.seq (.reg [oo 2 (.mv (.c (Value.int IntKind.i64 2)))] [2])
   (.ret))
   (.skip)))
  (.seq (.seq (.reg [oo 83 (.fadr 2 (.t 1)),
oo 84 (.load (none) (.t 83)),
oo 85 (.len 1 (.t 84)),
oo 86 (.mv (.c (Value.int IntKind.i64 0)))] [1, 5, 84, 85, 86])
  (.block 4 (.loop [1, 5, 84, 85, 86] m_types_Check_L2)))
  (.seq (.seq (.reg [oo 97 (.fadr 2 (.t 1)),
oo 98 (.load (none) (.t 97)),
oo 99 (.len 1 (.t 98)),
oo 100 (.mv (.c (Value.int IntKind.i64 0)))] [5, 98, 99, 100])
  (.block 6 (.loop [5, 98, 99, 100] m_types_Check_L3)))
  (.seq (.reg [oo 2 (.mv (.c (Value.int IntKind.i64 0)))] [2])
  (.ret)))))))))))))⟩

-- 65 selfstab/selfstabref23.Pointer
def m_selfstabref23_Pointer : MF := ⟨5, [.cell 2 (some 6)], true, (
  .seq (.reg [oo 2 (.new [.v (Value.string ⟨#[]⟩), .v (Value.int .i64 0), .v (Value.int .i64 0), .v (Value.int .i64 0), .v (Value.int .i64 0), .v (Value.int .i64 0)])] [0, 2])
  (.seq (.reg [oo 3 (.mv (.t 0)),
oo 4 (.build [.v (Value.string ⟨#[]⟩), .v (Value.int .i64 0), .v (Value.int .i64 0), .v (Value.int .i64 0), .v (Value.int .i64 0), .v (Value.int .i64 0)] [(0, 1, (.t 3)), (1, 1, (.c (Value.int IntKind.i64 3)))]),
nn (.store 6 (.t 2) (.t 4))] [2])
  (.ret)))⟩

-- 31 (selfstab/selfstabworld.Net).Tree
def m_selfstabworld_Net_Tree_L0 : MC :=
  .seq (.seq (.reg [oo 10 (.mv (.t 6)),
oo 11 (.fadr 1 (.t 5)),
oo 12 (.load (none) (.t 11)),
oo 13 (.len 1 (.t 12)),
oo 14 (.bin .lss (.t 10) (.t 13))] [2, 4, 5, 6, 14])
  (.cond (.t 14) (.skip)
   (.exit 0)))
  (.seq (.block 1 (.reg [oo 17 (.load (some 6) (.t 2)),
oo 18 (.load (some 2) (.t 5)),
oo 19 (.fadr 1 (.t 2)),
oo 20 (.load (none) (.t 19)),
oo 21 (.mv (.t 6)),
oo 22 (.bin .sub (.t 21) (.c (Value.int IntKind.i64 1))),
oo 23 (.call 57 [.t 20, .t 22]),
oo 24 (.mv (.t 6)),
oo 25 (.call 58 [.t 23, .t 24]),
oo 26 (.mv (.t 6)),
oo 27 (.fadr 2 (.t 2)),
oo 28 (.load (none) (.t 27)),
oo 29 (.mv (.t 6)),
oo 30 (.bin .sub (.t 29) (.c (Value.int IntKind.i64 1))),
oo 31 (.call 57 [.t 28, .t 30]),
oo 32 (.call 58 [.t 31, .c (Value.int IntKind.i64 15)]),
oo 33 (.bin .add (.c (Value.int IntKind.i64 1)) (.t 32)),
oo 34 (.call 59 [.t 17, .t 18, .t 25, .t 26, .t 33])] [2, 4, 5, 6]))
  (.reg [oo 15 (.mv (.t 6)),
oo 16 (.bin .add (.t 15) (.c (Value.int IntKind.i64 1))),
oo 6 (.mv (.t 16))] [2, 4, 5, 6]))

def m_selfstabworld_Net_Tree : MF := ⟨36, [.cell 4 (some 2)], true, (
  .seq (.reg [oo 2 (.box 6 (.t 0)),
oo 4 (.new [.v (Value.slice none 0 0), .v (Value.slice none 0 0)])] [1, 2, 4])
  (.seq (.reg [oo 7 (.load (some 6) (.t 2)),
oo 8 (.mv (.t 1)),
oo 9 (.call 56 [.t 7, .t 8]),
oo 5 (.alloc [.v (Value.slice none 0 0), .v (Value.slice none 0 0)]),
nn (.store 2 (.t 5) (.t 9))] [2, 4, 5])
  (.seq (.seq (.reg [oo 6 (.mv (.c (Value.int IntKind.i64 1)))] [2, 4, 5, 6])
  (.block 0 (.loop [2, 4, 5, 6] m_selfstabworld_Net_Tree_L0)))
  (.seq (.reg [oo 35 (.load (some 2) (.t 5)),
nn (.store 2 (.t 4) (.t 35))] [4])
  (.ret)))))⟩

-- 138 selfstab/selfstabworld.Program
def m_selfstabworld_Program : MF := ⟨13, [.cell 2 (some 3)], true, (
  .seq (.reg [oo 2 (.new [.v (Value.string ⟨#[]⟩), .v (Value.slice none 0 0), .v (Value.slice none 0 0)])] [0, 2])
  (.seq (.reg [oo 7 (.mv (.t 0)),
oo 8 (.call 115 [.t 7]),
oo 6 (.mv (.t 8)),
oo 9 (.ext (.t 6) 0),
oo 10 (.ext (.t 6) 1),
oo 11 (.ext (.t 6) 2),
oo 3 (.alloc [.v (Value.string ⟨#[]⟩), .v (Value.slice none 0 0), .v (Value.slice none 0 0)]),
nn (.store 3 (.t 3) (.t 9)),
oo 4 (.mv (.t 10)),
oo 5 (.mv (.t 11))] [2, 3])
  (.seq (.reg [oo 12 (.load (some 3) (.t 3)),
nn (.store 3 (.t 2) (.t 12))] [2])
  (.ret))))⟩

-- 155 selfstab/step.Step
def m_step_Step : MF := ⟨36, [.tmp 8, .tmp 9], true, (
  .seq (.reg [oo 4 (.box 3 (.t 0)),
oo 5 (.box 2 (.t 1)),
oo 8 (.mv (.c (Value.slice none 0 0))),
oo 9 (.mv (.c (Value.int IntKind.i64 0)))] [2, 3, 4, 5])
  (.seq (.seq (.reg [oo 12 (.load (some 3) (.t 4)),
oo 13 (.load (some 2) (.t 5)),
oo 14 (.mv (.t 2)),
oo 15 (.call 189 [.t 12, .t 13, .t 14]),
oo 10 (.mv (.t 15))] [2, 3, 4, 5, 10])
  (.seq (.reg [oo 16 (.mv (.t 10)),
oo 17 (.bin .neq (.t 16) (.c (Value.int IntKind.i64 0)))] [2, 3, 4, 5, 10, 17])
  (.cond (.t 17) (.seq (.reg [oo 18 (.mv (.t 10)),
oo 8 (.mv (.c (Value.slice none 0 0))),
oo 9 (.mv (.t 18))] [8, 9])
   (.ret))
   (.skip))))
  (.seq (.reg [oo 19 (.load (some 3) (.t 4)),
oo 20 (.load (some 2) (.t 5)),
oo 21 (.call 181 [.t 19, .t 20]),
oo 11 (.mv (.t 21))] [2, 3, 11])
  (.seq (.seq (.reg [oo 22 (.mv (.t 3)),
oo 23 (.bin .eql (.t 22) (.c (Value.int IntKind.u32 0))),
oo 24 (.mv (.t 23)),
⟨some 25, .mv (.t 3), some (24, false)⟩,
⟨some 26, .mv (.t 11), some (24, false)⟩,
⟨some 27, .mv (.t 2), some (24, false)⟩,
⟨some 28, .call 182 [.t 26, .t 27], some (24, false)⟩,
⟨some 29, .bin .andNot (.t 25) (.t 28), some (24, false)⟩,
⟨some 30, .bin .neq (.t 29) (.c (Value.int IntKind.u32 0)), some (24, false)⟩,
oo 31 (.pick (.t 24) (.c (Value.bool true)) (.t 30))] [2, 3, 11, 31])
  (.cond (.t 31) (.seq (.reg [oo 8 (.mv (.c (Value.slice none 0 0))),
oo 9 (.mv (.c (Value.int IntKind.i64 11)))] [8, 9])
   (.ret))
   (.skip)))
  (.seq (.reg [oo 32 (.mv (.t 11)),
oo 33 (.mv (.t 2)),
oo 34 (.mv (.t 3)),
oo 35 (.call 190 [.t 32, .t 33, .t 34]),
oo 8 (.mv (.t 35)),
oo 9 (.mv (.c (Value.int IntKind.i64 0)))] [8, 9])
  (.ret))))))⟩

-- 32 selfstab/graph.Valid
def m_graph_Valid_L3 : MC :=
  .seq (.cond (.t 112) (.skip)
   (.exit 6))
  (.block 7 (.seq (.reg [oo 113 (.ent (.t 110)),
oo 114 (.ext (.t 113) 0),
oo 115 (.ext (.t 113) 1),
oo 13 (.alloc [.v (Value.int .i64 0), .v (Value.int .i64 0)]),
nn (.store 2 (.t 13) (.t 114)),
oo 14 (.mv (.t 115))] [7, 13, 14, 110])
   (.seq (.reg [oo 116 (.mv (.t 7)),
oo 117 (.fadr 1 (.t 13)),
oo 118 (.load (none) (.t 117)),
oo 119 (.fadr 0 (.t 13)),
oo 120 (.load (none) (.t 119)),
oo 121 (.build [.v (Value.int .i64 0), .v (Value.int .i64 0)] [(0, 1, (.t 118)), (1, 1, (.t 120))]),
oo 122 (.look true [0, 0] (.v (Value.int .i64 0)) false (.t 116) (.t 121)),
oo 123 (.mv (.t 14)),
oo 124 (.bin .neq (.t 122) (.t 123))] [7, 110, 124])
   (.cond (.t 124) (.seq (.reg [oo 2 (.mv (.c (Value.bool false)))] [2])
    (.ret))
    (.skip)))))

def m_graph_Valid_L2 : MC :=
  .seq (.reg [oo 65 (.bin .lss (.t 64) (.t 63))] [3, 7, 8, 55, 56, 57, 62, 63, 64, 65])
  (.seq (.cond (.t 65) (.skip)
   (.exit 4))
  (.seq (.block 5 (.seq (.reg [oo 66 (.iadr 2 (.t 62) (.t 64)),
oo 67 (.load (some 2) (.t 66)),
oo 11 (.alloc [.v (Value.int .i64 0), .v (Value.int .i64 0)]),
nn (.store 2 (.t 11) (.t 67))] [3, 7, 8, 11, 55, 56, 57, 62, 63, 64])
   (.seq (.reg [oo 68 (.mv (.t 8)),
oo 69 (.fadr 0 (.t 11)),
oo 70 (.load (none) (.t 69)),
oo 71 (.build [.v (Value.int .i64 0), .v (Value.int .i64 0)] [(0, 1, (.t 68)), (1, 1, (.t 70))]),
oo 12 (.alloc [.v (Value.int .i64 0), .v (Value.int .i64 0)]),
nn (.store 2 (.t 12) (.t 71))] [3, 7, 8, 11, 12, 55, 56, 57, 62, 63, 64])
   (.seq (.seq (.reg [oo 72 (.fadr 0 (.t 11)),
oo 73 (.load (none) (.t 72)),
oo 74 (.bin .lss (.t 73) (.c (Value.int IntKind.i64 0))),
oo 75 (.mv (.t 74)),
⟨some 76, .fadr 0 (.t 11), some (75, false)⟩,
⟨some 77, .load (none) (.t 76), some (75, false)⟩,
⟨some 78, .mv (.t 3), some (75, false)⟩,
⟨some 79, .bin .geq (.t 77) (.t 78), some (75, false)⟩,
oo 80 (.pick (.t 75) (.c (Value.bool true)) (.t 79)),
oo 81 (.mv (.t 80)),
⟨some 82, .fadr 0 (.t 11), some (81, false)⟩,
⟨some 83, .load (none) (.t 82), some (81, false)⟩,
⟨some 84, .mv (.t 8), some (81, false)⟩,
⟨some 85, .bin .eql (.t 83) (.t 84), some (81, false)⟩,
oo 86 (.pick (.t 81) (.c (Value.bool true)) (.t 85)),
oo 87 (.mv (.t 86)),
⟨some 88, .fadr 1 (.t 11), some (87, false)⟩,
⟨some 89, .load (none) (.t 88), some (87, false)⟩,
⟨some 90, .bin .lss (.t 89) (.c (Value.int IntKind.i64 1)), some (87, false)⟩,
oo 91 (.pick (.t 87) (.c (Value.bool true)) (.t 90)),
oo 92 (.mv (.t 91)),
⟨some 93, .fadr 1 (.t 11), some (92, false)⟩,
⟨some 94, .load (none) (.t 93), some (92, false)⟩,
⟨some 95, .bin .gtr (.t 94) (.c (Value.int IntKind.i64 15)), some (92, false)⟩,
oo 96 (.pick (.t 92) (.c (Value.bool true)) (.t 95)),
oo 97 (.mv (.t 96)),
⟨some 98, .mv (.t 7), some (97, false)⟩,
⟨some 99, .load (some 2) (.t 12), some (97, false)⟩,
⟨some 100, .look true [0, 0] (.v (Value.int .i64 0)) false (.t 98) (.t 99), some (97, false)⟩,
⟨some 101, .bin .neq (.t 100) (.c (Value.int IntKind.i64 0)), some (97, false)⟩,
oo 102 (.pick (.t 97) (.c (Value.bool true)) (.t 101))] [3, 7, 8, 11, 12, 55, 56, 57, 62, 63, 64, 102])
   (.cond (.t 102) (.seq (.reg [oo 2 (.mv (.c (Value.bool false)))] [2])
    (.ret))
    (.skip)))
   (.reg [oo 103 (.mv (.t 7)),
oo 104 (.load (some 2) (.t 12)),
oo 105 (.fadr 1 (.t 11)),
oo 106 (.load (none) (.t 105)),
nn (.mput true [0, 0] (.t 103) (.t 104) (.t 106))] [3, 7, 8, 55, 56, 57, 62, 63, 64])))))
  (.reg [oo 107 (.bin .add (.t 64) (.c (Value.int IntKind.i64 1))),
oo 64 (.mv (.t 107))] [3, 7, 8, 55, 56, 57, 62, 63, 64])))

def m_graph_Valid_L1 : MC :=
  .seq (.reg [oo 58 (.bin .lss (.t 57) (.t 56))] [3, 7, 55, 56, 57, 58])
  (.seq (.cond (.t 58) (.skip)
   (.exit 2))
  (.seq (.block 3 (.seq (.reg [oo 59 (.mv (.t 57)),
oo 60 (.iadr 1 (.t 55) (.t 57)),
oo 61 (.load (none) (.t 60)),
oo 8 (.mv (.t 59)),
oo 9 (.mv (.t 61))] [3, 7, 8, 9, 55, 56, 57])
   (.seq (.reg [oo 62 (.mv (.t 9)),
oo 63 (.len 1 (.t 62)),
oo 64 (.mv (.c (Value.int IntKind.i64 0)))] [3, 7, 8, 55, 56, 57, 62, 63, 64])
   (.block 4 (.loop [3, 7, 8, 55, 56, 57, 62, 63, 64] m_graph_Valid_L2)))))
  (.reg [oo 108 (.bin .add (.t 57) (.c (Value.int IntKind.i64 1))),
oo 57 (.mv (.t 108))] [3, 7, 55, 56, 57])))

def m_graph_Valid_L0 : MC :=
  .seq (.reg [oo 36 (.bin .lss (.t 35) (.t 34))] [1, 3, 4, 33, 34, 35, 36])
  (.seq (.cond (.t 36) (.skip)
   (.exit 0))
  (.seq (.block 1 (.seq (.reg [oo 37 (.iadr 1 (.t 33) (.t 35)),
oo 38 (.load (none) (.t 37)),
oo 6 (.mv (.t 38))] [1, 3, 4, 6, 33, 34, 35])
   (.seq (.seq (.reg [oo 39 (.mv (.t 6)),
oo 40 (.bin .lss (.t 39) (.c (Value.int IntKind.i64 0))),
oo 41 (.mv (.t 40)),
⟨some 42, .mv (.t 6), some (41, false)⟩,
⟨some 43, .bin .gtr (.t 42) (.c (Value.int IntKind.i64 255)), some (41, false)⟩,
oo 44 (.pick (.t 41) (.c (Value.bool true)) (.t 43)),
oo 45 (.mv (.t 44)),
⟨some 46, .mv (.t 4), some (45, false)⟩,
⟨some 47, .mv (.t 6), some (45, false)⟩,
⟨some 48, .look false [0] (.v (Value.bool false)) false (.t 46) (.t 47), some (45, false)⟩,
oo 49 (.pick (.t 45) (.c (Value.bool true)) (.t 48))] [1, 3, 4, 6, 33, 34, 35, 49])
   (.cond (.t 49) (.seq (.reg [oo 2 (.mv (.c (Value.bool false)))] [2])
    (.ret))
    (.skip)))
   (.reg [oo 50 (.mv (.t 4)),
oo 51 (.mv (.t 6)),
nn (.mput false [0] (.t 50) (.t 51) (.c (Value.bool true)))] [1, 3, 4, 33, 34, 35]))))
  (.reg [oo 52 (.bin .add (.t 35) (.c (Value.int IntKind.i64 1))),
oo 35 (.mv (.t 52))] [1, 3, 4, 33, 34, 35])))

def m_graph_Valid : MF := ⟨125, [.tmp 2], true, (
  .seq (.reg [oo 1 (.box 2 (.t 0)),
oo 2 (.mv (.c (Value.bool false)))] [1])
  (.seq (.reg [oo 15 (.fadr 1 (.t 1)),
oo 16 (.load (none) (.t 15)),
oo 17 (.len 1 (.t 16)),
oo 3 (.mv (.t 17))] [1, 3])
  (.seq (.seq (.reg [oo 18 (.mv (.t 3)),
oo 19 (.bin .lss (.t 18) (.c (Value.int IntKind.i64 1))),
oo 20 (.mv (.t 19)),
⟨some 21, .mv (.t 3), some (20, false)⟩,
⟨some 22, .bin .gtr (.t 21) (.c (Value.int IntKind.i64 24)), some (20, false)⟩,
oo 23 (.pick (.t 20) (.c (Value.bool true)) (.t 22)),
oo 24 (.mv (.t 23)),
⟨some 25, .fadr 0 (.t 1), some (24, false)⟩,
⟨some 26, .load (none) (.t 25), some (24, false)⟩,
⟨some 27, .len 1 (.t 26), some (24, false)⟩,
⟨some 28, .mv (.t 3), some (24, false)⟩,
⟨some 29, .bin .neq (.t 27) (.t 28), some (24, false)⟩,
oo 30 (.pick (.t 24) (.c (Value.bool true)) (.t 29))] [1, 3, 30])
  (.cond (.t 30) (.seq (.reg [oo 2 (.mv (.c (Value.bool false)))] [2])
   (.ret))
   (.skip)))
  (.seq (.reg [oo 31 (.mkmap),
oo 4 (.mv (.t 31))] [1, 3, 4])
  (.seq (.seq (.reg [oo 32 (.fadr 0 (.t 1)),
oo 33 (.load (none) (.t 32)),
oo 34 (.len 1 (.t 33)),
oo 35 (.mv (.c (Value.int IntKind.i64 0)))] [1, 3, 4, 33, 34, 35])
  (.block 0 (.loop [1, 3, 4, 33, 34, 35] m_graph_Valid_L0)))
  (.seq (.reg [oo 53 (.mkmap),
oo 7 (.mv (.t 53))] [1, 3, 7])
  (.seq (.seq (.reg [oo 54 (.fadr 1 (.t 1)),
oo 55 (.load (none) (.t 54)),
oo 56 (.len 1 (.t 55)),
oo 57 (.mv (.c (Value.int IntKind.i64 0)))] [3, 7, 55, 56, 57])
  (.block 2 (.loop [3, 7, 55, 56, 57] m_graph_Valid_L1)))
  (.seq (.seq (.reg [oo 109 (.mv (.t 7)),
oo 110 (.rng (.t 109))] [7, 110])
  (.block 6 (.each 110 111 112 [7, 110] [(2, .bool false)] m_graph_Valid_L3)))
  (.seq (.reg [oo 2 (.mv (.c (Value.bool true)))] [2])
  (.ret))))))))))⟩

-- 160 selfstab/matching.configuration
def m_matching_configuration : MF := ⟨13, [.tmp 4], true, (
  .seq (.reg [oo 2 (.box 2 (.t 0)),
oo 4 (.mv (.c (Value.bool false)))] [1, 2])
  (.seq (.reg [oo 5 (.load (some 2) (.t 2)),
oo 6 (.call 159 [.t 5]),
oo 7 (.mv (.t 6)),
⟨some 8, .load (some 2) (.t 2), some (7, true)⟩,
⟨some 9, .mv (.t 1), some (7, true)⟩,
⟨some 10, .lit 1 [.v (Value.int .i64 0)] [(0, 1, (.c (Value.int IntKind.i64 (-1))))] false, some (7, true)⟩,
⟨some 11, .call 62 [.t 8, .t 9, .t 10], some (7, true)⟩,
oo 12 (.pick (.t 7) (.t 11) (.c (Value.bool false))),
oo 4 (.mv (.t 12))] [4])
  (.ret)))⟩

-- 161 selfstab/graph.Back
def m_graph_Back_L0 : MC :=
  .seq (.reg [oo 42 (.bin .lss (.t 41) (.t 40))] [1, 39, 40, 41, 42])
  (.seq (.cond (.t 42) (.skip)
   (.exit 0))
  (.seq (.block 1 (.seq (.reg [oo 43 (.mv (.t 41)),
oo 44 (.iadr 2 (.t 39) (.t 41)),
oo 45 (.load (some 2) (.t 44)),
oo 8 (.alloc [.v (Value.int .i64 0), .v (Value.int .i64 0)]),
oo 7 (.mv (.t 43)),
nn (.store 2 (.t 8) (.t 45))] [1, 7, 8, 39, 40, 41])
   (.seq (.reg [oo 46 (.fadr 0 (.t 8)),
oo 47 (.load (none) (.t 46)),
oo 48 (.mv (.t 1)),
oo 49 (.bin .eql (.t 47) (.t 48))] [1, 7, 39, 40, 41, 49])
   (.cond (.t 49) (.seq (.reg [oo 50 (.mv (.t 7)),
oo 6 (.mv (.t 50))] [6])
    (.ret))
    (.skip)))))
  (.reg [oo 51 (.bin .add (.t 41) (.c (Value.int IntKind.i64 1))),
oo 41 (.mv (.t 51))] [1, 39, 40, 41])))

def m_graph_Back : MF := ⟨52, [.tmp 6], true, (
  .seq (.reg [oo 3 (.box 2 (.t 0)),
oo 6 (.mv (.c (Value.int IntKind.i64 0)))] [1, 2, 3])
  (.seq (.seq (.reg [oo 9 (.load (some 2) (.t 3)),
oo 10 (.mv (.t 1)),
oo 11 (.call 84 [.t 9, .t 10]),
oo 12 (.un .not (.t 11)),
oo 13 (.mv (.t 12)),
⟨some 14, .mv (.t 2), some (13, false)⟩,
⟨some 15, .bin .lss (.t 14) (.c (Value.int IntKind.i64 0)), some (13, false)⟩,
oo 16 (.pick (.t 13) (.c (Value.bool true)) (.t 15)),
oo 17 (.mv (.t 16)),
⟨some 18, .mv (.t 2), some (17, false)⟩,
⟨some 19, .fadr 1 (.t 3), some (17, false)⟩,
⟨some 20, .load (none) (.t 19), some (17, false)⟩,
⟨some 21, .mv (.t 1), some (17, false)⟩,
⟨some 22, .iadr 1 (.t 20) (.t 21), some (17, false)⟩,
⟨some 23, .load (none) (.t 22), some (17, false)⟩,
⟨some 24, .len 1 (.t 23), some (17, false)⟩,
⟨some 25, .bin .geq (.t 18) (.t 24), some (17, false)⟩,
oo 26 (.pick (.t 17) (.c (Value.bool true)) (.t 25))] [1, 2, 3, 26])
  (.cond (.t 26) (.seq (.reg [oo 6 (.mv (.c (Value.int IntKind.i64 (-1))))] [6])
   (.ret))
   (.skip)))
  (.seq (.seq (.reg [oo 27 (.fadr 1 (.t 3)),
oo 28 (.load (none) (.t 27)),
oo 29 (.fadr 1 (.t 3)),
oo 30 (.load (none) (.t 29)),
oo 31 (.mv (.t 1)),
oo 32 (.iadr 1 (.t 30) (.t 31)),
oo 33 (.load (none) (.t 32)),
oo 34 (.mv (.t 2)),
oo 35 (.iadr 2 (.t 33) (.t 34)),
oo 36 (.fadr 0 (.t 35)),
oo 37 (.load (none) (.t 36)),
oo 38 (.iadr 1 (.t 28) (.t 37)),
oo 39 (.load (none) (.t 38)),
oo 40 (.len 1 (.t 39)),
oo 41 (.mv (.c (Value.int IntKind.i64 0)))] [1, 39, 40, 41])
  (.block 0 (.loop [1, 39, 40, 41] m_graph_Back_L0)))
  (.seq (.reg [oo 6 (.mv (.c (Value.int IntKind.i64 (-1))))] [6])
  (.ret)))))⟩

-- 43 selfstab/shape.At
def m_shape_At : MF := ⟨18, [.tmp 6], true, (
  .seq (.reg [oo 3 (.box 2 (.t 0)),
oo 6 (.mv (.c (Value.int IntKind.i64 0)))] [1, 2, 3])
  (.seq (.seq (.reg [oo 7 (.mv (.t 2)),
oo 8 (.bin .lss (.t 7) (.c (Value.int IntKind.i64 0)))] [1, 2, 3, 8])
  (.cond (.t 8) (.seq (.reg [oo 6 (.mv (.c (Value.int IntKind.i64 (-1))))] [6])
   (.ret))
   (.skip)))
  (.seq (.reg [oo 9 (.fadr 1 (.t 3)),
oo 10 (.load (none) (.t 9)),
oo 11 (.mv (.t 1)),
oo 12 (.iadr 1 (.t 10) (.t 11)),
oo 13 (.load (none) (.t 12)),
oo 14 (.mv (.t 2)),
oo 15 (.iadr 2 (.t 13) (.t 14)),
oo 16 (.fadr 0 (.t 15)),
oo 17 (.load (none) (.t 16)),
oo 6 (.mv (.t 17))] [6])
  (.ret))))⟩

-- 78 slices.SortFunc[[][2]int,[2]int]
def m_slices_SortFunc_2_int_2_int : MF := ⟨14, [], true, (
  .seq (.reg [oo 5 (.mv (.t 0)),
oo 6 (.len 1 (.t 5)),
oo 4 (.mv (.t 6))] [0, 1, 4])
  (.reg [oo 7 (.mv (.t 0)),
oo 8 (.mv (.t 4)),
oo 9 (.mv (.t 4)),
oo 10 (.conv .u64 (.t 9)),
oo 11 (.call 73 [.t 10]),
oo 12 (.mv (.t 1)),
oo 13 (.call 77 [.t 7, .c (Value.int IntKind.i64 0), .t 8, .t 11, .t 12])] []))⟩

-- 162 selfstab/matching.Pairs$1
def m_matching_Pairs_1 : MF := ⟨10, [.tmp 4], true, (
  .seq (.reg [oo 2 (.box 2 (.t 0)),
oo 3 (.box 2 (.t 1)),
oo 4 (.mv (.c (Value.int IntKind.i64 0)))] [2, 3])
  (.seq (.reg [oo 5 (.fadr 0 (.t 2)),
oo 6 (.load (none) (.t 5)),
oo 7 (.fadr 0 (.t 3)),
oo 8 (.load (none) (.t 7)),
oo 9 (.call 192 [.t 6, .t 8]),
oo 4 (.mv (.t 9))] [4])
  (.ret)))⟩

-- 192 cmp.Compare[int]
def m_cmp_Compare_int : MF := ⟨20, [.tmp 4], true, (
  .seq (.reg [oo 4 (.mv (.c (Value.int IntKind.i64 0)))] [0, 1])
  (.seq (.reg [oo 7 (.mv (.t 0)),
oo 8 (.call 191 [.t 7]),
oo 5 (.mv (.t 8))] [0, 1, 5])
  (.seq (.reg [oo 9 (.mv (.t 1)),
oo 10 (.call 191 [.t 9]),
oo 6 (.mv (.t 10))] [0, 1, 5, 6])
  (.seq (.seq (.reg [oo 11 (.mv (.t 5))] [0, 1, 6, 11])
  (.cond (.t 11) (.seq (.seq (.reg [oo 12 (.mv (.t 6))] [12])
   (.cond (.t 12) (.seq (.reg [oo 4 (.mv (.c (Value.int IntKind.i64 0)))] [4])
    (.ret))
    (.skip)))
   (.seq (.reg [oo 4 (.mv (.c (Value.int IntKind.i64 (-1))))] [4])
   (.ret)))
   (.skip)))
  (.seq (.seq (.reg [oo 13 (.mv (.t 6))] [0, 1, 13])
  (.cond (.t 13) (.seq (.reg [oo 4 (.mv (.c (Value.int IntKind.i64 1)))] [4])
   (.ret))
   (.skip)))
  (.seq (.seq (.reg [oo 14 (.mv (.t 0)),
oo 15 (.mv (.t 1)),
oo 16 (.bin .lss (.t 14) (.t 15))] [0, 1, 16])
  (.cond (.t 16) (.seq (.reg [oo 4 (.mv (.c (Value.int IntKind.i64 (-1))))] [4])
   (.ret))
   (.skip)))
  (.seq (.seq (.reg [oo 17 (.mv (.t 0)),
oo 18 (.mv (.t 1)),
oo 19 (.bin .gtr (.t 17) (.t 18))] [19])
  (.cond (.t 19) (.seq (.reg [oo 4 (.mv (.c (Value.int IntKind.i64 1)))] [4])
   (.ret))
   (.skip)))
  (.seq (.reg [oo 4 (.mv (.c (Value.int IntKind.i64 0)))] [4])
  (.ret)))))))))⟩

-- 163 selfstab/lexer.Scan
def m_lexer_Scan_L0 : MC :=
  .seq (.seq (.reg [oo 14 (.mv (.t 6)),
oo 15 (.mv (.t 0)),
oo 16 (.len 0 (.t 15)),
oo 17 (.bin .lss (.t 14) (.t 16))] [0, 5, 6, 17])
  (.cond (.t 17) (.skip)
   (.exit 0)))
  (.seq (.block 1 (.seq (.seq (.reg [oo 27 (.mv (.t 5)),
oo 28 (.len 1 (.t 27)),
oo 29 (.bin .eql (.t 28) (.c (Value.int IntKind.i64 4096)))] [0, 5, 6, 29])
   (.cond (.t 29) (.seq (.reg [oo 30 (.mv (.t 6)),
oo 2 (.mv (.c (Value.slice none 0 0))),
oo 3 (.mv (.t 30)),
oo 4 (.mv (.c (Value.int IntKind.i64 3)))] [2, 3, 4])
    (.ret))
    (.skip)))
   (.seq (.reg [oo 32 (.mv (.t 0)),
oo 33 (.mv (.t 6)),
oo 34 (.call 194 [.t 32, .t 33]),
oo 31 (.mv (.t 34)),
oo 35 (.ext (.t 31) 0),
oo 36 (.ext (.t 31) 1),
oo 7 (.alloc [.v (Value.int .i64 0), .v (Value.int .i64 0), .v (Value.int .i64 0), .v (Value.int .i64 0)]),
nn (.store 4 (.t 7) (.t 35)),
oo 8 (.mv (.t 36))] [0, 5, 6, 7, 8])
   (.seq (.seq (.reg [oo 37 (.mv (.t 8)),
oo 38 (.bin .neq (.t 37) (.c (Value.int IntKind.i64 0)))] [0, 5, 6, 7, 8, 38])
   (.cond (.t 38) (.seq (.reg [oo 39 (.mv (.t 6)),
oo 40 (.mv (.t 8)),
oo 2 (.mv (.c (Value.slice none 0 0))),
oo 3 (.mv (.t 39)),
oo 4 (.mv (.t 40))] [2, 3, 4])
    (.ret))
    (.skip)))
   (.reg [oo 41 (.mv (.t 5)),
oo 42 (.load (some 4) (.t 7)),
oo 43 (.lit 4 [.v (Value.int .i64 0), .v (Value.int .i64 0), .v (Value.int .i64 0), .v (Value.int .i64 0)] [(0, 4, (.t 42))] false),
oo 44 (.app 4 32 (.t 41) (.t 43)),
oo 5 (.mv (.t 44))] [0, 5])))))
  (.reg [oo 18 (.mv (.t 0)),
oo 19 (.mv (.t 5)),
oo 20 (.mv (.t 5)),
oo 21 (.len 1 (.t 20)),
oo 22 (.bin .sub (.t 21) (.c (Value.int IntKind.i64 1))),
oo 23 (.iadr 4 (.t 19) (.t 22)),
oo 24 (.fadr 2 (.t 23)),
oo 25 (.load (none) (.t 24)),
oo 26 (.call 193 [.t 18, .t 25]),
oo 6 (.mv (.t 26))] [0, 5, 6]))

def m_lexer_Scan : MF := ⟨46, [.tmp 2, .tmp 3, .tmp 4], true, (
  .seq (.reg [oo 2 (.mv (.c (Value.slice none 0 0))),
oo 3 (.mv (.c (Value.int IntKind.i64 0))),
oo 4 (.mv (.c (Value.int IntKind.i64 0)))] [0])
  (.seq (.seq (.reg [oo 9 (.mv (.t 0)),
oo 10 (.len 0 (.t 9)),
oo 11 (.bin .gtr (.t 10) (.c (Value.int IntKind.i64 16384)))] [0, 11])
  (.cond (.t 11) (.seq (.reg [oo 2 (.mv (.c (Value.slice none 0 0))),
oo 3 (.mv (.c (Value.int IntKind.i64 0))),
oo 4 (.mv (.c (Value.int IntKind.i64 3)))] [2, 3, 4])
   (.ret))
   (.skip)))
  (.seq (.reg [oo 5 (.mv (.c (Value.slice none 0 0)))] [0, 5])
  (.seq (.seq (.reg [oo 12 (.mv (.t 0)),
oo 13 (.call 193 [.t 12, .c (Value.int IntKind.i64 0)]),
oo 6 (.mv (.t 13))] [0, 5, 6])
  (.block 0 (.loop [0, 5, 6] m_lexer_Scan_L0)))
  (.seq (.reg [oo 45 (.mv (.t 5)),
oo 2 (.mv (.t 45)),
oo 3 (.mv (.c (Value.int IntKind.i64 0))),
oo 4 (.mv (.c (Value.int IntKind.i64 0)))] [2, 3, 4])
  (.ret))))))⟩

-- 166 (*selfstab/syntax.Reader).Wants
def m_syntax_Reader_Wants : MF := ⟨11, [], false, (
  .seq (.reg [oo 4 (.mv (.t 0)),
oo 5 (.mv (.t 1)),
oo 6 (.lit 1 [.v (Value.string ⟨#[]⟩)] [(0, 1, (.t 5))] false),
oo 7 (.call 195 [.t 4, .t 6]),
oo 8 (.bin .eql (.t 7) (.c (Value.string ⟨#[]⟩)))] [0, 8])
  (.cond (.t 8) (.reg [oo 9 (.mv (.t 0)),
oo 10 (.call 172 [.t 9, .c (Value.int IntKind.i64 4)])] [])
   (.skip)))⟩

-- 167 (*selfstab/syntax.Reader).Fresh
def m_syntax_Reader_Fresh : MF := ⟨34, [.tmp 4], false, (
  .seq (.reg [oo 4 (.mv (.c (Value.string ⟨#[]⟩)))] [0, 1])
  (.seq (.reg [oo 8 (.mv (.t 0)),
oo 9 (.call 196 [.t 8, .c (Value.int IntKind.i64 0)]),
oo 7 (.mv (.t 9)),
oo 10 (.ext (.t 7) 0),
oo 11 (.ext (.t 7) 1),
oo 5 (.mv (.t 10)),
oo 6 (.mv (.t 11))] [0, 1, 5, 6])
  (.seq (.seq (.reg [oo 12 (.mv (.t 6)),
oo 13 (.bin .neq (.t 12) (.c (Value.int IntKind.i64 1))),
oo 14 (.mv (.t 13)),
⟨some 15, .mv (.t 5), some (14, false)⟩,
⟨some 16, .call 175 [.t 15], some (14, false)⟩,
⟨some 17, .un .not (.t 16), some (14, false)⟩,
oo 18 (.pick (.t 14) (.c (Value.bool true)) (.t 17))] [0, 1, 5, 18])
  (.cond (.t 18) (.reg [oo 19 (.mv (.t 0)),
oo 20 (.call 172 [.t 19, .c (Value.int IntKind.i64 4)])] [0, 1, 5])
   (.skip)))
  (.seq (.seq (.reg [oo 21 (.mv (.t 1)),
oo 22 (.mv (.t 5)),
oo 23 (.call 197 [.t 21, .t 22])] [0, 5, 23])
  (.cond (.t 23) (.reg [oo 24 (.mv (.t 0)),
oo 25 (.call 172 [.t 24, .c (Value.int IntKind.i64 5)])] [0, 5])
   (.skip)))
  (.seq (.reg [oo 26 (.mv (.t 0)),
oo 27 (.nck (.t 26)),
oo 28 (.fadr 2 (.t 27)),
oo 29 (.load (none) (.t 28)),
oo 30 (.bin .add (.t 29) (.c (Value.int IntKind.i64 1))),
oo 31 (.nck (.t 26)),
oo 32 (.fadr 2 (.t 31)),
nn (.store 1 (.t 32) (.t 30))] [5])
  (.seq (.reg [oo 33 (.mv (.t 5)),
oo 4 (.mv (.t 33))] [4])
  (.ret)))))))⟩

-- 168 (*selfstab/program.reader).word
def m_program_reader_word : MF := ⟨33, [.tmp 8], false, (
  .seq (.reg [oo 8 (.mv (.c (Value.bool false)))] [0, 1, 2, 3])
  (.seq (.seq (.reg [oo 9 (.mv (.t 0)),
oo 10 (.nck (.t 9)),
oo 11 (.fadr 0 (.t 10)),
oo 12 (.load (none) (.t 11)),
oo 13 (.mv (.t 1)),
oo 14 (.lit 1 [.v (Value.string ⟨#[]⟩)] [(0, 1, (.t 13))] false),
oo 15 (.call 198 [.t 12, .t 14]),
oo 16 (.bin .eql (.t 15) (.c (Value.string ⟨#[]⟩)))] [0, 1, 2, 3, 16])
  (.cond (.t 16) (.seq (.reg [oo 8 (.mv (.c (Value.bool false)))] [8])
   (.ret))
   (.skip)))
  (.seq (.seq (.reg [oo 17 (.mv (.t 2)),
oo 18 (.mv (.t 3)),
oo 19 (.bin .eql (.t 17) (.t 18))] [0, 1, 19])
  (.cond (.t 19) (.reg [oo 20 (.mv (.t 0)),
oo 21 (.nck (.t 20)),
oo 22 (.fadr 0 (.t 21)),
oo 23 (.load (none) (.t 22)),
oo 24 (.call 172 [.t 23, .c (Value.int IntKind.i64 3)])] [0, 1])
   (.skip)))
  (.seq (.reg [oo 25 (.mv (.t 0)),
oo 26 (.nck (.t 25)),
oo 27 (.fadr 0 (.t 26)),
oo 28 (.load (none) (.t 27)),
oo 29 (.mv (.t 1)),
oo 30 (.lit 1 [.v (Value.string ⟨#[]⟩)] [(0, 1, (.t 29))] false),
oo 31 (.call 195 [.t 28, .t 30]),
oo 32 (.bin .neq (.t 31) (.c (Value.string ⟨#[]⟩))),
oo 8 (.mv (.t 32))] [8])
  (.ret)))))⟩

-- 169 (*selfstab/program.reader).variable
def m_program_reader_variable : MF := ⟨81, [], false, (
  .seq (.reg [oo 3 (.mv (.t 0)),
oo 4 (.nck (.t 3)),
oo 5 (.fadr 0 (.t 4)),
oo 6 (.load (none) (.t 5)),
oo 7 (.mv (.t 0)),
oo 8 (.nck (.t 7)),
oo 9 (.fadr 0 (.t 8)),
oo 10 (.load (none) (.t 9)),
oo 11 (.nck (.t 10)),
oo 12 (.fadr 3 (.t 11)),
oo 13 (.load (none) (.t 12)),
oo 14 (.call 167 [.t 6, .t 13]),
oo 15 (.build [.v (Value.string ⟨#[]⟩), .v (Value.int .i64 0), .v (Value.int .i64 0), .v (Value.int .i64 0), .v (Value.int .i64 0), .v (Value.int .i64 0)] [(0, 1, (.t 14))]),
oo 2 (.alloc [.v (Value.string ⟨#[]⟩), .v (Value.int .i64 0), .v (Value.int .i64 0), .v (Value.int .i64 0), .v (Value.int .i64 0), .v (Value.int .i64 0)]),
nn (.mat 6 2 (.t 15))] [0, 2])
  (.seq (.reg [oo 16 (.mv (.t 0)),
oo 17 (.nck (.t 16)),
oo 18 (.fadr 0 (.t 17)),
oo 19 (.load (none) (.t 18)),
oo 20 (.call 166 [.t 19, .c (Value.string ⟨#[58]⟩)])] [0, 2])
  (.seq (.seq (.reg [oo 21 (.mv (.t 0)),
oo 22 (.nck (.t 21)),
oo 23 (.fadr 0 (.t 22)),
oo 24 (.load (none) (.t 23)),
oo 25 (.lit 1 [.v (Value.string ⟨#[]⟩), .v (Value.string ⟨#[]⟩)] [(0, 1, (.c (Value.string ⟨#[98, 111, 111, 108]⟩))), (1, 1, (.c (Value.string ⟨#[112, 111, 114, 116]⟩)))] false),
oo 26 (.call 195 [.t 24, .t 25])] [0, 2, 26])
  (.block 0 (.seq (.reg [oo 42 (.bin .eql (.t 26) (.c (Value.string ⟨#[98, 111, 111, 108]⟩))),
oo 41 (.mv (.t 42))] [0, 2, 26, 41])
   (.cond (.t 41) (.reg [oo 43 (.fadr 1 (.t 2)),
nn (.store 1 (.t 43) (.c (Value.int IntKind.i64 2)))] [0, 2])
    (.seq (.reg [oo 45 (.bin .eql (.t 26) (.c (Value.string ⟨#[112, 111, 114, 116]⟩))),
oo 44 (.mv (.t 45))] [0, 2, 44])
    (.cond (.t 44) (.reg [oo 46 (.fadr 1 (.t 2)),
nn (.store 1 (.t 46) (.c (Value.int IntKind.i64 3)))] [0, 2])
     (.seq (.reg [oo 27 (.mv (.t 0)),
oo 28 (.nck (.t 27)),
oo 29 (.fadr 0 (.t 28)),
oo 30 (.load (none) (.t 29)),
oo 31 (.call 199 [.t 30, .c (Value.int IntKind.i64 0), .c (Value.int IntKind.i64 4096)]),
oo 32 (.fadr 1 (.t 2)),
nn (.store 1 (.t 32) (.c (Value.int IntKind.i64 1))),
oo 33 (.fadr 2 (.t 2)),
nn (.store 1 (.t 33) (.t 31))] [0, 2])
     (.seq (.reg [oo 34 (.mv (.t 0)),
oo 35 (.nck (.t 34)),
oo 36 (.fadr 0 (.t 35)),
oo 37 (.load (none) (.t 36)),
oo 38 (.call 166 [.t 37, .c (Value.string ⟨#[46, 46]⟩)])] [0, 2])
     (.reg [oo 39 (.mv (.t 0)),
oo 40 (.call 200 [.t 39, .t 2])] [0, 2])))))))))
  (.seq (.reg [oo 47 (.mv (.t 0)),
oo 48 (.nck (.t 47)),
oo 49 (.fadr 0 (.t 48)),
oo 50 (.load (none) (.t 49)),
oo 51 (.call 166 [.t 50, .c (Value.string ⟨#[59]⟩)])] [0, 2])
  (.regd [0, 0, 2, 6, 14, 0, 32, 96, 224, 480, 0, 1024, 4064, 0, 8192, 24576, 57344, 122880, 253952, 516096, 0, 1048576, 3145728, 8388576, 16777215, 33554431, 67108863, 134217727, 268435455, 536870911, 1073741823] [oo 52 (.mv (.t 0)),
oo 53 (.mv (.t 0)),
oo 54 (.nck (.t 53)),
oo 55 (.fadr 0 (.t 54)),
oo 56 (.load (none) (.t 55)),
oo 57 (.mv (.t 0)),
oo 58 (.nck (.t 57)),
oo 59 (.fadr 1 (.t 58)),
oo 60 (.fadr 1 (.t 59)),
oo 61 (.load (none) (.t 60)),
oo 62 (.load (some 6) (.t 2)),
oo 63 (.lit 6 [.v (Value.string ⟨#[]⟩), .v (Value.int .i64 0), .v (Value.int .i64 0), .v (Value.int .i64 0), .v (Value.int .i64 0), .v (Value.int .i64 0)] [(0, 6, (.t 62))] false),
oo 64 (.app 6 56 (.t 61) (.t 63)),
oo 65 (.mv (.t 0)),
oo 66 (.nck (.t 65)),
oo 67 (.fadr 0 (.t 66)),
oo 68 (.load (none) (.t 67)),
oo 69 (.nck (.t 68)),
oo 70 (.fadr 3 (.t 69)),
oo 71 (.load (none) (.t 70)),
oo 72 (.fadr 0 (.t 2)),
oo 73 (.load (none) (.t 72)),
oo 74 (.lit 1 [.v (Value.string ⟨#[]⟩)] [(0, 1, (.t 73))] false),
oo 75 (.app 1 16 (.t 71) (.t 74)),
oo 76 (.nck (.t 52)),
oo 77 (.fadr 1 (.t 76)),
oo 78 (.fadr 1 (.t 77)),
nn (.store 1 (.t 78) (.t 64)),
oo 79 (.nck (.t 56)),
oo 80 (.fadr 3 (.t 79)),
nn (.store 1 (.t 80) (.t 75))] [])))))⟩

-- 170 (*selfstab/program.reader).rule
def m_program_reader_rule_L0 : MC :=
  .block 1 (.seq (.reg [oo 30 (.mv (.t 0)),
oo 31 (.nck (.t 30)),
oo 32 (.fadr 0 (.t 31)),
oo 33 (.load (none) (.t 32)),
oo 34 (.call 202 [.t 33]),
oo 35 (.build [.v (Value.int .i64 0), .v (Value.slice none 0 0)] [(0, 1, (.t 34))]),
oo 3 (.new [.v (Value.int .i64 0), .v (Value.slice none 0 0)]),
nn (.store 2 (.t 3) (.t 35))] [0, 2, 3])
   (.seq (.reg [oo 36 (.mv (.t 0)),
oo 37 (.nck (.t 36)),
oo 38 (.fadr 0 (.t 37)),
oo 39 (.load (none) (.t 38)),
oo 40 (.call 166 [.t 39, .c (Value.string ⟨#[58, 61]⟩)])] [0, 2, 3])
   (.seq (.reg [oo 41 (.mv (.t 0)),
oo 42 (.nck (.t 41)),
oo 43 (.fadr 0 (.t 42)),
oo 44 (.load (none) (.t 43)),
oo 45 (.call 201 [.t 44]),
oo 46 (.fadr 1 (.t 3)),
nn (.store 1 (.t 46) (.t 45))] [0, 2, 3])
   (.seq (.reg [oo 47 (.fadr 2 (.t 2)),
oo 48 (.load (none) (.t 47)),
oo 49 (.load (some 2) (.t 3)),
oo 50 (.lit 2 [.v (Value.int .i64 0), .v (Value.slice none 0 0)] [(0, 2, (.t 49))] true),
oo 51 (.app 2 32 (.t 48) (.t 50)),
oo 52 (.fadr 2 (.t 2)),
nn (.store 1 (.t 52) (.t 51))] [0, 2])
   (.seq (.reg [oo 53 (.mv (.t 0)),
oo 54 (.nck (.t 53)),
oo 55 (.fadr 0 (.t 54)),
oo 56 (.load (none) (.t 55)),
oo 57 (.lit 1 [.v (Value.string ⟨#[]⟩)] [(0, 1, (.c (Value.string ⟨#[44]⟩)))] false),
oo 58 (.call 195 [.t 56, .t 57]),
oo 59 (.bin .eql (.t 58) (.c (Value.string ⟨#[]⟩)))] [0, 2, 59])
   (.cond (.t 59) (.exit 0)
    (.skip)))))))

def m_program_reader_rule : MF := ⟨88, [], false, (
  .seq (.reg [oo 4 (.mv (.t 0)),
oo 5 (.nck (.t 4)),
oo 6 (.fadr 0 (.t 5)),
oo 7 (.load (none) (.t 6)),
oo 8 (.mv (.t 0)),
oo 9 (.nck (.t 8)),
oo 10 (.fadr 4 (.t 9)),
oo 11 (.load (none) (.t 10)),
oo 12 (.call 167 [.t 7, .t 11]),
oo 13 (.build [.v (Value.string ⟨#[]⟩), .v (Value.slice none 0 0), .v (Value.slice none 0 0)] [(0, 1, (.t 12))]),
oo 2 (.alloc [.v (Value.string ⟨#[]⟩), .v (Value.slice none 0 0), .v (Value.slice none 0 0)]),
nn (.mat 3 2 (.t 13))] [0, 2])
  (.seq (.reg [oo 14 (.mv (.t 0)),
oo 15 (.nck (.t 14)),
oo 16 (.fadr 0 (.t 15)),
oo 17 (.load (none) (.t 16)),
oo 18 (.call 166 [.t 17, .c (Value.string ⟨#[58]⟩)])] [0, 2])
  (.seq (.reg [oo 19 (.mv (.t 0)),
oo 20 (.nck (.t 19)),
oo 21 (.fadr 0 (.t 20)),
oo 22 (.load (none) (.t 21)),
oo 23 (.call 201 [.t 22]),
oo 24 (.fadr 1 (.t 2)),
nn (.store 1 (.t 24) (.t 23))] [0, 2])
  (.seq (.reg [oo 25 (.mv (.t 0)),
oo 26 (.nck (.t 25)),
oo 27 (.fadr 0 (.t 26)),
oo 28 (.load (none) (.t 27)),
oo 29 (.call 166 [.t 28, .c (Value.string ⟨#[45, 62]⟩)])] [0, 2])
  (.seq (.block 0 (.loop [0, 2] m_program_reader_rule_L0))
  (.seq (.reg [oo 60 (.mv (.t 0)),
oo 61 (.nck (.t 60)),
oo 62 (.fadr 0 (.t 61)),
oo 63 (.load (none) (.t 62)),
oo 64 (.call 166 [.t 63, .c (Value.string ⟨#[59]⟩)])] [0, 2])
  (.regd [0, 0, 0, 4, 12, 28, 60, 0, 128, 508, 0, 1024, 3072, 7168, 0, 16384, 49152, 131068, 262141, 524285, 1048573, 2097149, 4194303, 8388607, 16777215] [oo 65 (.mv (.t 0)),
oo 66 (.mv (.t 0)),
oo 67 (.mv (.t 0)),
oo 68 (.nck (.t 67)),
oo 69 (.fadr 1 (.t 68)),
oo 70 (.fadr 2 (.t 69)),
oo 71 (.load (none) (.t 70)),
oo 72 (.load (some 3) (.t 2)),
oo 73 (.lit 3 [.v (Value.string ⟨#[]⟩), .v (Value.slice none 0 0), .v (Value.slice none 0 0)] [(0, 3, (.t 72))] true),
oo 74 (.app 3 64 (.t 71) (.t 73)),
oo 75 (.mv (.t 0)),
oo 76 (.nck (.t 75)),
oo 77 (.fadr 4 (.t 76)),
oo 78 (.load (none) (.t 77)),
oo 79 (.fadr 0 (.t 2)),
oo 80 (.load (none) (.t 79)),
oo 81 (.lit 1 [.v (Value.string ⟨#[]⟩)] [(0, 1, (.t 80))] false),
oo 82 (.app 1 16 (.t 78) (.t 81)),
oo 83 (.nck (.t 65)),
oo 84 (.fadr 1 (.t 83)),
oo 85 (.fadr 2 (.t 84)),
nn (.store 1 (.t 85) (.t 74)),
oo 86 (.nck (.t 66)),
oo 87 (.fadr 4 (.t 86)),
nn (.store 1 (.t 87) (.t 82))] [])))))))⟩

-- 171 (*selfstab/syntax.Reader).Done
def m_syntax_Reader_Done : MF := ⟨13, [.tmp 2], false, (
  .seq (.reg [oo 2 (.mv (.c (Value.bool false)))] [0])
  (.seq (.reg [oo 3 (.mv (.t 0)),
oo 4 (.nck (.t 3)),
oo 5 (.fadr 2 (.t 4)),
oo 6 (.load (none) (.t 5)),
oo 7 (.mv (.t 0)),
oo 8 (.nck (.t 7)),
oo 9 (.fadr 1 (.t 8)),
oo 10 (.load (none) (.t 9)),
oo 11 (.len 1 (.t 10)),
oo 12 (.bin .eql (.t 6) (.t 11)),
oo 2 (.mv (.t 12))] [2])
  (.ret)))⟩

-- 172 (*selfstab/syntax.Reader).Fail
def m_syntax_Reader_Fail : MF := ⟨9, [], false, (
  .reg [oo 4 (.mv (.t 0)),
oo 5 (.call 203 [.t 4]),
oo 6 (.mv (.t 1)),
oo 7 (.build [.v (Value.int .i64 0), .v (Value.int .i64 0)] [(0, 1, (.t 5)), (1, 1, (.t 6))]),
oo 8 (.nop),
nn (.nop)] [])⟩

-- 174 selfstab/types.ranged
def m_types_ranged : MF := ⟨67, [.tmp 2], true, (
  .seq (.reg [oo 1 (.box 6 (.t 0)),
oo 2 (.mv (.c (Value.bool false)))] [1])
  (.seq (.seq (.reg [oo 4 (.fadr 1 (.t 1)),
oo 5 (.load (none) (.t 4)),
oo 6 (.bin .neq (.t 5) (.c (Value.int IntKind.i64 1)))] [1, 6])
  (.cond (.t 6) (.seq (.reg [oo 7 (.fadr 1 (.t 1)),
oo 8 (.load (none) (.t 7)),
oo 9 (.call 204 [.t 8]),
oo 10 (.mv (.t 9)),
⟨some 11, .fadr 2 (.t 1), some (10, true)⟩,
⟨some 12, .load (none) (.t 11), some (10, true)⟩,
⟨some 13, .bin .eql (.t 12) (.c (Value.int IntKind.i64 0)), some (10, true)⟩,
oo 14 (.pick (.t 10) (.t 13) (.c (Value.bool false))),
oo 15 (.mv (.t 14)),
⟨some 16, .fadr 3 (.t 1), some (15, true)⟩,
⟨some 17, .load (none) (.t 16), some (15, true)⟩,
⟨some 18, .bin .eql (.t 17) (.c (Value.int IntKind.i64 0)), some (15, true)⟩,
oo 19 (.pick (.t 15) (.t 18) (.c (Value.bool false))),
oo 20 (.mv (.t 19)),
⟨some 21, .fadr 4 (.t 1), some (20, true)⟩,
⟨some 22, .load (none) (.t 21), some (20, true)⟩,
⟨some 23, .bin .eql (.t 22) (.c (Value.int IntKind.i64 0)), some (20, true)⟩,
oo 24 (.pick (.t 20) (.t 23) (.c (Value.bool false))),
oo 25 (.mv (.t 24)),
⟨some 26, .fadr 5 (.t 1), some (25, true)⟩,
⟨some 27, .load (none) (.t 26), some (25, true)⟩,
⟨some 28, .bin .eql (.t 27) (.c (Value.int IntKind.i64 0)), some (25, true)⟩,
oo 29 (.pick (.t 25) (.t 28) (.c (Value.bool false))),
oo 2 (.mv (.t 29))] [2])
   (.ret))
   (.skip)))
  (.seq (.reg [oo 3 (.mv (.c (Value.int IntKind.i64 (-4096))))] [1, 3])
  (.seq (.seq (.reg [oo 30 (.fadr 4 (.t 1)),
oo 31 (.load (none) (.t 30)),
oo 32 (.bin .eql (.t 31) (.c (Value.int IntKind.i64 0))),
oo 33 (.mv (.t 32)),
⟨some 34, .fadr 5 (.t 1), some (33, true)⟩,
⟨some 35, .load (none) (.t 34), some (33, true)⟩,
⟨some 36, .bin .eql (.t 35) (.c (Value.int IntKind.i64 0)), some (33, true)⟩,
oo 37 (.pick (.t 33) (.t 36) (.c (Value.bool false)))] [1, 3, 37])
  (.cond (.t 37) (.reg [oo 3 (.mv (.c (Value.int IntKind.i64 0)))] [1, 3])
   (.skip)))
  (.seq (.reg [oo 38 (.fadr 2 (.t 1)),
oo 39 (.load (none) (.t 38)),
oo 40 (.call 205 [.t 39, .c (Value.int IntKind.i64 0), .c (Value.int IntKind.i64 4096)]),
oo 41 (.mv (.t 40)),
⟨some 42, .fadr 4 (.t 1), some (41, true)⟩,
⟨some 43, .load (none) (.t 42), some (41, true)⟩,
⟨some 44, .call 205 [.t 43, .c (Value.int IntKind.i64 0), .c (Value.int IntKind.i64 255)], some (41, true)⟩,
oo 45 (.pick (.t 41) (.t 44) (.c (Value.bool false))),
oo 46 (.mv (.t 45)),
⟨some 47, .fadr 5 (.t 1), some (46, true)⟩,
⟨some 48, .load (none) (.t 47), some (46, true)⟩,
⟨some 49, .call 205 [.t 48, .c (Value.int IntKind.i64 0), .c (Value.int IntKind.i64 255)], some (46, true)⟩,
oo 50 (.pick (.t 46) (.t 49) (.c (Value.bool false))),
oo 51 (.mv (.t 50)),
⟨some 52, .fadr 4 (.t 1), some (51, true)⟩,
⟨some 53, .load (none) (.t 52), some (51, true)⟩,
⟨some 54, .bin .eql (.t 53) (.c (Value.int IntKind.i64 0)), some (51, true)⟩,
⟨some 55, .mv (.t 54), some (51, true)⟩,
⟨some 56, .fadr 5 (.t 1), some (55, false)⟩,
⟨some 57, .load (none) (.t 56), some (55, false)⟩,
⟨some 58, .bin .eql (.t 57) (.c (Value.int IntKind.i64 0)), some (55, false)⟩,
⟨some 59, .pick (.t 55) (.c (Value.bool true)) (.t 58), some (51, true)⟩,
oo 60 (.pick (.t 51) (.t 59) (.c (Value.bool false))),
oo 61 (.mv (.t 60)),
⟨some 62, .fadr 3 (.t 1), some (61, true)⟩,
⟨some 63, .load (none) (.t 62), some (61, true)⟩,
⟨some 64, .mv (.t 3), some (61, true)⟩,
⟨some 65, .call 205 [.t 63, .t 64, .c (Value.int IntKind.i64 4096)], some (61, true)⟩,
oo 66 (.pick (.t 61) (.t 65) (.c (Value.bool false))),
oo 2 (.mv (.t 66))] [2])
  (.ret))))))⟩

-- 175 selfstab/lexer.Name
def m_lexer_Name : MF := ⟨27, [.tmp 2], true, (
  .seq (.reg [oo 2 (.mv (.c (Value.bool false)))] [0])
  (.seq (.reg [oo 3 (.mv (.t 0)),
oo 4 (.bin .neq (.t 3) (.c (Value.string ⟨#[]⟩))),
oo 5 (.mv (.t 4)),
⟨some 6, .mv (.t 0), some (5, true)⟩,
⟨some 7, .len 0 (.t 6), some (5, true)⟩,
⟨some 8, .bin .leq (.t 7) (.c (Value.int IntKind.i64 24)), some (5, true)⟩,
oo 9 (.pick (.t 5) (.t 8) (.c (Value.bool false))),
oo 10 (.mv (.t 9)),
⟨some 11, .mv (.t 0), some (10, true)⟩,
⟨some 12, .sidx (.t 11) (.c (Value.int IntKind.i64 0)), some (10, true)⟩,
⟨some 13, .call 206 [.t 12], some (10, true)⟩,
oo 14 (.pick (.t 10) (.t 13) (.c (Value.bool false))),
oo 15 (.mv (.t 14)),
⟨some 16, .mv (.t 0), some (15, true)⟩,
⟨some 17, .call 208 [.t 16, .c (Value.int IntKind.i64 0), .f 207], some (15, true)⟩,
⟨some 18, .mv (.t 0), some (15, true)⟩,
⟨some 19, .len 0 (.t 18), some (15, true)⟩,
⟨some 20, .bin .eql (.t 17) (.t 19), some (15, true)⟩,
oo 21 (.pick (.t 15) (.t 20) (.c (Value.bool false))),
oo 22 (.mv (.t 21)),
⟨some 23, .mv (.t 0), some (22, true)⟩,
⟨some 24, .call 209 [.t 23], some (22, true)⟩,
⟨some 25, .un .not (.t 24), some (22, true)⟩,
oo 26 (.pick (.t 22) (.t 25) (.c (Value.bool false))),
oo 2 (.mv (.t 26))] [2])
  (.ret)))⟩

-- 176 selfstab/types.named
def m_types_named_L0 : MC :=
  .seq (.reg [oo 10 (.bin .lss (.t 9) (.t 8))] [3, 7, 8, 9, 10])
  (.seq (.cond (.t 10) (.skip)
   (.exit 0))
  (.seq (.block 1 (.seq (.reg [oo 11 (.iadr 1 (.t 7) (.t 9)),
oo 12 (.load (none) (.t 11)),
oo 5 (.mv (.t 12))] [3, 5, 7, 8, 9])
   (.seq (.seq (.reg [oo 13 (.mv (.t 5)),
oo 14 (.call 175 [.t 13]),
oo 15 (.un .not (.t 14)),
oo 16 (.mv (.t 15)),
⟨some 17, .mv (.t 3), some (16, false)⟩,
⟨some 18, .mv (.t 5), some (16, false)⟩,
⟨some 19, .look false [2] (.v (Value.bool false)) false (.t 17) (.t 18), some (16, false)⟩,
oo 20 (.pick (.t 16) (.c (Value.bool true)) (.t 19))] [3, 5, 7, 8, 9, 20])
   (.cond (.t 20) (.seq (.reg [oo 2 (.mv (.c (Value.bool false)))] [2])
    (.ret))
    (.skip)))
   (.reg [oo 21 (.mv (.t 3)),
oo 22 (.mv (.t 5)),
nn (.mput false [2] (.t 21) (.t 22) (.c (Value.bool true)))] [3, 7, 8, 9]))))
  (.reg [oo 23 (.bin .add (.t 9) (.c (Value.int IntKind.i64 1))),
oo 9 (.mv (.t 23))] [3, 7, 8, 9])))

def m_types_named : MF := ⟨24, [.tmp 2], true, (
  .seq (.reg [oo 2 (.mv (.c (Value.bool false)))] [0])
  (.seq (.reg [oo 6 (.mkmap),
oo 3 (.mv (.t 6))] [0, 3])
  (.seq (.seq (.reg [oo 7 (.mv (.t 0)),
oo 8 (.len 1 (.t 7)),
oo 9 (.mv (.c (Value.int IntKind.i64 0)))] [3, 7, 8, 9])
  (.block 0 (.loop [3, 7, 8, 9] m_types_named_L0)))
  (.seq (.reg [oo 2 (.mv (.c (Value.bool true)))] [2])
  (.ret)))))⟩

-- 177 selfstab/types.formed
def m_types_formed_L0 : MC :=
  .seq (.reg [oo 30 (.bin .lss (.t 29) (.t 28))] [1, 5, 27, 28, 29, 30])
  (.seq (.cond (.t 30) (.skip)
   (.exit 0))
  (.seq (.block 1 (.seq (.reg [oo 31 (.iadr 2 (.t 27) (.t 29)),
oo 32 (.load (some 2) (.t 31)),
oo 7 (.alloc [.v (Value.int .i64 0), .v (Value.slice none 0 0)]),
nn (.store 2 (.t 7) (.t 32))] [1, 5, 7, 27, 28, 29])
   (.seq (.seq (.reg [oo 33 (.fadr 0 (.t 7)),
oo 34 (.load (none) (.t 33)),
oo 35 (.mv (.t 1)),
oo 36 (.bin .sub (.t 35) (.c (Value.int IntKind.i64 1))),
oo 37 (.call 205 [.t 34, .c (Value.int IntKind.i64 0), .t 36]),
oo 38 (.un .not (.t 37)),
oo 39 (.mv (.t 38)),
⟨some 40, .mv (.t 5), some (39, false)⟩,
⟨some 41, .fadr 0 (.t 7), some (39, false)⟩,
⟨some 42, .load (none) (.t 41), some (39, false)⟩,
⟨some 43, .look false [0] (.v (Value.bool false)) false (.t 40) (.t 42), some (39, false)⟩,
oo 44 (.pick (.t 39) (.c (Value.bool true)) (.t 43)),
oo 45 (.mv (.t 44)),
⟨some 46, .fadr 1 (.t 7), some (45, false)⟩,
⟨some 47, .load (none) (.t 46), some (45, false)⟩,
⟨some 48, .mv (.t 1), some (45, false)⟩,
⟨some 49, .call 210 [.t 47, .t 48], some (45, false)⟩,
⟨some 50, .un .not (.t 49), some (45, false)⟩,
oo 51 (.pick (.t 45) (.c (Value.bool true)) (.t 50))] [1, 5, 7, 27, 28, 29, 51])
   (.cond (.t 51) (.seq (.reg [oo 4 (.mv (.c (Value.bool false)))] [4])
    (.ret))
    (.skip)))
   (.reg [oo 52 (.mv (.t 5)),
oo 53 (.fadr 0 (.t 7)),
oo 54 (.load (none) (.t 53)),
nn (.mput false [0] (.t 52) (.t 54) (.c (Value.bool true)))] [1, 5, 27, 28, 29]))))
  (.reg [oo 55 (.bin .add (.t 29) (.c (Value.int IntKind.i64 1))),
oo 29 (.mv (.t 55))] [1, 5, 27, 28, 29])))

def m_types_formed : MF := ⟨56, [.tmp 4], true, (
  .seq (.reg [oo 2 (.box 3 (.t 0)),
oo 4 (.mv (.c (Value.bool false)))] [1, 2])
  (.seq (.seq (.reg [oo 8 (.fadr 2 (.t 2)),
oo 9 (.load (none) (.t 8)),
oo 10 (.len 1 (.t 9)),
oo 11 (.bin .eql (.t 10) (.c (Value.int IntKind.i64 0))),
oo 12 (.mv (.t 11)),
⟨some 13, .fadr 2 (.t 2), some (12, false)⟩,
⟨some 14, .load (none) (.t 13), some (12, false)⟩,
⟨some 15, .len 1 (.t 14), some (12, false)⟩,
⟨some 16, .bin .gtr (.t 15) (.c (Value.int IntKind.i64 6)), some (12, false)⟩,
oo 17 (.pick (.t 12) (.c (Value.bool true)) (.t 16)),
oo 18 (.mv (.t 17)),
⟨some 19, .fadr 1 (.t 2), some (18, false)⟩,
⟨some 20, .load (none) (.t 19), some (18, false)⟩,
⟨some 21, .mv (.t 1), some (18, false)⟩,
⟨some 22, .call 210 [.t 20, .t 21], some (18, false)⟩,
⟨some 23, .un .not (.t 22), some (18, false)⟩,
oo 24 (.pick (.t 18) (.c (Value.bool true)) (.t 23))] [1, 2, 24])
  (.cond (.t 24) (.seq (.reg [oo 4 (.mv (.c (Value.bool false)))] [4])
   (.ret))
   (.skip)))
  (.seq (.reg [oo 25 (.mkmap),
oo 5 (.mv (.t 25))] [1, 2, 5])
  (.seq (.seq (.reg [oo 26 (.fadr 2 (.t 2)),
oo 27 (.load (none) (.t 26)),
oo 28 (.len 1 (.t 27)),
oo 29 (.mv (.c (Value.int IntKind.i64 0)))] [1, 5, 27, 28, 29])
  (.block 0 (.loop [1, 5, 27, 28, 29] m_types_formed_L0)))
  (.seq (.reg [oo 4 (.mv (.c (Value.bool true)))] [4])
  (.ret))))))⟩

-- 178 selfstab/types.typed
def m_types_typed_L0 : MC :=
  .seq (.reg [oo 16 (.bin .lss (.t 15) (.t 14))] [1, 13, 14, 15, 16])
  (.seq (.cond (.t 16) (.skip)
   (.exit 0))
  (.seq (.block 1 (.seq (.reg [oo 17 (.iadr 2 (.t 13) (.t 15)),
oo 18 (.load (some 2) (.t 17)),
oo 6 (.alloc [.v (Value.int .i64 0), .v (Value.slice none 0 0)]),
nn (.store 2 (.t 6) (.t 18))] [1, 6, 13, 14, 15])
   (.seq (.reg [oo 19 (.fadr 1 (.t 6)),
oo 20 (.load (none) (.t 19)),
oo 21 (.mv (.t 1)),
oo 22 (.call 211 [.t 20, .t 21, .c (Value.bool false)]),
oo 23 (.mv (.t 1)),
oo 24 (.fadr 0 (.t 6)),
oo 25 (.load (none) (.t 24)),
oo 26 (.iadr 1 (.t 23) (.t 25)),
oo 27 (.load (none) (.t 26)),
oo 28 (.bin .neq (.t 22) (.t 27))] [1, 13, 14, 15, 28])
   (.cond (.t 28) (.seq (.reg [oo 4 (.mv (.c (Value.bool false)))] [4])
    (.ret))
    (.skip)))))
  (.reg [oo 29 (.bin .add (.t 15) (.c (Value.int IntKind.i64 1))),
oo 15 (.mv (.t 29))] [1, 13, 14, 15])))

def m_types_typed : MF := ⟨30, [.tmp 4], true, (
  .seq (.reg [oo 2 (.box 3 (.t 0)),
oo 4 (.mv (.c (Value.bool false)))] [1, 2])
  (.seq (.seq (.reg [oo 7 (.fadr 1 (.t 2)),
oo 8 (.load (none) (.t 7)),
oo 9 (.mv (.t 1)),
oo 10 (.call 211 [.t 8, .t 9, .c (Value.bool false)]),
oo 11 (.bin .neq (.t 10) (.c (Value.int IntKind.i64 2)))] [1, 2, 11])
  (.cond (.t 11) (.seq (.reg [oo 4 (.mv (.c (Value.bool false)))] [4])
   (.ret))
   (.skip)))
  (.seq (.seq (.reg [oo 12 (.fadr 2 (.t 2)),
oo 13 (.load (none) (.t 12)),
oo 14 (.len 1 (.t 13)),
oo 15 (.mv (.c (Value.int IntKind.i64 0)))] [1, 13, 14, 15])
  (.block 0 (.loop [1, 13, 14, 15] m_types_typed_L0)))
  (.seq (.reg [oo 4 (.mv (.c (Value.bool true)))] [4])
  (.ret)))))⟩

-- 56 (selfstab/selfstabworld.Net).nodes
def m_selfstabworld_Net_nodes_L1 : MC :=
  .seq (.seq (.reg [oo 29 (.mv (.t 9)),
oo 30 (.mv (.t 7)),
oo 31 (.bin .lss (.t 29) (.t 30))] [2, 4, 5, 6, 7, 8, 9, 31])
  (.cond (.t 31) (.skip)
   (.exit 2)))
  (.seq (.block 3 (.seq (.reg [oo 34 (.fadr 0 (.t 6)),
oo 35 (.load (none) (.t 34)),
oo 36 (.mv (.t 9)),
oo 37 (.iadr 1 (.t 35) (.t 36)),
oo 38 (.load (none) (.t 37)),
oo 39 (.mv (.t 8)),
oo 40 (.bin .eql (.t 38) (.t 39))] [2, 4, 5, 6, 7, 8, 9, 40])
   (.cond (.t 40) (.reg [oo 41 (.mv (.t 8)),
oo 42 (.bin .add (.t 41) (.c (Value.int IntKind.i64 1))),
oo 43 (.bin .rem (.t 42) (.c (Value.int IntKind.i64 256))),
oo 8 (.mv (.t 43)),
oo 9 (.mv (.c (Value.int IntKind.i64 (-1))))] [2, 4, 5, 6, 7, 8, 9])
    (.skip))))
  (.reg [oo 32 (.mv (.t 9)),
oo 33 (.bin .add (.t 32) (.c (Value.int IntKind.i64 1))),
oo 9 (.mv (.t 33))] [2, 4, 5, 6, 7, 8, 9]))

def m_selfstabworld_Net_nodes_L0 : MC :=
  .seq (.seq (.reg [oo 19 (.mv (.t 7)),
oo 20 (.mv (.t 5)),
oo 21 (.bin .lss (.t 19) (.t 20))] [2, 4, 5, 6, 7, 21])
  (.cond (.t 21) (.skip)
   (.exit 0)))
  (.seq (.block 1 (.seq (.reg [oo 24 (.fadr 3 (.t 2)),
oo 25 (.load (none) (.t 24)),
oo 26 (.mv (.t 7)),
oo 27 (.call 57 [.t 25, .t 26]),
oo 28 (.call 58 [.t 27, .c (Value.int IntKind.i64 256)]),
oo 8 (.mv (.t 28))] [2, 4, 5, 6, 7, 8])
   (.seq (.seq (.reg [oo 9 (.mv (.c (Value.int IntKind.i64 0)))] [2, 4, 5, 6, 7, 8, 9])
   (.block 2 (.loop [2, 4, 5, 6, 7, 8, 9] m_selfstabworld_Net_nodes_L1)))
   (.reg [oo 44 (.fadr 0 (.t 6)),
oo 45 (.load (none) (.t 44)),
oo 46 (.mv (.t 8)),
oo 47 (.lit 1 [.v (Value.int .i64 0)] [(0, 1, (.t 46))] false),
oo 48 (.app 1 8 (.t 45) (.t 47)),
oo 49 (.fadr 0 (.t 6)),
nn (.store 1 (.t 49) (.t 48))] [2, 4, 5, 6, 7]))))
  (.reg [oo 22 (.mv (.t 7)),
oo 23 (.bin .add (.t 22) (.c (Value.int IntKind.i64 1))),
oo 7 (.mv (.t 23))] [2, 4, 5, 6, 7]))

def m_selfstabworld_Net_nodes : MF := ⟨51, [.cell 4 (some 2)], false, (
  .seq (.reg [oo 2 (.box 6 (.t 0)),
oo 4 (.new [.v (Value.slice none 0 0), .v (Value.slice none 0 0)])] [1, 2, 4])
  (.seq (.reg [oo 10 (.fadr 0 (.t 2)),
oo 11 (.load (none) (.t 10)),
oo 12 (.bin .sub (.t 11) (.c (Value.int IntKind.i64 1))),
oo 13 (.mv (.t 1)),
oo 14 (.call 58 [.t 12, .t 13]),
oo 15 (.bin .add (.c (Value.int IntKind.i64 1)) (.t 14)),
oo 5 (.mv (.t 15))] [2, 4, 5])
  (.seq (.reg [oo 16 (.mv (.t 5)),
oo 17 (.mks 1 24 [.v (Value.slice none 0 0)] (.t 16) (.t 16)),
oo 18 (.build [.v (Value.slice none 0 0), .v (Value.slice none 0 0)] [(1, 1, (.t 17))]),
oo 6 (.new [.v (Value.slice none 0 0), .v (Value.slice none 0 0)]),
nn (.store 2 (.t 6) (.t 18))] [2, 4, 5, 6])
  (.seq (.seq (.reg [oo 7 (.mv (.c (Value.int IntKind.i64 0)))] [2, 4, 5, 6, 7])
  (.block 0 (.loop [2, 4, 5, 6, 7] m_selfstabworld_Net_nodes_L0)))
  (.seq (.reg [oo 50 (.load (some 2) (.t 6)),
nn (.store 2 (.t 4) (.t 50))] [4])
  (.ret))))))⟩

-- 59 (selfstab/selfstabworld.Net).link
def m_selfstabworld_Net_link : MF := ⟨77, [], false, (
  .seq (.reg [oo 5 (.box 6 (.t 0)),
oo 6 (.box 2 (.t 1))] [2, 3, 4, 5, 6])
  (.seq (.seq (.reg [oo 12 (.mv (.t 2)),
oo 13 (.mv (.t 3)),
oo 14 (.bin .eql (.t 12) (.t 13)),
oo 15 (.mv (.t 14)),
⟨some 16, .load (some 2) (.t 6), some (15, false)⟩,
⟨some 17, .mv (.t 2), some (15, false)⟩,
⟨some 18, .mv (.t 3), some (15, false)⟩,
⟨some 19, .call 82 [.t 16, .t 17, .t 18], some (15, false)⟩,
oo 20 (.pick (.t 15) (.c (Value.bool true)) (.t 19))] [2, 3, 4, 5, 6, 20])
  (.cond (.t 20) (.ret)
   (.skip)))
  (.seq (.reg [oo 21 (.mv (.t 3)),
oo 22 (.mv (.t 4)),
oo 23 (.build [.v (Value.int .i64 0), .v (Value.int .i64 0)] [(0, 1, (.t 21)), (1, 1, (.t 22))]),
oo 24 (.mv (.t 2)),
oo 25 (.mv (.t 4)),
oo 26 (.build [.v (Value.int .i64 0), .v (Value.int .i64 0)] [(0, 1, (.t 24)), (1, 1, (.t 25))]),
oo 10 (.alloc [.v (Value.int .i64 0), .v (Value.int .i64 0)]),
oo 11 (.alloc [.v (Value.int .i64 0), .v (Value.int .i64 0)]),
nn (.store 2 (.t 10) (.t 23)),
nn (.store 2 (.t 11) (.t 26))] [2, 3, 5, 6, 10, 11])
  (.seq (.seq (.reg [oo 27 (.fadr 5 (.t 5)),
oo 28 (.load (none) (.t 27))] [2, 3, 6, 10, 11, 28])
  (.cond (.t 28) (.seq (.regd [0, 1, 0, 0, 8, 0, 32, 0, 224, 480, 1016, 2047, 4095] [oo 29 (.fadr 1 (.t 6)),
oo 30 (.load (none) (.t 29)),
oo 31 (.mv (.t 2)),
oo 32 (.load (some 2) (.t 10)),
oo 33 (.lit 2 [.v (Value.int .i64 0), .v (Value.int .i64 0)] [(0, 2, (.t 32))] true),
oo 34 (.fadr 1 (.t 6)),
oo 35 (.load (none) (.t 34)),
oo 36 (.mv (.t 2)),
oo 37 (.iadr 1 (.t 35) (.t 36)),
oo 38 (.load (none) (.t 37)),
oo 39 (.app 2 16 (.t 33) (.t 38)),
oo 40 (.iadr 1 (.t 30) (.t 31)),
nn (.store 1 (.t 40) (.t 39))] [3, 6, 11])
   (.seq (.regd [0, 1, 0, 0, 8, 0, 32, 0, 224, 480, 1016, 2047, 4095] [oo 41 (.fadr 1 (.t 6)),
oo 42 (.load (none) (.t 41)),
oo 43 (.mv (.t 3)),
oo 44 (.load (some 2) (.t 11)),
oo 45 (.lit 2 [.v (Value.int .i64 0), .v (Value.int .i64 0)] [(0, 2, (.t 44))] true),
oo 46 (.fadr 1 (.t 6)),
oo 47 (.load (none) (.t 46)),
oo 48 (.mv (.t 3)),
oo 49 (.iadr 1 (.t 47) (.t 48)),
oo 50 (.load (none) (.t 49)),
oo 51 (.app 2 16 (.t 45) (.t 50)),
oo 52 (.iadr 1 (.t 42) (.t 43)),
nn (.store 1 (.t 52) (.t 51))] [])
   (.ret)))
   (.skip)))
  (.regd [0, 1, 0, 0, 8, 0, 0, 64, 0, 448, 960, 0, 2048, 8128, 0, 16384, 0, 114688, 245760, 0, 524288, 2097088, 4194247, 8388551, 16777215, 33554431] [oo 53 (.fadr 1 (.t 6)),
oo 54 (.load (none) (.t 53)),
oo 55 (.mv (.t 2)),
oo 56 (.fadr 1 (.t 6)),
oo 57 (.load (none) (.t 56)),
oo 58 (.mv (.t 3)),
oo 59 (.fadr 1 (.t 6)),
oo 60 (.load (none) (.t 59)),
oo 61 (.mv (.t 2)),
oo 62 (.iadr 1 (.t 60) (.t 61)),
oo 63 (.load (none) (.t 62)),
oo 64 (.load (some 2) (.t 10)),
oo 65 (.lit 2 [.v (Value.int .i64 0), .v (Value.int .i64 0)] [(0, 2, (.t 64))] false),
oo 66 (.app 2 16 (.t 63) (.t 65)),
oo 67 (.fadr 1 (.t 6)),
oo 68 (.load (none) (.t 67)),
oo 69 (.mv (.t 3)),
oo 70 (.iadr 1 (.t 68) (.t 69)),
oo 71 (.load (none) (.t 70)),
oo 72 (.load (some 2) (.t 11)),
oo 73 (.lit 2 [.v (Value.int .i64 0), .v (Value.int .i64 0)] [(0, 2, (.t 72))] false),
oo 74 (.app 2 16 (.t 71) (.t 73)),
oo 75 (.iadr 1 (.t 54) (.t 55)),
nn (.store 1 (.t 75) (.t 66)),
oo 76 (.iadr 1 (.t 57) (.t 58)),
nn (.store 1 (.t 76) (.t 74))] [])))))⟩

-- 57 selfstab/selfstabworld.at
def m_selfstabworld_at : MF := ⟨13, [.tmp 4], true, (
  .seq (.reg [oo 4 (.mv (.c (Value.int IntKind.i64 0)))] [0, 1])
  (.seq (.seq (.reg [oo 5 (.mv (.t 1)),
oo 6 (.mv (.t 0)),
oo 7 (.len 1 (.t 6)),
oo 8 (.bin .lss (.t 5) (.t 7))] [0, 1, 8])
  (.cond (.t 8) (.seq (.reg [oo 9 (.mv (.t 0)),
oo 10 (.mv (.t 1)),
oo 11 (.iadr 1 (.t 9) (.t 10)),
oo 12 (.load (none) (.t 11)),
oo 4 (.mv (.t 12))] [4])
   (.ret))
   (.skip)))
  (.seq (.reg [oo 4 (.mv (.c (Value.int IntKind.i64 0)))] [4])
  (.ret))))⟩

-- 36 slices.IndexFunc[[]selfstab/api.Link,selfstab/api.Link]
def m_slices_IndexFunc_api_Link_api_Link_L0 : MC :=
  .seq (.reg [oo 9 (.bin .lss (.t 8) (.t 7))] [0, 1, 7, 8, 9])
  (.seq (.cond (.t 9) (.skip)
   (.exit 0))
  (.seq (.block 1 (.seq (.reg [oo 10 (.mv (.t 8)),
oo 5 (.mv (.t 10))] [0, 1, 5, 7, 8])
   (.seq (.reg [oo 11 (.mv (.t 1)),
oo 12 (.mv (.t 0)),
oo 13 (.mv (.t 5)),
oo 14 (.iadr 2 (.t 12) (.t 13)),
oo 15 (.load (some 2) (.t 14)),
oo 16 (.callv (.t 11) [.t 15])] [0, 1, 5, 7, 8, 16])
   (.cond (.t 16) (.seq (.reg [oo 17 (.mv (.t 5)),
oo 4 (.mv (.t 17))] [4])
    (.ret))
    (.skip)))))
  (.reg [oo 18 (.bin .add (.t 8) (.c (Value.int IntKind.i64 1))),
oo 8 (.mv (.t 18))] [0, 1, 7, 8])))

def m_slices_IndexFunc_api_Link_api_Link : MF := ⟨19, [.tmp 4], true, (
  .seq (.reg [oo 4 (.mv (.c (Value.int IntKind.i64 0)))] [0, 1])
  (.seq (.seq (.reg [oo 6 (.mv (.t 0)),
oo 7 (.len 1 (.t 6)),
oo 8 (.mv (.c (Value.int IntKind.i64 0)))] [0, 1, 7, 8])
  (.block 0 (.loop [0, 1, 7, 8] m_slices_IndexFunc_api_Link_api_Link_L0)))
  (.seq (.reg [oo 4 (.mv (.c (Value.int IntKind.i64 (-1))))] [4])
  (.ret))))⟩

-- 181 selfstab/interp.New
def m_interp_New_L2 : MC :=
  .seq (.reg [oo 69 (.bin .lss (.t 68) (.t 67))] [2, 3, 5, 7, 11, 22, 23, 24, 66, 67, 68, 69])
  (.seq (.cond (.t 69) (.skip)
   (.exit 4))
  (.seq (.block 5 (.seq (.reg [oo 70 (.mv (.t 68)),
oo 71 (.iadr 6 (.t 66) (.t 68)),
oo 72 (.load (some 6) (.t 71)),
oo 13 (.alloc [.v (Value.string ⟨#[]⟩), .v (Value.int .i64 0), .v (Value.int .i64 0), .v (Value.int .i64 0), .v (Value.int .i64 0), .v (Value.int .i64 0)]),
oo 12 (.mv (.t 70)),
nn (.store 6 (.t 13) (.t 72))] [2, 3, 5, 7, 11, 12, 13, 22, 23, 24, 66, 67, 68])
   (.seq (.reg [oo 73 (.fadr 1 (.t 13)),
oo 74 (.load (none) (.t 73))] [2, 3, 5, 7, 11, 12, 13, 22, 23, 24, 66, 67, 68, 74])
   (.block 6 (.seq (.reg [oo 83 (.bin .eql (.t 74) (.c (Value.int IntKind.i64 1))),
oo 82 (.mv (.t 83))] [2, 3, 5, 7, 11, 12, 13, 22, 23, 24, 66, 67, 68, 74, 82])
    (.cond (.t 82) (.reg [oo 84 (.mv (.t 11)),
oo 85 (.mv (.t 12)),
oo 86 (.fadr 2 (.t 13)),
oo 87 (.load (none) (.t 86)),
oo 88 (.fadr 3 (.t 13)),
oo 89 (.load (none) (.t 88)),
oo 90 (.fadr 4 (.t 13)),
oo 91 (.load (none) (.t 90)),
oo 92 (.fadr 1 (.t 3)),
oo 93 (.load (none) (.t 92)),
oo 94 (.len 1 (.t 93)),
oo 95 (.bin .mul (.t 91) (.t 94)),
oo 96 (.bin .add (.t 89) (.t 95)),
oo 97 (.fadr 5 (.t 13)),
oo 98 (.load (none) (.t 97)),
oo 99 (.mv (.t 5)),
oo 100 (.nck (.t 99)),
oo 101 (.fadr 5 (.t 100)),
oo 102 (.load (none) (.t 101)),
oo 103 (.bin .mul (.t 98) (.t 102)),
oo 104 (.bin .add (.t 96) (.t 103)),
oo 105 (.build [.v (Value.int .i64 0), .v (Value.int .i64 0)] [(0, 1, (.t 87)), (1, 1, (.t 104))]),
oo 106 (.iadr 2 (.t 84) (.t 85)),
nn (.store 2 (.t 106) (.t 105))] [2, 3, 5, 7, 11, 22, 23, 24, 66, 67, 68])
     (.seq (.reg [oo 108 (.bin .eql (.t 74) (.c (Value.int IntKind.i64 2))),
oo 107 (.mv (.t 108))] [2, 3, 5, 7, 11, 12, 22, 23, 24, 66, 67, 68, 107])
     (.cond (.t 107) (.reg [oo 109 (.mv (.t 11)),
oo 110 (.mv (.t 12)),
oo 111 (.build [.v (Value.int .i64 0), .v (Value.int .i64 0)] [(0, 1, (.c (Value.int IntKind.i64 0))), (1, 1, (.c (Value.int IntKind.i64 1)))]),
oo 112 (.iadr 2 (.t 109) (.t 110)),
nn (.store 2 (.t 112) (.t 111))] [2, 3, 5, 7, 11, 22, 23, 24, 66, 67, 68])
      (.reg [oo 75 (.mv (.t 11)),
oo 76 (.mv (.t 12)),
oo 77 (.mv (.t 7)),
oo 78 (.len 1 (.t 77)),
oo 79 (.bin .sub (.t 78) (.c (Value.int IntKind.i64 1))),
oo 80 (.build [.v (Value.int .i64 0), .v (Value.int .i64 0)] [(0, 1, (.c (Value.int IntKind.i64 (-1)))), (1, 1, (.t 79))]),
oo 81 (.iadr 2 (.t 75) (.t 76)),
nn (.store 2 (.t 81) (.t 80))] [2, 3, 5, 7, 11, 22, 23, 24, 66, 67, 68])))))))))
  (.reg [oo 113 (.bin .add (.t 68) (.c (Value.int IntKind.i64 1))),
oo 68 (.mv (.t 113))] [2, 3, 5, 7, 11, 22, 23, 24, 66, 67, 68])))

def m_interp_New_L1 : MC :=
  .seq (.reg [oo 35 (.bin .lss (.t 34) (.t 33))] [2, 3, 5, 6, 7, 8, 22, 23, 24, 32, 33, 34, 35])
  (.seq (.cond (.t 35) (.skip)
   (.exit 2))
  (.seq (.block 3 (.seq (.reg [oo 36 (.mv (.t 34)),
oo 37 (.iadr 2 (.t 32) (.t 34)),
oo 38 (.load (some 2) (.t 37)),
oo 10 (.alloc [.v (Value.int .i64 0), .v (Value.int .i64 0)]),
oo 9 (.mv (.t 36)),
nn (.store 2 (.t 10) (.t 38))] [2, 3, 5, 6, 7, 8, 9, 10, 22, 23, 24, 32, 33, 34])
   (.reg [oo 39 (.mv (.t 8)),
oo 40 (.mv (.t 9)),
oo 41 (.fadr 1 (.t 3)),
oo 42 (.load (none) (.t 41)),
oo 43 (.fadr 0 (.t 10)),
oo 44 (.load (none) (.t 43)),
oo 45 (.iadr 1 (.t 42) (.t 44)),
oo 46 (.load (none) (.t 45)),
oo 47 (.mkf 212 [.t 6]),
oo 48 (.call 36 [.t 46, .t 47]),
oo 49 (.iadr 1 (.t 39) (.t 40)),
nn (.store 1 (.t 49) (.t 48))] [2, 3, 5, 6, 7, 8, 22, 23, 24, 32, 33, 34])))
  (.reg [oo 50 (.bin .add (.t 34) (.c (Value.int IntKind.i64 1))),
oo 34 (.mv (.t 50))] [2, 3, 5, 6, 7, 8, 22, 23, 24, 32, 33, 34])))

def m_interp_New_L0 : MC :=
  .seq (.reg [oo 25 (.bin .lss (.t 24) (.t 23))] [2, 3, 5, 22, 23, 24, 25])
  (.seq (.cond (.t 25) (.skip)
   (.exit 0))
  (.seq (.block 1 (.seq (.reg [oo 26 (.mv (.t 24)),
oo 27 (.iadr 1 (.t 22) (.t 24)),
oo 28 (.load (none) (.t 27)),
oo 6 (.alloc [.v (Value.int .i64 0)]),
nn (.store 1 (.t 6) (.t 26)),
oo 7 (.mv (.t 28))] [2, 3, 5, 6, 7, 22, 23, 24])
   (.seq (.reg [oo 29 (.mv (.t 7)),
oo 30 (.len 1 (.t 29)),
oo 31 (.mks 1 8 [.v (Value.int .i64 0)] (.t 30) (.t 30)),
oo 8 (.mv (.t 31))] [2, 3, 5, 6, 7, 8, 22, 23, 24])
   (.seq (.seq (.reg [oo 32 (.mv (.t 7)),
oo 33 (.len 1 (.t 32)),
oo 34 (.mv (.c (Value.int IntKind.i64 0)))] [2, 3, 5, 6, 7, 8, 22, 23, 24, 32, 33, 34])
   (.block 2 (.loop [2, 3, 5, 6, 7, 8, 22, 23, 24, 32, 33, 34] m_interp_New_L1)))
   (.seq (.reg [oo 51 (.mv (.t 5)),
oo 52 (.mv (.t 5)),
oo 53 (.nck (.t 52)),
oo 54 (.fadr 6 (.t 53)),
oo 55 (.load (none) (.t 54)),
oo 56 (.mv (.t 8)),
oo 57 (.lit 1 [.v (Value.slice none 0 0)] [(0, 1, (.t 56))] true),
oo 58 (.app 1 24 (.t 55) (.t 57)),
oo 59 (.nck (.t 51)),
oo 60 (.fadr 6 (.t 59)),
nn (.store 1 (.t 60) (.t 58))] [2, 3, 5, 7, 22, 23, 24])
   (.seq (.reg [oo 61 (.fadr 1 (.t 2)),
oo 62 (.load (none) (.t 61)),
oo 63 (.len 1 (.t 62)),
oo 64 (.mks 2 16 [.v (Value.int .i64 0), .v (Value.int .i64 0)] (.t 63) (.t 63)),
oo 11 (.mv (.t 64))] [2, 3, 5, 7, 11, 22, 23, 24])
   (.seq (.seq (.reg [oo 65 (.fadr 1 (.t 2)),
oo 66 (.load (none) (.t 65)),
oo 67 (.len 1 (.t 66)),
oo 68 (.mv (.c (Value.int IntKind.i64 0)))] [2, 3, 5, 7, 11, 22, 23, 24, 66, 67, 68])
   (.block 4 (.loop [2, 3, 5, 7, 11, 22, 23, 24, 66, 67, 68] m_interp_New_L2)))
   (.reg [oo 114 (.mv (.t 5)),
oo 115 (.mv (.t 5)),
oo 116 (.nck (.t 115)),
oo 117 (.fadr 7 (.t 116)),
oo 118 (.load (none) (.t 117)),
oo 119 (.mv (.t 11)),
oo 120 (.lit 1 [.v (Value.slice none 0 0)] [(0, 1, (.t 119))] true),
oo 121 (.app 1 24 (.t 118) (.t 120)),
oo 122 (.nck (.t 114)),
oo 123 (.fadr 7 (.t 122)),
nn (.store 1 (.t 123) (.t 121))] [2, 3, 5, 22, 23, 24]))))))))
  (.reg [oo 124 (.bin .add (.t 24) (.c (Value.int IntKind.i64 1))),
oo 24 (.mv (.t 124))] [2, 3, 5, 22, 23, 24])))

def m_interp_New : MF := ⟨126, [.tmp 4], false, (
  .seq (.reg [oo 2 (.box 3 (.t 0)),
oo 3 (.box 2 (.t 1)),
oo 4 (.mv (.c (Value.pointer none)))] [2, 3])
  (.seq (.reg [oo 14 (.load (some 3) (.t 2)),
oo 15 (.load (some 2) (.t 3)),
oo 16 (.fadr 0 (.t 3)),
oo 17 (.load (none) (.t 16)),
oo 18 (.call 55 [.t 17]),
oo 19 (.build [.v (Value.string ⟨#[]⟩), .v (Value.slice none 0 0), .v (Value.slice none 0 0), .v (Value.slice none 0 0), .v (Value.slice none 0 0), .v (Value.int .i64 0), .v (Value.slice none 0 0), .v (Value.slice none 0 0)] [(0, 3, (.t 14)), (3, 2, (.t 15)), (5, 1, (.t 18))]),
oo 20 (.boxm 8 (.t 19)),
oo 5 (.mv (.t 20))] [2, 3, 5])
  (.seq (.seq (.reg [oo 21 (.fadr 1 (.t 3)),
oo 22 (.load (none) (.t 21)),
oo 23 (.len 1 (.t 22)),
oo 24 (.mv (.c (Value.int IntKind.i64 0)))] [2, 3, 5, 22, 23, 24])
  (.block 0 (.loop [2, 3, 5, 22, 23, 24] m_interp_New_L0)))
  (.seq (.reg [oo 125 (.mv (.t 5)),
oo 4 (.mv (.t 125))] [4])
  (.ret)))))⟩

-- 182 (*selfstab/interp.World).Enabled
def m_interp_World_Enabled_L0 : MC :=
  .seq (.reg [oo 14 (.bin .lss (.t 13) (.t 12))] [0, 1, 5, 12, 13, 14])
  (.seq (.cond (.t 14) (.skip)
   (.exit 0))
  (.seq (.block 1 (.seq (.reg [oo 15 (.mv (.t 13)),
oo 6 (.mv (.t 15))] [0, 1, 5, 6, 12, 13])
   (.seq (.reg [oo 16 (.mv (.t 0)),
oo 17 (.mv (.t 1)),
oo 18 (.mv (.t 6)),
oo 19 (.call 213 [.t 16, .t 17, .t 18]),
oo 20 (.bin .geq (.t 19) (.c (Value.int IntKind.i64 0)))] [0, 1, 5, 6, 12, 13, 20])
   (.cond (.t 20) (.reg [oo 21 (.mv (.t 5)),
oo 22 (.mv (.t 6)),
oo 23 (.bin .shl (.c (Value.int IntKind.u32 1)) (.t 22)),
oo 24 (.bin .or (.t 21) (.t 23)),
oo 5 (.mv (.t 24))] [0, 1, 5, 12, 13])
    (.skip)))))
  (.reg [oo 25 (.bin .add (.t 13) (.c (Value.int IntKind.i64 1))),
oo 13 (.mv (.t 25))] [0, 1, 5, 12, 13])))

def m_interp_World_Enabled : MF := ⟨27, [.tmp 4], false, (
  .seq (.reg [oo 4 (.mv (.c (Value.int IntKind.u32 0)))] [0, 1])
  (.seq (.reg [oo 5 (.mv (.c (Value.int IntKind.u32 0)))] [0, 1, 5])
  (.seq (.seq (.reg [oo 7 (.mv (.t 0)),
oo 8 (.nck (.t 7)),
oo 9 (.fadr 3 (.t 8)),
oo 10 (.fadr 1 (.t 9)),
oo 11 (.load (none) (.t 10)),
oo 12 (.len 1 (.t 11)),
oo 13 (.mv (.c (Value.int IntKind.i64 0)))] [0, 1, 5, 12, 13])
  (.block 0 (.loop [0, 1, 5, 12, 13] m_interp_World_Enabled_L0)))
  (.seq (.reg [oo 26 (.mv (.t 5)),
oo 4 (.mv (.t 26))] [4])
  (.ret)))))⟩

-- 62 selfstab/shape.Holds
def m_shape_Holds_L1 : MC :=
  .seq (.reg [oo 34 (.bin .lss (.t 33) (.t 32))] [2, 3, 7, 19, 20, 21, 31, 32, 33, 34])
  (.seq (.cond (.t 34) (.skip)
   (.exit 2))
  (.seq (.block 3 (.seq (.reg [oo 35 (.mv (.t 33)),
oo 36 (.iadr 1 (.t 31) (.t 33)),
oo 37 (.load (none) (.t 36)),
oo 9 (.mv (.t 35)),
oo 10 (.mv (.t 37))] [2, 3, 7, 9, 10, 19, 20, 21, 31, 32, 33])
   (.seq (.reg [oo 38 (.mv (.t 2)),
oo 39 (.mv (.t 9)),
oo 40 (.iadr 1 (.t 38) (.t 39)),
oo 41 (.load (none) (.t 40)),
oo 11 (.mv (.c (Value.int IntKind.i64 0))),
oo 12 (.mv (.t 41))] [2, 3, 7, 10, 11, 12, 19, 20, 21, 31, 32, 33])
   (.seq (.seq (.reg [oo 42 (.mv (.t 12)),
oo 43 (.bin .eql (.t 42) (.c (Value.int IntKind.i64 (-1))))] [2, 3, 7, 10, 11, 12, 19, 20, 21, 31, 32, 33, 43])
   (.cond (.t 43) (.reg [oo 44 (.fadr 1 (.t 3)),
oo 45 (.load (none) (.t 44)),
oo 46 (.mv (.t 7)),
oo 47 (.iadr 1 (.t 45) (.t 46)),
oo 48 (.load (none) (.t 47)),
oo 49 (.len 1 (.t 48)),
oo 50 (.bin .sub (.t 49) (.c (Value.int IntKind.i64 1))),
oo 11 (.mv (.c (Value.int IntKind.i64 (-1)))),
oo 12 (.mv (.t 50))] [2, 3, 7, 10, 11, 12, 19, 20, 21, 31, 32, 33])
    (.skip)))
   (.seq (.reg [oo 51 (.mv (.t 10)),
oo 52 (.mv (.t 11)),
oo 53 (.bin .lss (.t 51) (.t 52)),
oo 54 (.mv (.t 53)),
⟨some 55, .mv (.t 10), some (54, false)⟩,
⟨some 56, .mv (.t 12), some (54, false)⟩,
⟨some 57, .bin .gtr (.t 55) (.t 56), some (54, false)⟩,
oo 58 (.pick (.t 54) (.c (Value.bool true)) (.t 57))] [2, 3, 7, 19, 20, 21, 31, 32, 33, 58])
   (.cond (.t 58) (.seq (.reg [oo 6 (.mv (.c (Value.bool false)))] [6])
    (.ret))
    (.skip)))))))
  (.reg [oo 59 (.bin .add (.t 33) (.c (Value.int IntKind.i64 1))),
oo 33 (.mv (.t 59))] [2, 3, 7, 19, 20, 21, 31, 32, 33])))

def m_shape_Holds_L0 : MC :=
  .seq (.reg [oo 22 (.bin .lss (.t 21) (.t 20))] [2, 3, 19, 20, 21, 22])
  (.seq (.cond (.t 22) (.skip)
   (.exit 0))
  (.seq (.block 1 (.seq (.reg [oo 23 (.mv (.t 21)),
oo 24 (.iadr 1 (.t 19) (.t 21)),
oo 25 (.load (none) (.t 24)),
oo 7 (.mv (.t 23)),
oo 8 (.mv (.t 25))] [2, 3, 7, 8, 19, 20, 21])
   (.seq (.seq (.reg [oo 26 (.mv (.t 8)),
oo 27 (.len 1 (.t 26)),
oo 28 (.mv (.t 2)),
oo 29 (.len 1 (.t 28)),
oo 30 (.bin .neq (.t 27) (.t 29))] [2, 3, 7, 8, 19, 20, 21, 30])
   (.cond (.t 30) (.seq (.reg [oo 6 (.mv (.c (Value.bool false)))] [6])
    (.ret))
    (.skip)))
   (.seq (.reg [oo 31 (.mv (.t 8)),
oo 32 (.len 1 (.t 31)),
oo 33 (.mv (.c (Value.int IntKind.i64 0)))] [2, 3, 7, 19, 20, 21, 31, 32, 33])
   (.block 2 (.loop [2, 3, 7, 19, 20, 21, 31, 32, 33] m_shape_Holds_L1))))))
  (.reg [oo 60 (.bin .add (.t 21) (.c (Value.int IntKind.i64 1))),
oo 21 (.mv (.t 60))] [2, 3, 19, 20, 21])))

def m_shape_Holds : MF := ⟨61, [.tmp 6], true, (
  .seq (.reg [oo 3 (.box 2 (.t 0)),
oo 6 (.mv (.c (Value.bool false)))] [1, 2, 3])
  (.seq (.seq (.reg [oo 13 (.mv (.t 1)),
oo 14 (.len 1 (.t 13)),
oo 15 (.fadr 1 (.t 3)),
oo 16 (.load (none) (.t 15)),
oo 17 (.len 1 (.t 16)),
oo 18 (.bin .neq (.t 14) (.t 17))] [1, 2, 3, 18])
  (.cond (.t 18) (.seq (.reg [oo 6 (.mv (.c (Value.bool false)))] [6])
   (.ret))
   (.skip)))
  (.seq (.seq (.reg [oo 19 (.mv (.t 1)),
oo 20 (.len 1 (.t 19)),
oo 21 (.mv (.c (Value.int IntKind.i64 0)))] [2, 3, 19, 20, 21])
  (.block 0 (.loop [2, 3, 19, 20, 21] m_shape_Holds_L0)))
  (.seq (.reg [oo 6 (.mv (.c (Value.bool true)))] [6])
  (.ret)))))⟩

-- 189 selfstab/memory.Check
def m_memory_Check_L1 : MC :=
  .seq (.reg [oo 44 (.bin .lss (.t 43) (.t 42))] [3, 8, 9, 28, 29, 30, 41, 42, 43, 44])
  (.seq (.cond (.t 44) (.skip)
   (.exit 2))
  (.seq (.block 3 (.seq (.reg [oo 45 (.mv (.t 43)),
oo 46 (.iadr 1 (.t 41) (.t 43)),
oo 47 (.load (none) (.t 46)),
oo 11 (.mv (.t 45)),
oo 12 (.mv (.t 47))] [3, 8, 9, 11, 12, 28, 29, 30, 41, 42, 43])
   (.seq (.reg [oo 48 (.mv (.t 8)),
oo 49 (.mv (.t 9)),
oo 50 (.mv (.t 11)),
oo 51 (.mv (.t 12)),
oo 52 (.call 224 [.t 48, .t 49, .t 50, .t 51]),
oo 53 (.mv (.t 12)),
oo 54 (.bin .neq (.t 52) (.t 53))] [3, 8, 9, 28, 29, 30, 41, 42, 43, 54])
   (.cond (.t 54) (.seq (.reg [oo 6 (.mv (.c (Value.int IntKind.i64 10)))] [6])
    (.ret))
    (.skip)))))
  (.reg [oo 55 (.bin .add (.t 43) (.c (Value.int IntKind.i64 1))),
oo 43 (.mv (.t 55))] [3, 8, 9, 28, 29, 30, 41, 42, 43])))

def m_memory_Check_L0 : MC :=
  .seq (.reg [oo 31 (.bin .lss (.t 30) (.t 29))] [3, 8, 28, 29, 30, 31])
  (.seq (.cond (.t 31) (.skip)
   (.exit 0))
  (.seq (.block 1 (.seq (.reg [oo 32 (.mv (.t 30)),
oo 33 (.iadr 1 (.t 28) (.t 30)),
oo 34 (.load (none) (.t 33)),
oo 9 (.mv (.t 32)),
oo 10 (.mv (.t 34))] [3, 8, 9, 10, 28, 29, 30])
   (.seq (.seq (.reg [oo 35 (.mv (.t 10)),
oo 36 (.len 1 (.t 35)),
oo 37 (.fadr 1 (.t 3)),
oo 38 (.load (none) (.t 37)),
oo 39 (.len 1 (.t 38)),
oo 40 (.bin .neq (.t 36) (.t 39))] [3, 8, 9, 10, 28, 29, 30, 40])
   (.cond (.t 40) (.seq (.reg [oo 6 (.mv (.c (Value.int IntKind.i64 10)))] [6])
    (.ret))
    (.skip)))
   (.seq (.reg [oo 41 (.mv (.t 10)),
oo 42 (.len 1 (.t 41)),
oo 43 (.mv (.c (Value.int IntKind.i64 0)))] [3, 8, 9, 28, 29, 30, 41, 42, 43])
   (.block 2 (.loop [3, 8, 9, 28, 29, 30, 41, 42, 43] m_memory_Check_L1))))))
  (.reg [oo 56 (.bin .add (.t 30) (.c (Value.int IntKind.i64 1))),
oo 30 (.mv (.t 56))] [3, 8, 28, 29, 30])))

def m_memory_Check : MF := ⟨57, [.tmp 6], true, (
  .seq (.reg [oo 3 (.box 3 (.t 0)),
oo 4 (.box 2 (.t 1)),
oo 6 (.mv (.c (Value.int IntKind.i64 0)))] [2, 3, 4])
  (.seq (.seq (.reg [oo 13 (.load (some 3) (.t 3)),
oo 14 (.load (some 2) (.t 4)),
oo 15 (.call 223 [.t 13, .t 14]),
oo 7 (.mv (.t 15))] [2, 3, 4, 7])
  (.seq (.reg [oo 16 (.mv (.t 7)),
oo 17 (.bin .neq (.t 16) (.c (Value.int IntKind.i64 0)))] [2, 3, 4, 7, 17])
  (.cond (.t 17) (.seq (.reg [oo 18 (.mv (.t 7)),
oo 6 (.mv (.t 18))] [6])
   (.ret))
   (.skip))))
  (.seq (.seq (.reg [oo 19 (.mv (.t 2)),
oo 20 (.len 1 (.t 19)),
oo 21 (.fadr 1 (.t 4)),
oo 22 (.load (none) (.t 21)),
oo 23 (.len 1 (.t 22)),
oo 24 (.bin .neq (.t 20) (.t 23))] [2, 3, 4, 24])
  (.cond (.t 24) (.seq (.reg [oo 6 (.mv (.c (Value.int IntKind.i64 10)))] [6])
   (.ret))
   (.skip)))
  (.seq (.reg [oo 25 (.load (some 3) (.t 3)),
oo 26 (.load (some 2) (.t 4)),
oo 27 (.call 181 [.t 25, .t 26]),
oo 8 (.mv (.t 27))] [2, 3, 8])
  (.seq (.seq (.reg [oo 28 (.mv (.t 2)),
oo 29 (.len 1 (.t 28)),
oo 30 (.mv (.c (Value.int IntKind.i64 0)))] [3, 8, 28, 29, 30])
  (.block 0 (.loop [3, 8, 28, 29, 30] m_memory_Check_L0)))
  (.seq (.reg [oo 6 (.mv (.c (Value.int IntKind.i64 0)))] [6])
  (.ret)))))))⟩

-- 190 (*selfstab/interp.World).Step
def m_interp_World_Step_L0 : MC :=
  .seq (.reg [oo 15 (.bin .lss (.t 14) (.t 13))] [0, 1, 2, 7, 13, 14, 15])
  (.seq (.cond (.t 15) (.skip)
   (.exit 0))
  (.seq (.block 1 (.seq (.reg [oo 16 (.mv (.t 14)),
oo 8 (.mv (.t 16))] [0, 1, 2, 7, 8, 13, 14])
   (.seq (.reg [oo 17 (.mv (.t 2)),
oo 18 (.mv (.t 8)),
oo 19 (.bin .shr (.t 17) (.t 18)),
oo 20 (.bin .and (.t 19) (.c (Value.int IntKind.u32 1))),
oo 21 (.bin .eql (.t 20) (.c (Value.int IntKind.u32 1)))] [0, 1, 2, 7, 8, 13, 14, 21])
   (.cond (.t 21) (.reg [oo 22 (.mv (.t 7)),
oo 23 (.mv (.t 8)),
oo 24 (.mv (.t 0)),
oo 25 (.mv (.t 1)),
oo 26 (.mv (.t 8)),
oo 27 (.mv (.t 0)),
oo 28 (.mv (.t 1)),
oo 29 (.mv (.t 8)),
oo 30 (.call 213 [.t 27, .t 28, .t 29]),
oo 31 (.call 225 [.t 24, .t 25, .t 26, .t 30]),
oo 32 (.iadr 1 (.t 22) (.t 23)),
nn (.store 1 (.t 32) (.t 31))] [0, 1, 2, 7, 13, 14])
    (.reg [oo 33 (.mv (.t 7)),
oo 34 (.mv (.t 8)),
oo 35 (.mv (.t 1)),
oo 36 (.mv (.t 8)),
oo 37 (.iadr 1 (.t 35) (.t 36)),
oo 38 (.load (none) (.t 37)),
oo 39 (.call 219 [.t 38]),
oo 40 (.iadr 1 (.t 33) (.t 34)),
nn (.store 1 (.t 40) (.t 39))] [0, 1, 2, 7, 13, 14])))))
  (.reg [oo 41 (.bin .add (.t 14) (.c (Value.int IntKind.i64 1))),
oo 14 (.mv (.t 41))] [0, 1, 2, 7, 13, 14])))

def m_interp_World_Step : MF := ⟨43, [.tmp 6], false, (
  .seq (.reg [oo 6 (.mv (.c (Value.slice none 0 0)))] [0, 1, 2])
  (.seq (.reg [oo 9 (.mv (.t 1)),
oo 10 (.len 1 (.t 9)),
oo 11 (.mks 1 24 [.v (Value.slice none 0 0)] (.t 10) (.t 10)),
oo 7 (.mv (.t 11))] [0, 1, 2, 7])
  (.seq (.seq (.reg [oo 12 (.mv (.t 1)),
oo 13 (.len 1 (.t 12)),
oo 14 (.mv (.c (Value.int IntKind.i64 0)))] [0, 1, 2, 7, 13, 14])
  (.block 0 (.loop [0, 1, 2, 7, 13, 14] m_interp_World_Step_L0)))
  (.seq (.reg [oo 42 (.mv (.t 7)),
oo 6 (.mv (.t 42))] [6])
  (.ret)))))⟩

-- 84 selfstab/graph.node
def m_graph_node : MF := ⟨18, [.tmp 4], true, (
  .seq (.reg [oo 2 (.box 2 (.t 0)),
oo 4 (.mv (.c (Value.bool false)))] [1, 2])
  (.seq (.reg [oo 5 (.mv (.t 1)),
oo 6 (.bin .geq (.t 5) (.c (Value.int IntKind.i64 0))),
oo 7 (.mv (.t 6)),
⟨some 8, .mv (.t 1), some (7, true)⟩,
⟨some 9, .fadr 1 (.t 2), some (7, true)⟩,
⟨some 10, .load (none) (.t 9), some (7, true)⟩,
⟨some 11, .len 1 (.t 10), some (7, true)⟩,
⟨some 12, .bin .lss (.t 8) (.t 11), some (7, true)⟩,
oo 13 (.pick (.t 7) (.t 12) (.c (Value.bool false))),
oo 14 (.mv (.t 13)),
⟨some 15, .load (some 2) (.t 2), some (14, true)⟩,
⟨some 16, .call 32 [.t 15], some (14, true)⟩,
oo 17 (.pick (.t 14) (.t 16) (.c (Value.bool false))),
oo 4 (.mv (.t 17))] [4])
  (.ret)))⟩

-- 77 slices.pdqsortCmpFunc[[2]int]
def m_slices_pdqsortCmpFunc_2_int_L0 : MC :=
  .block 1 (.seq (.reg [oo 21 (.mv (.t 2)),
oo 22 (.mv (.t 1)),
oo 23 (.bin .sub (.t 21) (.t 22)),
oo 12 (.mv (.t 23))] [0, 1, 2, 3, 4, 10, 11, 12])
   (.seq (.seq (.reg [oo 24 (.mv (.t 12)),
oo 25 (.bin .leq (.t 24) (.c (Value.int IntKind.i64 12)))] [0, 1, 2, 3, 4, 10, 11, 12, 25])
   (.cond (.t 25) (.seq (.reg [oo 26 (.mv (.t 0)),
oo 27 (.mv (.t 1)),
oo 28 (.mv (.t 2)),
oo 29 (.mv (.t 4)),
oo 30 (.call 96 [.t 26, .t 27, .t 28, .t 29])] [])
    (.ret))
    (.skip)))
   (.seq (.seq (.reg [oo 31 (.mv (.t 3)),
oo 32 (.bin .eql (.t 31) (.c (Value.int IntKind.i64 0)))] [0, 1, 2, 3, 4, 10, 11, 12, 32])
   (.cond (.t 32) (.seq (.reg [oo 33 (.mv (.t 0)),
oo 34 (.mv (.t 1)),
oo 35 (.mv (.t 2)),
oo 36 (.mv (.t 4)),
oo 37 (.call 97 [.t 33, .t 34, .t 35, .t 36])] [])
    (.ret))
    (.skip)))
   (.seq (.seq (.reg [oo 38 (.mv (.t 10)),
oo 39 (.un .not (.t 38))] [0, 1, 2, 3, 4, 10, 11, 12, 39])
   (.cond (.t 39) (.seq (.reg [oo 40 (.mv (.t 0)),
oo 41 (.mv (.t 1)),
oo 42 (.mv (.t 2)),
oo 43 (.mv (.t 4)),
oo 44 (.call 98 [.t 40, .t 41, .t 42, .t 43])] [0, 1, 2, 3, 4, 10, 11, 12])
    (.reg [oo 45 (.mv (.t 3)),
oo 46 (.bin .sub (.t 45) (.c (Value.int IntKind.i64 1))),
oo 3 (.mv (.t 46))] [0, 1, 2, 3, 4, 10, 11, 12]))
    (.skip)))
   (.seq (.reg [oo 48 (.mv (.t 0)),
oo 49 (.mv (.t 1)),
oo 50 (.mv (.t 2)),
oo 51 (.mv (.t 4)),
oo 52 (.call 99 [.t 48, .t 49, .t 50, .t 51]),
oo 47 (.mv (.t 52)),
oo 53 (.ext (.t 47) 0),
oo 54 (.ext (.t 47) 1),
oo 13 (.mv (.t 53)),
oo 14 (.mv (.t 54))] [0, 1, 2, 3, 4, 10, 11, 12, 13, 14])
   (.seq (.seq (.reg [oo 55 (.mv (.t 14)),
oo 56 (.bin .eql (.t 55) (.c (Value.int IntKind.i64 2)))] [0, 1, 2, 3, 4, 10, 11, 12, 13, 14, 56])
   (.cond (.t 56) (.seq (.reg [oo 57 (.mv (.t 0)),
oo 58 (.mv (.t 1)),
oo 59 (.mv (.t 2)),
oo 60 (.mv (.t 4)),
oo 61 (.call 100 [.t 57, .t 58, .t 59, .t 60])] [0, 1, 2, 3, 4, 10, 11, 12, 13])
    (.seq (.reg [oo 62 (.mv (.t 2)),
oo 63 (.bin .sub (.t 62) (.c (Value.int IntKind.i64 1))),
oo 64 (.mv (.t 13)),
oo 65 (.mv (.t 1)),
oo 66 (.bin .sub (.t 64) (.t 65)),
oo 67 (.bin .sub (.t 63) (.t 66)),
oo 13 (.mv (.t 67))] [0, 1, 2, 3, 4, 10, 11, 12, 13])
    (.reg [oo 14 (.mv (.c (Value.int IntKind.i64 1)))] [0, 1, 2, 3, 4, 10, 11, 12, 13, 14])))
    (.skip)))
   (.seq (.seq (.reg [oo 68 (.mv (.t 10)),
oo 69 (.mv (.t 68)),
⟨some 70, .mv (.t 11), some (69, true)⟩,
oo 71 (.pick (.t 69) (.t 70) (.c (Value.bool false))),
oo 72 (.mv (.t 71)),
⟨some 73, .mv (.t 14), some (72, true)⟩,
⟨some 74, .bin .eql (.t 73) (.c (Value.int IntKind.i64 1)), some (72, true)⟩,
oo 75 (.pick (.t 72) (.t 74) (.c (Value.bool false)))] [0, 1, 2, 3, 4, 10, 11, 12, 13, 75])
   (.cond (.t 75) (.seq (.reg [oo 76 (.mv (.t 0)),
oo 77 (.mv (.t 1)),
oo 78 (.mv (.t 2)),
oo 79 (.mv (.t 4)),
oo 80 (.call 101 [.t 76, .t 77, .t 78, .t 79])] [0, 1, 2, 3, 4, 10, 11, 12, 13, 80])
    (.cond (.t 80) (.ret)
     (.skip)))
    (.skip)))
   (.seq (.seq (.reg [oo 81 (.mv (.t 1)),
oo 82 (.bin .gtr (.t 81) (.c (Value.int IntKind.i64 0))),
oo 83 (.mv (.t 82)),
⟨some 84, .mv (.t 4), some (83, true)⟩,
⟨some 85, .mv (.t 0), some (83, true)⟩,
⟨some 86, .mv (.t 1), some (83, true)⟩,
⟨some 87, .bin .sub (.t 86) (.c (Value.int IntKind.i64 1)), some (83, true)⟩,
⟨some 88, .iadr 2 (.t 85) (.t 87), some (83, true)⟩,
⟨some 89, .load (some 2) (.t 88), some (83, true)⟩,
⟨some 90, .mv (.t 0), some (83, true)⟩,
⟨some 91, .mv (.t 13), some (83, true)⟩,
⟨some 92, .iadr 2 (.t 90) (.t 91), some (83, true)⟩,
⟨some 93, .load (some 2) (.t 92), some (83, true)⟩,
⟨some 94, .callv (.t 84) [.t 89, .t 93], some (83, true)⟩,
⟨some 95, .bin .lss (.t 94) (.c (Value.int IntKind.i64 0)), some (83, true)⟩,
⟨some 96, .un .not (.t 95), some (83, true)⟩,
oo 97 (.pick (.t 83) (.t 96) (.c (Value.bool false)))] [0, 1, 2, 3, 4, 10, 11, 12, 13, 97])
   (.cond (.t 97) (.seq (.reg [oo 98 (.mv (.t 0)),
oo 99 (.mv (.t 1)),
oo 100 (.mv (.t 2)),
oo 101 (.mv (.t 13)),
oo 102 (.mv (.t 4)),
oo 103 (.call 102 [.t 98, .t 99, .t 100, .t 101, .t 102]),
oo 15 (.mv (.t 103))] [0, 2, 3, 4, 10, 11, 15])
    (.seq (.reg [oo 104 (.mv (.t 15)),
oo 1 (.mv (.t 104))] [0, 1, 2, 3, 4, 10, 11])
    (.exit 1)))
    (.skip)))
   (.seq (.reg [oo 106 (.mv (.t 0)),
oo 107 (.mv (.t 1)),
oo 108 (.mv (.t 2)),
oo 109 (.mv (.t 13)),
oo 110 (.mv (.t 4)),
oo 111 (.call 103 [.t 106, .t 107, .t 108, .t 109, .t 110]),
oo 105 (.mv (.t 111)),
oo 112 (.ext (.t 105) 0),
oo 113 (.ext (.t 105) 1),
oo 16 (.mv (.t 112)),
oo 17 (.mv (.t 113))] [0, 1, 2, 3, 4, 12, 16, 17])
   (.seq (.reg [oo 114 (.mv (.t 17)),
oo 11 (.mv (.t 114))] [0, 1, 2, 3, 4, 11, 12, 16])
   (.seq (.reg [oo 115 (.mv (.t 16)),
oo 116 (.mv (.t 1)),
oo 117 (.bin .sub (.t 115) (.t 116)),
oo 118 (.mv (.t 2)),
oo 119 (.mv (.t 16)),
oo 120 (.bin .sub (.t 118) (.t 119)),
oo 18 (.mv (.t 117)),
oo 19 (.mv (.t 120))] [0, 1, 2, 3, 4, 11, 12, 16, 18, 19])
   (.seq (.reg [oo 121 (.mv (.t 12)),
oo 122 (.bin .quo (.t 121) (.c (Value.int IntKind.i64 8))),
oo 20 (.mv (.t 122))] [0, 1, 2, 3, 4, 11, 16, 18, 19, 20])
   (.seq (.reg [oo 123 (.mv (.t 18)),
oo 124 (.mv (.t 19)),
oo 125 (.bin .lss (.t 123) (.t 124))] [0, 1, 2, 3, 4, 11, 16, 18, 19, 20, 125])
   (.cond (.t 125) (.seq (.reg [oo 126 (.mv (.t 18)),
oo 127 (.mv (.t 20)),
oo 128 (.bin .geq (.t 126) (.t 127)),
oo 10 (.mv (.t 128))] [0, 1, 2, 3, 4, 10, 11, 16])
    (.seq (.reg [oo 129 (.mv (.t 0)),
oo 130 (.mv (.t 1)),
oo 131 (.mv (.t 16)),
oo 132 (.mv (.t 3)),
oo 133 (.mv (.t 4)),
oo 134 (.call 77 [.t 129, .t 130, .t 131, .t 132, .t 133])] [0, 2, 3, 4, 10, 11, 16])
    (.reg [oo 135 (.mv (.t 16)),
oo 136 (.bin .add (.t 135) (.c (Value.int IntKind.i64 1))),
oo 1 (.mv (.t 136))] [0, 1, 2, 3, 4, 10, 11])))
    (.seq (.reg [oo 137 (.mv (.t 19)),
oo 138 (.mv (.t 20)),
oo 139 (.bin .geq (.t 137) (.t 138)),
oo 10 (.mv (.t 139))] [0, 1, 2, 3, 4, 10, 11, 16])
    (.seq (.reg [oo 140 (.mv (.t 0)),
oo 141 (.mv (.t 16)),
oo 142 (.bin .add (.t 141) (.c (Value.int IntKind.i64 1))),
oo 143 (.mv (.t 2)),
oo 144 (.mv (.t 3)),
oo 145 (.mv (.t 4)),
oo 146 (.call 77 [.t 140, .t 142, .t 143, .t 144, .t 145])] [0, 1, 3, 4, 10, 11, 16])
    (.reg [oo 147 (.mv (.t 16)),
oo 2 (.mv (.t 147))] [0, 1, 2, 3, 4, 10, 11])))))))))))))))))

def m_slices_pdqsortCmpFunc_2_int : MF := ⟨148, [], true, (
  .seq (.reg [oo 10 (.mv (.c (Value.bool true)))] [0, 1, 2, 3, 4, 10])
  (.seq (.reg [oo 11 (.mv (.c (Value.bool true)))] [0, 1, 2, 3, 4, 10, 11])
  (.block 0 (.loop [0, 1, 2, 3, 4, 10, 11] m_slices_pdqsortCmpFunc_2_int_L0))))⟩

-- 73 math/bits.Len
def m_math_bits_Len : MF := ⟨8, [.tmp 2], true, (
  .seq (.reg [oo 2 (.mv (.c (Value.int IntKind.i64 0)))] [0])
  (.seq (.cond (.c (Value.bool false)) (.seq (.reg [oo 3 (.mv (.t 0)),
oo 4 (.conv .u32 (.t 3)),
oo 5 (.call 94 [.t 4]),
oo 2 (.mv (.t 5))] [2])
   (.ret))
   (.skip))
  (.seq (.reg [oo 6 (.mv (.t 0)),
oo 7 (.call 95 [.t 6]),
oo 2 (.mv (.t 7))] [2])
  (.ret))))⟩

-- 191 cmp.isNaN[int]
def m_cmp_isNaN_int : MF := ⟨6, [.tmp 2], true, (
  .seq (.reg [oo 2 (.mv (.c (Value.bool false)))] [0])
  (.seq (.reg [oo 3 (.mv (.t 0)),
oo 4 (.mv (.t 0)),
oo 5 (.bin .neq (.t 3) (.t 4)),
oo 2 (.mv (.t 5))] [2])
  (.ret)))⟩

-- 193 selfstab/lexer.skip
def m_lexer_skip_L0 : MC :=
  .block 1 (.seq (.reg [oo 5 (.mv (.t 0)),
oo 6 (.mv (.t 1)),
oo 7 (.call 208 [.t 5, .t 6, .f 226]),
oo 1 (.mv (.t 7))] [0, 1])
   (.seq (.seq (.reg [oo 8 (.mv (.t 1)),
oo 9 (.mv (.t 0)),
oo 10 (.len 0 (.t 9)),
oo 11 (.bin .eql (.t 8) (.t 10)),
oo 12 (.mv (.t 11)),
⟨some 13, .mv (.t 0), some (12, false)⟩,
⟨some 14, .mv (.t 1), some (12, false)⟩,
⟨some 15, .sidx (.t 13) (.t 14), some (12, false)⟩,
⟨some 16, .bin .neq (.t 15) (.c (Value.int IntKind.u8 35)), some (12, false)⟩,
oo 17 (.pick (.t 12) (.c (Value.bool true)) (.t 16))] [0, 1, 17])
   (.cond (.t 17) (.seq (.reg [oo 18 (.mv (.t 1)),
oo 4 (.mv (.t 18))] [4])
    (.ret))
    (.skip)))
   (.reg [oo 19 (.mv (.t 0)),
oo 20 (.mv (.t 1)),
oo 21 (.call 208 [.t 19, .t 20, .f 227]),
oo 1 (.mv (.t 21))] [0, 1])))

def m_lexer_skip : MF := ⟨22, [.tmp 4], true, (
  .seq (.reg [oo 4 (.mv (.c (Value.int IntKind.i64 0)))] [0, 1])
  (.block 0 (.loop [0, 1] m_lexer_skip_L0)))⟩

-- 194 selfstab/lexer.next
def m_lexer_next : MF := ⟨89, [.cell 4 (some 4), .tmp 5], true, (
  .seq (.reg [oo 4 (.new [.v (Value.int .i64 0), .v (Value.int .i64 0), .v (Value.int .i64 0), .v (Value.int .i64 0)]),
oo 5 (.mv (.c (Value.int IntKind.i64 0)))] [0, 1, 4])
  (.seq (.reg [oo 9 (.mv (.t 1)),
oo 10 (.build [.v (Value.int .i64 0), .v (Value.int .i64 0), .v (Value.int .i64 0), .v (Value.int .i64 0)] [(1, 1, (.t 9))]),
oo 6 (.new [.v (Value.int .i64 0), .v (Value.int .i64 0), .v (Value.int .i64 0), .v (Value.int .i64 0)]),
nn (.store 4 (.t 6) (.t 10))] [0, 1, 4, 6])
  (.seq (.seq (.reg [oo 11 (.mv (.t 0)),
oo 12 (.mv (.t 1)),
oo 13 (.sidx (.t 11) (.t 12)),
oo 7 (.mv (.t 13))] [0, 1, 4, 6, 7])
  (.block 0 (.seq (.reg [oo 16 (.mv (.t 7)),
oo 17 (.call 206 [.t 16]),
oo 15 (.mv (.t 17))] [0, 1, 4, 6, 7, 15])
   (.cond (.t 15) (.seq (.reg [oo 18 (.mv (.t 0)),
oo 19 (.mv (.t 1)),
oo 20 (.call 208 [.t 18, .t 19, .f 207]),
oo 21 (.fadr 0 (.t 6)),
nn (.store 1 (.t 21) (.c (Value.int IntKind.i64 1))),
oo 22 (.fadr 2 (.t 6)),
nn (.store 1 (.t 22) (.t 20))] [1, 4, 6])
    (.seq (.reg [oo 23 (.fadr 2 (.t 6)),
oo 24 (.load (none) (.t 23)),
oo 25 (.mv (.t 1)),
oo 26 (.bin .sub (.t 24) (.t 25)),
oo 27 (.bin .gtr (.t 26) (.c (Value.int IntKind.i64 24)))] [4, 6, 27])
    (.cond (.t 27) (.seq (.reg [oo 28 (.load (some 4) (.t 6)),
nn (.store 4 (.t 4) (.t 28)),
oo 5 (.mv (.c (Value.int IntKind.i64 5)))] [4, 5])
     (.ret))
     (.skip))))
    (.seq (.reg [oo 30 (.mv (.t 7)),
oo 31 (.call 228 [.t 30]),
oo 29 (.mv (.t 31))] [0, 1, 4, 6, 7, 29])
    (.cond (.t 29) (.seq (.reg [oo 32 (.mv (.t 0)),
oo 33 (.mv (.t 1)),
oo 34 (.call 208 [.t 32, .t 33, .f 228]),
oo 35 (.fadr 0 (.t 6)),
nn (.store 1 (.t 35) (.c (Value.int IntKind.i64 2))),
oo 36 (.fadr 2 (.t 6)),
nn (.store 1 (.t 36) (.t 34))] [0, 1, 4, 6])
     (.seq (.reg [oo 8 (.mv (.c (Value.int IntKind.i64 0)))] [0, 1, 4, 6])
     (.seq (.reg [oo 38 (.mv (.t 0)),
oo 39 (.mv (.t 1)),
oo 40 (.fadr 2 (.t 6)),
oo 41 (.load (none) (.t 40)),
oo 42 (.slc 0 (.t 38) (some (.t 39)) (some (.t 41)) none),
oo 43 (.call 229 [.t 42]),
oo 37 (.mv (.t 43)),
oo 44 (.ext (.t 37) 0),
oo 45 (.ext (.t 37) 1),
oo 46 (.fadr 3 (.t 6)),
nn (.store 1 (.t 46) (.t 44)),
oo 8 (.mv (.t 45))] [4, 6, 8])
     (.seq (.reg [oo 47 (.mv (.t 8)),
oo 48 (.bin .neq (.t 47) (.c (Value.int IntKind.i64 0)))] [4, 6, 8, 48])
     (.cond (.t 48) (.seq (.reg [oo 49 (.load (some 4) (.t 6)),
oo 50 (.mv (.t 8)),
nn (.store 4 (.t 4) (.t 49)),
oo 5 (.mv (.t 50))] [4, 5])
      (.ret))
      (.skip))))))
     (.seq (.reg [oo 52 (.mv (.t 1)),
oo 53 (.bin .add (.t 52) (.c (Value.int IntKind.i64 2))),
oo 54 (.mv (.t 0)),
oo 55 (.len 0 (.t 54)),
oo 56 (.bin .leq (.t 53) (.t 55)),
oo 57 (.mv (.t 56)),
⟨some 58, .mv (.t 0), some (57, true)⟩,
⟨some 59, .mv (.t 1), some (57, true)⟩,
⟨some 60, .mv (.t 1), some (57, true)⟩,
⟨some 61, .bin .add (.t 60) (.c (Value.int IntKind.i64 2)), some (57, true)⟩,
⟨some 62, .slc 0 (.t 58) (some (.t 59)) (some (.t 61)) none, some (57, true)⟩,
⟨some 63, .call 230 [.t 62, .c (Value.int IntKind.i32 32)], some (57, true)⟩,
⟨some 64, .un .not (.t 63), some (57, true)⟩,
oo 65 (.pick (.t 57) (.t 64) (.c (Value.bool false))),
oo 66 (.mv (.t 65)),
⟨some 67, .mv (.t 0), some (66, true)⟩,
⟨some 68, .mv (.t 1), some (66, true)⟩,
⟨some 69, .mv (.t 1), some (66, true)⟩,
⟨some 70, .bin .add (.t 69) (.c (Value.int IntKind.i64 2)), some (66, true)⟩,
⟨some 71, .slc 0 (.t 67) (some (.t 68)) (some (.t 70)) none, some (66, true)⟩,
⟨some 72, .bin .add (.c (Value.string ⟨#[32]⟩)) (.t 71), some (66, true)⟩,
⟨some 73, .bin .add (.t 72) (.c (Value.string ⟨#[32]⟩)), some (66, true)⟩,
⟨some 74, .call 231 [.c (Value.string ⟨#[32, 46, 46, 32, 45, 62, 32, 58, 61, 32, 38, 38, 32, 124, 124, 32, 61, 61, 32, 33, 61, 32, 60, 61, 32, 62, 61, 32]⟩), .t 73], some (66, true)⟩,
oo 75 (.pick (.t 66) (.t 74) (.c (Value.bool false))),
oo 51 (.mv (.t 75))] [1, 4, 6, 7, 51])
     (.cond (.t 51) (.reg [oo 76 (.mv (.t 1)),
oo 77 (.bin .add (.t 76) (.c (Value.int IntKind.i64 2))),
oo 78 (.fadr 0 (.t 6)),
nn (.store 1 (.t 78) (.c (Value.int IntKind.i64 3))),
oo 79 (.fadr 2 (.t 6)),
nn (.store 1 (.t 79) (.t 77))] [4, 6])
      (.seq (.reg [oo 81 (.mv (.t 7)),
oo 82 (.call 232 [.c (Value.string ⟨#[59, 58, 44, 40, 41, 46, 63, 60, 62, 43, 45, 42, 47, 37, 33]⟩), .t 81]),
oo 83 (.bin .geq (.t 82) (.c (Value.int IntKind.i64 0))),
oo 80 (.mv (.t 83))] [1, 4, 6, 80])
      (.cond (.t 80) (.reg [oo 84 (.mv (.t 1)),
oo 85 (.bin .add (.t 84) (.c (Value.int IntKind.i64 1))),
oo 86 (.fadr 0 (.t 6)),
nn (.store 1 (.t 86) (.c (Value.int IntKind.i64 3))),
oo 87 (.fadr 2 (.t 6)),
nn (.store 1 (.t 87) (.t 85))] [4, 6])
       (.seq (.reg [oo 14 (.load (some 4) (.t 6)),
nn (.store 4 (.t 4) (.t 14)),
oo 5 (.mv (.c (Value.int IntKind.i64 4)))] [4, 5])
       (.ret))))))))))))
  (.seq (.reg [oo 88 (.load (some 4) (.t 6)),
nn (.store 4 (.t 4) (.t 88)),
oo 5 (.mv (.c (Value.int IntKind.i64 0)))] [4, 5])
  (.ret)))))⟩

-- 195 (*selfstab/syntax.Reader).Takes
def m_syntax_Reader_Takes : MF := ⟨19, [.tmp 4], false, (
  .seq (.reg [oo 4 (.mv (.c (Value.string ⟨#[]⟩)))] [0, 1])
  (.seq (.reg [oo 6 (.mv (.t 0)),
oo 7 (.mv (.t 1)),
oo 8 (.call 198 [.t 6, .t 7]),
oo 5 (.mv (.t 8))] [0, 5])
  (.seq (.seq (.reg [oo 9 (.mv (.t 5)),
oo 10 (.bin .neq (.t 9) (.c (Value.string ⟨#[]⟩)))] [0, 5, 10])
  (.cond (.t 10) (.reg [oo 11 (.mv (.t 0)),
oo 12 (.nck (.t 11)),
oo 13 (.fadr 2 (.t 12)),
oo 14 (.load (none) (.t 13)),
oo 15 (.bin .add (.t 14) (.c (Value.int IntKind.i64 1))),
oo 16 (.nck (.t 11)),
oo 17 (.fadr 2 (.t 16)),
nn (.store 1 (.t 17) (.t 15))] [5])
   (.skip)))
  (.seq (.reg [oo 18 (.mv (.t 5)),
oo 4 (.mv (.t 18))] [4])
  (.ret)))))⟩

-- 196 (*selfstab/syntax.Reader).ahead
def m_syntax_Reader_ahead : MF := ⟨42, [.tmp 4, .tmp 5], false, (
  .seq (.reg [oo 4 (.mv (.c (Value.string ⟨#[]⟩))),
oo 5 (.mv (.c (Value.int IntKind.i64 0)))] [0, 1])
  (.seq (.seq (.reg [oo 7 (.mv (.t 0)),
oo 8 (.nck (.t 7)),
oo 9 (.fadr 2 (.t 8)),
oo 10 (.load (none) (.t 9)),
oo 11 (.mv (.t 1)),
oo 12 (.bin .add (.t 10) (.t 11)),
oo 13 (.mv (.t 0)),
oo 14 (.nck (.t 13)),
oo 15 (.fadr 1 (.t 14)),
oo 16 (.load (none) (.t 15)),
oo 17 (.len 1 (.t 16)),
oo 18 (.bin .geq (.t 12) (.t 17))] [0, 1, 18])
  (.cond (.t 18) (.seq (.reg [oo 4 (.mv (.c (Value.string ⟨#[]⟩))),
oo 5 (.mv (.c (Value.int IntKind.i64 0)))] [4, 5])
   (.ret))
   (.skip)))
  (.seq (.reg [oo 19 (.mv (.t 0)),
oo 20 (.nck (.t 19)),
oo 21 (.fadr 1 (.t 20)),
oo 22 (.load (none) (.t 21)),
oo 23 (.mv (.t 0)),
oo 24 (.nck (.t 23)),
oo 25 (.fadr 2 (.t 24)),
oo 26 (.load (none) (.t 25)),
oo 27 (.mv (.t 1)),
oo 28 (.bin .add (.t 26) (.t 27)),
oo 29 (.iadr 4 (.t 22) (.t 28)),
oo 30 (.load (some 4) (.t 29)),
oo 6 (.alloc [.v (Value.int .i64 0), .v (Value.int .i64 0), .v (Value.int .i64 0), .v (Value.int .i64 0)]),
nn (.store 4 (.t 6) (.t 30))] [0, 6])
  (.seq (.reg [oo 31 (.mv (.t 0)),
oo 32 (.nck (.t 31)),
oo 33 (.fadr 0 (.t 32)),
oo 34 (.load (none) (.t 33)),
oo 35 (.fadr 1 (.t 6)),
oo 36 (.load (none) (.t 35)),
oo 37 (.fadr 2 (.t 6)),
oo 38 (.load (none) (.t 37)),
oo 39 (.slc 0 (.t 34) (some (.t 36)) (some (.t 38)) none),
oo 40 (.fadr 0 (.t 6)),
oo 41 (.load (none) (.t 40)),
oo 4 (.mv (.t 39)),
oo 5 (.mv (.t 41))] [4, 5])
  (.ret)))))⟩

-- 197 slices.Contains[[]string,string]
def m_slices_Contains_string_string : MF := ⟨9, [.tmp 4], true, (
  .seq (.reg [oo 4 (.mv (.c (Value.bool false)))] [0, 1])
  (.seq (.reg [oo 5 (.mv (.t 0)),
oo 6 (.mv (.t 1)),
oo 7 (.call 233 [.t 5, .t 6]),
oo 8 (.bin .geq (.t 7) (.c (Value.int IntKind.i64 0))),
oo 4 (.mv (.t 8))] [4])
  (.ret)))⟩

-- 198 (*selfstab/syntax.Reader).Sees
def m_syntax_Reader_Sees : MF := ⟨20, [.tmp 4], false, (
  .seq (.reg [oo 4 (.mv (.c (Value.string ⟨#[]⟩)))] [0, 1])
  (.seq (.seq (.reg [oo 8 (.mv (.t 0)),
oo 9 (.call 196 [.t 8, .c (Value.int IntKind.i64 0)]),
oo 7 (.mv (.t 9)),
oo 10 (.ext (.t 7) 0),
oo 11 (.ext (.t 7) 1),
oo 5 (.mv (.t 10)),
oo 6 (.mv (.t 11))] [1, 5, 6])
  (.seq (.reg [oo 12 (.mv (.t 6)),
oo 13 (.bin .neq (.t 12) (.c (Value.int IntKind.i64 2))),
oo 14 (.mv (.t 13)),
⟨some 15, .mv (.t 1), some (14, true)⟩,
⟨some 16, .mv (.t 5), some (14, true)⟩,
⟨some 17, .call 197 [.t 15, .t 16], some (14, true)⟩,
oo 18 (.pick (.t 14) (.t 17) (.c (Value.bool false)))] [5, 18])
  (.cond (.t 18) (.seq (.reg [oo 19 (.mv (.t 5)),
oo 4 (.mv (.t 19))] [4])
   (.ret))
   (.skip))))
  (.seq (.reg [oo 4 (.mv (.c (Value.string ⟨#[]⟩)))] [4])
  (.ret))))⟩

-- 199 (*selfstab/syntax.Reader).Number
def m_syntax_Reader_Number : MF := ⟨48, [.tmp 6], false, (
  .seq (.reg [oo 6 (.mv (.c (Value.int IntKind.i64 0)))] [0, 1, 2])
  (.seq (.seq (.reg [oo 11 (.mv (.t 0)),
oo 12 (.call 196 [.t 11, .c (Value.int IntKind.i64 0)]),
oo 10 (.mv (.t 12)),
oo 13 (.ext (.t 10) 0),
oo 14 (.ext (.t 10) 1),
oo 7 (.mv (.t 13)),
oo 8 (.mv (.t 14))] [0, 1, 2, 8])
  (.seq (.reg [oo 15 (.mv (.t 8)),
oo 16 (.bin .neq (.t 15) (.c (Value.int IntKind.i64 2)))] [0, 1, 2, 16])
  (.cond (.t 16) (.reg [oo 17 (.mv (.t 0)),
oo 18 (.call 172 [.t 17, .c (Value.int IntKind.i64 4)])] [0, 1, 2])
   (.skip))))
  (.seq (.reg [oo 19 (.mv (.t 0)),
oo 20 (.nck (.t 19)),
oo 21 (.fadr 1 (.t 20)),
oo 22 (.load (none) (.t 21)),
oo 23 (.mv (.t 0)),
oo 24 (.nck (.t 23)),
oo 25 (.fadr 2 (.t 24)),
oo 26 (.load (none) (.t 25)),
oo 27 (.iadr 4 (.t 22) (.t 26)),
oo 28 (.fadr 3 (.t 27)),
oo 29 (.load (none) (.t 28)),
oo 9 (.mv (.t 29))] [0, 1, 2, 9])
  (.seq (.seq (.reg [oo 30 (.mv (.t 9)),
oo 31 (.mv (.t 1)),
oo 32 (.bin .lss (.t 30) (.t 31)),
oo 33 (.mv (.t 32)),
⟨some 34, .mv (.t 9), some (33, false)⟩,
⟨some 35, .mv (.t 2), some (33, false)⟩,
⟨some 36, .bin .gtr (.t 34) (.t 35), some (33, false)⟩,
oo 37 (.pick (.t 33) (.c (Value.bool true)) (.t 36))] [0, 9, 37])
  (.cond (.t 37) (.reg [oo 38 (.mv (.t 0)),
oo 39 (.call 172 [.t 38, .c (Value.int IntKind.i64 2)])] [0, 9])
   (.skip)))
  (.seq (.reg [oo 40 (.mv (.t 0)),
oo 41 (.nck (.t 40)),
oo 42 (.fadr 2 (.t 41)),
oo 43 (.load (none) (.t 42)),
oo 44 (.bin .add (.t 43) (.c (Value.int IntKind.i64 1))),
oo 45 (.nck (.t 40)),
oo 46 (.fadr 2 (.t 45)),
nn (.store 1 (.t 46) (.t 44))] [9])
  (.seq (.reg [oo 47 (.mv (.t 9)),
oo 6 (.mv (.t 47))] [6])
  (.ret)))))))⟩

-- 200 (*selfstab/program.reader).bound
def m_program_reader_bound : MF := ⟨84, [], false, (
  .seq (.reg [oo 4 (.mv (.c (Value.int IntKind.i64 1)))] [0, 1, 4])
  (.seq (.seq (.reg [oo 5 (.mv (.t 0)),
oo 6 (.nck (.t 5)),
oo 7 (.fadr 0 (.t 6)),
oo 8 (.load (none) (.t 7)),
oo 9 (.call 234 [.t 8])] [0, 1, 4, 9])
  (.cond (.t 9) (.seq (.seq (.reg [oo 10 (.mv (.t 0)),
oo 11 (.nck (.t 10)),
oo 12 (.fadr 0 (.t 11)),
oo 13 (.load (none) (.t 12)),
oo 14 (.call 235 [.t 13, .c (Value.string ⟨#[42]⟩)]),
oo 15 (.un .not (.t 14))] [0, 1, 15])
   (.cond (.t 15) (.seq (.reg [oo 16 (.mv (.t 1)),
oo 17 (.mv (.t 0)),
oo 18 (.nck (.t 17)),
oo 19 (.fadr 0 (.t 18)),
oo 20 (.load (none) (.t 19)),
oo 21 (.call 199 [.t 20, .c (Value.int IntKind.i64 0), .c (Value.int IntKind.i64 4096)]),
oo 22 (.nck (.t 16)),
oo 23 (.fadr 3 (.t 22)),
nn (.store 1 (.t 23) (.t 21))] [])
    (.ret))
    (.skip)))
   (.seq (.reg [oo 24 (.mv (.t 0)),
oo 25 (.nck (.t 24)),
oo 26 (.fadr 0 (.t 25)),
oo 27 (.load (none) (.t 26)),
oo 28 (.call 199 [.t 27, .c (Value.int IntKind.i64 1), .c (Value.int IntKind.i64 255)]),
oo 4 (.mv (.t 28))] [0, 1, 4])
   (.reg [oo 29 (.mv (.t 0)),
oo 30 (.nck (.t 29)),
oo 31 (.fadr 0 (.t 30)),
oo 32 (.load (none) (.t 31)),
oo 33 (.call 166 [.t 32, .c (Value.string ⟨#[42]⟩)])] [0, 1, 4])))
   (.skip)))
  (.seq (.seq (.reg [oo 34 (.mv (.t 0)),
oo 35 (.nck (.t 34)),
oo 36 (.fadr 0 (.t 35)),
oo 37 (.load (none) (.t 36)),
oo 38 (.lit 1 [.v (Value.string ⟨#[]⟩), .v (Value.string ⟨#[]⟩)] [(0, 1, (.c (Value.string ⟨#[110]⟩))), (1, 1, (.c (Value.string ⟨#[105, 100, 115]⟩)))] false),
oo 39 (.call 195 [.t 37, .t 38])] [0, 1, 4, 39])
  (.block 0 (.seq (.reg [oo 46 (.bin .eql (.t 39) (.c (Value.string ⟨#[110]⟩))),
oo 45 (.mv (.t 46))] [0, 1, 4, 39, 45])
   (.cond (.t 45) (.reg [oo 47 (.mv (.t 1)),
oo 48 (.mv (.t 4)),
oo 49 (.nck (.t 47)),
oo 50 (.fadr 4 (.t 49)),
nn (.store 1 (.t 50) (.t 48))] [0, 1])
    (.seq (.reg [oo 52 (.bin .eql (.t 39) (.c (Value.string ⟨#[105, 100, 115]⟩))),
oo 51 (.mv (.t 52))] [0, 1, 4, 51])
    (.cond (.t 51) (.reg [oo 53 (.mv (.t 1)),
oo 54 (.mv (.t 4)),
oo 55 (.nck (.t 53)),
oo 56 (.fadr 5 (.t 55)),
nn (.store 1 (.t 56) (.t 54))] [0, 1])
     (.reg [oo 40 (.mv (.t 0)),
oo 41 (.nck (.t 40)),
oo 42 (.fadr 0 (.t 41)),
oo 43 (.load (none) (.t 42)),
oo 44 (.call 172 [.t 43, .c (Value.int IntKind.i64 4)])] [0, 1])))))))
  (.seq (.reg [oo 57 (.mv (.t 0)),
oo 58 (.nck (.t 57)),
oo 59 (.fadr 0 (.t 58)),
oo 60 (.load (none) (.t 59)),
oo 61 (.lit 1 [.v (Value.string ⟨#[]⟩), .v (Value.string ⟨#[]⟩)] [(0, 1, (.c (Value.string ⟨#[43]⟩))), (1, 1, (.c (Value.string ⟨#[45]⟩)))] false),
oo 62 (.call 195 [.t 60, .t 61])] [0, 1, 62])
  (.block 1 (.seq (.reg [oo 64 (.bin .eql (.t 62) (.c (Value.string ⟨#[43]⟩))),
oo 63 (.mv (.t 64))] [0, 1, 62, 63])
   (.cond (.t 63) (.reg [oo 65 (.mv (.t 1)),
oo 66 (.mv (.t 0)),
oo 67 (.nck (.t 66)),
oo 68 (.fadr 0 (.t 67)),
oo 69 (.load (none) (.t 68)),
oo 70 (.call 199 [.t 69, .c (Value.int IntKind.i64 0), .c (Value.int IntKind.i64 4096)]),
oo 71 (.nck (.t 65)),
oo 72 (.fadr 3 (.t 71)),
nn (.store 1 (.t 72) (.t 70))] [])
    (.seq (.reg [oo 74 (.bin .eql (.t 62) (.c (Value.string ⟨#[45]⟩))),
oo 73 (.mv (.t 74))] [0, 1, 73])
    (.cond (.t 73) (.reg [oo 75 (.mv (.t 1)),
oo 76 (.mv (.t 0)),
oo 77 (.nck (.t 76)),
oo 78 (.fadr 0 (.t 77)),
oo 79 (.load (none) (.t 78)),
oo 80 (.call 199 [.t 79, .c (Value.int IntKind.i64 0), .c (Value.int IntKind.i64 4096)]),
oo 81 (.un .neg (.t 80)),
oo 82 (.nck (.t 75)),
oo 83 (.fadr 3 (.t 82)),
nn (.store 1 (.t 83) (.t 81))] [])
     (.skip))))))))))⟩

-- 201 (*selfstab/syntax.Reader).Choice
def m_syntax_Reader_Choice : MF := ⟨22, [.tmp 2], false, (
  .seq (.reg [oo 2 (.mv (.c (Value.slice none 0 0)))] [0])
  (.seq (.reg [oo 5 (.mv (.t 0)),
oo 6 (.call 236 [.t 5, .c (Value.int IntKind.i64 0)]),
oo 3 (.mv (.t 6))] [0, 3])
  (.seq (.seq (.reg [oo 7 (.mv (.t 0)),
oo 8 (.lit 1 [.v (Value.string ⟨#[]⟩)] [(0, 1, (.c (Value.string ⟨#[63]⟩)))] false),
oo 9 (.call 195 [.t 7, .t 8]),
oo 10 (.bin .eql (.t 9) (.c (Value.string ⟨#[]⟩)))] [0, 3, 10])
  (.cond (.t 10) (.seq (.reg [oo 11 (.mv (.t 3)),
oo 2 (.mv (.t 11))] [2])
   (.ret))
   (.skip)))
  (.seq (.reg [oo 12 (.mv (.t 0)),
oo 13 (.call 201 [.t 12]),
oo 4 (.mv (.t 13))] [0, 3, 4])
  (.seq (.reg [oo 14 (.mv (.t 0)),
oo 15 (.call 166 [.t 14, .c (Value.string ⟨#[58]⟩)])] [0, 3, 4])
  (.seq (.reg [oo 16 (.mv (.t 3)),
oo 17 (.mv (.t 4)),
oo 18 (.mv (.t 0)),
oo 19 (.call 201 [.t 18]),
oo 20 (.lit 1 [.v (Value.slice none 0 0), .v (Value.slice none 0 0), .v (Value.slice none 0 0)] [(0, 1, (.t 16)), (1, 1, (.t 17)), (2, 1, (.t 19))] true),
oo 21 (.call 237 [.c (Value.int IntKind.i64 43), .t 20]),
oo 2 (.mv (.t 21))] [2])
  (.ret)))))))⟩

-- 202 (*selfstab/syntax.Reader).Variable
def m_syntax_Reader_Variable : MF := ⟨38, [.tmp 2], false, (
  .seq (.reg [oo 2 (.mv (.c (Value.int IntKind.i64 0)))] [0])
  (.seq (.reg [oo 7 (.mv (.t 0)),
oo 8 (.call 196 [.t 7, .c (Value.int IntKind.i64 0)]),
oo 6 (.mv (.t 8)),
oo 9 (.ext (.t 6) 0),
oo 10 (.ext (.t 6) 1),
oo 3 (.mv (.t 9)),
oo 4 (.mv (.t 10))] [0, 3, 4])
  (.seq (.seq (.reg [oo 11 (.mv (.t 4)),
oo 12 (.bin .neq (.t 11) (.c (Value.int IntKind.i64 1))),
oo 13 (.mv (.t 12)),
⟨some 14, .mv (.t 3), some (13, false)⟩,
⟨some 15, .call 175 [.t 14], some (13, false)⟩,
⟨some 16, .un .not (.t 15), some (13, false)⟩,
oo 17 (.pick (.t 13) (.c (Value.bool true)) (.t 16))] [0, 3, 17])
  (.cond (.t 17) (.reg [oo 18 (.mv (.t 0)),
oo 19 (.call 172 [.t 18, .c (Value.int IntKind.i64 4)])] [0, 3])
   (.skip)))
  (.seq (.reg [oo 20 (.mv (.t 0)),
oo 21 (.nck (.t 20)),
oo 22 (.fadr 3 (.t 21)),
oo 23 (.load (none) (.t 22)),
oo 24 (.mv (.t 3)),
oo 25 (.call 233 [.t 23, .t 24]),
oo 5 (.mv (.t 25))] [0, 5])
  (.seq (.seq (.reg [oo 26 (.mv (.t 5)),
oo 27 (.bin .lss (.t 26) (.c (Value.int IntKind.i64 0)))] [0, 5, 27])
  (.cond (.t 27) (.reg [oo 28 (.mv (.t 0)),
oo 29 (.call 172 [.t 28, .c (Value.int IntKind.i64 5)])] [0, 5])
   (.skip)))
  (.seq (.reg [oo 30 (.mv (.t 0)),
oo 31 (.nck (.t 30)),
oo 32 (.fadr 2 (.t 31)),
oo 33 (.load (none) (.t 32)),
oo 34 (.bin .add (.t 33) (.c (Value.int IntKind.i64 1))),
oo 35 (.nck (.t 30)),
oo 36 (.fadr 2 (.t 35)),
nn (.store 1 (.t 36) (.t 34))] [5])
  (.seq (.reg [oo 37 (.mv (.t 5)),
oo 2 (.mv (.t 37))] [2])
  (.ret))))))))⟩

-- 203 (*selfstab/syntax.Reader).Place
def m_syntax_Reader_Place : MF := ⟨21, [.tmp 2], false, (
  .seq (.reg [oo 2 (.mv (.c (Value.int IntKind.i64 0)))] [0])
  (.seq (.seq (.reg [oo 3 (.mv (.t 0)),
oo 4 (.call 171 [.t 3])] [0, 4])
  (.cond (.t 4) (.seq (.reg [oo 5 (.mv (.t 0)),
oo 6 (.nck (.t 5)),
oo 7 (.fadr 0 (.t 6)),
oo 8 (.load (none) (.t 7)),
oo 9 (.len 0 (.t 8)),
oo 2 (.mv (.t 9))] [2])
   (.ret))
   (.skip)))
  (.seq (.reg [oo 10 (.mv (.t 0)),
oo 11 (.nck (.t 10)),
oo 12 (.fadr 1 (.t 11)),
oo 13 (.load (none) (.t 12)),
oo 14 (.mv (.t 0)),
oo 15 (.nck (.t 14)),
oo 16 (.fadr 2 (.t 15)),
oo 17 (.load (none) (.t 16)),
oo 18 (.iadr 4 (.t 13) (.t 17)),
oo 19 (.fadr 1 (.t 18)),
oo 20 (.load (none) (.t 19)),
oo 2 (.mv (.t 20))] [2])
  (.ret))))⟩

-- 204 selfstab/types.kind
def m_types_kind : MF := ⟨13, [.tmp 2], true, (
  .seq (.reg [oo 2 (.mv (.c (Value.bool false)))] [0])
  (.seq (.reg [oo 3 (.mv (.t 0)),
oo 4 (.bin .eql (.t 3) (.c (Value.int IntKind.i64 1))),
oo 5 (.mv (.t 4)),
⟨some 6, .mv (.t 0), some (5, false)⟩,
⟨some 7, .bin .eql (.t 6) (.c (Value.int IntKind.i64 2)), some (5, false)⟩,
oo 8 (.pick (.t 5) (.c (Value.bool true)) (.t 7)),
oo 9 (.mv (.t 8)),
⟨some 10, .mv (.t 0), some (9, false)⟩,
⟨some 11, .bin .eql (.t 10) (.c (Value.int IntKind.i64 3)), some (9, false)⟩,
oo 12 (.pick (.t 9) (.c (Value.bool true)) (.t 11)),
oo 2 (.mv (.t 12))] [2])
  (.ret)))⟩

-- 205 selfstab/types.within
def m_types_within : MF := ⟨15, [.tmp 6], true, (
  .seq (.reg [oo 6 (.mv (.c (Value.bool false)))] [0, 1, 2])
  (.seq (.reg [oo 7 (.mv (.t 0)),
oo 8 (.mv (.t 1)),
oo 9 (.bin .geq (.t 7) (.t 8)),
oo 10 (.mv (.t 9)),
⟨some 11, .mv (.t 0), some (10, true)⟩,
⟨some 12, .mv (.t 2), some (10, true)⟩,
⟨some 13, .bin .leq (.t 11) (.t 12), some (10, true)⟩,
oo 14 (.pick (.t 10) (.t 13) (.c (Value.bool false))),
oo 6 (.mv (.t 14))] [6])
  (.ret)))⟩

-- 206 selfstab/lexer.letter
def m_lexer_letter : MF := ⟨17, [.tmp 2], true, (
  .seq (.reg [oo 2 (.mv (.c (Value.bool false)))] [0])
  (.seq (.reg [oo 3 (.mv (.t 0)),
oo 4 (.bin .geq (.t 3) (.c (Value.int IntKind.u8 97))),
oo 5 (.mv (.t 4)),
⟨some 6, .mv (.t 0), some (5, true)⟩,
⟨some 7, .bin .leq (.t 6) (.c (Value.int IntKind.u8 122)), some (5, true)⟩,
oo 8 (.pick (.t 5) (.t 7) (.c (Value.bool false))),
oo 9 (.mv (.t 8)),
⟨some 10, .mv (.t 0), some (9, false)⟩,
⟨some 11, .bin .geq (.t 10) (.c (Value.int IntKind.u8 65)), some (9, false)⟩,
⟨some 12, .mv (.t 11), some (9, false)⟩,
⟨some 13, .mv (.t 0), some (12, true)⟩,
⟨some 14, .bin .leq (.t 13) (.c (Value.int IntKind.u8 90)), some (12, true)⟩,
⟨some 15, .pick (.t 12) (.t 14) (.c (Value.bool false)), some (9, false)⟩,
oo 16 (.pick (.t 9) (.c (Value.bool true)) (.t 15)),
oo 2 (.mv (.t 16))] [2])
  (.ret)))⟩

-- 208 selfstab/lexer.while
def m_lexer_while_L0 : MC :=
  .seq (.seq (.reg [oo 7 (.mv (.t 1)),
oo 8 (.mv (.t 0)),
oo 9 (.len 0 (.t 8)),
oo 10 (.bin .lss (.t 7) (.t 9)),
oo 11 (.mv (.t 10)),
⟨some 12, .mv (.t 2), some (11, true)⟩,
⟨some 13, .mv (.t 0), some (11, true)⟩,
⟨some 14, .mv (.t 1), some (11, true)⟩,
⟨some 15, .sidx (.t 13) (.t 14), some (11, true)⟩,
⟨some 16, .callv (.t 12) [.t 15], some (11, true)⟩,
oo 17 (.pick (.t 11) (.t 16) (.c (Value.bool false)))] [0, 1, 2, 17])
  (.cond (.t 17) (.skip)
   (.exit 0)))
  (.block 1 (.reg [oo 18 (.mv (.t 1)),
oo 19 (.bin .add (.t 18) (.c (Value.int IntKind.i64 1))),
oo 1 (.mv (.t 19))] [0, 1, 2]))

def m_lexer_while : MF := ⟨21, [.tmp 6], true, (
  .seq (.reg [oo 6 (.mv (.c (Value.int IntKind.i64 0)))] [0, 1, 2])
  (.seq (.block 0 (.loop [0, 1, 2] m_lexer_while_L0))
  (.seq (.reg [oo 20 (.mv (.t 1)),
oo 6 (.mv (.t 20))] [6])
  (.ret))))⟩

-- 207 selfstab/lexer.inside
def m_lexer_inside : MF := ⟨13, [.tmp 2], true, (
  .seq (.reg [oo 2 (.mv (.c (Value.bool false)))] [0])
  (.seq (.reg [oo 3 (.mv (.t 0)),
oo 4 (.call 206 [.t 3]),
oo 5 (.mv (.t 4)),
⟨some 6, .mv (.t 0), some (5, false)⟩,
⟨some 7, .call 228 [.t 6], some (5, false)⟩,
oo 8 (.pick (.t 5) (.c (Value.bool true)) (.t 7)),
oo 9 (.mv (.t 8)),
⟨some 10, .mv (.t 0), some (9, false)⟩,
⟨some 11, .bin .eql (.t 10) (.c (Value.int IntKind.u8 95)), some (9, false)⟩,
oo 12 (.pick (.t 9) (.c (Value.bool true)) (.t 11)),
oo 2 (.mv (.t 12))] [2])
  (.ret)))⟩

-- 209 selfstab/lexer.Reserved
def m_lexer_Reserved : MF := ⟨18, [.tmp 2], true, (
  .seq (.reg [oo 2 (.mv (.c (Value.bool false)))] [0])
  (.seq (.reg [oo 3 (.mv (.t 0)),
oo 4 (.bin .neq (.t 3) (.c (Value.string ⟨#[]⟩))),
oo 5 (.mv (.t 4)),
⟨some 6, .mv (.t 0), some (5, true)⟩,
⟨some 7, .call 208 [.t 6, .c (Value.int IntKind.i64 0), .f 206], some (5, true)⟩,
⟨some 8, .mv (.t 0), some (5, true)⟩,
⟨some 9, .len 0 (.t 8), some (5, true)⟩,
⟨some 10, .bin .eql (.t 7) (.t 9), some (5, true)⟩,
oo 11 (.pick (.t 5) (.t 10) (.c (Value.bool false))),
oo 12 (.mv (.t 11)),
⟨some 13, .mv (.t 0), some (12, true)⟩,
⟨some 14, .bin .add (.c (Value.string ⟨#[32]⟩)) (.t 13), some (12, true)⟩,
⟨some 15, .bin .add (.t 14) (.c (Value.string ⟨#[32]⟩)), some (12, true)⟩,
⟨some 16, .call 231 [.c (Value.string ⟨#[32, 112, 114, 111, 103, 114, 97, 109, 32, 118, 97, 114, 32, 114, 117, 108, 101, 32, 98, 111, 111, 108, 32, 112, 111, 114, 116, 32, 116, 114, 117, 101, 32, 102, 97, 108, 115, 101, 32, 110, 111, 110, 101, 32, 110, 32, 105, 100, 115, 32, 105, 100, 32, 100, 101, 103, 32, 114, 111, 111, 116, 32, 113, 32, 119, 101, 105, 103, 104, 116, 32, 98, 97, 99, 107, 32, 97, 108, 108, 32, 115, 111, 109, 101, 32, 99, 111, 117, 110, 116, 32, 102, 105, 114, 115, 116, 32, 109, 105, 110, 32, 109, 97, 120, 32, 115, 117, 109, 32, 109, 101, 120, 32, 115, 101, 99, 111, 110, 100, 32, 104, 101, 97, 100, 32]⟩), .t 15], some (12, true)⟩,
oo 17 (.pick (.t 12) (.t 16) (.c (Value.bool false))),
oo 2 (.mv (.t 17))] [2])
  (.ret)))⟩

-- 210 selfstab/term.Valid
def m_term_Valid_L0 : MC :=
  .seq (.reg [oo 28 (.bin .lss (.t 27) (.t 26))] [1, 25, 26, 27, 28])
  (.seq (.cond (.t 28) (.skip)
   (.exit 0))
  (.seq (.block 1 (.seq (.reg [oo 29 (.iadr 2 (.t 25) (.t 27)),
oo 30 (.load (some 2) (.t 29)),
oo 6 (.alloc [.v (Value.int .i64 0), .v (Value.int .i64 0)]),
nn (.store 2 (.t 6) (.t 30))] [1, 6, 25, 26, 27])
   (.seq (.reg [oo 31 (.fadr 1 (.t 6)),
oo 32 (.load (none) (.t 31)),
oo 33 (.bin .lss (.t 32) (.c (Value.int IntKind.i64 0))),
oo 34 (.mv (.t 33)),
⟨some 35, .fadr 1 (.t 6), some (34, false)⟩,
⟨some 36, .load (none) (.t 35), some (34, false)⟩,
⟨some 37, .fadr 0 (.t 6), some (34, false)⟩,
⟨some 38, .load (none) (.t 37), some (34, false)⟩,
⟨some 39, .mv (.t 1), some (34, false)⟩,
⟨some 40, .call 241 [.t 38, .t 39], some (34, false)⟩,
⟨some 41, .bin .gtr (.t 36) (.t 40), some (34, false)⟩,
oo 42 (.pick (.t 34) (.c (Value.bool true)) (.t 41))] [1, 25, 26, 27, 42])
   (.cond (.t 42) (.seq (.reg [oo 4 (.mv (.c (Value.bool false)))] [4])
    (.ret))
    (.skip)))))
  (.reg [oo 43 (.bin .add (.t 27) (.c (Value.int IntKind.i64 1))),
oo 27 (.mv (.t 43))] [1, 25, 26, 27])))

def m_term_Valid : MF := ⟨44, [.tmp 4], true, (
  .seq (.reg [oo 4 (.mv (.c (Value.bool false)))] [0, 1])
  (.seq (.seq (.reg [oo 7 (.mv (.t 0)),
oo 8 (.len 1 (.t 7)),
oo 9 (.bin .gtr (.t 8) (.c (Value.int IntKind.i64 200))),
oo 10 (.mv (.t 9)),
⟨some 11, .mv (.t 0), some (10, false)⟩,
⟨some 12, .call 238 [.t 11], some (10, false)⟩,
⟨some 13, .un .not (.t 12), some (10, false)⟩,
oo 14 (.pick (.t 10) (.c (Value.bool true)) (.t 13)),
oo 15 (.mv (.t 14)),
⟨some 16, .mv (.t 0), some (15, false)⟩,
⟨some 17, .call 239 [.t 16], some (15, false)⟩,
⟨some 18, .bin .gtr (.t 17) (.c (Value.int IntKind.i64 24)), some (15, false)⟩,
oo 19 (.pick (.t 15) (.c (Value.bool true)) (.t 18)),
oo 20 (.mv (.t 19)),
⟨some 21, .mv (.t 0), some (20, false)⟩,
⟨some 22, .call 240 [.t 21], some (20, false)⟩,
⟨some 23, .bin .gtr (.t 22) (.c (Value.int IntKind.i64 2)), some (20, false)⟩,
oo 24 (.pick (.t 20) (.c (Value.bool true)) (.t 23))] [0, 1, 24])
  (.cond (.t 24) (.seq (.reg [oo 4 (.mv (.c (Value.bool false)))] [4])
   (.ret))
   (.skip)))
  (.seq (.seq (.reg [oo 25 (.mv (.t 0)),
oo 26 (.len 1 (.t 25)),
oo 27 (.mv (.c (Value.int IntKind.i64 0)))] [1, 25, 26, 27])
  (.block 0 (.loop [1, 25, 26, 27] m_term_Valid_L0)))
  (.seq (.reg [oo 4 (.mv (.c (Value.bool true)))] [4])
  (.ret)))))⟩

-- 211 selfstab/types.of
def m_types_of : MF := ⟨13, [.tmp 6], true, (
  .seq (.reg [oo 6 (.mv (.c (Value.int IntKind.i64 0)))] [0, 1, 2])
  (.seq (.reg [oo 8 (.mv (.t 0)),
oo 9 (.mv (.t 1)),
oo 10 (.build [.v (Value.slice none 0 0), .v (Value.slice none 0 0), .v (Value.int .i64 0)] [(0, 1, (.t 8)), (1, 1, (.t 9))]),
oo 7 (.new [.v (Value.slice none 0 0), .v (Value.slice none 0 0), .v (Value.int .i64 0)]),
nn (.store 3 (.t 7) (.t 10))] [2, 7])
  (.seq (.reg [oo 11 (.mv (.t 2)),
oo 12 (.call 242 [.t 7, .t 11]),
oo 6 (.mv (.t 12))] [6])
  (.ret))))⟩

-- 82 selfstab/selfstabworld.linked
def m_selfstabworld_linked_L0 : MC :=
  .seq (.seq (.reg [oo 8 (.mv (.t 7)),
oo 9 (.fadr 1 (.t 3)),
oo 10 (.load (none) (.t 9)),
oo 11 (.mv (.t 1)),
oo 12 (.iadr 1 (.t 10) (.t 11)),
oo 13 (.load (none) (.t 12)),
oo 14 (.len 1 (.t 13)),
oo 15 (.bin .lss (.t 8) (.t 14))] [1, 2, 3, 7, 15])
  (.cond (.t 15) (.skip)
   (.exit 0)))
  (.seq (.block 1 (.seq (.reg [oo 18 (.fadr 1 (.t 3)),
oo 19 (.load (none) (.t 18)),
oo 20 (.mv (.t 1)),
oo 21 (.iadr 1 (.t 19) (.t 20)),
oo 22 (.load (none) (.t 21)),
oo 23 (.mv (.t 7)),
oo 24 (.iadr 2 (.t 22) (.t 23)),
oo 25 (.fadr 0 (.t 24)),
oo 26 (.load (none) (.t 25)),
oo 27 (.mv (.t 2)),
oo 28 (.bin .eql (.t 26) (.t 27))] [1, 2, 3, 7, 28])
   (.cond (.t 28) (.seq (.reg [oo 6 (.mv (.c (Value.bool true)))] [6])
    (.ret))
    (.skip))))
  (.reg [oo 16 (.mv (.t 7)),
oo 17 (.bin .add (.t 16) (.c (Value.int IntKind.i64 1))),
oo 7 (.mv (.t 17))] [1, 2, 3, 7]))

def m_selfstabworld_linked : MF := ⟨29, [.tmp 6], true, (
  .seq (.reg [oo 3 (.box 2 (.t 0)),
oo 6 (.mv (.c (Value.bool false)))] [1, 2, 3])
  (.seq (.seq (.reg [oo 7 (.mv (.c (Value.int IntKind.i64 0)))] [1, 2, 3, 7])
  (.block 0 (.loop [1, 2, 3, 7] m_selfstabworld_linked_L0)))
  (.seq (.reg [oo 6 (.mv (.c (Value.bool false)))] [6])
  (.ret))))⟩

-- 55 slices.Max[[]int,int]
def m_slices_Max_int_int_L0 : MC :=
  .seq (.seq (.reg [oo 12 (.mv (.t 4)),
oo 13 (.mv (.t 0)),
oo 14 (.len 1 (.t 13)),
oo 15 (.bin .lss (.t 12) (.t 14))] [0, 3, 4, 15])
  (.cond (.t 15) (.skip)
   (.exit 0)))
  (.seq (.block 1 (.reg [oo 18 (.mv (.t 3)),
oo 19 (.mv (.t 0)),
oo 20 (.mv (.t 4)),
oo 21 (.iadr 1 (.t 19) (.t 20)),
oo 22 (.load (none) (.t 21)),
oo 23 (.mx [.t 18, .t 22]),
oo 3 (.mv (.t 23))] [0, 3, 4]))
  (.reg [oo 16 (.mv (.t 4)),
oo 17 (.bin .add (.t 16) (.c (Value.int IntKind.i64 1))),
oo 4 (.mv (.t 17))] [0, 3, 4]))

def m_slices_Max_int_int : MF := ⟨25, [.tmp 2], true, (
  .seq (.reg [oo 2 (.mv (.c (Value.int IntKind.i64 0)))] [0])
  (.seq (.seq (.reg [oo 5 (.mv (.t 0)),
oo 6 (.len 1 (.t 5)),
oo 7 (.bin .lss (.t 6) (.c (Value.int IntKind.i64 1)))] [0, 7])
  (.cond (.t 7) (.reg [oo 8 (.nop),
nn (.nop)] [0])
   (.skip)))
  (.seq (.reg [oo 9 (.mv (.t 0)),
oo 10 (.iadr 1 (.t 9) (.c (Value.int IntKind.i64 0))),
oo 11 (.load (none) (.t 10)),
oo 3 (.mv (.t 11))] [0, 3])
  (.seq (.seq (.reg [oo 4 (.mv (.c (Value.int IntKind.i64 1)))] [0, 3, 4])
  (.block 0 (.loop [0, 3, 4] m_slices_Max_int_int_L0)))
  (.seq (.reg [oo 24 (.mv (.t 3)),
oo 2 (.mv (.t 24))] [2])
  (.ret))))))⟩

-- 212 selfstab/interp.New$1
def m_interp_New_1 : MF := ⟨8, [.tmp 3], true, (
  .seq (.reg [oo 2 (.box 2 (.t 0)),
oo 3 (.mv (.c (Value.bool false)))] [1, 2])
  (.seq (.reg [oo 4 (.fadr 0 (.t 2)),
oo 5 (.load (none) (.t 4)),
oo 6 (.load (none) (.t 1)),
oo 7 (.bin .eql (.t 5) (.t 6)),
oo 3 (.mv (.t 7))] [3])
  (.ret)))⟩

-- 213 (*selfstab/interp.World).Rule
def m_interp_World_Rule : MF := ⟨14, [.tmp 6], false, (
  .seq (.reg [oo 3 (.box 1 (.t 0)),
oo 4 (.box 1 (.t 1)),
oo 5 (.box 1 (.t 2)),
oo 6 (.mv (.c (Value.int IntKind.i64 0)))] [3, 4, 5])
  (.seq (.reg [oo 7 (.load (none) (.t 3)),
oo 8 (.nck (.t 7)),
oo 9 (.fadr 0 (.t 8)),
oo 10 (.fadr 2 (.t 9)),
oo 11 (.load (none) (.t 10)),
oo 12 (.mkf 243 [.t 3, .t 4, .t 5]),
oo 13 (.call 244 [.t 11, .t 12]),
oo 6 (.mv (.t 13))] [6])
  (.ret)))⟩

-- 219 slices.Clone[[]int,int]
def m_slices_Clone_int_int : MF := ⟨8, [.tmp 2], false, (
  .seq (.reg [oo 2 (.mv (.c (Value.slice none 0 0)))] [0])
  (.seq (.seq (.reg [oo 3 (.mv (.t 0)),
oo 4 (.nilq false (.t 3))] [0, 4])
  (.cond (.t 4) (.seq (.reg [oo 2 (.mv (.c (Value.slice none 0 0)))] [2])
   (.ret))
   (.skip)))
  (.seq (.reg [oo 5 (.lit 1 [] [] true),
oo 6 (.mv (.t 0)),
oo 7 (.app 1 8 (.t 5) (.t 6)),
oo 2 (.mv (.t 7))] [2])
  (.ret))))⟩

-- 223 selfstab/domain.Fits
def m_domain_Fits_L0 : MC :=
  .seq (.reg [oo 21 (.bin .lss (.t 20) (.t 19))] [3, 18, 19, 20, 21])
  (.seq (.cond (.t 21) (.skip)
   (.exit 0))
  (.seq (.block 1 (.seq (.reg [oo 22 (.iadr 6 (.t 18) (.t 20)),
oo 23 (.load (some 6) (.t 22)),
oo 7 (.alloc [.v (Value.string ⟨#[]⟩), .v (Value.int .i64 0), .v (Value.int .i64 0), .v (Value.int .i64 0), .v (Value.int .i64 0), .v (Value.int .i64 0)]),
nn (.store 6 (.t 7) (.t 23))] [3, 7, 18, 19, 20])
   (.seq (.reg [oo 25 (.load (some 6) (.t 7)),
oo 26 (.load (some 2) (.t 3)),
oo 27 (.call 249 [.t 25, .t 26, .c (Value.int IntKind.i64 0)]),
oo 24 (.mv (.t 27)),
oo 28 (.ext (.t 24) 0),
oo 29 (.ext (.t 24) 1),
oo 8 (.mv (.t 28)),
oo 9 (.mv (.t 29))] [3, 7, 8, 9, 18, 19, 20])
   (.seq (.reg [oo 30 (.mv (.t 9)),
oo 31 (.mv (.t 8)),
oo 32 (.bin .sub (.t 30) (.t 31)),
oo 33 (.bin .add (.t 32) (.c (Value.int IntKind.i64 1))),
oo 10 (.mv (.t 33))] [3, 7, 10, 18, 19, 20])
   (.seq (.reg [oo 34 (.fadr 1 (.t 7)),
oo 35 (.load (none) (.t 34)),
oo 36 (.bin .eql (.t 35) (.c (Value.int IntKind.i64 1))),
oo 37 (.mv (.t 36)),
⟨some 38, .mv (.t 10), some (37, true)⟩,
⟨some 39, .bin .lss (.t 38) (.c (Value.int IntKind.i64 1)), some (37, true)⟩,
⟨some 40, .mv (.t 39), some (37, true)⟩,
⟨some 41, .mv (.t 10), some (40, false)⟩,
⟨some 42, .bin .gtr (.t 41) (.c (Value.int IntKind.i64 4096)), some (40, false)⟩,
⟨some 43, .pick (.t 40) (.c (Value.bool true)) (.t 42), some (37, true)⟩,
oo 44 (.pick (.t 37) (.t 43) (.c (Value.bool false)))] [3, 18, 19, 20, 44])
   (.cond (.t 44) (.seq (.reg [oo 4 (.mv (.c (Value.int IntKind.i64 9)))] [4])
    (.ret))
    (.skip)))))))
  (.reg [oo 45 (.bin .add (.t 20) (.c (Value.int IntKind.i64 1))),
oo 20 (.mv (.t 45))] [3, 18, 19, 20])))

def m_domain_Fits : MF := ⟨46, [.tmp 4], true, (
  .seq (.reg [oo 2 (.box 3 (.t 0)),
oo 3 (.box 2 (.t 1)),
oo 4 (.mv (.c (Value.int IntKind.i64 0)))] [2, 3])
  (.seq (.seq (.reg [oo 11 (.load (some 3) (.t 2)),
oo 12 (.load (some 2) (.t 3)),
oo 13 (.call 248 [.t 11, .t 12]),
oo 5 (.mv (.t 13))] [2, 3, 5])
  (.seq (.reg [oo 14 (.mv (.t 5)),
oo 15 (.bin .neq (.t 14) (.c (Value.int IntKind.i64 0)))] [2, 3, 5, 15])
  (.cond (.t 15) (.seq (.reg [oo 16 (.mv (.t 5)),
oo 4 (.mv (.t 16))] [4])
   (.ret))
   (.skip))))
  (.seq (.seq (.reg [oo 17 (.fadr 1 (.t 2)),
oo 18 (.load (none) (.t 17)),
oo 19 (.len 1 (.t 18)),
oo 20 (.mv (.c (Value.int IntKind.i64 0)))] [3, 18, 19, 20])
  (.block 0 (.loop [3, 18, 19, 20] m_domain_Fits_L0)))
  (.seq (.reg [oo 4 (.mv (.c (Value.int IntKind.i64 0)))] [4])
  (.ret)))))⟩

-- 224 (*selfstab/interp.World).Clamp
def m_interp_World_Clamp : MF := ⟨49, [.tmp 8], false, (
  .seq (.reg [oo 8 (.mv (.c (Value.int IntKind.i64 0)))] [0, 1, 2, 3])
  (.seq (.reg [oo 10 (.mv (.t 0)),
oo 11 (.nck (.t 10)),
oo 12 (.fadr 7 (.t 11)),
oo 13 (.load (none) (.t 12)),
oo 14 (.mv (.t 1)),
oo 15 (.iadr 1 (.t 13) (.t 14)),
oo 16 (.load (none) (.t 15)),
oo 17 (.mv (.t 2)),
oo 18 (.iadr 2 (.t 16) (.t 17)),
oo 19 (.load (some 2) (.t 18)),
oo 9 (.alloc [.v (Value.int .i64 0), .v (Value.int .i64 0)]),
nn (.store 2 (.t 9) (.t 19))] [0, 2, 3, 9])
  (.seq (.seq (.reg [oo 20 (.mv (.t 0)),
oo 21 (.nck (.t 20)),
oo 22 (.fadr 0 (.t 21)),
oo 23 (.fadr 1 (.t 22)),
oo 24 (.load (none) (.t 23)),
oo 25 (.mv (.t 2)),
oo 26 (.iadr 6 (.t 24) (.t 25)),
oo 27 (.fadr 1 (.t 26)),
oo 28 (.load (none) (.t 27)),
oo 29 (.bin .eql (.t 28) (.c (Value.int IntKind.i64 3))),
oo 30 (.mv (.t 29)),
⟨some 31, .mv (.t 3), some (30, true)⟩,
⟨some 32, .fadr 0 (.t 9), some (30, true)⟩,
⟨some 33, .load (none) (.t 32), some (30, true)⟩,
⟨some 34, .bin .lss (.t 31) (.t 33), some (30, true)⟩,
⟨some 35, .mv (.t 34), some (30, true)⟩,
⟨some 36, .mv (.t 3), some (35, false)⟩,
⟨some 37, .fadr 1 (.t 9), some (35, false)⟩,
⟨some 38, .load (none) (.t 37), some (35, false)⟩,
⟨some 39, .bin .gtr (.t 36) (.t 38), some (35, false)⟩,
⟨some 40, .pick (.t 35) (.c (Value.bool true)) (.t 39), some (30, true)⟩,
oo 41 (.pick (.t 30) (.t 40) (.c (Value.bool false)))] [3, 9, 41])
  (.cond (.t 41) (.seq (.reg [oo 8 (.mv (.c (Value.int IntKind.i64 (-1))))] [8])
   (.ret))
   (.skip)))
  (.seq (.reg [oo 42 (.fadr 0 (.t 9)),
oo 43 (.load (none) (.t 42)),
oo 44 (.fadr 1 (.t 9)),
oo 45 (.load (none) (.t 44)),
oo 46 (.mv (.t 3)),
oo 47 (.mn [.t 45, .t 46]),
oo 48 (.mx [.t 43, .t 47]),
oo 8 (.mv (.t 48))] [8])
  (.ret)))))⟩

-- 225 (*selfstab/interp.World).Move
def m_interp_World_Move_L0 : MC :=
  .seq (.reg [oo 28 (.bin .lss (.t 27) (.t 26))] [0, 1, 2, 9, 25, 26, 27, 28])
  (.seq (.cond (.t 28) (.skip)
   (.exit 0))
  (.seq (.block 1 (.seq (.reg [oo 29 (.iadr 2 (.t 25) (.t 27)),
oo 30 (.load (some 2) (.t 29)),
oo 11 (.alloc [.v (Value.int .i64 0), .v (Value.slice none 0 0)]),
nn (.store 2 (.t 11) (.t 30))] [0, 1, 2, 9, 11, 25, 26, 27])
   (.regd [0, 0, 2, 0, 0, 0, 32, 0, 0, 0, 0, 1024, 3968, 8184, 16383, 32767] [oo 31 (.mv (.t 9)),
oo 32 (.fadr 0 (.t 11)),
oo 33 (.load (none) (.t 32)),
oo 34 (.mv (.t 0)),
oo 35 (.mv (.t 2)),
oo 36 (.fadr 0 (.t 11)),
oo 37 (.load (none) (.t 36)),
oo 38 (.mv (.t 0)),
oo 39 (.mv (.t 1)),
oo 40 (.mv (.t 2)),
oo 41 (.fadr 1 (.t 11)),
oo 42 (.load (none) (.t 41)),
oo 43 (.call 250 [.t 38, .t 39, .t 40, .t 42]),
oo 44 (.call 224 [.t 34, .t 35, .t 37, .t 43]),
oo 45 (.iadr 1 (.t 31) (.t 33)),
nn (.store 1 (.t 45) (.t 44))] [0, 1, 2, 9, 25, 26, 27])))
  (.reg [oo 46 (.bin .add (.t 27) (.c (Value.int IntKind.i64 1))),
oo 27 (.mv (.t 46))] [0, 1, 2, 9, 25, 26, 27])))

def m_interp_World_Move : MF := ⟨48, [.tmp 8], false, (
  .seq (.reg [oo 8 (.mv (.c (Value.slice none 0 0)))] [0, 1, 2, 3])
  (.seq (.reg [oo 12 (.mv (.t 1)),
oo 13 (.mv (.t 2)),
oo 14 (.iadr 1 (.t 12) (.t 13)),
oo 15 (.load (none) (.t 14)),
oo 16 (.call 219 [.t 15]),
oo 9 (.mv (.t 16))] [0, 1, 2, 3, 9])
  (.seq (.seq (.reg [oo 17 (.mv (.t 0)),
oo 18 (.nck (.t 17)),
oo 19 (.fadr 0 (.t 18)),
oo 20 (.fadr 2 (.t 19)),
oo 21 (.load (none) (.t 20)),
oo 22 (.mv (.t 3)),
oo 23 (.iadr 3 (.t 21) (.t 22)),
oo 24 (.fadr 2 (.t 23)),
oo 25 (.load (none) (.t 24)),
oo 26 (.len 1 (.t 25)),
oo 27 (.mv (.c (Value.int IntKind.i64 0)))] [0, 1, 2, 9, 25, 26, 27])
  (.block 0 (.loop [0, 1, 2, 9, 25, 26, 27] m_interp_World_Move_L0)))
  (.seq (.reg [oo 47 (.mv (.t 9)),
oo 8 (.mv (.t 47))] [8])
  (.ret)))))⟩

-- 96 slices.insertionSortCmpFunc[[2]int]
def m_slices_insertionSortCmpFunc_2_int_L1 : MC :=
  .seq (.seq (.reg [oo 18 (.mv (.t 9)),
oo 19 (.mv (.t 1)),
oo 20 (.bin .gtr (.t 18) (.t 19)),
oo 21 (.mv (.t 20)),
⟨some 22, .mv (.t 3), some (21, true)⟩,
⟨some 23, .mv (.t 0), some (21, true)⟩,
⟨some 24, .mv (.t 9), some (21, true)⟩,
⟨some 25, .iadr 2 (.t 23) (.t 24), some (21, true)⟩,
⟨some 26, .load (some 2) (.t 25), some (21, true)⟩,
⟨some 27, .mv (.t 0), some (21, true)⟩,
⟨some 28, .mv (.t 9), some (21, true)⟩,
⟨some 29, .bin .sub (.t 28) (.c (Value.int IntKind.i64 1)), some (21, true)⟩,
⟨some 30, .iadr 2 (.t 27) (.t 29), some (21, true)⟩,
⟨some 31, .load (some 2) (.t 30), some (21, true)⟩,
⟨some 32, .callv (.t 22) [.t 26, .t 31], some (21, true)⟩,
⟨some 33, .bin .lss (.t 32) (.c (Value.int IntKind.i64 0)), some (21, true)⟩,
oo 34 (.pick (.t 21) (.t 33) (.c (Value.bool false)))] [0, 1, 2, 3, 8, 9, 34])
  (.cond (.t 34) (.skip)
   (.exit 2)))
  (.seq (.block 3 (.reg [oo 37 (.mv (.t 0)),
oo 38 (.mv (.t 9)),
oo 39 (.mv (.t 0)),
oo 40 (.mv (.t 9)),
oo 41 (.bin .sub (.t 40) (.c (Value.int IntKind.i64 1))),
oo 42 (.mv (.t 0)),
oo 43 (.mv (.t 9)),
oo 44 (.bin .sub (.t 43) (.c (Value.int IntKind.i64 1))),
oo 45 (.iadr 2 (.t 42) (.t 44)),
oo 46 (.load (some 2) (.t 45)),
oo 47 (.mv (.t 0)),
oo 48 (.mv (.t 9)),
oo 49 (.iadr 2 (.t 47) (.t 48)),
oo 50 (.load (some 2) (.t 49)),
oo 51 (.iadr 2 (.t 37) (.t 38)),
nn (.store 2 (.t 51) (.t 46)),
oo 52 (.iadr 2 (.t 39) (.t 41)),
nn (.store 2 (.t 52) (.t 50))] [0, 1, 2, 3, 8, 9]))
  (.reg [oo 35 (.mv (.t 9)),
oo 36 (.bin .sub (.t 35) (.c (Value.int IntKind.i64 1))),
oo 9 (.mv (.t 36))] [0, 1, 2, 3, 8, 9]))

def m_slices_insertionSortCmpFunc_2_int_L0 : MC :=
  .seq (.seq (.reg [oo 12 (.mv (.t 8)),
oo 13 (.mv (.t 2)),
oo 14 (.bin .lss (.t 12) (.t 13))] [0, 1, 2, 3, 8, 14])
  (.cond (.t 14) (.skip)
   (.exit 0)))
  (.seq (.block 1 (.seq (.reg [oo 17 (.mv (.t 8)),
oo 9 (.mv (.t 17))] [0, 1, 2, 3, 8, 9])
   (.block 2 (.loop [0, 1, 2, 3, 8, 9] m_slices_insertionSortCmpFunc_2_int_L1))))
  (.reg [oo 15 (.mv (.t 8)),
oo 16 (.bin .add (.t 15) (.c (Value.int IntKind.i64 1))),
oo 8 (.mv (.t 16))] [0, 1, 2, 3, 8]))

def m_slices_insertionSortCmpFunc_2_int : MF := ⟨53, [], true, (
  .seq (.reg [oo 10 (.mv (.t 1)),
oo 11 (.bin .add (.t 10) (.c (Value.int IntKind.i64 1))),
oo 8 (.mv (.t 11))] [0, 1, 2, 3, 8])
  (.block 0 (.loop [0, 1, 2, 3, 8] m_slices_insertionSortCmpFunc_2_int_L0)))⟩

-- 97 slices.heapSortCmpFunc[[2]int]
def m_slices_heapSortCmpFunc_2_int_L1 : MC :=
  .seq (.seq (.reg [oo 32 (.mv (.t 12)),
oo 33 (.bin .geq (.t 32) (.c (Value.int IntKind.i64 0)))] [0, 3, 8, 9, 12, 33])
  (.cond (.t 33) (.skip)
   (.exit 2)))
  (.seq (.block 3 (.seq (.reg [oo 36 (.mv (.t 0)),
oo 37 (.mv (.t 8)),
oo 38 (.mv (.t 0)),
oo 39 (.mv (.t 8)),
oo 40 (.mv (.t 12)),
oo 41 (.bin .add (.t 39) (.t 40)),
oo 42 (.mv (.t 0)),
oo 43 (.mv (.t 8)),
oo 44 (.mv (.t 12)),
oo 45 (.bin .add (.t 43) (.t 44)),
oo 46 (.iadr 2 (.t 42) (.t 45)),
oo 47 (.load (some 2) (.t 46)),
oo 48 (.mv (.t 0)),
oo 49 (.mv (.t 8)),
oo 50 (.iadr 2 (.t 48) (.t 49)),
oo 51 (.load (some 2) (.t 50)),
oo 52 (.iadr 2 (.t 36) (.t 37)),
nn (.store 2 (.t 52) (.t 47)),
oo 53 (.iadr 2 (.t 38) (.t 41)),
nn (.store 2 (.t 53) (.t 51))] [0, 3, 8, 9, 12])
   (.reg [oo 54 (.mv (.t 0)),
oo 55 (.mv (.t 9)),
oo 56 (.mv (.t 12)),
oo 57 (.mv (.t 8)),
oo 58 (.mv (.t 3)),
oo 59 (.call 109 [.t 54, .t 55, .t 56, .t 57, .t 58])] [0, 3, 8, 9, 12])))
  (.reg [oo 34 (.mv (.t 12)),
oo 35 (.bin .sub (.t 34) (.c (Value.int IntKind.i64 1))),
oo 12 (.mv (.t 35))] [0, 3, 8, 9, 12]))

def m_slices_heapSortCmpFunc_2_int_L0 : MC :=
  .seq (.seq (.reg [oo 20 (.mv (.t 11)),
oo 21 (.bin .geq (.t 20) (.c (Value.int IntKind.i64 0)))] [0, 3, 8, 9, 10, 11, 21])
  (.cond (.t 21) (.skip)
   (.exit 0)))
  (.seq (.block 1 (.reg [oo 24 (.mv (.t 0)),
oo 25 (.mv (.t 11)),
oo 26 (.mv (.t 10)),
oo 27 (.mv (.t 8)),
oo 28 (.mv (.t 3)),
oo 29 (.call 109 [.t 24, .t 25, .t 26, .t 27, .t 28])] [0, 3, 8, 9, 10, 11]))
  (.reg [oo 22 (.mv (.t 11)),
oo 23 (.bin .sub (.t 22) (.c (Value.int IntKind.i64 1))),
oo 11 (.mv (.t 23))] [0, 3, 8, 9, 10, 11]))

def m_slices_heapSortCmpFunc_2_int : MF := ⟨60, [], true, (
  .seq (.reg [oo 13 (.mv (.t 1)),
oo 8 (.mv (.t 13))] [0, 1, 2, 3, 8])
  (.seq (.reg [oo 9 (.mv (.c (Value.int IntKind.i64 0)))] [0, 1, 2, 3, 8, 9])
  (.seq (.reg [oo 14 (.mv (.t 2)),
oo 15 (.mv (.t 1)),
oo 16 (.bin .sub (.t 14) (.t 15)),
oo 10 (.mv (.t 16))] [0, 3, 8, 9, 10])
  (.seq (.seq (.reg [oo 17 (.mv (.t 10)),
oo 18 (.bin .sub (.t 17) (.c (Value.int IntKind.i64 1))),
oo 19 (.bin .quo (.t 18) (.c (Value.int IntKind.i64 2))),
oo 11 (.mv (.t 19))] [0, 3, 8, 9, 10, 11])
  (.block 0 (.loop [0, 3, 8, 9, 10, 11] m_slices_heapSortCmpFunc_2_int_L0)))
  (.seq (.reg [oo 30 (.mv (.t 10)),
oo 31 (.bin .sub (.t 30) (.c (Value.int IntKind.i64 1))),
oo 12 (.mv (.t 31))] [0, 3, 8, 9, 12])
  (.block 2 (.loop [0, 3, 8, 9, 12] m_slices_heapSortCmpFunc_2_int_L1)))))))⟩

-- 98 slices.breakPatternsCmpFunc[[2]int]
def m_slices_breakPatternsCmpFunc_2_int_L0 : MC :=
  .seq (.seq (.reg [oo 28 (.mv (.t 11)),
oo 29 (.mv (.t 1)),
oo 30 (.mv (.t 8)),
oo 31 (.bin .quo (.t 30) (.c (Value.int IntKind.i64 4))),
oo 32 (.bin .mul (.t 31) (.c (Value.int IntKind.i64 2))),
oo 33 (.bin .add (.t 29) (.t 32)),
oo 34 (.bin .add (.t 33) (.c (Value.int IntKind.i64 1))),
oo 35 (.bin .leq (.t 28) (.t 34))] [0, 1, 8, 9, 10, 11, 35])
  (.cond (.t 35) (.skip)
   (.exit 0)))
  (.seq (.block 1 (.seq (.reg [oo 38 (.call 106 [.t 9]),
oo 39 (.mv (.t 10)),
oo 40 (.bin .sub (.t 39) (.c (Value.int IntKind.u64 1))),
oo 41 (.bin .and (.t 38) (.t 40)),
oo 42 (.conv .i64 (.t 41)),
oo 12 (.mv (.t 42))] [0, 1, 8, 9, 10, 11, 12])
   (.seq (.seq (.reg [oo 43 (.mv (.t 12)),
oo 44 (.mv (.t 8)),
oo 45 (.bin .geq (.t 43) (.t 44))] [0, 1, 8, 9, 10, 11, 12, 45])
   (.cond (.t 45) (.reg [oo 46 (.mv (.t 12)),
oo 47 (.mv (.t 8)),
oo 48 (.bin .sub (.t 46) (.t 47)),
oo 12 (.mv (.t 48))] [0, 1, 8, 9, 10, 11, 12])
    (.skip)))
   (.reg [oo 49 (.mv (.t 0)),
oo 50 (.mv (.t 11)),
oo 51 (.mv (.t 0)),
oo 52 (.mv (.t 1)),
oo 53 (.mv (.t 12)),
oo 54 (.bin .add (.t 52) (.t 53)),
oo 55 (.mv (.t 0)),
oo 56 (.mv (.t 1)),
oo 57 (.mv (.t 12)),
oo 58 (.bin .add (.t 56) (.t 57)),
oo 59 (.iadr 2 (.t 55) (.t 58)),
oo 60 (.load (some 2) (.t 59)),
oo 61 (.mv (.t 0)),
oo 62 (.mv (.t 11)),
oo 63 (.iadr 2 (.t 61) (.t 62)),
oo 64 (.load (some 2) (.t 63)),
oo 65 (.iadr 2 (.t 49) (.t 50)),
nn (.store 2 (.t 65) (.t 60)),
oo 66 (.iadr 2 (.t 51) (.t 54)),
nn (.store 2 (.t 66) (.t 64))] [0, 1, 8, 9, 10, 11]))))
  (.reg [oo 36 (.mv (.t 11)),
oo 37 (.bin .add (.t 36) (.c (Value.int IntKind.i64 1))),
oo 11 (.mv (.t 37))] [0, 1, 8, 9, 10, 11]))

def m_slices_breakPatternsCmpFunc_2_int : MF := ⟨67, [], true, (
  .seq (.reg [oo 13 (.mv (.t 2)),
oo 14 (.mv (.t 1)),
oo 15 (.bin .sub (.t 13) (.t 14)),
oo 8 (.mv (.t 15))] [0, 1, 8])
  (.seq (.reg [oo 16 (.mv (.t 8)),
oo 17 (.bin .geq (.t 16) (.c (Value.int IntKind.i64 8)))] [0, 1, 8, 17])
  (.cond (.t 17) (.seq (.reg [oo 18 (.mv (.t 8)),
oo 19 (.conv .u64 (.t 18)),
oo 9 (.alloc [.v (Value.int .u64 0)]),
nn (.store 1 (.t 9) (.t 19))] [0, 1, 8, 9])
   (.seq (.reg [oo 20 (.mv (.t 8)),
oo 21 (.call 105 [.t 20]),
oo 10 (.mv (.t 21))] [0, 1, 8, 9, 10])
   (.seq (.reg [oo 22 (.mv (.t 1)),
oo 23 (.mv (.t 8)),
oo 24 (.bin .quo (.t 23) (.c (Value.int IntKind.i64 4))),
oo 25 (.bin .mul (.t 24) (.c (Value.int IntKind.i64 2))),
oo 26 (.bin .add (.t 22) (.t 25)),
oo 27 (.bin .sub (.t 26) (.c (Value.int IntKind.i64 1))),
oo 11 (.mv (.t 27))] [0, 1, 8, 9, 10, 11])
   (.block 0 (.loop [0, 1, 8, 9, 10, 11] m_slices_breakPatternsCmpFunc_2_int_L0)))))
   (.skip))))⟩

-- 99 slices.choosePivotCmpFunc[[2]int]
def m_slices_choosePivotCmpFunc_2_int : MF := ⟨63, [.tmp 8, .tmp 9], true, (
  .seq (.reg [oo 8 (.mv (.c (Value.int IntKind.i64 0))),
oo 9 (.mv (.c (Value.int IntKind.i64 0)))] [0, 1, 2, 3])
  (.seq (.reg [oo 15 (.mv (.t 2)),
oo 16 (.mv (.t 1)),
oo 17 (.bin .sub (.t 15) (.t 16)),
oo 10 (.mv (.t 17))] [0, 1, 3, 10])
  (.seq (.reg [oo 11 (.new [.v (Value.int .i64 0)])] [0, 1, 3, 10, 11])
  (.seq (.reg [oo 18 (.mv (.t 1)),
oo 19 (.mv (.t 10)),
oo 20 (.bin .quo (.t 19) (.c (Value.int IntKind.i64 4))),
oo 21 (.bin .mul (.t 20) (.c (Value.int IntKind.i64 1))),
oo 22 (.bin .add (.t 18) (.t 21)),
oo 12 (.mv (.t 22))] [0, 1, 3, 10, 11, 12])
  (.seq (.reg [oo 23 (.mv (.t 1)),
oo 24 (.mv (.t 10)),
oo 25 (.bin .quo (.t 24) (.c (Value.int IntKind.i64 4))),
oo 26 (.bin .mul (.t 25) (.c (Value.int IntKind.i64 2))),
oo 27 (.bin .add (.t 23) (.t 26)),
oo 13 (.mv (.t 27))] [0, 1, 3, 10, 11, 12, 13])
  (.seq (.reg [oo 28 (.mv (.t 1)),
oo 29 (.mv (.t 10)),
oo 30 (.bin .quo (.t 29) (.c (Value.int IntKind.i64 4))),
oo 31 (.bin .mul (.t 30) (.c (Value.int IntKind.i64 3))),
oo 32 (.bin .add (.t 28) (.t 31)),
oo 14 (.mv (.t 32))] [0, 3, 10, 11, 12, 13, 14])
  (.seq (.seq (.reg [oo 33 (.mv (.t 10)),
oo 34 (.bin .geq (.t 33) (.c (Value.int IntKind.i64 8)))] [0, 3, 10, 11, 12, 13, 14, 34])
  (.cond (.t 34) (.seq (.seq (.reg [oo 35 (.mv (.t 10)),
oo 36 (.bin .geq (.t 35) (.c (Value.int IntKind.i64 50)))] [0, 3, 11, 12, 13, 14, 36])
   (.cond (.t 36) (.seq (.reg [oo 37 (.mv (.t 0)),
oo 38 (.mv (.t 12)),
oo 39 (.mv (.t 3)),
oo 40 (.call 110 [.t 37, .t 38, .t 11, .t 39]),
oo 12 (.mv (.t 40))] [0, 3, 11, 12, 13, 14])
    (.seq (.reg [oo 41 (.mv (.t 0)),
oo 42 (.mv (.t 13)),
oo 43 (.mv (.t 3)),
oo 44 (.call 110 [.t 41, .t 42, .t 11, .t 43]),
oo 13 (.mv (.t 44))] [0, 3, 11, 12, 13, 14])
    (.reg [oo 45 (.mv (.t 0)),
oo 46 (.mv (.t 14)),
oo 47 (.mv (.t 3)),
oo 48 (.call 110 [.t 45, .t 46, .t 11, .t 47]),
oo 14 (.mv (.t 48))] [0, 3, 11, 12, 13, 14])))
    (.skip)))
   (.reg [oo 49 (.mv (.t 0)),
oo 50 (.mv (.t 12)),
oo 51 (.mv (.t 13)),
oo 52 (.mv (.t 14)),
oo 53 (.mv (.t 3)),
oo 54 (.call 111 [.t 49, .t 50, .t 51, .t 52, .t 11, .t 53]),
oo 13 (.mv (.t 54))] [11, 13]))
   (.skip)))
  (.seq (.reg [oo 55 (.load (none) (.t 11))] [13, 55])
  (.block 0 (.seq (.reg [oo 58 (.bin .eql (.t 55) (.c (Value.int IntKind.i64 0))),
oo 57 (.mv (.t 58))] [13, 55, 57])
   (.cond (.t 57) (.seq (.reg [oo 59 (.mv (.t 13)),
oo 8 (.mv (.t 59)),
oo 9 (.mv (.c (Value.int IntKind.i64 1)))] [8, 9])
    (.ret))
    (.seq (.reg [oo 61 (.bin .eql (.t 55) (.c (Value.int IntKind.i64 12))),
oo 60 (.mv (.t 61))] [13, 60])
    (.cond (.t 60) (.seq (.reg [oo 62 (.mv (.t 13)),
oo 8 (.mv (.t 62)),
oo 9 (.mv (.c (Value.int IntKind.i64 2)))] [8, 9])
     (.ret))
     (.seq (.reg [oo 56 (.mv (.t 13)),
oo 8 (.mv (.t 56)),
oo 9 (.mv (.c (Value.int IntKind.i64 0)))] [8, 9])
     (.ret)))))))))))))))⟩

-- 100 slices.reverseRangeCmpFunc[[2]int]
def m_slices_reverseRangeCmpFunc_2_int_L0 : MC :=
  .seq (.seq (.reg [oo 13 (.mv (.t 8)),
oo 14 (.mv (.t 9)),
oo 15 (.bin .lss (.t 13) (.t 14))] [0, 8, 9, 15])
  (.cond (.t 15) (.skip)
   (.exit 0)))
  (.block 1 (.seq (.reg [oo 16 (.mv (.t 0)),
oo 17 (.mv (.t 8)),
oo 18 (.mv (.t 0)),
oo 19 (.mv (.t 9)),
oo 20 (.mv (.t 0)),
oo 21 (.mv (.t 9)),
oo 22 (.iadr 2 (.t 20) (.t 21)),
oo 23 (.load (some 2) (.t 22)),
oo 24 (.mv (.t 0)),
oo 25 (.mv (.t 8)),
oo 26 (.iadr 2 (.t 24) (.t 25)),
oo 27 (.load (some 2) (.t 26)),
oo 28 (.iadr 2 (.t 16) (.t 17)),
nn (.store 2 (.t 28) (.t 23)),
oo 29 (.iadr 2 (.t 18) (.t 19)),
nn (.store 2 (.t 29) (.t 27))] [0, 8, 9])
   (.seq (.reg [oo 30 (.mv (.t 8)),
oo 31 (.bin .add (.t 30) (.c (Value.int IntKind.i64 1))),
oo 8 (.mv (.t 31))] [0, 8, 9])
   (.reg [oo 32 (.mv (.t 9)),
oo 33 (.bin .sub (.t 32) (.c (Value.int IntKind.i64 1))),
oo 9 (.mv (.t 33))] [0, 8, 9]))))

def m_slices_reverseRangeCmpFunc_2_int : MF := ⟨34, [], true, (
  .seq (.reg [oo 10 (.mv (.t 1)),
oo 8 (.mv (.t 10))] [0, 2, 8])
  (.seq (.reg [oo 11 (.mv (.t 2)),
oo 12 (.bin .sub (.t 11) (.c (Value.int IntKind.i64 1))),
oo 9 (.mv (.t 12))] [0, 8, 9])
  (.block 0 (.loop [0, 8, 9] m_slices_reverseRangeCmpFunc_2_int_L0))))⟩

-- 101 slices.partialInsertionSortCmpFunc[[2]int]
def m_slices_partialInsertionSortCmpFunc_2_int_L3 : MC :=
  .seq (.seq (.reg [oo 107 (.mv (.t 12)),
oo 108 (.mv (.t 2)),
oo 109 (.bin .lss (.t 107) (.t 108))] [0, 1, 2, 3, 9, 10, 12, 109])
  (.cond (.t 109) (.skip)
   (.exit 6)))
  (.seq (.block 7 (.seq (.seq (.reg [oo 112 (.mv (.t 3)),
oo 113 (.mv (.t 0)),
oo 114 (.mv (.t 12)),
oo 115 (.iadr 2 (.t 113) (.t 114)),
oo 116 (.load (some 2) (.t 115)),
oo 117 (.mv (.t 0)),
oo 118 (.mv (.t 12)),
oo 119 (.bin .sub (.t 118) (.c (Value.int IntKind.i64 1))),
oo 120 (.iadr 2 (.t 117) (.t 119)),
oo 121 (.load (some 2) (.t 120)),
oo 122 (.callv (.t 112) [.t 116, .t 121]),
oo 123 (.bin .lss (.t 122) (.c (Value.int IntKind.i64 0))),
oo 124 (.un .not (.t 123))] [0, 1, 2, 3, 9, 10, 12, 124])
   (.cond (.t 124) (.exit 6)
    (.skip)))
   (.reg [oo 125 (.mv (.t 0)),
oo 126 (.mv (.t 12)),
oo 127 (.mv (.t 0)),
oo 128 (.mv (.t 12)),
oo 129 (.bin .sub (.t 128) (.c (Value.int IntKind.i64 1))),
oo 130 (.mv (.t 0)),
oo 131 (.mv (.t 12)),
oo 132 (.bin .sub (.t 131) (.c (Value.int IntKind.i64 1))),
oo 133 (.iadr 2 (.t 130) (.t 132)),
oo 134 (.load (some 2) (.t 133)),
oo 135 (.mv (.t 0)),
oo 136 (.mv (.t 12)),
oo 137 (.iadr 2 (.t 135) (.t 136)),
oo 138 (.load (some 2) (.t 137)),
oo 139 (.iadr 2 (.t 125) (.t 126)),
nn (.store 2 (.t 139) (.t 134)),
oo 140 (.iadr 2 (.t 127) (.t 129)),
nn (.store 2 (.t 140) (.t 138))] [0, 1, 2, 3, 9, 10, 12])))
  (.reg [oo 110 (.mv (.t 12)),
oo 111 (.bin .add (.t 110) (.c (Value.int IntKind.i64 1))),
oo 12 (.mv (.t 111))] [0, 1, 2, 3, 9, 10, 12]))

def m_slices_partialInsertionSortCmpFunc_2_int_L2 : MC :=
  .seq (.seq (.reg [oo 68 (.mv (.t 11)),
oo 69 (.bin .geq (.t 68) (.c (Value.int IntKind.i64 1)))] [0, 1, 2, 3, 9, 10, 11, 69])
  (.cond (.t 69) (.skip)
   (.exit 4)))
  (.seq (.block 5 (.seq (.seq (.reg [oo 72 (.mv (.t 3)),
oo 73 (.mv (.t 0)),
oo 74 (.mv (.t 11)),
oo 75 (.iadr 2 (.t 73) (.t 74)),
oo 76 (.load (some 2) (.t 75)),
oo 77 (.mv (.t 0)),
oo 78 (.mv (.t 11)),
oo 79 (.bin .sub (.t 78) (.c (Value.int IntKind.i64 1))),
oo 80 (.iadr 2 (.t 77) (.t 79)),
oo 81 (.load (some 2) (.t 80)),
oo 82 (.callv (.t 72) [.t 76, .t 81]),
oo 83 (.bin .lss (.t 82) (.c (Value.int IntKind.i64 0))),
oo 84 (.un .not (.t 83))] [0, 1, 2, 3, 9, 10, 11, 84])
   (.cond (.t 84) (.exit 4)
    (.skip)))
   (.reg [oo 85 (.mv (.t 0)),
oo 86 (.mv (.t 11)),
oo 87 (.mv (.t 0)),
oo 88 (.mv (.t 11)),
oo 89 (.bin .sub (.t 88) (.c (Value.int IntKind.i64 1))),
oo 90 (.mv (.t 0)),
oo 91 (.mv (.t 11)),
oo 92 (.bin .sub (.t 91) (.c (Value.int IntKind.i64 1))),
oo 93 (.iadr 2 (.t 90) (.t 92)),
oo 94 (.load (some 2) (.t 93)),
oo 95 (.mv (.t 0)),
oo 96 (.mv (.t 11)),
oo 97 (.iadr 2 (.t 95) (.t 96)),
oo 98 (.load (some 2) (.t 97)),
oo 99 (.iadr 2 (.t 85) (.t 86)),
nn (.store 2 (.t 99) (.t 94)),
oo 100 (.iadr 2 (.t 87) (.t 89)),
nn (.store 2 (.t 100) (.t 98))] [0, 1, 2, 3, 9, 10, 11])))
  (.reg [oo 70 (.mv (.t 11)),
oo 71 (.bin .sub (.t 70) (.c (Value.int IntKind.i64 1))),
oo 11 (.mv (.t 71))] [0, 1, 2, 3, 9, 10, 11]))

def m_slices_partialInsertionSortCmpFunc_2_int_L1 : MC :=
  .seq (.seq (.reg [oo 19 (.mv (.t 9)),
oo 20 (.mv (.t 2)),
oo 21 (.bin .lss (.t 19) (.t 20)),
oo 22 (.mv (.t 21)),
⟨some 23, .mv (.t 3), some (22, true)⟩,
⟨some 24, .mv (.t 0), some (22, true)⟩,
⟨some 25, .mv (.t 9), some (22, true)⟩,
⟨some 26, .iadr 2 (.t 24) (.t 25), some (22, true)⟩,
⟨some 27, .load (some 2) (.t 26), some (22, true)⟩,
⟨some 28, .mv (.t 0), some (22, true)⟩,
⟨some 29, .mv (.t 9), some (22, true)⟩,
⟨some 30, .bin .sub (.t 29) (.c (Value.int IntKind.i64 1)), some (22, true)⟩,
⟨some 31, .iadr 2 (.t 28) (.t 30), some (22, true)⟩,
⟨some 32, .load (some 2) (.t 31), some (22, true)⟩,
⟨some 33, .callv (.t 23) [.t 27, .t 32], some (22, true)⟩,
⟨some 34, .bin .lss (.t 33) (.c (Value.int IntKind.i64 0)), some (22, true)⟩,
⟨some 35, .un .not (.t 34), some (22, true)⟩,
oo 36 (.pick (.t 22) (.t 35) (.c (Value.bool false)))] [0, 1, 2, 3, 9, 10, 36])
  (.cond (.t 36) (.skip)
   (.exit 2)))
  (.block 3 (.reg [oo 37 (.mv (.t 9)),
oo 38 (.bin .add (.t 37) (.c (Value.int IntKind.i64 1))),
oo 9 (.mv (.t 38))] [0, 1, 2, 3, 9, 10]))

def m_slices_partialInsertionSortCmpFunc_2_int_L0 : MC :=
  .seq (.seq (.reg [oo 15 (.mv (.t 10)),
oo 16 (.bin .lss (.t 15) (.c (Value.int IntKind.i64 5)))] [0, 1, 2, 3, 9, 10, 16])
  (.cond (.t 16) (.skip)
   (.exit 0)))
  (.seq (.block 1 (.seq (.block 2 (.loop [0, 1, 2, 3, 9, 10] m_slices_partialInsertionSortCmpFunc_2_int_L1))
   (.seq (.seq (.reg [oo 39 (.mv (.t 9)),
oo 40 (.mv (.t 2)),
oo 41 (.bin .eql (.t 39) (.t 40))] [0, 1, 2, 3, 9, 10, 41])
   (.cond (.t 41) (.seq (.reg [oo 8 (.mv (.c (Value.bool true)))] [8])
    (.ret))
    (.skip)))
   (.seq (.seq (.reg [oo 42 (.mv (.t 2)),
oo 43 (.mv (.t 1)),
oo 44 (.bin .sub (.t 42) (.t 43)),
oo 45 (.bin .lss (.t 44) (.c (Value.int IntKind.i64 50)))] [0, 1, 2, 3, 9, 10, 45])
   (.cond (.t 45) (.seq (.reg [oo 8 (.mv (.c (Value.bool false)))] [8])
    (.ret))
    (.skip)))
   (.seq (.reg [oo 46 (.mv (.t 0)),
oo 47 (.mv (.t 9)),
oo 48 (.mv (.t 0)),
oo 49 (.mv (.t 9)),
oo 50 (.bin .sub (.t 49) (.c (Value.int IntKind.i64 1))),
oo 51 (.mv (.t 0)),
oo 52 (.mv (.t 9)),
oo 53 (.bin .sub (.t 52) (.c (Value.int IntKind.i64 1))),
oo 54 (.iadr 2 (.t 51) (.t 53)),
oo 55 (.load (some 2) (.t 54)),
oo 56 (.mv (.t 0)),
oo 57 (.mv (.t 9)),
oo 58 (.iadr 2 (.t 56) (.t 57)),
oo 59 (.load (some 2) (.t 58)),
oo 60 (.iadr 2 (.t 46) (.t 47)),
nn (.store 2 (.t 60) (.t 55)),
oo 61 (.iadr 2 (.t 48) (.t 50)),
nn (.store 2 (.t 61) (.t 59))] [0, 1, 2, 3, 9, 10])
   (.seq (.seq (.reg [oo 62 (.mv (.t 9)),
oo 63 (.mv (.t 1)),
oo 64 (.bin .sub (.t 62) (.t 63)),
oo 65 (.bin .geq (.t 64) (.c (Value.int IntKind.i64 2)))] [0, 1, 2, 3, 9, 10, 65])
   (.cond (.t 65) (.seq (.reg [oo 66 (.mv (.t 9)),
oo 67 (.bin .sub (.t 66) (.c (Value.int IntKind.i64 1))),
oo 11 (.mv (.t 67))] [0, 1, 2, 3, 9, 10, 11])
    (.block 4 (.loop [0, 1, 2, 3, 9, 10, 11] m_slices_partialInsertionSortCmpFunc_2_int_L2)))
    (.skip)))
   (.seq (.reg [oo 101 (.mv (.t 2)),
oo 102 (.mv (.t 9)),
oo 103 (.bin .sub (.t 101) (.t 102)),
oo 104 (.bin .geq (.t 103) (.c (Value.int IntKind.i64 2)))] [0, 1, 2, 3, 9, 10, 104])
   (.cond (.t 104) (.seq (.reg [oo 105 (.mv (.t 9)),
oo 106 (.bin .add (.t 105) (.c (Value.int IntKind.i64 1))),
oo 12 (.mv (.t 106))] [0, 1, 2, 3, 9, 10, 12])
    (.block 6 (.loop [0, 1, 2, 3, 9, 10, 12] m_slices_partialInsertionSortCmpFunc_2_int_L3)))
    (.skip)))))))))
  (.reg [oo 17 (.mv (.t 10)),
oo 18 (.bin .add (.t 17) (.c (Value.int IntKind.i64 1))),
oo 10 (.mv (.t 18))] [0, 1, 2, 3, 9, 10]))

def m_slices_partialInsertionSortCmpFunc_2_int : MF := ⟨141, [.tmp 8], true, (
  .seq (.reg [oo 8 (.mv (.c (Value.bool false)))] [0, 1, 2, 3])
  (.seq (.reg [oo 13 (.mv (.t 1)),
oo 14 (.bin .add (.t 13) (.c (Value.int IntKind.i64 1))),
oo 9 (.mv (.t 14))] [0, 1, 2, 3, 9])
  (.seq (.seq (.reg [oo 10 (.mv (.c (Value.int IntKind.i64 0)))] [0, 1, 2, 3, 9, 10])
  (.block 0 (.loop [0, 1, 2, 3, 9, 10] m_slices_partialInsertionSortCmpFunc_2_int_L0)))
  (.seq (.reg [oo 8 (.mv (.c (Value.bool false)))] [8])
  (.ret)))))⟩

-- 102 slices.partitionEqualCmpFunc[[2]int]
def m_slices_partitionEqualCmpFunc_2_int_L2 : MC :=
  .seq (.seq (.reg [oo 50 (.mv (.t 11)),
oo 51 (.mv (.t 12)),
oo 52 (.bin .leq (.t 50) (.t 51)),
oo 53 (.mv (.t 52)),
⟨some 54, .mv (.t 4), some (53, true)⟩,
⟨some 55, .mv (.t 0), some (53, true)⟩,
⟨some 56, .mv (.t 1), some (53, true)⟩,
⟨some 57, .iadr 2 (.t 55) (.t 56), some (53, true)⟩,
⟨some 58, .load (some 2) (.t 57), some (53, true)⟩,
⟨some 59, .mv (.t 0), some (53, true)⟩,
⟨some 60, .mv (.t 12), some (53, true)⟩,
⟨some 61, .iadr 2 (.t 59) (.t 60), some (53, true)⟩,
⟨some 62, .load (some 2) (.t 61), some (53, true)⟩,
⟨some 63, .callv (.t 54) [.t 58, .t 62], some (53, true)⟩,
⟨some 64, .bin .lss (.t 63) (.c (Value.int IntKind.i64 0)), some (53, true)⟩,
oo 65 (.pick (.t 53) (.t 64) (.c (Value.bool false)))] [0, 1, 4, 11, 12, 65])
  (.cond (.t 65) (.skip)
   (.exit 4)))
  (.block 5 (.reg [oo 66 (.mv (.t 12)),
oo 67 (.bin .sub (.t 66) (.c (Value.int IntKind.i64 1))),
oo 12 (.mv (.t 67))] [0, 1, 4, 11, 12]))

def m_slices_partitionEqualCmpFunc_2_int_L1 : MC :=
  .seq (.seq (.reg [oo 31 (.mv (.t 11)),
oo 32 (.mv (.t 12)),
oo 33 (.bin .leq (.t 31) (.t 32)),
oo 34 (.mv (.t 33)),
⟨some 35, .mv (.t 4), some (34, true)⟩,
⟨some 36, .mv (.t 0), some (34, true)⟩,
⟨some 37, .mv (.t 1), some (34, true)⟩,
⟨some 38, .iadr 2 (.t 36) (.t 37), some (34, true)⟩,
⟨some 39, .load (some 2) (.t 38), some (34, true)⟩,
⟨some 40, .mv (.t 0), some (34, true)⟩,
⟨some 41, .mv (.t 11), some (34, true)⟩,
⟨some 42, .iadr 2 (.t 40) (.t 41), some (34, true)⟩,
⟨some 43, .load (some 2) (.t 42), some (34, true)⟩,
⟨some 44, .callv (.t 35) [.t 39, .t 43], some (34, true)⟩,
⟨some 45, .bin .lss (.t 44) (.c (Value.int IntKind.i64 0)), some (34, true)⟩,
⟨some 46, .un .not (.t 45), some (34, true)⟩,
oo 47 (.pick (.t 34) (.t 46) (.c (Value.bool false)))] [0, 1, 4, 11, 12, 47])
  (.cond (.t 47) (.skip)
   (.exit 2)))
  (.block 3 (.reg [oo 48 (.mv (.t 11)),
oo 49 (.bin .add (.t 48) (.c (Value.int IntKind.i64 1))),
oo 11 (.mv (.t 49))] [0, 1, 4, 11, 12]))

def m_slices_partitionEqualCmpFunc_2_int_L0 : MC :=
  .block 1 (.seq (.block 2 (.loop [0, 1, 4, 11, 12] m_slices_partitionEqualCmpFunc_2_int_L1))
   (.seq (.block 4 (.loop [0, 1, 4, 11, 12] m_slices_partitionEqualCmpFunc_2_int_L2))
   (.seq (.seq (.reg [oo 68 (.mv (.t 11)),
oo 69 (.mv (.t 12)),
oo 70 (.bin .gtr (.t 68) (.t 69))] [0, 1, 4, 11, 12, 70])
   (.cond (.t 70) (.exit 0)
    (.skip)))
   (.seq (.reg [oo 71 (.mv (.t 0)),
oo 72 (.mv (.t 11)),
oo 73 (.mv (.t 0)),
oo 74 (.mv (.t 12)),
oo 75 (.mv (.t 0)),
oo 76 (.mv (.t 12)),
oo 77 (.iadr 2 (.t 75) (.t 76)),
oo 78 (.load (some 2) (.t 77)),
oo 79 (.mv (.t 0)),
oo 80 (.mv (.t 11)),
oo 81 (.iadr 2 (.t 79) (.t 80)),
oo 82 (.load (some 2) (.t 81)),
oo 83 (.iadr 2 (.t 71) (.t 72)),
nn (.store 2 (.t 83) (.t 78)),
oo 84 (.iadr 2 (.t 73) (.t 74)),
nn (.store 2 (.t 84) (.t 82))] [0, 1, 4, 11, 12])
   (.seq (.reg [oo 85 (.mv (.t 11)),
oo 86 (.bin .add (.t 85) (.c (Value.int IntKind.i64 1))),
oo 11 (.mv (.t 86))] [0, 1, 4, 11, 12])
   (.reg [oo 87 (.mv (.t 12)),
oo 88 (.bin .sub (.t 87) (.c (Value.int IntKind.i64 1))),
oo 12 (.mv (.t 88))] [0, 1, 4, 11, 12]))))))

def m_slices_partitionEqualCmpFunc_2_int : MF := ⟨90, [.tmp 10], true, (
  .seq (.reg [oo 10 (.mv (.c (Value.int IntKind.i64 0)))] [0, 1, 2, 3, 4])
  (.seq (.reg [oo 13 (.mv (.t 0)),
oo 14 (.mv (.t 1)),
oo 15 (.mv (.t 0)),
oo 16 (.mv (.t 3)),
oo 17 (.mv (.t 0)),
oo 18 (.mv (.t 3)),
oo 19 (.iadr 2 (.t 17) (.t 18)),
oo 20 (.load (some 2) (.t 19)),
oo 21 (.mv (.t 0)),
oo 22 (.mv (.t 1)),
oo 23 (.iadr 2 (.t 21) (.t 22)),
oo 24 (.load (some 2) (.t 23)),
oo 25 (.iadr 2 (.t 13) (.t 14)),
nn (.store 2 (.t 25) (.t 20)),
oo 26 (.iadr 2 (.t 15) (.t 16)),
nn (.store 2 (.t 26) (.t 24))] [0, 1, 2, 4])
  (.seq (.reg [oo 27 (.mv (.t 1)),
oo 28 (.bin .add (.t 27) (.c (Value.int IntKind.i64 1))),
oo 29 (.mv (.t 2)),
oo 30 (.bin .sub (.t 29) (.c (Value.int IntKind.i64 1))),
oo 11 (.mv (.t 28)),
oo 12 (.mv (.t 30))] [0, 1, 4, 11, 12])
  (.seq (.block 0 (.loop [0, 1, 4, 11, 12] m_slices_partitionEqualCmpFunc_2_int_L0))
  (.seq (.reg [oo 89 (.mv (.t 11)),
oo 10 (.mv (.t 89))] [10])
  (.ret))))))⟩

-- 103 slices.partitionCmpFunc[[2]int]
def m_slices_partitionCmpFunc_2_int_L4 : MC :=
  .seq (.seq (.reg [oo 123 (.mv (.t 12)),
oo 124 (.mv (.t 13)),
oo 125 (.bin .leq (.t 123) (.t 124)),
oo 126 (.mv (.t 125)),
⟨some 127, .mv (.t 4), some (126, true)⟩,
⟨some 128, .mv (.t 0), some (126, true)⟩,
⟨some 129, .mv (.t 13), some (126, true)⟩,
⟨some 130, .iadr 2 (.t 128) (.t 129), some (126, true)⟩,
⟨some 131, .load (some 2) (.t 130), some (126, true)⟩,
⟨some 132, .mv (.t 0), some (126, true)⟩,
⟨some 133, .mv (.t 1), some (126, true)⟩,
⟨some 134, .iadr 2 (.t 132) (.t 133), some (126, true)⟩,
⟨some 135, .load (some 2) (.t 134), some (126, true)⟩,
⟨some 136, .callv (.t 127) [.t 131, .t 135], some (126, true)⟩,
⟨some 137, .bin .lss (.t 136) (.c (Value.int IntKind.i64 0)), some (126, true)⟩,
⟨some 138, .un .not (.t 137), some (126, true)⟩,
oo 139 (.pick (.t 126) (.t 138) (.c (Value.bool false)))] [0, 1, 4, 12, 13, 139])
  (.cond (.t 139) (.skip)
   (.exit 8)))
  (.block 9 (.reg [oo 140 (.mv (.t 13)),
oo 141 (.bin .sub (.t 140) (.c (Value.int IntKind.i64 1))),
oo 13 (.mv (.t 141))] [0, 1, 4, 12, 13]))

def m_slices_partitionCmpFunc_2_int_L3 : MC :=
  .seq (.seq (.reg [oo 105 (.mv (.t 12)),
oo 106 (.mv (.t 13)),
oo 107 (.bin .leq (.t 105) (.t 106)),
oo 108 (.mv (.t 107)),
⟨some 109, .mv (.t 4), some (108, true)⟩,
⟨some 110, .mv (.t 0), some (108, true)⟩,
⟨some 111, .mv (.t 12), some (108, true)⟩,
⟨some 112, .iadr 2 (.t 110) (.t 111), some (108, true)⟩,
⟨some 113, .load (some 2) (.t 112), some (108, true)⟩,
⟨some 114, .mv (.t 0), some (108, true)⟩,
⟨some 115, .mv (.t 1), some (108, true)⟩,
⟨some 116, .iadr 2 (.t 114) (.t 115), some (108, true)⟩,
⟨some 117, .load (some 2) (.t 116), some (108, true)⟩,
⟨some 118, .callv (.t 109) [.t 113, .t 117], some (108, true)⟩,
⟨some 119, .bin .lss (.t 118) (.c (Value.int IntKind.i64 0)), some (108, true)⟩,
oo 120 (.pick (.t 108) (.t 119) (.c (Value.bool false)))] [0, 1, 4, 12, 13, 120])
  (.cond (.t 120) (.skip)
   (.exit 6)))
  (.block 7 (.reg [oo 121 (.mv (.t 12)),
oo 122 (.bin .add (.t 121) (.c (Value.int IntKind.i64 1))),
oo 12 (.mv (.t 122))] [0, 1, 4, 12, 13]))

def m_slices_partitionCmpFunc_2_int_L2 : MC :=
  .block 5 (.seq (.block 6 (.loop [0, 1, 4, 12, 13] m_slices_partitionCmpFunc_2_int_L3))
   (.seq (.block 8 (.loop [0, 1, 4, 12, 13] m_slices_partitionCmpFunc_2_int_L4))
   (.seq (.seq (.reg [oo 142 (.mv (.t 12)),
oo 143 (.mv (.t 13)),
oo 144 (.bin .gtr (.t 142) (.t 143))] [0, 1, 4, 12, 13, 144])
   (.cond (.t 144) (.exit 4)
    (.skip)))
   (.seq (.reg [oo 145 (.mv (.t 0)),
oo 146 (.mv (.t 12)),
oo 147 (.mv (.t 0)),
oo 148 (.mv (.t 13)),
oo 149 (.mv (.t 0)),
oo 150 (.mv (.t 13)),
oo 151 (.iadr 2 (.t 149) (.t 150)),
oo 152 (.load (some 2) (.t 151)),
oo 153 (.mv (.t 0)),
oo 154 (.mv (.t 12)),
oo 155 (.iadr 2 (.t 153) (.t 154)),
oo 156 (.load (some 2) (.t 155)),
oo 157 (.iadr 2 (.t 145) (.t 146)),
nn (.store 2 (.t 157) (.t 152)),
oo 158 (.iadr 2 (.t 147) (.t 148)),
nn (.store 2 (.t 158) (.t 156))] [0, 1, 4, 12, 13])
   (.seq (.reg [oo 159 (.mv (.t 12)),
oo 160 (.bin .add (.t 159) (.c (Value.int IntKind.i64 1))),
oo 12 (.mv (.t 160))] [0, 1, 4, 12, 13])
   (.reg [oo 161 (.mv (.t 13)),
oo 162 (.bin .sub (.t 161) (.c (Value.int IntKind.i64 1))),
oo 13 (.mv (.t 162))] [0, 1, 4, 12, 13]))))))

def m_slices_partitionCmpFunc_2_int_L1 : MC :=
  .seq (.seq (.reg [oo 50 (.mv (.t 12)),
oo 51 (.mv (.t 13)),
oo 52 (.bin .leq (.t 50) (.t 51)),
oo 53 (.mv (.t 52)),
⟨some 54, .mv (.t 4), some (53, true)⟩,
⟨some 55, .mv (.t 0), some (53, true)⟩,
⟨some 56, .mv (.t 13), some (53, true)⟩,
⟨some 57, .iadr 2 (.t 55) (.t 56), some (53, true)⟩,
⟨some 58, .load (some 2) (.t 57), some (53, true)⟩,
⟨some 59, .mv (.t 0), some (53, true)⟩,
⟨some 60, .mv (.t 1), some (53, true)⟩,
⟨some 61, .iadr 2 (.t 59) (.t 60), some (53, true)⟩,
⟨some 62, .load (some 2) (.t 61), some (53, true)⟩,
⟨some 63, .callv (.t 54) [.t 58, .t 62], some (53, true)⟩,
⟨some 64, .bin .lss (.t 63) (.c (Value.int IntKind.i64 0)), some (53, true)⟩,
⟨some 65, .un .not (.t 64), some (53, true)⟩,
oo 66 (.pick (.t 53) (.t 65) (.c (Value.bool false)))] [0, 1, 4, 12, 13, 66])
  (.cond (.t 66) (.skip)
   (.exit 2)))
  (.block 3 (.reg [oo 67 (.mv (.t 13)),
oo 68 (.bin .sub (.t 67) (.c (Value.int IntKind.i64 1))),
oo 13 (.mv (.t 68))] [0, 1, 4, 12, 13]))

def m_slices_partitionCmpFunc_2_int_L0 : MC :=
  .seq (.seq (.reg [oo 32 (.mv (.t 12)),
oo 33 (.mv (.t 13)),
oo 34 (.bin .leq (.t 32) (.t 33)),
oo 35 (.mv (.t 34)),
⟨some 36, .mv (.t 4), some (35, true)⟩,
⟨some 37, .mv (.t 0), some (35, true)⟩,
⟨some 38, .mv (.t 12), some (35, true)⟩,
⟨some 39, .iadr 2 (.t 37) (.t 38), some (35, true)⟩,
⟨some 40, .load (some 2) (.t 39), some (35, true)⟩,
⟨some 41, .mv (.t 0), some (35, true)⟩,
⟨some 42, .mv (.t 1), some (35, true)⟩,
⟨some 43, .iadr 2 (.t 41) (.t 42), some (35, true)⟩,
⟨some 44, .load (some 2) (.t 43), some (35, true)⟩,
⟨some 45, .callv (.t 36) [.t 40, .t 44], some (35, true)⟩,
⟨some 46, .bin .lss (.t 45) (.c (Value.int IntKind.i64 0)), some (35, true)⟩,
oo 47 (.pick (.t 35) (.t 46) (.c (Value.bool false)))] [0, 1, 4, 12, 13, 47])
  (.cond (.t 47) (.skip)
   (.exit 0)))
  (.block 1 (.reg [oo 48 (.mv (.t 12)),
oo 49 (.bin .add (.t 48) (.c (Value.int IntKind.i64 1))),
oo 12 (.mv (.t 49))] [0, 1, 4, 12, 13]))

def m_slices_partitionCmpFunc_2_int : MF := ⟨178, [.tmp 10, .tmp 11], true, (
  .seq (.reg [oo 10 (.mv (.c (Value.int IntKind.i64 0))),
oo 11 (.mv (.c (Value.bool false)))] [0, 1, 2, 3, 4])
  (.seq (.reg [oo 14 (.mv (.t 0)),
oo 15 (.mv (.t 1)),
oo 16 (.mv (.t 0)),
oo 17 (.mv (.t 3)),
oo 18 (.mv (.t 0)),
oo 19 (.mv (.t 3)),
oo 20 (.iadr 2 (.t 18) (.t 19)),
oo 21 (.load (some 2) (.t 20)),
oo 22 (.mv (.t 0)),
oo 23 (.mv (.t 1)),
oo 24 (.iadr 2 (.t 22) (.t 23)),
oo 25 (.load (some 2) (.t 24)),
oo 26 (.iadr 2 (.t 14) (.t 15)),
nn (.store 2 (.t 26) (.t 21)),
oo 27 (.iadr 2 (.t 16) (.t 17)),
nn (.store 2 (.t 27) (.t 25))] [0, 1, 2, 4])
  (.seq (.reg [oo 28 (.mv (.t 1)),
oo 29 (.bin .add (.t 28) (.c (Value.int IntKind.i64 1))),
oo 30 (.mv (.t 2)),
oo 31 (.bin .sub (.t 30) (.c (Value.int IntKind.i64 1))),
oo 12 (.mv (.t 29)),
oo 13 (.mv (.t 31))] [0, 1, 4, 12, 13])
  (.seq (.block 0 (.loop [0, 1, 4, 12, 13] m_slices_partitionCmpFunc_2_int_L0))
  (.seq (.block 2 (.loop [0, 1, 4, 12, 13] m_slices_partitionCmpFunc_2_int_L1))
  (.seq (.seq (.reg [oo 69 (.mv (.t 12)),
oo 70 (.mv (.t 13)),
oo 71 (.bin .gtr (.t 69) (.t 70))] [0, 1, 4, 12, 13, 71])
  (.cond (.t 71) (.seq (.reg [oo 72 (.mv (.t 0)),
oo 73 (.mv (.t 13)),
oo 74 (.mv (.t 0)),
oo 75 (.mv (.t 1)),
oo 76 (.mv (.t 0)),
oo 77 (.mv (.t 1)),
oo 78 (.iadr 2 (.t 76) (.t 77)),
oo 79 (.load (some 2) (.t 78)),
oo 80 (.mv (.t 0)),
oo 81 (.mv (.t 13)),
oo 82 (.iadr 2 (.t 80) (.t 81)),
oo 83 (.load (some 2) (.t 82)),
oo 84 (.iadr 2 (.t 72) (.t 73)),
nn (.store 2 (.t 84) (.t 79)),
oo 85 (.iadr 2 (.t 74) (.t 75)),
nn (.store 2 (.t 85) (.t 83))] [13])
   (.seq (.reg [oo 86 (.mv (.t 13)),
oo 10 (.mv (.t 86)),
oo 11 (.mv (.c (Value.bool true)))] [10, 11])
   (.ret)))
   (.skip)))
  (.seq (.reg [oo 87 (.mv (.t 0)),
oo 88 (.mv (.t 12)),
oo 89 (.mv (.t 0)),
oo 90 (.mv (.t 13)),
oo 91 (.mv (.t 0)),
oo 92 (.mv (.t 13)),
oo 93 (.iadr 2 (.t 91) (.t 92)),
oo 94 (.load (some 2) (.t 93)),
oo 95 (.mv (.t 0)),
oo 96 (.mv (.t 12)),
oo 97 (.iadr 2 (.t 95) (.t 96)),
oo 98 (.load (some 2) (.t 97)),
oo 99 (.iadr 2 (.t 87) (.t 88)),
nn (.store 2 (.t 99) (.t 94)),
oo 100 (.iadr 2 (.t 89) (.t 90)),
nn (.store 2 (.t 100) (.t 98))] [0, 1, 4, 12, 13])
  (.seq (.reg [oo 101 (.mv (.t 12)),
oo 102 (.bin .add (.t 101) (.c (Value.int IntKind.i64 1))),
oo 12 (.mv (.t 102))] [0, 1, 4, 12, 13])
  (.seq (.reg [oo 103 (.mv (.t 13)),
oo 104 (.bin .sub (.t 103) (.c (Value.int IntKind.i64 1))),
oo 13 (.mv (.t 104))] [0, 1, 4, 12, 13])
  (.seq (.block 4 (.loop [0, 1, 4, 12, 13] m_slices_partitionCmpFunc_2_int_L2))
  (.seq (.reg [oo 163 (.mv (.t 0)),
oo 164 (.mv (.t 13)),
oo 165 (.mv (.t 0)),
oo 166 (.mv (.t 1)),
oo 167 (.mv (.t 0)),
oo 168 (.mv (.t 1)),
oo 169 (.iadr 2 (.t 167) (.t 168)),
oo 170 (.load (some 2) (.t 169)),
oo 171 (.mv (.t 0)),
oo 172 (.mv (.t 13)),
oo 173 (.iadr 2 (.t 171) (.t 172)),
oo 174 (.load (some 2) (.t 173)),
oo 175 (.iadr 2 (.t 163) (.t 164)),
nn (.store 2 (.t 175) (.t 170)),
oo 176 (.iadr 2 (.t 165) (.t 166)),
nn (.store 2 (.t 176) (.t 174))] [13])
  (.seq (.reg [oo 177 (.mv (.t 13)),
oo 10 (.mv (.t 177)),
oo 11 (.mv (.c (Value.bool false)))] [10, 11])
  (.ret)))))))))))))⟩

-- 94 math/bits.Len32
def m_math_bits_Len32 : MF := ⟨19, [.tmp 2], true, (
  .seq (.reg [oo 2 (.mv (.c (Value.int IntKind.i64 0)))] [0, 2])
  (.seq (.seq (.reg [oo 3 (.mv (.t 0)),
oo 4 (.bin .geq (.t 3) (.c (Value.int IntKind.u32 65536)))] [0, 2, 4])
  (.cond (.t 4) (.seq (.reg [oo 5 (.mv (.t 0)),
oo 6 (.bin .shr (.t 5) (.c (Value.int IntKind.u64 16))),
oo 0 (.mv (.t 6))] [0])
   (.reg [oo 2 (.mv (.c (Value.int IntKind.i64 16)))] [0, 2]))
   (.skip)))
  (.seq (.seq (.reg [oo 7 (.mv (.t 0)),
oo 8 (.bin .geq (.t 7) (.c (Value.int IntKind.u32 256)))] [0, 2, 8])
  (.cond (.t 8) (.seq (.reg [oo 9 (.mv (.t 0)),
oo 10 (.bin .shr (.t 9) (.c (Value.int IntKind.u64 8))),
oo 0 (.mv (.t 10))] [0, 2])
   (.reg [oo 11 (.mv (.t 2)),
oo 12 (.bin .add (.t 11) (.c (Value.int IntKind.i64 8))),
oo 2 (.mv (.t 12))] [0, 2]))
   (.skip)))
  (.seq (.reg [oo 13 (.mv (.t 2)),
oo 14 (.mv (.t 0)),
oo 15 (.conv .u8 (.t 14)),
oo 16 (.sidx (.c (Value.string ⟨#[0, 1, 2, 2, 3, 3, 3, 3, 4, 4, 4, 4, 4, 4, 4, 4, 5, 5, 5, 5, 5, 5, 5, 5, 5, 5, 5, 5, 5, 5, 5, 5, 6, 6, 6, 6, 6, 6, 6, 6, 6, 6, 6, 6, 6, 6, 6, 6, 6, 6, 6, 6, 6, 6, 6, 6, 6, 6, 6, 6, 6, 6, 6, 6, 7, 7, 7, 7, 7, 7, 7, 7, 7, 7, 7, 7, 7, 7, 7, 7, 7, 7, 7, 7, 7, 7, 7, 7, 7, 7, 7, 7, 7, 7, 7, 7, 7, 7, 7, 7, 7, 7, 7, 7, 7, 7, 7, 7, 7, 7, 7, 7, 7, 7, 7, 7, 7, 7, 7, 7, 7, 7, 7, 7, 7, 7, 7, 7, 8, 8, 8, 8, 8, 8, 8, 8, 8, 8, 8, 8, 8, 8, 8, 8, 8, 8, 8, 8, 8, 8, 8, 8, 8, 8, 8, 8, 8, 8, 8, 8, 8, 8, 8, 8, 8, 8, 8, 8, 8, 8, 8, 8, 8, 8, 8, 8, 8, 8, 8, 8, 8, 8, 8, 8, 8, 8, 8, 8, 8, 8, 8, 8, 8, 8, 8, 8, 8, 8, 8, 8, 8, 8, 8, 8, 8, 8, 8, 8, 8, 8, 8, 8, 8, 8, 8, 8, 8, 8, 8, 8, 8, 8, 8, 8, 8, 8, 8, 8, 8, 8, 8, 8, 8, 8, 8, 8, 8, 8, 8, 8, 8, 8, 8, 8, 8, 8, 8, 8, 8, 8, 8, 8, 8, 8, 8, 8]⟩)) (.t 15)),
oo 17 (.conv .i64 (.t 16)),
oo 18 (.bin .add (.t 13) (.t 17)),
oo 2 (.mv (.t 18))] [2])
  (.ret)))))⟩

-- 95 math/bits.Len64
def m_math_bits_Len64 : MF := ⟨25, [.tmp 2], true, (
  .seq (.reg [oo 2 (.mv (.c (Value.int IntKind.i64 0)))] [0, 2])
  (.seq (.seq (.reg [oo 3 (.mv (.t 0)),
oo 4 (.bin .geq (.t 3) (.c (Value.int IntKind.u64 4294967296)))] [0, 2, 4])
  (.cond (.t 4) (.seq (.reg [oo 5 (.mv (.t 0)),
oo 6 (.bin .shr (.t 5) (.c (Value.int IntKind.u64 32))),
oo 0 (.mv (.t 6))] [0])
   (.reg [oo 2 (.mv (.c (Value.int IntKind.i64 32)))] [0, 2]))
   (.skip)))
  (.seq (.seq (.reg [oo 7 (.mv (.t 0)),
oo 8 (.bin .geq (.t 7) (.c (Value.int IntKind.u64 65536)))] [0, 2, 8])
  (.cond (.t 8) (.seq (.reg [oo 9 (.mv (.t 0)),
oo 10 (.bin .shr (.t 9) (.c (Value.int IntKind.u64 16))),
oo 0 (.mv (.t 10))] [0, 2])
   (.reg [oo 11 (.mv (.t 2)),
oo 12 (.bin .add (.t 11) (.c (Value.int IntKind.i64 16))),
oo 2 (.mv (.t 12))] [0, 2]))
   (.skip)))
  (.seq (.seq (.reg [oo 13 (.mv (.t 0)),
oo 14 (.bin .geq (.t 13) (.c (Value.int IntKind.u64 256)))] [0, 2, 14])
  (.cond (.t 14) (.seq (.reg [oo 15 (.mv (.t 0)),
oo 16 (.bin .shr (.t 15) (.c (Value.int IntKind.u64 8))),
oo 0 (.mv (.t 16))] [0, 2])
   (.reg [oo 17 (.mv (.t 2)),
oo 18 (.bin .add (.t 17) (.c (Value.int IntKind.i64 8))),
oo 2 (.mv (.t 18))] [0, 2]))
   (.skip)))
  (.seq (.reg [oo 19 (.mv (.t 2)),
oo 20 (.mv (.t 0)),
oo 21 (.conv .u8 (.t 20)),
oo 22 (.sidx (.c (Value.string ⟨#[0, 1, 2, 2, 3, 3, 3, 3, 4, 4, 4, 4, 4, 4, 4, 4, 5, 5, 5, 5, 5, 5, 5, 5, 5, 5, 5, 5, 5, 5, 5, 5, 6, 6, 6, 6, 6, 6, 6, 6, 6, 6, 6, 6, 6, 6, 6, 6, 6, 6, 6, 6, 6, 6, 6, 6, 6, 6, 6, 6, 6, 6, 6, 6, 7, 7, 7, 7, 7, 7, 7, 7, 7, 7, 7, 7, 7, 7, 7, 7, 7, 7, 7, 7, 7, 7, 7, 7, 7, 7, 7, 7, 7, 7, 7, 7, 7, 7, 7, 7, 7, 7, 7, 7, 7, 7, 7, 7, 7, 7, 7, 7, 7, 7, 7, 7, 7, 7, 7, 7, 7, 7, 7, 7, 7, 7, 7, 7, 8, 8, 8, 8, 8, 8, 8, 8, 8, 8, 8, 8, 8, 8, 8, 8, 8, 8, 8, 8, 8, 8, 8, 8, 8, 8, 8, 8, 8, 8, 8, 8, 8, 8, 8, 8, 8, 8, 8, 8, 8, 8, 8, 8, 8, 8, 8, 8, 8, 8, 8, 8, 8, 8, 8, 8, 8, 8, 8, 8, 8, 8, 8, 8, 8, 8, 8, 8, 8, 8, 8, 8, 8, 8, 8, 8, 8, 8, 8, 8, 8, 8, 8, 8, 8, 8, 8, 8, 8, 8, 8, 8, 8, 8, 8, 8, 8, 8, 8, 8, 8, 8, 8, 8, 8, 8, 8, 8, 8, 8, 8, 8, 8, 8, 8, 8, 8, 8, 8, 8, 8, 8, 8, 8, 8, 8, 8, 8]⟩)) (.t 21)),
oo 23 (.conv .i64 (.t 22)),
oo 24 (.bin .add (.t 19) (.t 23)),
oo 2 (.mv (.t 24))] [2])
  (.ret))))))⟩

-- 226 selfstab/lexer.blank
def m_lexer_blank : MF := ⟨17, [.tmp 2], true, (
  .seq (.reg [oo 2 (.mv (.c (Value.bool false)))] [0])
  (.seq (.reg [oo 3 (.mv (.t 0)),
oo 4 (.bin .eql (.t 3) (.c (Value.int IntKind.u8 32))),
oo 5 (.mv (.t 4)),
⟨some 6, .mv (.t 0), some (5, false)⟩,
⟨some 7, .bin .eql (.t 6) (.c (Value.int IntKind.u8 9)), some (5, false)⟩,
oo 8 (.pick (.t 5) (.c (Value.bool true)) (.t 7)),
oo 9 (.mv (.t 8)),
⟨some 10, .mv (.t 0), some (9, false)⟩,
⟨some 11, .bin .eql (.t 10) (.c (Value.int IntKind.u8 10)), some (9, false)⟩,
oo 12 (.pick (.t 9) (.c (Value.bool true)) (.t 11)),
oo 13 (.mv (.t 12)),
⟨some 14, .mv (.t 0), some (13, false)⟩,
⟨some 15, .bin .eql (.t 14) (.c (Value.int IntKind.u8 13)), some (13, false)⟩,
oo 16 (.pick (.t 13) (.c (Value.bool true)) (.t 15)),
oo 2 (.mv (.t 16))] [2])
  (.ret)))⟩

-- 227 selfstab/lexer.skip$1
def m_lexer_skip_1 : MF := ⟨5, [.tmp 2], true, (
  .seq (.reg [oo 2 (.mv (.c (Value.bool false)))] [0])
  (.seq (.reg [oo 3 (.mv (.t 0)),
oo 4 (.bin .neq (.t 3) (.c (Value.int IntKind.u8 10))),
oo 2 (.mv (.t 4))] [2])
  (.ret)))⟩

-- 228 selfstab/lexer.digit
def m_lexer_digit : MF := ⟨9, [.tmp 2], true, (
  .seq (.reg [oo 2 (.mv (.c (Value.bool false)))] [0])
  (.seq (.reg [oo 3 (.mv (.t 0)),
oo 4 (.bin .geq (.t 3) (.c (Value.int IntKind.u8 48))),
oo 5 (.mv (.t 4)),
⟨some 6, .mv (.t 0), some (5, true)⟩,
⟨some 7, .bin .leq (.t 6) (.c (Value.int IntKind.u8 57)), some (5, true)⟩,
oo 8 (.pick (.t 5) (.t 7) (.c (Value.bool false))),
oo 2 (.mv (.t 8))] [2])
  (.ret)))⟩

-- 229 selfstab/lexer.number
def m_lexer_number_L0 : MC :=
  .seq (.reg [oo 19 (.bin .lss (.t 18) (.t 17))] [4, 16, 17, 18, 19])
  (.seq (.cond (.t 19) (.skip)
   (.exit 0))
  (.seq (.block 1 (.seq (.reg [oo 20 (.iadr 1 (.t 16) (.t 18)),
oo 21 (.load (none) (.t 20)),
oo 6 (.mv (.t 21))] [4, 6, 16, 17, 18])
   (.seq (.reg [oo 22 (.mv (.t 4)),
oo 23 (.bin .mul (.c (Value.int IntKind.i64 10)) (.t 22)),
oo 24 (.mv (.t 6)),
oo 25 (.bin .sub (.t 24) (.c (Value.int IntKind.u8 48))),
oo 26 (.conv .i64 (.t 25)),
oo 27 (.bin .add (.t 23) (.t 26)),
oo 4 (.mv (.t 27))] [4, 16, 17, 18])
   (.seq (.reg [oo 28 (.mv (.t 4)),
oo 29 (.bin .gtr (.t 28) (.c (Value.int IntKind.i64 1073741824)))] [4, 16, 17, 18, 29])
   (.cond (.t 29) (.seq (.reg [oo 2 (.mv (.c (Value.int IntKind.i64 0))),
oo 3 (.mv (.c (Value.int IntKind.i64 2)))] [2, 3])
    (.ret))
    (.skip))))))
  (.reg [oo 30 (.bin .add (.t 18) (.c (Value.int IntKind.i64 1))),
oo 18 (.mv (.t 30))] [4, 16, 17, 18])))

def m_lexer_number : MF := ⟨32, [.tmp 2, .tmp 3], true, (
  .seq (.reg [oo 2 (.mv (.c (Value.int IntKind.i64 0))),
oo 3 (.mv (.c (Value.int IntKind.i64 0)))] [0])
  (.seq (.seq (.reg [oo 7 (.mv (.t 0)),
oo 8 (.sidx (.t 7) (.c (Value.int IntKind.i64 0))),
oo 9 (.bin .eql (.t 8) (.c (Value.int IntKind.u8 48))),
oo 10 (.mv (.t 9)),
⟨some 11, .mv (.t 0), some (10, true)⟩,
⟨some 12, .len 0 (.t 11), some (10, true)⟩,
⟨some 13, .bin .gtr (.t 12) (.c (Value.int IntKind.i64 1)), some (10, true)⟩,
oo 14 (.pick (.t 10) (.t 13) (.c (Value.bool false)))] [0, 14])
  (.cond (.t 14) (.seq (.reg [oo 2 (.mv (.c (Value.int IntKind.i64 0))),
oo 3 (.mv (.c (Value.int IntKind.i64 2)))] [2, 3])
   (.ret))
   (.skip)))
  (.seq (.reg [oo 4 (.mv (.c (Value.int IntKind.i64 0)))] [0, 4])
  (.seq (.seq (.reg [oo 15 (.mv (.t 0)),
oo 16 (.s2b (.t 15)),
oo 17 (.len 1 (.t 16)),
oo 18 (.mv (.c (Value.int IntKind.i64 0)))] [4, 16, 17, 18])
  (.block 0 (.loop [4, 16, 17, 18] m_lexer_number_L0)))
  (.seq (.reg [oo 31 (.mv (.t 4)),
oo 2 (.mv (.t 31)),
oo 3 (.mv (.c (Value.int IntKind.i64 0)))] [2, 3])
  (.ret))))))⟩

-- 233 slices.Index[[]string,string]
def m_slices_Index_string_string_L0 : MC :=
  .seq (.reg [oo 9 (.bin .lss (.t 8) (.t 7))] [0, 1, 7, 8, 9])
  (.seq (.cond (.t 9) (.skip)
   (.exit 0))
  (.seq (.block 1 (.seq (.reg [oo 10 (.mv (.t 8)),
oo 5 (.mv (.t 10))] [0, 1, 5, 7, 8])
   (.seq (.reg [oo 11 (.mv (.t 1)),
oo 12 (.mv (.t 0)),
oo 13 (.mv (.t 5)),
oo 14 (.iadr 1 (.t 12) (.t 13)),
oo 15 (.load (none) (.t 14)),
oo 16 (.bin .eql (.t 11) (.t 15))] [0, 1, 5, 7, 8, 16])
   (.cond (.t 16) (.seq (.reg [oo 17 (.mv (.t 5)),
oo 4 (.mv (.t 17))] [4])
    (.ret))
    (.skip)))))
  (.reg [oo 18 (.bin .add (.t 8) (.c (Value.int IntKind.i64 1))),
oo 8 (.mv (.t 18))] [0, 1, 7, 8])))

def m_slices_Index_string_string : MF := ⟨19, [.tmp 4], true, (
  .seq (.reg [oo 4 (.mv (.c (Value.int IntKind.i64 0)))] [0, 1])
  (.seq (.seq (.reg [oo 6 (.mv (.t 0)),
oo 7 (.len 1 (.t 6)),
oo 8 (.mv (.c (Value.int IntKind.i64 0)))] [0, 1, 7, 8])
  (.block 0 (.loop [0, 1, 7, 8] m_slices_Index_string_string_L0)))
  (.seq (.reg [oo 4 (.mv (.c (Value.int IntKind.i64 (-1))))] [4])
  (.ret))))⟩

-- 234 (*selfstab/syntax.Reader).Counts
def m_syntax_Reader_Counts : MF := ⟨12, [.tmp 2], false, (
  .seq (.reg [oo 2 (.mv (.c (Value.bool false)))] [0])
  (.seq (.reg [oo 6 (.mv (.t 0)),
oo 7 (.call 196 [.t 6, .c (Value.int IntKind.i64 0)]),
oo 5 (.mv (.t 7)),
oo 8 (.ext (.t 5) 0),
oo 9 (.ext (.t 5) 1),
oo 3 (.mv (.t 8)),
oo 4 (.mv (.t 9))] [4])
  (.seq (.reg [oo 10 (.mv (.t 4)),
oo 11 (.bin .eql (.t 10) (.c (Value.int IntKind.i64 2))),
oo 2 (.mv (.t 11))] [2])
  (.ret))))⟩

-- 235 (*selfstab/syntax.Reader).Follows
def m_syntax_Reader_Follows : MF := ⟨19, [.tmp 4], false, (
  .seq (.reg [oo 4 (.mv (.c (Value.bool false)))] [0, 1])
  (.seq (.reg [oo 8 (.mv (.t 0)),
oo 9 (.call 196 [.t 8, .c (Value.int IntKind.i64 1)]),
oo 7 (.mv (.t 9)),
oo 10 (.ext (.t 7) 0),
oo 11 (.ext (.t 7) 1),
oo 5 (.mv (.t 10)),
oo 6 (.mv (.t 11))] [1, 5, 6])
  (.seq (.reg [oo 12 (.mv (.t 6)),
oo 13 (.bin .eql (.t 12) (.c (Value.int IntKind.i64 3))),
oo 14 (.mv (.t 13)),
⟨some 15, .mv (.t 5), some (14, true)⟩,
⟨some 16, .mv (.t 1), some (14, true)⟩,
⟨some 17, .bin .eql (.t 15) (.t 16), some (14, true)⟩,
oo 18 (.pick (.t 14) (.t 17) (.c (Value.bool false))),
oo 4 (.mv (.t 18))] [4])
  (.ret))))⟩

-- 236 (*selfstab/syntax.Reader).level
def m_syntax_Reader_level_L0 : MC :=
  .block 1 (.seq (.reg [oo 24 (.mv (.t 0)),
oo 25 (.fadr 0 (.t 6)),
oo 26 (.load (none) (.t 25)),
oo 27 (.call 195 [.t 24, .t 26]),
oo 8 (.mv (.t 27))] [0, 1, 6, 7, 8])
   (.seq (.seq (.reg [oo 28 (.mv (.t 8)),
oo 29 (.bin .eql (.t 28) (.c (Value.string ⟨#[]⟩)))] [0, 1, 6, 7, 8, 29])
   (.cond (.t 29) (.seq (.reg [oo 30 (.mv (.t 7)),
oo 4 (.mv (.t 30))] [4])
    (.ret))
    (.skip)))
   (.seq (.regd [0, 1, 0, 4, 0, 28, 63, 127, 0, 0, 0, 1024, 3644, 7996, 16383, 32767] [oo 31 (.fadr 1 (.t 6)),
oo 32 (.load (none) (.t 31)),
oo 33 (.fadr 0 (.t 6)),
oo 34 (.load (none) (.t 33)),
oo 35 (.mv (.t 8)),
oo 36 (.call 233 [.t 34, .t 35]),
oo 37 (.iadr 1 (.t 32) (.t 36)),
oo 38 (.load (none) (.t 37)),
oo 39 (.mv (.t 7)),
oo 40 (.mv (.t 0)),
oo 41 (.mv (.t 1)),
oo 42 (.bin .add (.t 41) (.c (Value.int IntKind.i64 1))),
oo 43 (.call 236 [.t 40, .t 42]),
oo 44 (.lit 1 [.v (Value.slice none 0 0), .v (Value.slice none 0 0)] [(0, 1, (.t 39)), (1, 1, (.t 43))] true),
oo 45 (.call 237 [.t 38, .t 44]),
oo 7 (.mv (.t 45))] [0, 1, 6, 7])
   (.seq (.reg [oo 46 (.mv (.t 1)),
oo 47 (.bin .eql (.t 46) (.c (Value.int IntKind.i64 2)))] [0, 1, 6, 7, 47])
   (.cond (.t 47) (.seq (.reg [oo 48 (.mv (.t 7)),
oo 4 (.mv (.t 48))] [4])
    (.ret))
    (.skip))))))

def m_syntax_Reader_level : MF := ⟨49, [.tmp 4], false, (
  .seq (.reg [oo 4 (.mv (.c (Value.slice none 0 0)))] [0, 1])
  (.seq (.reg [oo 9 (.call 254 []),
oo 5 (.mv (.t 9))] [0, 1, 5])
  (.seq (.seq (.reg [oo 10 (.mv (.t 1)),
oo 11 (.mv (.t 5)),
oo 12 (.len 1 (.t 11)),
oo 13 (.bin .eql (.t 10) (.t 12))] [0, 1, 5, 13])
  (.cond (.t 13) (.seq (.reg [oo 14 (.mv (.t 0)),
oo 15 (.call 255 [.t 14]),
oo 4 (.mv (.t 15))] [4])
   (.ret))
   (.skip)))
  (.seq (.reg [oo 16 (.mv (.t 5)),
oo 17 (.mv (.t 1)),
oo 18 (.iadr 2 (.t 16) (.t 17)),
oo 19 (.load (some 2) (.t 18)),
oo 6 (.alloc [.v (Value.slice none 0 0), .v (Value.slice none 0 0)]),
nn (.store 2 (.t 6) (.t 19))] [0, 1, 6])
  (.seq (.reg [oo 20 (.mv (.t 0)),
oo 21 (.mv (.t 1)),
oo 22 (.bin .add (.t 21) (.c (Value.int IntKind.i64 1))),
oo 23 (.call 236 [.t 20, .t 22]),
oo 7 (.mv (.t 23))] [0, 1, 6, 7])
  (.block 0 (.loop [0, 1, 6, 7] m_syntax_Reader_level_L0)))))))⟩

-- 237 selfstab/syntax.with
def m_syntax_with_L0 : MC :=
  .seq (.reg [oo 14 (.bin .lss (.t 13) (.t 12))] [5, 11, 12, 13, 14])
  (.seq (.cond (.t 14) (.skip)
   (.exit 0))
  (.seq (.block 1 (.seq (.reg [oo 15 (.iadr 1 (.t 11) (.t 13)),
oo 16 (.load (none) (.t 15)),
oo 7 (.mv (.t 16))] [5, 7, 11, 12, 13])
   (.reg [oo 17 (.mv (.t 5)),
oo 18 (.mv (.t 7)),
oo 19 (.app 2 16 (.t 17) (.t 18)),
oo 5 (.mv (.t 19))] [5, 11, 12, 13])))
  (.reg [oo 20 (.bin .add (.t 13) (.c (Value.int IntKind.i64 1))),
oo 13 (.mv (.t 20))] [5, 11, 12, 13])))

def m_syntax_with : MF := ⟨22, [.tmp 4], false, (
  .seq (.reg [oo 4 (.mv (.c (Value.slice none 0 0)))] [0, 1])
  (.seq (.reg [oo 8 (.mv (.t 0)),
oo 9 (.build [.v (Value.int .i64 0), .v (Value.int .i64 0)] [(0, 1, (.t 8))]),
oo 10 (.lit 2 [.v (Value.int .i64 0), .v (Value.int .i64 0)] [(0, 2, (.t 9))] true),
oo 5 (.mv (.t 10))] [1, 5])
  (.seq (.seq (.reg [oo 11 (.mv (.t 1)),
oo 12 (.len 1 (.t 11)),
oo 13 (.mv (.c (Value.int IntKind.i64 0)))] [5, 11, 12, 13])
  (.block 0 (.loop [5, 11, 12, 13] m_syntax_with_L0)))
  (.seq (.reg [oo 21 (.mv (.t 5)),
oo 4 (.mv (.t 21))] [4])
  (.ret)))))⟩

-- 238 selfstab/term.one
def m_term_one : MF := ⟨8, [.tmp 2], true, (
  .seq (.reg [oo 2 (.mv (.c (Value.bool false)))] [0])
  (.seq (.reg [oo 3 (.mv (.t 0)),
oo 4 (.call 256 [.t 3, .c (Value.int IntKind.i64 0)]),
oo 5 (.mv (.t 0)),
oo 6 (.len 1 (.t 5)),
oo 7 (.bin .eql (.t 4) (.t 6)),
oo 2 (.mv (.t 7))] [2])
  (.ret)))⟩

-- 239 selfstab/term.Depth
def m_term_Depth : MF := ⟨5, [.tmp 2], true, (
  .seq (.reg [oo 2 (.mv (.c (Value.int IntKind.i64 0)))] [0])
  (.seq (.reg [oo 3 (.mv (.t 0)),
oo 4 (.call 258 [.t 3, .f 257]),
oo 2 (.mv (.t 4))] [2])
  (.ret)))⟩

-- 240 selfstab/term.Nest
def m_term_Nest : MF := ⟨5, [.tmp 2], true, (
  .seq (.reg [oo 2 (.mv (.c (Value.int IntKind.i64 0)))] [0])
  (.seq (.reg [oo 3 (.mv (.t 0)),
oo 4 (.call 258 [.t 3, .f 259]),
oo 2 (.mv (.t 4))] [2])
  (.ret)))⟩

-- 241 selfstab/term.limit
def m_term_limit : MF := ⟨13, [.tmp 4], true, (
  .seq (.reg [oo 4 (.mv (.c (Value.int IntKind.i64 0)))] [0, 1])
  (.seq (.seq (.reg [oo 5 (.mv (.t 0))] [1, 5])
  (.block 0 (.seq (.reg [oo 7 (.bin .eql (.t 5) (.c (Value.int IntKind.i64 1))),
oo 6 (.mv (.t 7))] [1, 5, 6])
   (.cond (.t 6) (.seq (.reg [oo 4 (.mv (.c (Value.int IntKind.i64 1073741824)))] [4])
    (.ret))
    (.seq (.seq (.reg [oo 9 (.bin .eql (.t 5) (.c (Value.int IntKind.i64 5))),
oo 8 (.mv (.t 9))] [1, 5, 8])
    (.cond (.t 8) (.skip)
     (.reg [oo 10 (.bin .eql (.t 5) (.c (Value.int IntKind.i64 12))),
oo 8 (.mv (.t 10))] [1, 8])))
    (.cond (.t 8) (.seq (.reg [oo 11 (.mv (.t 1)),
oo 12 (.bin .sub (.t 11) (.c (Value.int IntKind.i64 1))),
oo 4 (.mv (.t 12))] [4])
     (.ret))
     (.skip)))))))
  (.seq (.reg [oo 4 (.mv (.c (Value.int IntKind.i64 0)))] [4])
  (.ret))))⟩

-- 242 (*selfstab/types.checker).read
def m_types_checker_read : MF := ⟨159, [.tmp 4], false, (
  .seq (.reg [oo 4 (.mv (.c (Value.int IntKind.i64 0)))] [0, 1])
  (.seq (.reg [oo 8 (.mv (.t 0)),
oo 9 (.nck (.t 8)),
oo 10 (.fadr 0 (.t 9)),
oo 11 (.load (none) (.t 10)),
oo 12 (.mv (.t 0)),
oo 13 (.nck (.t 12)),
oo 14 (.fadr 2 (.t 13)),
oo 15 (.load (none) (.t 14)),
oo 16 (.iadr 2 (.t 11) (.t 15)),
oo 17 (.load (some 2) (.t 16)),
oo 5 (.alloc [.v (Value.int .i64 0), .v (Value.int .i64 0)]),
nn (.store 2 (.t 5) (.t 17))] [0, 1, 5])
  (.seq (.reg [oo 18 (.mv (.t 0)),
oo 19 (.nck (.t 18)),
oo 20 (.fadr 2 (.t 19)),
oo 21 (.load (none) (.t 20)),
oo 22 (.bin .add (.t 21) (.c (Value.int IntKind.i64 1))),
oo 23 (.nck (.t 18)),
oo 24 (.fadr 2 (.t 23)),
nn (.store 1 (.t 24) (.t 22))] [0, 1, 5])
  (.seq (.reg [oo 25 (.mv (.t 1)),
oo 26 (.mv (.t 25)),
⟨some 27, .fadr 0 (.t 5), some (26, false)⟩,
⟨some 28, .load (none) (.t 27), some (26, false)⟩,
⟨some 29, .bin .geq (.t 28) (.c (Value.int IntKind.i64 20)), some (26, false)⟩,
⟨some 30, .mv (.t 29), some (26, false)⟩,
⟨some 31, .fadr 0 (.t 5), some (30, true)⟩,
⟨some 32, .load (none) (.t 31), some (30, true)⟩,
⟨some 33, .bin .leq (.t 32) (.c (Value.int IntKind.i64 29)), some (30, true)⟩,
⟨some 34, .pick (.t 30) (.t 33) (.c (Value.bool false)), some (26, false)⟩,
oo 35 (.pick (.t 26) (.c (Value.bool true)) (.t 34)),
oo 6 (.mv (.t 35))] [0, 1, 5, 6])
  (.seq (.reg [oo 36 (.mv (.t 0)),
oo 37 (.fadr 0 (.t 5)),
oo 38 (.load (none) (.t 37)),
oo 39 (.call 260 [.t 38]),
oo 40 (.mv (.t 6)),
oo 41 (.call 261 [.t 36, .t 39, .t 40]),
oo 7 (.mv (.t 41))] [0, 1, 5, 7])
  (.seq (.seq (.reg [oo 42 (.fadr 0 (.t 5)),
oo 43 (.load (none) (.t 42))] [0, 1, 5, 7, 43])
  (.block 0 (.seq (.seq (.reg [oo 45 (.bin .eql (.t 43) (.c (Value.int IntKind.i64 1))),
oo 44 (.mv (.t 45))] [0, 1, 5, 7, 43, 44])
   (.cond (.t 44) (.skip)
    (.seq (.reg [oo 46 (.bin .eql (.t 43) (.c (Value.int IntKind.i64 6))),
oo 44 (.mv (.t 46))] [0, 1, 5, 7, 43, 44])
    (.cond (.t 44) (.skip)
     (.seq (.reg [oo 47 (.bin .eql (.t 43) (.c (Value.int IntKind.i64 7))),
oo 44 (.mv (.t 47))] [0, 1, 5, 7, 43, 44])
     (.cond (.t 44) (.skip)
      (.seq (.reg [oo 48 (.bin .eql (.t 43) (.c (Value.int IntKind.i64 8))),
oo 44 (.mv (.t 48))] [0, 1, 5, 7, 43, 44])
      (.cond (.t 44) (.skip)
       (.reg [oo 49 (.bin .eql (.t 43) (.c (Value.int IntKind.i64 9))),
oo 44 (.mv (.t 49))] [0, 1, 5, 7, 43, 44])))))))))
   (.cond (.t 44) (.seq (.reg [oo 4 (.mv (.c (Value.int IntKind.i64 1)))] [4])
    (.ret))
    (.seq (.seq (.reg [oo 51 (.bin .eql (.t 43) (.c (Value.int IntKind.i64 13))),
oo 50 (.mv (.t 51))] [0, 1, 5, 7, 43, 50])
    (.cond (.t 50) (.skip)
     (.seq (.reg [oo 52 (.bin .eql (.t 43) (.c (Value.int IntKind.i64 14))),
oo 50 (.mv (.t 52))] [0, 1, 5, 7, 43, 50])
     (.cond (.t 50) (.skip)
      (.reg [oo 53 (.bin .eql (.t 43) (.c (Value.int IntKind.i64 16))),
oo 50 (.mv (.t 53))] [0, 1, 5, 7, 43, 50])))))
    (.cond (.t 50) (.seq (.reg [oo 54 (.mv (.t 1)),
oo 55 (.call 262 [.t 54, .c (Value.int IntKind.i64 1)]),
oo 4 (.mv (.t 55))] [4])
     (.ret))
     (.seq (.seq (.reg [oo 57 (.bin .eql (.t 43) (.c (Value.int IntKind.i64 2))),
oo 56 (.mv (.t 57))] [0, 1, 5, 7, 43, 56])
     (.cond (.t 56) (.skip)
      (.seq (.reg [oo 58 (.bin .eql (.t 43) (.c (Value.int IntKind.i64 3))),
oo 56 (.mv (.t 58))] [0, 1, 5, 7, 43, 56])
      (.cond (.t 56) (.skip)
       (.reg [oo 59 (.bin .eql (.t 43) (.c (Value.int IntKind.i64 10))),
oo 56 (.mv (.t 59))] [0, 1, 5, 7, 43, 56])))))
     (.cond (.t 56) (.seq (.reg [oo 4 (.mv (.c (Value.int IntKind.i64 2)))] [4])
      (.ret))
      (.seq (.reg [oo 61 (.bin .eql (.t 43) (.c (Value.int IntKind.i64 15))),
oo 60 (.mv (.t 61))] [0, 1, 5, 7, 43, 60])
      (.cond (.t 60) (.seq (.reg [oo 62 (.mv (.t 1)),
oo 63 (.call 262 [.t 62, .c (Value.int IntKind.i64 2)]),
oo 4 (.mv (.t 63))] [4])
       (.ret))
       (.seq (.reg [oo 65 (.bin .eql (.t 43) (.c (Value.int IntKind.i64 4))),
oo 64 (.mv (.t 65))] [0, 1, 5, 7, 43, 64])
       (.cond (.t 64) (.seq (.reg [oo 4 (.mv (.c (Value.int IntKind.i64 3)))] [4])
        (.ret))
        (.seq (.seq (.reg [oo 67 (.bin .eql (.t 43) (.c (Value.int IntKind.i64 11))),
oo 66 (.mv (.t 67))] [0, 1, 5, 7, 43, 66])
        (.cond (.t 66) (.skip)
         (.reg [oo 68 (.bin .eql (.t 43) (.c (Value.int IntKind.i64 17))),
oo 66 (.mv (.t 68))] [0, 1, 5, 7, 43, 66])))
        (.cond (.t 66) (.seq (.reg [oo 69 (.mv (.t 1)),
oo 70 (.call 262 [.t 69, .c (Value.int IntKind.i64 3)]),
oo 4 (.mv (.t 70))] [4])
         (.ret))
         (.seq (.reg [oo 72 (.bin .eql (.t 43) (.c (Value.int IntKind.i64 5))),
oo 71 (.mv (.t 72))] [0, 1, 5, 7, 43, 71])
         (.cond (.t 71) (.seq (.reg [oo 73 (.mv (.t 0)),
oo 74 (.nck (.t 73)),
oo 75 (.fadr 1 (.t 74)),
oo 76 (.load (none) (.t 75)),
oo 77 (.fadr 1 (.t 5)),
oo 78 (.load (none) (.t 77)),
oo 79 (.iadr 1 (.t 76) (.t 78)),
oo 80 (.load (none) (.t 79)),
oo 4 (.mv (.t 80))] [4])
          (.ret))
          (.seq (.reg [oo 82 (.bin .eql (.t 43) (.c (Value.int IntKind.i64 12))),
oo 81 (.mv (.t 82))] [0, 1, 5, 7, 43, 81])
          (.cond (.t 81) (.seq (.reg [oo 83 (.mv (.t 1)),
oo 84 (.mv (.t 0)),
oo 85 (.nck (.t 84)),
oo 86 (.fadr 1 (.t 85)),
oo 87 (.load (none) (.t 86)),
oo 88 (.fadr 1 (.t 5)),
oo 89 (.load (none) (.t 88)),
oo 90 (.iadr 1 (.t 87) (.t 89)),
oo 91 (.load (none) (.t 90)),
oo 92 (.call 262 [.t 83, .t 91]),
oo 4 (.mv (.t 92))] [4])
           (.ret))
           (.seq (.seq (.reg [oo 94 (.bin .eql (.t 43) (.c (Value.int IntKind.i64 19))),
oo 93 (.mv (.t 94))] [7, 43, 93])
           (.cond (.t 93) (.skip)
            (.seq (.reg [oo 95 (.bin .eql (.t 43) (.c (Value.int IntKind.i64 20))),
oo 93 (.mv (.t 95))] [7, 43, 93])
            (.cond (.t 93) (.skip)
             (.seq (.reg [oo 96 (.bin .eql (.t 43) (.c (Value.int IntKind.i64 21))),
oo 93 (.mv (.t 96))] [7, 43, 93])
             (.cond (.t 93) (.skip)
              (.seq (.reg [oo 97 (.bin .eql (.t 43) (.c (Value.int IntKind.i64 41))),
oo 93 (.mv (.t 97))] [7, 43, 93])
              (.cond (.t 93) (.skip)
               (.reg [oo 98 (.bin .eql (.t 43) (.c (Value.int IntKind.i64 42))),
oo 93 (.mv (.t 98))] [7, 43, 93])))))))))
           (.cond (.t 93) (.seq (.reg [oo 99 (.mv (.t 7)),
oo 100 (.call 263 [.t 99, .c (Value.int IntKind.i64 2)]),
oo 101 (.call 262 [.t 100, .c (Value.int IntKind.i64 2)]),
oo 4 (.mv (.t 101))] [4])
            (.ret))
            (.seq (.reg [oo 103 (.bin .eql (.t 43) (.c (Value.int IntKind.i64 22))),
oo 102 (.mv (.t 103))] [7, 43, 102])
            (.cond (.t 102) (.seq (.reg [oo 104 (.mv (.t 7)),
oo 105 (.call 263 [.t 104, .c (Value.int IntKind.i64 2)]),
oo 106 (.call 262 [.t 105, .c (Value.int IntKind.i64 1)]),
oo 4 (.mv (.t 106))] [4])
             (.ret))
             (.seq (.reg [oo 108 (.bin .eql (.t 43) (.c (Value.int IntKind.i64 23))),
oo 107 (.mv (.t 108))] [7, 43, 107])
             (.cond (.t 107) (.seq (.reg [oo 109 (.mv (.t 7)),
oo 110 (.call 263 [.t 109, .c (Value.int IntKind.i64 2)]),
oo 111 (.call 262 [.t 110, .c (Value.int IntKind.i64 3)]),
oo 4 (.mv (.t 111))] [4])
              (.ret))
              (.seq (.seq (.reg [oo 113 (.bin .eql (.t 43) (.c (Value.int IntKind.i64 35))),
oo 112 (.mv (.t 113))] [7, 43, 112])
              (.cond (.t 112) (.skip)
               (.reg [oo 114 (.bin .eql (.t 43) (.c (Value.int IntKind.i64 36))),
oo 112 (.mv (.t 114))] [7, 43, 112])))
              (.cond (.t 112) (.seq (.reg [oo 115 (.mv (.t 7)),
oo 116 (.iadr 1 (.t 115) (.c (Value.int IntKind.i64 0))),
oo 117 (.load (none) (.t 116)),
oo 118 (.call 204 [.t 117]),
oo 119 (.mv (.t 118)),
⟨some 120, .mv (.t 7), some (119, true)⟩,
⟨some 121, .iadr 1 (.t 120) (.c (Value.int IntKind.i64 0)), some (119, true)⟩,
⟨some 122, .load (none) (.t 121), some (119, true)⟩,
⟨some 123, .mv (.t 7), some (119, true)⟩,
⟨some 124, .iadr 1 (.t 123) (.c (Value.int IntKind.i64 1)), some (119, true)⟩,
⟨some 125, .load (none) (.t 124), some (119, true)⟩,
⟨some 126, .bin .eql (.t 122) (.t 125), some (119, true)⟩,
oo 127 (.pick (.t 119) (.t 126) (.c (Value.bool false))),
oo 128 (.call 262 [.t 127, .c (Value.int IntKind.i64 2)]),
oo 4 (.mv (.t 128))] [4])
               (.ret))
               (.seq (.seq (.reg [oo 130 (.bin .eql (.t 43) (.c (Value.int IntKind.i64 37))),
oo 129 (.mv (.t 130))] [7, 43, 129])
               (.cond (.t 129) (.skip)
                (.seq (.reg [oo 131 (.bin .eql (.t 43) (.c (Value.int IntKind.i64 38))),
oo 129 (.mv (.t 131))] [7, 43, 129])
                (.cond (.t 129) (.skip)
                 (.seq (.reg [oo 132 (.bin .eql (.t 43) (.c (Value.int IntKind.i64 39))),
oo 129 (.mv (.t 132))] [7, 43, 129])
                 (.cond (.t 129) (.skip)
                  (.reg [oo 133 (.bin .eql (.t 43) (.c (Value.int IntKind.i64 40))),
oo 129 (.mv (.t 133))] [7, 43, 129])))))))
               (.cond (.t 129) (.seq (.reg [oo 134 (.mv (.t 7)),
oo 135 (.call 263 [.t 134, .c (Value.int IntKind.i64 1)]),
oo 136 (.call 262 [.t 135, .c (Value.int IntKind.i64 2)]),
oo 4 (.mv (.t 136))] [4])
                (.ret))
                (.seq (.reg [oo 138 (.bin .eql (.t 43) (.c (Value.int IntKind.i64 43))),
oo 137 (.mv (.t 138))] [7, 137])
                (.cond (.t 137) (.seq (.reg [oo 139 (.mv (.t 7)),
oo 140 (.iadr 1 (.t 139) (.c (Value.int IntKind.i64 0))),
oo 141 (.load (none) (.t 140)),
oo 142 (.bin .eql (.t 141) (.c (Value.int IntKind.i64 2))),
oo 143 (.mv (.t 142)),
⟨some 144, .mv (.t 7), some (143, true)⟩,
⟨some 145, .iadr 1 (.t 144) (.c (Value.int IntKind.i64 1)), some (143, true)⟩,
⟨some 146, .load (none) (.t 145), some (143, true)⟩,
⟨some 147, .mv (.t 7), some (143, true)⟩,
⟨some 148, .iadr 1 (.t 147) (.c (Value.int IntKind.i64 2)), some (143, true)⟩,
⟨some 149, .load (none) (.t 148), some (143, true)⟩,
⟨some 150, .bin .eql (.t 146) (.t 149), some (143, true)⟩,
oo 151 (.pick (.t 143) (.t 150) (.c (Value.bool false))),
oo 152 (.mv (.t 7)),
oo 153 (.iadr 1 (.t 152) (.c (Value.int IntKind.i64 1))),
oo 154 (.load (none) (.t 153)),
oo 155 (.call 262 [.t 151, .t 154]),
oo 4 (.mv (.t 155))] [4])
                 (.ret))
                 (.skip)))))))))))))))))))))))))))))))
  (.seq (.reg [oo 156 (.mv (.t 7)),
oo 157 (.call 263 [.t 156, .c (Value.int IntKind.i64 1)]),
oo 158 (.call 262 [.t 157, .c (Value.int IntKind.i64 1)]),
oo 4 (.mv (.t 158))] [4])
  (.ret))))))))⟩

-- 244 slices.IndexFunc[[]selfstab/api.Rule,selfstab/api.Rule]
def m_slices_IndexFunc_api_Rule_api_Rule_L0 : MC :=
  .seq (.reg [oo 9 (.bin .lss (.t 8) (.t 7))] [0, 1, 7, 8, 9])
  (.seq (.cond (.t 9) (.skip)
   (.exit 0))
  (.seq (.block 1 (.seq (.reg [oo 10 (.mv (.t 8)),
oo 5 (.mv (.t 10))] [0, 1, 5, 7, 8])
   (.seq (.reg [oo 11 (.mv (.t 1)),
oo 12 (.mv (.t 0)),
oo 13 (.mv (.t 5)),
oo 14 (.iadr 3 (.t 12) (.t 13)),
oo 15 (.load (some 3) (.t 14)),
oo 16 (.callv (.t 11) [.t 15])] [0, 1, 5, 7, 8, 16])
   (.cond (.t 16) (.seq (.reg [oo 17 (.mv (.t 5)),
oo 4 (.mv (.t 17))] [4])
    (.ret))
    (.skip)))))
  (.reg [oo 18 (.bin .add (.t 8) (.c (Value.int IntKind.i64 1))),
oo 8 (.mv (.t 18))] [0, 1, 7, 8])))

def m_slices_IndexFunc_api_Rule_api_Rule : MF := ⟨19, [.tmp 4], false, (
  .seq (.reg [oo 4 (.mv (.c (Value.int IntKind.i64 0)))] [0, 1])
  (.seq (.seq (.reg [oo 6 (.mv (.t 0)),
oo 7 (.len 1 (.t 6)),
oo 8 (.mv (.c (Value.int IntKind.i64 0)))] [0, 1, 7, 8])
  (.block 0 (.loop [0, 1, 7, 8] m_slices_IndexFunc_api_Rule_api_Rule_L0)))
  (.seq (.reg [oo 4 (.mv (.c (Value.int IntKind.i64 (-1))))] [4])
  (.ret))))⟩

-- 243 (*selfstab/interp.World).Rule$1
def m_interp_World_Rule_1 : MF := ⟨13, [.tmp 5], false, (
  .seq (.reg [oo 4 (.box 3 (.t 0)),
oo 5 (.mv (.c (Value.bool false)))] [1, 2, 3, 4])
  (.seq (.reg [oo 6 (.load (none) (.t 1)),
oo 7 (.load (none) (.t 2)),
oo 8 (.load (none) (.t 3)),
oo 9 (.fadr 1 (.t 4)),
oo 10 (.load (none) (.t 9)),
oo 11 (.call 250 [.t 6, .t 7, .t 8, .t 10]),
oo 12 (.call 264 [.t 11]),
oo 5 (.mv (.t 12))] [5])
  (.ret)))⟩

-- 264 selfstab/interp.isTrue
def m_interp_isTrue : MF := ⟨5, [.tmp 2], true, (
  .seq (.reg [oo 2 (.mv (.c (Value.bool false)))] [0])
  (.seq (.reg [oo 3 (.mv (.t 0)),
oo 4 (.bin .neq (.t 3) (.c (Value.int IntKind.i64 0))),
oo 2 (.mv (.t 4))] [2])
  (.ret)))⟩

-- 250 (*selfstab/interp.World).Value
def m_interp_World_Value : MF := ⟨16, [.tmp 8], false, (
  .seq (.reg [oo 8 (.mv (.c (Value.int IntKind.i64 0)))] [0, 1, 2, 3])
  (.seq (.reg [oo 10 (.mv (.t 0)),
oo 11 (.mv (.t 1)),
oo 12 (.mv (.t 2)),
oo 13 (.mv (.t 3)),
oo 14 (.build [.v (Value.pointer none), .v (Value.slice none 0 0), .v (Value.int .i64 0), .v (Value.slice none 0 0), .v (Value.int .i64 0)] [(0, 1, (.t 10)), (1, 1, (.t 11)), (2, 1, (.t 12)), (3, 1, (.t 13))]),
oo 9 (.new [.v (Value.pointer none), .v (Value.slice none 0 0), .v (Value.int .i64 0), .v (Value.slice none 0 0), .v (Value.int .i64 0)]),
nn (.store 5 (.t 9) (.t 14))] [9])
  (.seq (.reg [oo 15 (.call 265 [.t 9, .c (Value.int IntKind.i64 (-1))]),
oo 8 (.mv (.t 15))] [8])
  (.ret))))⟩

-- 248 selfstab/domain.check
def m_domain_check : MF := ⟨11, [.tmp 4], true, (
  .seq (.reg [oo 2 (.box 3 (.t 0)),
oo 3 (.box 2 (.t 1)),
oo 4 (.mv (.c (Value.int IntKind.i64 0)))] [2, 3])
  (.seq (.seq (.reg [oo 5 (.load (some 3) (.t 2)),
oo 6 (.call 275 [.t 5]),
oo 7 (.un .not (.t 6))] [3, 7])
  (.cond (.t 7) (.seq (.reg [oo 4 (.mv (.c (Value.int IntKind.i64 8)))] [4])
   (.ret))
   (.skip)))
  (.seq (.seq (.reg [oo 8 (.load (some 2) (.t 3)),
oo 9 (.call 32 [.t 8]),
oo 10 (.un .not (.t 9))] [10])
  (.cond (.t 10) (.seq (.reg [oo 4 (.mv (.c (Value.int IntKind.i64 1)))] [4])
   (.ret))
   (.skip)))
  (.seq (.reg [oo 4 (.mv (.c (Value.int IntKind.i64 0)))] [4])
  (.ret)))))⟩

-- 249 selfstab/domain.ends
def m_domain_ends : MF := ⟨18, [.tmp 6, .tmp 7], true, (
  .seq (.reg [oo 3 (.box 6 (.t 0)),
oo 4 (.box 2 (.t 1)),
oo 6 (.mv (.c (Value.int IntKind.i64 0))),
oo 7 (.mv (.c (Value.int IntKind.i64 0)))] [2, 3, 4])
  (.seq (.regd [0, 0, 2, 7, 0, 0, 0, 127, 255, 255, 1023, 2047] [oo 8 (.call 276 []),
oo 9 (.fadr 1 (.t 3)),
oo 10 (.load (none) (.t 9)),
oo 11 (.look false [0] (.v (Value.nilFunc)) false (.t 8) (.t 10)),
oo 12 (.load (some 6) (.t 3)),
oo 13 (.load (some 2) (.t 4)),
oo 14 (.mv (.t 2)),
oo 15 (.callv (.t 11) [.t 12, .t 13, .t 14]),
oo 16 (.ext (.t 15) 0),
oo 17 (.ext (.t 15) 1),
oo 6 (.mv (.t 16)),
oo 7 (.mv (.t 17))] [6, 7])
  (.ret)))⟩

-- 109 slices.siftDownCmpFunc[[2]int]
def m_slices_siftDownCmpFunc_2_int_L0 : MC :=
  .block 1 (.seq (.reg [oo 13 (.mv (.t 10)),
oo 14 (.bin .mul (.c (Value.int IntKind.i64 2)) (.t 13)),
oo 15 (.bin .add (.t 14) (.c (Value.int IntKind.i64 1))),
oo 11 (.mv (.t 15))] [0, 2, 3, 4, 10, 11])
   (.seq (.seq (.reg [oo 16 (.mv (.t 11)),
oo 17 (.mv (.t 2)),
oo 18 (.bin .geq (.t 16) (.t 17))] [0, 2, 3, 4, 10, 11, 18])
   (.cond (.t 18) (.exit 0)
    (.skip)))
   (.seq (.seq (.reg [oo 19 (.mv (.t 11)),
oo 20 (.bin .add (.t 19) (.c (Value.int IntKind.i64 1))),
oo 21 (.mv (.t 2)),
oo 22 (.bin .lss (.t 20) (.t 21)),
oo 23 (.mv (.t 22)),
⟨some 24, .mv (.t 4), some (23, true)⟩,
⟨some 25, .mv (.t 0), some (23, true)⟩,
⟨some 26, .mv (.t 3), some (23, true)⟩,
⟨some 27, .mv (.t 11), some (23, true)⟩,
⟨some 28, .bin .add (.t 26) (.t 27), some (23, true)⟩,
⟨some 29, .iadr 2 (.t 25) (.t 28), some (23, true)⟩,
⟨some 30, .load (some 2) (.t 29), some (23, true)⟩,
⟨some 31, .mv (.t 0), some (23, true)⟩,
⟨some 32, .mv (.t 3), some (23, true)⟩,
⟨some 33, .mv (.t 11), some (23, true)⟩,
⟨some 34, .bin .add (.t 32) (.t 33), some (23, true)⟩,
⟨some 35, .bin .add (.t 34) (.c (Value.int IntKind.i64 1)), some (23, true)⟩,
⟨some 36, .iadr 2 (.t 31) (.t 35), some (23, true)⟩,
⟨some 37, .load (some 2) (.t 36), some (23, true)⟩,
⟨some 38, .callv (.t 24) [.t 30, .t 37], some (23, true)⟩,
⟨some 39, .bin .lss (.t 38) (.c (Value.int IntKind.i64 0)), some (23, true)⟩,
oo 40 (.pick (.t 23) (.t 39) (.c (Value.bool false)))] [0, 2, 3, 4, 10, 11, 40])
   (.cond (.t 40) (.reg [oo 41 (.mv (.t 11)),
oo 42 (.bin .add (.t 41) (.c (Value.int IntKind.i64 1))),
oo 11 (.mv (.t 42))] [0, 2, 3, 4, 10, 11])
    (.skip)))
   (.seq (.seq (.reg [oo 43 (.mv (.t 4)),
oo 44 (.mv (.t 0)),
oo 45 (.mv (.t 3)),
oo 46 (.mv (.t 10)),
oo 47 (.bin .add (.t 45) (.t 46)),
oo 48 (.iadr 2 (.t 44) (.t 47)),
oo 49 (.load (some 2) (.t 48)),
oo 50 (.mv (.t 0)),
oo 51 (.mv (.t 3)),
oo 52 (.mv (.t 11)),
oo 53 (.bin .add (.t 51) (.t 52)),
oo 54 (.iadr 2 (.t 50) (.t 53)),
oo 55 (.load (some 2) (.t 54)),
oo 56 (.callv (.t 43) [.t 49, .t 55]),
oo 57 (.bin .lss (.t 56) (.c (Value.int IntKind.i64 0))),
oo 58 (.un .not (.t 57))] [0, 2, 3, 4, 10, 11, 58])
   (.cond (.t 58) (.ret)
    (.skip)))
   (.seq (.reg [oo 59 (.mv (.t 0)),
oo 60 (.mv (.t 3)),
oo 61 (.mv (.t 10)),
oo 62 (.bin .add (.t 60) (.t 61)),
oo 63 (.mv (.t 0)),
oo 64 (.mv (.t 3)),
oo 65 (.mv (.t 11)),
oo 66 (.bin .add (.t 64) (.t 65)),
oo 67 (.mv (.t 0)),
oo 68 (.mv (.t 3)),
oo 69 (.mv (.t 11)),
oo 70 (.bin .add (.t 68) (.t 69)),
oo 71 (.iadr 2 (.t 67) (.t 70)),
oo 72 (.load (some 2) (.t 71)),
oo 73 (.mv (.t 0)),
oo 74 (.mv (.t 3)),
oo 75 (.mv (.t 10)),
oo 76 (.bin .add (.t 74) (.t 75)),
oo 77 (.iadr 2 (.t 73) (.t 76)),
oo 78 (.load (some 2) (.t 77)),
oo 79 (.iadr 2 (.t 59) (.t 62)),
nn (.store 2 (.t 79) (.t 72)),
oo 80 (.iadr 2 (.t 63) (.t 66)),
nn (.store 2 (.t 80) (.t 78))] [0, 2, 3, 4, 11])
   (.reg [oo 81 (.mv (.t 11)),
oo 10 (.mv (.t 81))] [0, 2, 3, 4, 10]))))))

def m_slices_siftDownCmpFunc_2_int : MF := ⟨82, [], true, (
  .seq (.reg [oo 12 (.mv (.t 1)),
oo 10 (.mv (.t 12))] [0, 2, 3, 4, 10])
  (.block 0 (.loop [0, 2, 3, 4, 10] m_slices_siftDownCmpFunc_2_int_L0)))⟩

-- 105 slices.nextPowerOfTwo
def m_slices_nextPowerOfTwo : MF := ⟨7, [.tmp 2], true, (
  .seq (.reg [oo 2 (.mv (.c (Value.int IntKind.u64 0)))] [0])
  (.seq (.reg [oo 3 (.mv (.t 0)),
oo 4 (.conv .u64 (.t 3)),
oo 5 (.call 73 [.t 4]),
oo 6 (.bin .shl (.c (Value.int IntKind.u64 1)) (.t 5)),
oo 2 (.mv (.t 6))] [2])
  (.ret)))⟩

-- 106 (*slices.xorshift).Next
def m_slices_xorshift_Next : MF := ⟨33, [.tmp 2], true, (
  .seq (.reg [oo 2 (.mv (.c (Value.int IntKind.u64 0)))] [0])
  (.seq (.reg [oo 3 (.mv (.t 0)),
oo 4 (.nck (.t 3)),
oo 5 (.load (none) (.t 4)),
oo 6 (.mv (.t 0)),
oo 7 (.nck (.t 6)),
oo 8 (.load (none) (.t 7)),
oo 9 (.bin .shl (.t 8) (.c (Value.int IntKind.u64 13))),
oo 10 (.bin .xor (.t 5) (.t 9)),
oo 11 (.nck (.t 3)),
nn (.store 1 (.t 11) (.t 10))] [0])
  (.seq (.reg [oo 12 (.mv (.t 0)),
oo 13 (.nck (.t 12)),
oo 14 (.load (none) (.t 13)),
oo 15 (.mv (.t 0)),
oo 16 (.nck (.t 15)),
oo 17 (.load (none) (.t 16)),
oo 18 (.bin .shr (.t 17) (.c (Value.int IntKind.u64 7))),
oo 19 (.bin .xor (.t 14) (.t 18)),
oo 20 (.nck (.t 12)),
nn (.store 1 (.t 20) (.t 19))] [0])
  (.seq (.reg [oo 21 (.mv (.t 0)),
oo 22 (.nck (.t 21)),
oo 23 (.load (none) (.t 22)),
oo 24 (.mv (.t 0)),
oo 25 (.nck (.t 24)),
oo 26 (.load (none) (.t 25)),
oo 27 (.bin .shl (.t 26) (.c (Value.int IntKind.u64 17))),
oo 28 (.bin .xor (.t 23) (.t 27)),
oo 29 (.nck (.t 21)),
nn (.store 1 (.t 29) (.t 28))] [0])
  (.seq (.reg [oo 30 (.mv (.t 0)),
oo 31 (.nck (.t 30)),
oo 32 (.load (none) (.t 31)),
oo 2 (.mv (.t 32))] [2])
  (.ret))))))⟩

-- 110 slices.medianAdjacentCmpFunc[[2]int]
def m_slices_medianAdjacentCmpFunc_2_int : MF := ⟨18, [.tmp 8], true, (
  .seq (.reg [oo 8 (.mv (.c (Value.int IntKind.i64 0)))] [0, 1, 2, 3])
  (.seq (.reg [oo 9 (.mv (.t 0)),
oo 10 (.mv (.t 1)),
oo 11 (.bin .sub (.t 10) (.c (Value.int IntKind.i64 1))),
oo 12 (.mv (.t 1)),
oo 13 (.mv (.t 1)),
oo 14 (.bin .add (.t 13) (.c (Value.int IntKind.i64 1))),
oo 15 (.mv (.t 2)),
oo 16 (.mv (.t 3)),
oo 17 (.call 111 [.t 9, .t 11, .t 12, .t 14, .t 15, .t 16]),
oo 8 (.mv (.t 17))] [8])
  (.ret)))⟩

-- 111 slices.medianCmpFunc[[2]int]
def m_slices_medianCmpFunc_2_int : MF := ⟨41, [.tmp 12], true, (
  .seq (.reg [oo 12 (.mv (.c (Value.int IntKind.i64 0)))] [0, 1, 2, 3, 4, 5])
  (.seq (.reg [oo 14 (.mv (.t 0)),
oo 15 (.mv (.t 1)),
oo 16 (.mv (.t 2)),
oo 17 (.mv (.t 4)),
oo 18 (.mv (.t 5)),
oo 19 (.call 113 [.t 14, .t 15, .t 16, .t 17, .t 18]),
oo 13 (.mv (.t 19)),
oo 20 (.ext (.t 13) 0),
oo 21 (.ext (.t 13) 1),
oo 1 (.mv (.t 20)),
oo 2 (.mv (.t 21))] [0, 1, 2, 3, 4, 5])
  (.seq (.reg [oo 23 (.mv (.t 0)),
oo 24 (.mv (.t 2)),
oo 25 (.mv (.t 3)),
oo 26 (.mv (.t 4)),
oo 27 (.mv (.t 5)),
oo 28 (.call 113 [.t 23, .t 24, .t 25, .t 26, .t 27]),
oo 22 (.mv (.t 28)),
oo 29 (.ext (.t 22) 0),
oo 30 (.ext (.t 22) 1),
oo 2 (.mv (.t 29)),
oo 3 (.mv (.t 30))] [0, 1, 2, 4, 5])
  (.seq (.reg [oo 32 (.mv (.t 0)),
oo 33 (.mv (.t 1)),
oo 34 (.mv (.t 2)),
oo 35 (.mv (.t 4)),
oo 36 (.mv (.t 5)),
oo 37 (.call 113 [.t 32, .t 33, .t 34, .t 35, .t 36]),
oo 31 (.mv (.t 37)),
oo 38 (.ext (.t 31) 0),
oo 39 (.ext (.t 31) 1),
oo 1 (.mv (.t 38)),
oo 2 (.mv (.t 39))] [2])
  (.seq (.reg [oo 40 (.mv (.t 2)),
oo 12 (.mv (.t 40))] [12])
  (.ret))))))⟩

-- 254 selfstab/syntax.Levels
def m_syntax_Levels : MF := ⟨17, [.tmp 0], true, (
  .seq (.reg [oo 0 (.mv (.c (Value.slice none 0 0)))] [])
  (.seq (.reg [oo 1 (.lit 1 [.v (Value.string ⟨#[]⟩)] [(0, 1, (.c (Value.string ⟨#[124, 124]⟩)))] false),
oo 2 (.lit 1 [.v (Value.int .i64 0)] [(0, 1, (.c (Value.int IntKind.i64 42)))] false),
oo 3 (.build [.v (Value.slice none 0 0), .v (Value.slice none 0 0)] [(0, 1, (.t 1)), (1, 1, (.t 2))]),
oo 4 (.lit 1 [.v (Value.string ⟨#[]⟩)] [(0, 1, (.c (Value.string ⟨#[38, 38]⟩)))] false),
oo 5 (.lit 1 [.v (Value.int .i64 0)] [(0, 1, (.c (Value.int IntKind.i64 41)))] false),
oo 6 (.build [.v (Value.slice none 0 0), .v (Value.slice none 0 0)] [(0, 1, (.t 4)), (1, 1, (.t 5))]),
oo 7 (.lit 1 [.v (Value.string ⟨#[]⟩), .v (Value.string ⟨#[]⟩), .v (Value.string ⟨#[]⟩), .v (Value.string ⟨#[]⟩), .v (Value.string ⟨#[]⟩), .v (Value.string ⟨#[]⟩)] [(0, 1, (.c (Value.string ⟨#[61, 61]⟩))), (1, 1, (.c (Value.string ⟨#[33, 61]⟩))), (2, 1, (.c (Value.string ⟨#[60]⟩))), (3, 1, (.c (Value.string ⟨#[60, 61]⟩))), (4, 1, (.c (Value.string ⟨#[62]⟩))), (5, 1, (.c (Value.string ⟨#[62, 61]⟩)))] false),
oo 8 (.lit 1 [.v (Value.int .i64 0), .v (Value.int .i64 0), .v (Value.int .i64 0), .v (Value.int .i64 0), .v (Value.int .i64 0), .v (Value.int .i64 0)] [(0, 1, (.c (Value.int IntKind.i64 35))), (1, 1, (.c (Value.int IntKind.i64 36))), (2, 1, (.c (Value.int IntKind.i64 37))), (3, 1, (.c (Value.int IntKind.i64 38))), (4, 1, (.c (Value.int IntKind.i64 39))), (5, 1, (.c (Value.int IntKind.i64 40)))] false),
oo 9 (.build [.v (Value.slice none 0 0), .v (Value.slice none 0 0)] [(0, 1, (.t 7)), (1, 1, (.t 8))]),
oo 10 (.lit 1 [.v (Value.string ⟨#[]⟩), .v (Value.string ⟨#[]⟩)] [(0, 1, (.c (Value.string ⟨#[43]⟩))), (1, 1, (.c (Value.string ⟨#[45]⟩)))] false),
oo 11 (.lit 1 [.v (Value.int .i64 0), .v (Value.int .i64 0)] [(0, 1, (.c (Value.int IntKind.i64 33))), (1, 1, (.c (Value.int IntKind.i64 34)))] false),
oo 12 (.build [.v (Value.slice none 0 0), .v (Value.slice none 0 0)] [(0, 1, (.t 10)), (1, 1, (.t 11))]),
oo 13 (.lit 1 [.v (Value.string ⟨#[]⟩), .v (Value.string ⟨#[]⟩), .v (Value.string ⟨#[]⟩)] [(0, 1, (.c (Value.string ⟨#[42]⟩))), (1, 1, (.c (Value.string ⟨#[47]⟩))), (2, 1, (.c (Value.string ⟨#[37]⟩)))] false),
oo 14 (.lit 1 [.v (Value.int .i64 0), .v (Value.int .i64 0), .v (Value.int .i64 0)] [(0, 1, (.c (Value.int IntKind.i64 30))), (1, 1, (.c (Value.int IntKind.i64 31))), (2, 1, (.c (Value.int IntKind.i64 32)))] false),
oo 15 (.build [.v (Value.slice none 0 0), .v (Value.slice none 0 0)] [(0, 1, (.t 13)), (1, 1, (.t 14))]),
oo 16 (.lit 2 [.v (Value.slice none 0 0), .v (Value.slice none 0 0), .v (Value.slice none 0 0), .v (Value.slice none 0 0), .v (Value.slice none 0 0), .v (Value.slice none 0 0), .v (Value.slice none 0 0), .v (Value.slice none 0 0), .v (Value.slice none 0 0), .v (Value.slice none 0 0)] [(0, 2, (.t 3)), (2, 2, (.t 6)), (4, 2, (.t 9)), (6, 2, (.t 12)), (8, 2, (.t 15))] false),
oo 0 (.mv (.t 16))] [0])
  (.ret)))⟩

-- 255 (*selfstab/syntax.Reader).unary
def m_syntax_Reader_unary : MF := ⟨20, [.tmp 2], false, (
  .seq (.reg [oo 2 (.mv (.c (Value.slice none 0 0)))] [0])
  (.seq (.seq (.reg [oo 3 (.mv (.t 0)),
oo 4 (.lit 1 [.v (Value.string ⟨#[]⟩), .v (Value.string ⟨#[]⟩)] [(0, 1, (.c (Value.string ⟨#[45]⟩))), (1, 1, (.c (Value.string ⟨#[33]⟩)))] false),
oo 5 (.call 195 [.t 3, .t 4])] [0, 5])
  (.block 0 (.seq (.reg [oo 7 (.bin .eql (.t 5) (.c (Value.string ⟨#[45]⟩))),
oo 6 (.mv (.t 7))] [0, 5, 6])
   (.cond (.t 6) (.seq (.reg [oo 8 (.mv (.t 0)),
oo 9 (.call 255 [.t 8]),
oo 10 (.lit 1 [.v (Value.slice none 0 0)] [(0, 1, (.t 9))] true),
oo 11 (.call 237 [.c (Value.int IntKind.i64 18), .t 10]),
oo 2 (.mv (.t 11))] [2])
    (.ret))
    (.seq (.reg [oo 13 (.bin .eql (.t 5) (.c (Value.string ⟨#[33]⟩))),
oo 12 (.mv (.t 13))] [0, 12])
    (.cond (.t 12) (.seq (.reg [oo 14 (.mv (.t 0)),
oo 15 (.call 255 [.t 14]),
oo 16 (.lit 1 [.v (Value.slice none 0 0)] [(0, 1, (.t 15))] true),
oo 17 (.call 237 [.c (Value.int IntKind.i64 19), .t 16]),
oo 2 (.mv (.t 17))] [2])
     (.ret))
     (.skip)))))))
  (.seq (.reg [oo 18 (.mv (.t 0)),
oo 19 (.call 279 [.t 18]),
oo 2 (.mv (.t 19))] [2])
  (.ret))))⟩

-- 256 selfstab/term.End
def m_term_End_L0 : MC :=
  .seq (.seq (.reg [oo 8 (.mv (.t 5)),
oo 9 (.bin .gtr (.t 8) (.c (Value.int IntKind.i64 0)))] [0, 1, 5, 9])
  (.cond (.t 9) (.skip)
   (.exit 0)))
  (.seq (.block 1 (.seq (.seq (.reg [oo 12 (.mv (.t 1)),
oo 13 (.mv (.t 0)),
oo 14 (.len 1 (.t 13)),
oo 15 (.bin .geq (.t 12) (.t 14)),
oo 16 (.mv (.t 15)),
⟨some 17, .mv (.t 0), some (16, false)⟩,
⟨some 18, .mv (.t 1), some (16, false)⟩,
⟨some 19, .iadr 2 (.t 17) (.t 18), some (16, false)⟩,
⟨some 20, .fadr 0 (.t 19), some (16, false)⟩,
⟨some 21, .load (none) (.t 20), some (16, false)⟩,
⟨some 22, .call 260 [.t 21], some (16, false)⟩,
⟨some 23, .bin .lss (.t 22) (.c (Value.int IntKind.i64 0)), some (16, false)⟩,
oo 24 (.pick (.t 16) (.c (Value.bool true)) (.t 23))] [0, 1, 5, 24])
   (.cond (.t 24) (.seq (.reg [oo 4 (.mv (.c (Value.int IntKind.i64 (-1))))] [4])
    (.ret))
    (.skip)))
   (.reg [oo 25 (.mv (.t 5)),
oo 26 (.mv (.t 0)),
oo 27 (.mv (.t 1)),
oo 28 (.iadr 2 (.t 26) (.t 27)),
oo 29 (.fadr 0 (.t 28)),
oo 30 (.load (none) (.t 29)),
oo 31 (.call 260 [.t 30]),
oo 32 (.bin .sub (.t 31) (.c (Value.int IntKind.i64 1))),
oo 33 (.bin .add (.t 25) (.t 32)),
oo 5 (.mv (.t 33))] [0, 1, 5])))
  (.reg [oo 10 (.mv (.t 1)),
oo 11 (.bin .add (.t 10) (.c (Value.int IntKind.i64 1))),
oo 1 (.mv (.t 11))] [0, 1, 5]))

def m_term_End : MF := ⟨35, [.tmp 4], true, (
  .seq (.reg [oo 4 (.mv (.c (Value.int IntKind.i64 0)))] [0, 1])
  (.seq (.seq (.reg [oo 6 (.mv (.t 1)),
oo 7 (.bin .lss (.t 6) (.c (Value.int IntKind.i64 0)))] [0, 1, 7])
  (.cond (.t 7) (.seq (.reg [oo 4 (.mv (.c (Value.int IntKind.i64 (-1))))] [4])
   (.ret))
   (.skip)))
  (.seq (.seq (.reg [oo 5 (.mv (.c (Value.int IntKind.i64 1)))] [0, 1, 5])
  (.block 0 (.loop [0, 1, 5] m_term_End_L0)))
  (.seq (.reg [oo 34 (.mv (.t 1)),
oo 4 (.mv (.t 34))] [4])
  (.ret)))))⟩

-- 258 selfstab/term.fold
def m_term_fold_L1 : MC :=
  .seq (.reg [oo 25 (.bin .lss (.t 24) (.t 23))] [0, 1, 5, 6, 7, 23, 24, 25])
  (.seq (.cond (.t 25) (.skip)
   (.exit 2))
  (.seq (.block 3 (.seq (.reg [oo 26 (.mv (.t 7)),
oo 27 (.mv (.t 5)),
oo 28 (.mv (.t 5)),
oo 29 (.len 1 (.t 28)),
oo 30 (.bin .sub (.t 29) (.c (Value.int IntKind.i64 1))),
oo 31 (.iadr 1 (.t 27) (.t 30)),
oo 32 (.load (none) (.t 31)),
oo 33 (.mx [.t 26, .t 32]),
oo 7 (.mv (.t 33))] [0, 1, 5, 6, 7, 23, 24])
   (.reg [oo 34 (.mv (.t 5)),
oo 35 (.mv (.t 5)),
oo 36 (.len 1 (.t 35)),
oo 37 (.bin .sub (.t 36) (.c (Value.int IntKind.i64 1))),
oo 38 (.slc 1 (.t 34) none (some (.t 37)) none),
oo 5 (.mv (.t 38))] [0, 1, 5, 6, 7, 23, 24])))
  (.reg [oo 39 (.bin .add (.t 24) (.c (Value.int IntKind.i64 1))),
oo 24 (.mv (.t 39))] [0, 1, 5, 6, 7, 23, 24])))

def m_term_fold_L0 : MC :=
  .seq (.seq (.reg [oo 14 (.mv (.t 6)),
oo 15 (.bin .geq (.t 14) (.c (Value.int IntKind.i64 0)))] [0, 1, 5, 6, 15])
  (.cond (.t 15) (.skip)
   (.exit 0)))
  (.seq (.block 1 (.seq (.reg [oo 7 (.mv (.c (Value.int IntKind.i64 0)))] [0, 1, 5, 6, 7])
   (.seq (.seq (.reg [oo 18 (.mv (.t 0)),
oo 19 (.mv (.t 6)),
oo 20 (.iadr 2 (.t 18) (.t 19)),
oo 21 (.fadr 0 (.t 20)),
oo 22 (.load (none) (.t 21)),
oo 23 (.call 260 [.t 22]),
oo 24 (.mv (.c (Value.int IntKind.i64 0)))] [0, 1, 5, 6, 7, 23, 24])
   (.block 2 (.loop [0, 1, 5, 6, 7, 23, 24] m_term_fold_L1)))
   (.reg [oo 40 (.mv (.t 5)),
oo 41 (.mv (.t 1)),
oo 42 (.mv (.t 0)),
oo 43 (.mv (.t 6)),
oo 44 (.iadr 2 (.t 42) (.t 43)),
oo 45 (.fadr 0 (.t 44)),
oo 46 (.load (none) (.t 45)),
oo 47 (.mv (.t 7)),
oo 48 (.callv (.t 41) [.t 46, .t 47]),
oo 49 (.lit 1 [.v (Value.int .i64 0)] [(0, 1, (.t 48))] false),
oo 50 (.app 1 8 (.t 40) (.t 49)),
oo 5 (.mv (.t 50))] [0, 1, 5, 6]))))
  (.reg [oo 16 (.mv (.t 6)),
oo 17 (.bin .sub (.t 16) (.c (Value.int IntKind.i64 1))),
oo 6 (.mv (.t 17))] [0, 1, 5, 6]))

def m_term_fold : MF := ⟨54, [.tmp 4], true, (
  .seq (.reg [oo 4 (.mv (.c (Value.int IntKind.i64 0)))] [0, 1])
  (.seq (.seq (.reg [oo 8 (.mv (.t 0)),
oo 9 (.call 238 [.t 8]),
oo 10 (.un .not (.t 9))] [0, 1, 10])
  (.cond (.t 10) (.seq (.reg [oo 4 (.mv (.c (Value.int IntKind.i64 0)))] [4])
   (.ret))
   (.skip)))
  (.seq (.reg [oo 5 (.mv (.c (Value.slice none 0 0)))] [0, 1, 5])
  (.seq (.seq (.reg [oo 11 (.mv (.t 0)),
oo 12 (.len 1 (.t 11)),
oo 13 (.bin .sub (.t 12) (.c (Value.int IntKind.i64 1))),
oo 6 (.mv (.t 13))] [0, 1, 5, 6])
  (.block 0 (.loop [0, 1, 5, 6] m_term_fold_L0)))
  (.seq (.reg [oo 51 (.mv (.t 5)),
oo 52 (.iadr 1 (.t 51) (.c (Value.int IntKind.i64 0))),
oo 53 (.load (none) (.t 52)),
oo 4 (.mv (.t 53))] [4])
  (.ret))))))⟩

-- 257 selfstab/term.Depth$1
def m_term_Depth_1 : MF := ⟨7, [.tmp 4], true, (
  .seq (.reg [oo 4 (.mv (.c (Value.int IntKind.i64 0)))] [1])
  (.seq (.reg [oo 5 (.mv (.t 1)),
oo 6 (.bin .add (.t 5) (.c (Value.int IntKind.i64 1))),
oo 4 (.mv (.t 6))] [4])
  (.ret)))⟩

-- 259 selfstab/term.Nest$1
def m_term_Nest_1 : MF := ⟨10, [.tmp 4], true, (
  .seq (.reg [oo 4 (.mv (.c (Value.int IntKind.i64 0)))] [0, 1])
  (.seq (.seq (.reg [oo 5 (.mv (.t 0)),
oo 6 (.call 280 [.t 5])] [1, 6])
  (.cond (.t 6) (.reg [oo 7 (.mv (.t 1)),
oo 8 (.bin .add (.t 7) (.c (Value.int IntKind.i64 1))),
oo 1 (.mv (.t 8))] [1])
   (.skip)))
  (.seq (.reg [oo 9 (.mv (.t 1)),
oo 4 (.mv (.t 9))] [4])
  (.ret))))⟩

-- 280 selfstab/term.aggregate
def m_term_aggregate : MF := ⟨9, [.tmp 2], true, (
  .seq (.reg [oo 2 (.mv (.c (Value.bool false)))] [0])
  (.seq (.reg [oo 3 (.mv (.t 0)),
oo 4 (.bin .geq (.t 3) (.c (Value.int IntKind.i64 20))),
oo 5 (.mv (.t 4)),
⟨some 6, .mv (.t 0), some (5, true)⟩,
⟨some 7, .bin .leq (.t 6) (.c (Value.int IntKind.i64 29)), some (5, true)⟩,
oo 8 (.pick (.t 5) (.t 7) (.c (Value.bool false))),
oo 2 (.mv (.t 8))] [2])
  (.ret)))⟩

-- 261 (*selfstab/types.checker).operands
def m_types_checker_operands_L0 : MC :=
  .seq (.reg [oo 14 (.bin .lss (.t 13) (.t 12))] [0, 2, 7, 12, 13, 14])
  (.seq (.cond (.t 14) (.skip)
   (.exit 0))
  (.seq (.block 1 (.seq (.reg [oo 15 (.mv (.t 13)),
oo 8 (.mv (.t 15))] [0, 2, 7, 8, 12, 13])
   (.reg [oo 16 (.mv (.t 7)),
oo 17 (.mv (.t 8)),
oo 18 (.mv (.t 0)),
oo 19 (.mv (.t 2)),
oo 20 (.call 242 [.t 18, .t 19]),
oo 21 (.iadr 1 (.t 16) (.t 17)),
nn (.store 1 (.t 21) (.t 20))] [0, 2, 7, 12, 13])))
  (.reg [oo 22 (.bin .add (.t 13) (.c (Value.int IntKind.i64 1))),
oo 13 (.mv (.t 22))] [0, 2, 7, 12, 13])))

def m_types_checker_operands : MF := ⟨24, [.tmp 6], false, (
  .seq (.reg [oo 6 (.mv (.c (Value.slice none 0 0)))] [0, 1, 2])
  (.seq (.reg [oo 9 (.mv (.t 1)),
oo 10 (.mks 1 8 [.v (Value.int .i64 0)] (.t 9) (.t 9)),
oo 7 (.mv (.t 10))] [0, 2, 7])
  (.seq (.seq (.reg [oo 11 (.mv (.t 7)),
oo 12 (.len 1 (.t 11)),
oo 13 (.mv (.c (Value.int IntKind.i64 0)))] [0, 2, 7, 12, 13])
  (.block 0 (.loop [0, 2, 7, 12, 13] m_types_checker_operands_L0)))
  (.seq (.reg [oo 23 (.mv (.t 7)),
oo 6 (.mv (.t 23))] [6])
  (.ret)))))⟩

-- 260 selfstab/term.Arity
def m_term_Arity : MF := ⟨19, [.tmp 2], true, (
  .seq (.reg [oo 2 (.mv (.c (Value.int IntKind.i64 0)))] [0])
  (.seq (.block 0 (.seq (.reg [oo 4 (.mv (.t 0)),
oo 5 (.bin .lss (.t 4) (.c (Value.int IntKind.i64 1))),
oo 6 (.mv (.t 5)),
⟨some 7, .mv (.t 0), some (6, false)⟩,
⟨some 8, .bin .gtr (.t 7) (.c (Value.int IntKind.i64 43)), some (6, false)⟩,
oo 9 (.pick (.t 6) (.c (Value.bool true)) (.t 8)),
oo 3 (.mv (.t 9))] [0, 3])
   (.cond (.t 3) (.seq (.reg [oo 2 (.mv (.c (Value.int IntKind.i64 (-1))))] [2])
    (.ret))
    (.seq (.reg [oo 11 (.mv (.t 0)),
oo 12 (.bin .leq (.t 11) (.c (Value.int IntKind.i64 17))),
oo 10 (.mv (.t 12))] [0, 10])
    (.cond (.t 10) (.seq (.reg [oo 2 (.mv (.c (Value.int IntKind.i64 0)))] [2])
     (.ret))
     (.seq (.reg [oo 14 (.mv (.t 0)),
oo 15 (.bin .leq (.t 14) (.c (Value.int IntKind.i64 29))),
oo 13 (.mv (.t 15))] [0, 13])
     (.cond (.t 13) (.seq (.reg [oo 2 (.mv (.c (Value.int IntKind.i64 1)))] [2])
      (.ret))
      (.seq (.reg [oo 17 (.mv (.t 0)),
oo 18 (.bin .leq (.t 17) (.c (Value.int IntKind.i64 42))),
oo 16 (.mv (.t 18))] [16])
      (.cond (.t 16) (.seq (.reg [oo 2 (.mv (.c (Value.int IntKind.i64 2)))] [2])
       (.ret))
       (.skip))))))))))
  (.seq (.reg [oo 2 (.mv (.c (Value.int IntKind.i64 3)))] [2])
  (.ret))))⟩

-- 262 selfstab/types.when
def m_types_when : MF := ⟨7, [.tmp 4], true, (
  .seq (.reg [oo 4 (.mv (.c (Value.int IntKind.i64 0)))] [0, 1])
  (.seq (.seq (.reg [oo 5 (.mv (.t 0))] [1, 5])
  (.cond (.t 5) (.seq (.reg [oo 6 (.mv (.t 1)),
oo 4 (.mv (.t 6))] [4])
   (.ret))
   (.skip)))
  (.seq (.reg [oo 4 (.mv (.c (Value.int IntKind.i64 0)))] [4])
  (.ret))))⟩

-- 263 selfstab/types.all
def m_types_all_L0 : MC :=
  .seq (.reg [oo 10 (.bin .lss (.t 9) (.t 8))] [1, 7, 8, 9, 10])
  (.seq (.cond (.t 10) (.skip)
   (.exit 0))
  (.seq (.block 1 (.seq (.reg [oo 11 (.iadr 1 (.t 7) (.t 9)),
oo 12 (.load (none) (.t 11)),
oo 6 (.mv (.t 12))] [1, 6, 7, 8, 9])
   (.seq (.reg [oo 13 (.mv (.t 6)),
oo 14 (.mv (.t 1)),
oo 15 (.bin .neq (.t 13) (.t 14))] [1, 7, 8, 9, 15])
   (.cond (.t 15) (.seq (.reg [oo 4 (.mv (.c (Value.bool false)))] [4])
    (.ret))
    (.skip)))))
  (.reg [oo 16 (.bin .add (.t 9) (.c (Value.int IntKind.i64 1))),
oo 9 (.mv (.t 16))] [1, 7, 8, 9])))

def m_types_all : MF := ⟨17, [.tmp 4], true, (
  .seq (.reg [oo 4 (.mv (.c (Value.bool false)))] [0, 1])
  (.seq (.seq (.reg [oo 7 (.mv (.t 0)),
oo 8 (.len 1 (.t 7)),
oo 9 (.mv (.c (Value.int IntKind.i64 0)))] [1, 7, 8, 9])
  (.block 0 (.loop [1, 7, 8, 9] m_types_all_L0)))
  (.seq (.reg [oo 4 (.mv (.c (Value.bool true)))] [4])
  (.ret))))⟩

-- 265 (*selfstab/interp.reader).read
def m_interp_reader_read : MF := ⟨81, [.tmp 4], false, (
  .seq (.reg [oo 4 (.mv (.c (Value.int IntKind.i64 0)))] [0, 1])
  (.seq (.reg [oo 10 (.mv (.t 0)),
oo 11 (.nck (.t 10)),
oo 12 (.fadr 3 (.t 11)),
oo 13 (.load (none) (.t 12)),
oo 14 (.mv (.t 0)),
oo 15 (.nck (.t 14)),
oo 16 (.fadr 4 (.t 15)),
oo 17 (.load (none) (.t 16)),
oo 18 (.iadr 2 (.t 13) (.t 17)),
oo 19 (.load (some 2) (.t 18)),
oo 5 (.alloc [.v (Value.int .i64 0), .v (Value.int .i64 0)]),
nn (.store 2 (.t 5) (.t 19))] [0, 1, 5])
  (.seq (.reg [oo 20 (.mv (.t 0)),
oo 21 (.nck (.t 20)),
oo 22 (.fadr 4 (.t 21)),
oo 23 (.load (none) (.t 22)),
oo 24 (.bin .add (.t 23) (.c (Value.int IntKind.i64 1))),
oo 25 (.nck (.t 20)),
oo 26 (.fadr 4 (.t 25)),
nn (.store 1 (.t 26) (.t 24))] [0, 1, 5])
  (.seq (.block 0 (.seq (.reg [oo 28 (.fadr 0 (.t 5)),
oo 29 (.load (none) (.t 28)),
oo 30 (.bin .leq (.t 29) (.c (Value.int IntKind.i64 17))),
oo 27 (.mv (.t 30))] [0, 1, 5, 27])
   (.cond (.t 27) (.seq (.reg [oo 31 (.mv (.t 0)),
oo 32 (.load (some 2) (.t 5)),
oo 33 (.mv (.t 1)),
oo 34 (.call 281 [.t 31, .t 32, .t 33]),
oo 4 (.mv (.t 34))] [4])
    (.ret))
    (.seq (.reg [oo 36 (.fadr 0 (.t 5)),
oo 37 (.load (none) (.t 36)),
oo 38 (.bin .leq (.t 37) (.c (Value.int IntKind.i64 19))),
oo 35 (.mv (.t 38))] [0, 1, 5, 35])
    (.cond (.t 35) (.seq (.regd [0, 1, 0, 0, 12, 31, 63] [oo 39 (.fadr 0 (.t 5)),
oo 40 (.load (none) (.t 39)),
oo 41 (.mv (.t 0)),
oo 42 (.mv (.t 1)),
oo 43 (.call 265 [.t 41, .t 42]),
oo 44 (.call 282 [.t 40, .t 43]),
oo 4 (.mv (.t 44))] [4])
     (.ret))
     (.seq (.reg [oo 46 (.fadr 0 (.t 5)),
oo 47 (.load (none) (.t 46)),
oo 48 (.bin .leq (.t 47) (.c (Value.int IntKind.i64 29))),
oo 45 (.mv (.t 48))] [0, 1, 5, 45])
     (.cond (.t 45) (.seq (.regd [0, 1, 0, 4, 15, 31] [oo 49 (.fadr 0 (.t 5)),
oo 50 (.load (none) (.t 49)),
oo 51 (.mv (.t 0)),
oo 52 (.call 283 [.t 51]),
oo 53 (.call 284 [.t 50, .t 52]),
oo 4 (.mv (.t 53))] [4])
      (.ret))
      (.seq (.reg [oo 55 (.fadr 0 (.t 5)),
oo 56 (.load (none) (.t 55)),
oo 57 (.bin .leq (.t 56) (.c (Value.int IntKind.i64 42))),
oo 54 (.mv (.t 57))] [0, 1, 5, 54])
      (.cond (.t 54) (.seq (.reg [oo 58 (.mv (.t 0)),
oo 59 (.mv (.t 1)),
oo 60 (.call 265 [.t 58, .t 59]),
oo 6 (.mv (.t 60))] [0, 1, 5, 6])
       (.seq (.regd [0, 1, 0, 0, 0, 24, 63, 127] [oo 61 (.fadr 0 (.t 5)),
oo 62 (.load (none) (.t 61)),
oo 63 (.mv (.t 6)),
oo 64 (.mv (.t 0)),
oo 65 (.mv (.t 1)),
oo 66 (.call 265 [.t 64, .t 65]),
oo 67 (.call 285 [.t 62, .t 63, .t 66]),
oo 4 (.mv (.t 67))] [4])
       (.ret)))
       (.skip))))))))))
  (.seq (.reg [oo 68 (.mv (.t 0)),
oo 69 (.mv (.t 1)),
oo 70 (.call 265 [.t 68, .t 69]),
oo 7 (.mv (.t 70))] [0, 1, 7])
  (.seq (.reg [oo 71 (.mv (.t 0)),
oo 72 (.mv (.t 1)),
oo 73 (.call 265 [.t 71, .t 72]),
oo 8 (.mv (.t 73))] [0, 1, 7, 8])
  (.seq (.reg [oo 74 (.mv (.t 0)),
oo 75 (.mv (.t 1)),
oo 76 (.call 265 [.t 74, .t 75]),
oo 9 (.mv (.t 76))] [7, 8, 9])
  (.seq (.seq (.reg [oo 77 (.mv (.t 7)),
oo 78 (.call 264 [.t 77])] [8, 9, 78])
  (.cond (.t 78) (.seq (.reg [oo 79 (.mv (.t 8)),
oo 4 (.mv (.t 79))] [4])
   (.ret))
   (.skip)))
  (.seq (.reg [oo 80 (.mv (.t 9)),
oo 4 (.mv (.t 80))] [4])
  (.ret))))))))))⟩

-- 275 selfstab/types.Valid
def m_types_Valid : MF := ⟨6, [.tmp 2], true, (
  .seq (.reg [oo 1 (.box 3 (.t 0)),
oo 2 (.mv (.c (Value.bool false)))] [1])
  (.seq (.reg [oo 3 (.load (some 3) (.t 1)),
oo 4 (.call 179 [.t 3]),
oo 5 (.bin .eql (.t 4) (.c (Value.int IntKind.i64 0))),
oo 2 (.mv (.t 5))] [2])
  (.ret)))⟩

-- 276 selfstab/domain.kinds
def m_domain_kinds : MF := ⟨3, [.tmp 0], false, (
  .seq (.reg [oo 0 (.mv (.c (Value.map none)))] [])
  (.seq (.reg [oo 1 (.mkmap),
nn (.mput false [0] (.t 1) (.c (Value.int IntKind.i64 1)) (.f 301)),
nn (.mput false [0] (.t 1) (.c (Value.int IntKind.i64 2)) (.f 302)),
nn (.mput false [0] (.t 1) (.c (Value.int IntKind.i64 3)) (.f 303)),
oo 2 (.mv (.t 1)),
oo 0 (.mv (.t 2))] [0])
  (.ret)))⟩

-- 113 slices.order2CmpFunc[[2]int]
def m_slices_order2CmpFunc_2_int : MF := ⟨32, [.tmp 10, .tmp 11], true, (
  .seq (.reg [oo 10 (.mv (.c (Value.int IntKind.i64 0))),
oo 11 (.mv (.c (Value.int IntKind.i64 0)))] [0, 1, 2, 3, 4])
  (.seq (.seq (.reg [oo 12 (.mv (.t 4)),
oo 13 (.mv (.t 0)),
oo 14 (.mv (.t 2)),
oo 15 (.iadr 2 (.t 13) (.t 14)),
oo 16 (.load (some 2) (.t 15)),
oo 17 (.mv (.t 0)),
oo 18 (.mv (.t 1)),
oo 19 (.iadr 2 (.t 17) (.t 18)),
oo 20 (.load (some 2) (.t 19)),
oo 21 (.callv (.t 12) [.t 16, .t 20]),
oo 22 (.bin .lss (.t 21) (.c (Value.int IntKind.i64 0)))] [1, 2, 3, 22])
  (.cond (.t 22) (.seq (.reg [oo 23 (.mv (.t 3)),
oo 24 (.nck (.t 23)),
oo 25 (.load (none) (.t 24)),
oo 26 (.bin .add (.t 25) (.c (Value.int IntKind.i64 1))),
oo 27 (.nck (.t 23)),
nn (.store 1 (.t 27) (.t 26))] [1, 2])
   (.seq (.reg [oo 28 (.mv (.t 2)),
oo 29 (.mv (.t 1)),
oo 10 (.mv (.t 28)),
oo 11 (.mv (.t 29))] [10, 11])
   (.ret)))
   (.skip)))
  (.seq (.reg [oo 30 (.mv (.t 1)),
oo 31 (.mv (.t 2)),
oo 10 (.mv (.t 30)),
oo 11 (.mv (.t 31))] [10, 11])
  (.ret))))⟩

-- 279 (*selfstab/syntax.Reader).primary
def m_syntax_Reader_primary : MF := ⟨75, [.tmp 2], false, (
  .seq (.reg [oo 2 (.mv (.c (Value.slice none 0 0)))] [0])
  (.seq (.seq (.reg [oo 8 (.mv (.t 0)),
oo 9 (.call 234 [.t 8])] [0, 9])
  (.cond (.t 9) (.seq (.reg [oo 10 (.mv (.t 0)),
oo 11 (.call 199 [.t 10, .c (Value.int IntKind.i64 0), .c (Value.int IntKind.i64 1073741824)]),
oo 12 (.build [.v (Value.int .i64 0), .v (Value.int .i64 0)] [(0, 1, (.c (Value.int IntKind.i64 1))), (1, 1, (.t 11))]),
oo 13 (.lit 2 [.v (Value.int .i64 0), .v (Value.int .i64 0)] [(0, 2, (.t 12))] false),
oo 2 (.mv (.t 13))] [2])
   (.ret))
   (.skip)))
  (.seq (.seq (.reg [oo 14 (.mv (.t 0)),
oo 15 (.call 290 []),
oo 16 (.ext (.t 15) 0),
oo 17 (.ext (.t 15) 1),
oo 18 (.call 291 [.t 14, .t 16, .t 17]),
oo 3 (.mv (.t 18))] [0, 3])
  (.seq (.reg [oo 19 (.mv (.t 3)),
oo 20 (.bin .neq (.t 19) (.c (Value.int IntKind.i64 0)))] [0, 3, 20])
  (.cond (.t 20) (.seq (.reg [oo 21 (.mv (.t 3)),
oo 22 (.call 237 [.t 21, .c (Value.slice none 0 0)]),
oo 2 (.mv (.t 22))] [2])
   (.ret))
   (.skip))))
  (.seq (.seq (.reg [oo 23 (.mv (.t 0)),
oo 24 (.call 292 []),
oo 25 (.ext (.t 24) 0),
oo 26 (.ext (.t 24) 1),
oo 27 (.call 291 [.t 23, .t 25, .t 26]),
oo 4 (.mv (.t 27))] [0, 4])
  (.seq (.reg [oo 28 (.mv (.t 4)),
oo 29 (.bin .neq (.t 28) (.c (Value.int IntKind.i64 0)))] [0, 4, 29])
  (.cond (.t 29) (.seq (.reg [oo 30 (.mv (.t 0)),
oo 31 (.call 166 [.t 30, .c (Value.string ⟨#[40]⟩)])] [0, 4])
   (.seq (.reg [oo 32 (.mv (.t 0)),
oo 33 (.call 201 [.t 32]),
oo 5 (.mv (.t 33))] [0, 4, 5])
   (.seq (.reg [oo 34 (.mv (.t 0)),
oo 35 (.call 166 [.t 34, .c (Value.string ⟨#[41]⟩)])] [4, 5])
   (.seq (.reg [oo 36 (.mv (.t 4)),
oo 37 (.mv (.t 5)),
oo 38 (.lit 1 [.v (Value.slice none 0 0)] [(0, 1, (.t 37))] true),
oo 39 (.call 237 [.t 36, .t 38]),
oo 2 (.mv (.t 39))] [2])
   (.ret)))))
   (.skip))))
  (.seq (.seq (.reg [oo 40 (.mv (.t 0)),
oo 41 (.lit 1 [.v (Value.string ⟨#[]⟩)] [(0, 1, (.c (Value.string ⟨#[40]⟩)))] false),
oo 42 (.call 195 [.t 40, .t 41]),
oo 43 (.bin .neq (.t 42) (.c (Value.string ⟨#[]⟩)))] [0, 43])
  (.cond (.t 43) (.seq (.reg [oo 44 (.mv (.t 0)),
oo 45 (.call 201 [.t 44]),
oo 6 (.mv (.t 45))] [0, 6])
   (.seq (.reg [oo 46 (.mv (.t 0)),
oo 47 (.call 166 [.t 46, .c (Value.string ⟨#[41]⟩)])] [6])
   (.seq (.reg [oo 48 (.mv (.t 6)),
oo 2 (.mv (.t 48))] [2])
   (.ret))))
   (.skip)))
  (.seq (.seq (.reg [oo 49 (.mv (.t 0)),
oo 50 (.lit 1 [.v (Value.string ⟨#[]⟩)] [(0, 1, (.c (Value.string ⟨#[113]⟩)))] false),
oo 51 (.call 195 [.t 49, .t 50]),
oo 52 (.bin .eql (.t 51) (.c (Value.string ⟨#[]⟩)))] [0, 52])
  (.cond (.t 52) (.seq (.reg [oo 53 (.mv (.t 0)),
oo 54 (.call 202 [.t 53]),
oo 55 (.build [.v (Value.int .i64 0), .v (Value.int .i64 0)] [(0, 1, (.c (Value.int IntKind.i64 5))), (1, 1, (.t 54))]),
oo 56 (.lit 2 [.v (Value.int .i64 0), .v (Value.int .i64 0)] [(0, 2, (.t 55))] false),
oo 2 (.mv (.t 56))] [2])
   (.ret))
   (.skip)))
  (.seq (.seq (.reg [oo 57 (.mv (.t 0)),
oo 58 (.lit 1 [.v (Value.string ⟨#[]⟩)] [(0, 1, (.c (Value.string ⟨#[46]⟩)))] false),
oo 59 (.call 195 [.t 57, .t 58]),
oo 60 (.bin .eql (.t 59) (.c (Value.string ⟨#[]⟩)))] [0, 60])
  (.cond (.t 60) (.seq (.reg [oo 61 (.call 237 [.c (Value.int IntKind.i64 11), .c (Value.slice none 0 0)]),
oo 2 (.mv (.t 61))] [2])
   (.ret))
   (.skip)))
  (.seq (.seq (.reg [oo 62 (.mv (.t 0)),
oo 63 (.call 293 []),
oo 64 (.ext (.t 63) 0),
oo 65 (.ext (.t 63) 1),
oo 66 (.call 291 [.t 62, .t 64, .t 65]),
oo 7 (.mv (.t 66))] [0, 7])
  (.seq (.reg [oo 67 (.mv (.t 7)),
oo 68 (.bin .neq (.t 67) (.c (Value.int IntKind.i64 0)))] [0, 7, 68])
  (.cond (.t 68) (.seq (.reg [oo 69 (.mv (.t 7)),
oo 70 (.call 237 [.t 69, .c (Value.slice none 0 0)]),
oo 2 (.mv (.t 70))] [2])
   (.ret))
   (.skip))))
  (.seq (.reg [oo 71 (.mv (.t 0)),
oo 72 (.call 202 [.t 71]),
oo 73 (.build [.v (Value.int .i64 0), .v (Value.int .i64 0)] [(0, 1, (.c (Value.int IntKind.i64 12))), (1, 1, (.t 72))]),
oo 74 (.lit 2 [.v (Value.int .i64 0), .v (Value.int .i64 0)] [(0, 2, (.t 73))] false),
oo 2 (.mv (.t 74))] [2])
  (.ret))))))))))⟩

-- 281 (*selfstab/interp.reader).fact
def m_interp_reader_fact : MF := ⟨79, [.tmp 6], false, (
  .seq (.reg [oo 4 (.box 2 (.t 1)),
oo 6 (.mv (.c (Value.int IntKind.i64 0)))] [0, 2, 4])
  (.seq (.reg [oo 8 (.mv (.t 0)),
oo 9 (.nck (.t 8)),
oo 10 (.fadr 0 (.t 9)),
oo 11 (.load (none) (.t 10)),
oo 12 (.nck (.t 11)),
oo 13 (.fadr 3 (.t 12)),
oo 14 (.load (some 2) (.t 13)),
oo 7 (.alloc [.v (Value.slice none 0 0), .v (Value.slice none 0 0)]),
nn (.store 2 (.t 7) (.t 14))] [0, 2, 4, 7])
  (.seq (.seq (.reg [oo 15 (.fadr 0 (.t 4)),
oo 16 (.load (none) (.t 15))] [0, 2, 4, 7, 16])
  (.block 0 (.seq (.reg [oo 18 (.bin .eql (.t 16) (.c (Value.int IntKind.i64 1))),
oo 17 (.mv (.t 18))] [0, 2, 4, 7, 16, 17])
   (.cond (.t 17) (.seq (.reg [oo 19 (.fadr 1 (.t 4)),
oo 20 (.load (none) (.t 19)),
oo 6 (.mv (.t 20))] [6])
    (.ret))
    (.seq (.reg [oo 22 (.bin .eql (.t 16) (.c (Value.int IntKind.i64 2))),
oo 21 (.mv (.t 22))] [0, 2, 4, 7, 16, 21])
    (.cond (.t 21) (.seq (.reg [oo 6 (.mv (.c (Value.int IntKind.i64 1)))] [6])
     (.ret))
     (.seq (.reg [oo 24 (.bin .eql (.t 16) (.c (Value.int IntKind.i64 3))),
oo 23 (.mv (.t 24))] [0, 2, 4, 7, 16, 23])
     (.cond (.t 23) (.seq (.reg [oo 6 (.mv (.c (Value.int IntKind.i64 0)))] [6])
      (.ret))
      (.seq (.reg [oo 26 (.bin .eql (.t 16) (.c (Value.int IntKind.i64 4))),
oo 25 (.mv (.t 26))] [0, 2, 4, 7, 16, 25])
      (.cond (.t 25) (.seq (.reg [oo 6 (.mv (.c (Value.int IntKind.i64 (-1))))] [6])
       (.ret))
       (.seq (.reg [oo 28 (.bin .eql (.t 16) (.c (Value.int IntKind.i64 5))),
oo 27 (.mv (.t 28))] [0, 2, 4, 7, 16, 27])
       (.cond (.t 27) (.seq (.reg [oo 29 (.mv (.t 0)),
oo 30 (.nck (.t 29)),
oo 31 (.fadr 1 (.t 30)),
oo 32 (.load (none) (.t 31)),
oo 33 (.mv (.t 0)),
oo 34 (.nck (.t 33)),
oo 35 (.fadr 2 (.t 34)),
oo 36 (.load (none) (.t 35)),
oo 37 (.iadr 1 (.t 32) (.t 36)),
oo 38 (.load (none) (.t 37)),
oo 39 (.fadr 1 (.t 4)),
oo 40 (.load (none) (.t 39)),
oo 41 (.iadr 1 (.t 38) (.t 40)),
oo 42 (.load (none) (.t 41)),
oo 6 (.mv (.t 42))] [6])
        (.ret))
        (.seq (.reg [oo 44 (.bin .eql (.t 16) (.c (Value.int IntKind.i64 12))),
oo 43 (.mv (.t 44))] [0, 2, 4, 7, 43])
        (.cond (.t 43) (.seq (.reg [oo 45 (.mv (.t 0)),
oo 46 (.nck (.t 45)),
oo 47 (.fadr 1 (.t 46)),
oo 48 (.load (none) (.t 47)),
oo 49 (.fadr 1 (.t 7)),
oo 50 (.load (none) (.t 49)),
oo 51 (.mv (.t 0)),
oo 52 (.nck (.t 51)),
oo 53 (.fadr 2 (.t 52)),
oo 54 (.load (none) (.t 53)),
oo 55 (.iadr 1 (.t 50) (.t 54)),
oo 56 (.load (none) (.t 55)),
oo 57 (.mv (.t 2)),
oo 58 (.iadr 2 (.t 56) (.t 57)),
oo 59 (.fadr 0 (.t 58)),
oo 60 (.load (none) (.t 59)),
oo 61 (.iadr 1 (.t 48) (.t 60)),
oo 62 (.load (none) (.t 61)),
oo 63 (.fadr 1 (.t 4)),
oo 64 (.load (none) (.t 63)),
oo 65 (.iadr 1 (.t 62) (.t 64)),
oo 66 (.load (none) (.t 65)),
oo 6 (.mv (.t 66))] [6])
         (.ret))
         (.skip)))))))))))))))
  (.seq (.reg [oo 67 (.mv (.t 0)),
oo 68 (.nck (.t 67)),
oo 69 (.fadr 0 (.t 68)),
oo 70 (.load (none) (.t 69)),
oo 71 (.fadr 0 (.t 4)),
oo 72 (.load (none) (.t 71)),
oo 73 (.mv (.t 0)),
oo 74 (.nck (.t 73)),
oo 75 (.fadr 2 (.t 74)),
oo 76 (.load (none) (.t 75)),
oo 77 (.mv (.t 2)),
oo 78 (.call 294 [.t 70, .t 72, .t 76, .t 77]),
oo 6 (.mv (.t 78))] [6])
  (.ret)))))⟩

-- 282 selfstab/interp.Unary
def m_interp_Unary : MF := ⟨12, [.tmp 4], true, (
  .seq (.reg [oo 4 (.mv (.c (Value.int IntKind.i64 0)))] [0, 1])
  (.seq (.seq (.reg [oo 5 (.mv (.t 0)),
oo 6 (.bin .eql (.t 5) (.c (Value.int IntKind.i64 18)))] [1, 6])
  (.cond (.t 6) (.seq (.reg [oo 7 (.mv (.t 1)),
oo 8 (.un .neg (.t 7)),
oo 4 (.mv (.t 8))] [4])
   (.ret))
   (.skip)))
  (.seq (.reg [oo 9 (.mv (.t 1)),
oo 10 (.bin .eql (.t 9) (.c (Value.int IntKind.i64 0))),
oo 11 (.call 295 [.t 10]),
oo 4 (.mv (.t 11))] [4])
  (.ret))))⟩

-- 284 selfstab/interp.Fold
def m_interp_Fold_L4 : MC :=
  .seq (.block 10 (.seq (.reg [oo 103 (.mv (.t 1)),
oo 104 (.mv (.t 18)),
oo 105 (.call 296 [.t 103, .t 104]),
oo 106 (.un .not (.t 105))] [1, 18, 106])
   (.cond (.t 106) (.seq (.reg [oo 107 (.mv (.t 18)),
oo 4 (.mv (.t 107))] [4])
    (.ret))
    (.skip))))
  (.reg [oo 101 (.mv (.t 18)),
oo 102 (.bin .add (.t 101) (.c (Value.int IntKind.i64 1))),
oo 18 (.mv (.t 102))] [1, 18])

def m_interp_Fold_L3 : MC :=
  .seq (.reg [oo 90 (.bin .lss (.t 89) (.t 88))] [15, 87, 88, 89, 90])
  (.seq (.cond (.t 90) (.skip)
   (.exit 7))
  (.seq (.block 8 (.seq (.reg [oo 91 (.iadr 1 (.t 87) (.t 89)),
oo 92 (.load (none) (.t 91)),
oo 17 (.mv (.t 92))] [15, 17, 87, 88, 89])
   (.reg [oo 93 (.mv (.t 15)),
oo 94 (.mv (.t 17)),
oo 95 (.bin .add (.t 93) (.t 94)),
oo 15 (.mv (.t 95))] [15, 87, 88, 89])))
  (.reg [oo 96 (.bin .add (.t 89) (.c (Value.int IntKind.i64 1))),
oo 89 (.mv (.t 96))] [15, 87, 88, 89])))

def m_interp_Fold_L2 : MC :=
  .seq (.reg [oo 69 (.bin .lss (.t 68) (.t 67))] [0, 11, 12, 66, 67, 68, 69])
  (.seq (.cond (.t 69) (.skip)
   (.exit 5))
  (.seq (.block 6 (.seq (.reg [oo 70 (.iadr 1 (.t 66) (.t 68)),
oo 71 (.load (none) (.t 70)),
oo 14 (.mv (.t 71))] [0, 11, 12, 14, 66, 67, 68])
   (.reg [oo 72 (.mv (.t 11)),
oo 73 (.mv (.t 14)),
oo 74 (.mx [.t 72, .t 73]),
oo 75 (.mv (.t 12)),
oo 76 (.mv (.t 11)),
oo 77 (.mv (.t 14)),
oo 78 (.mn [.t 76, .t 77]),
oo 79 (.mx [.t 75, .t 78]),
oo 11 (.mv (.t 74)),
oo 12 (.mv (.t 79))] [0, 11, 12, 66, 67, 68])))
  (.reg [oo 80 (.bin .add (.t 68) (.c (Value.int IntKind.i64 1))),
oo 68 (.mv (.t 80))] [0, 11, 12, 66, 67, 68])))

def m_interp_Fold_L1 : MC :=
  .seq (.reg [oo 55 (.bin .lss (.t 54) (.t 53))] [8, 52, 53, 54, 55])
  (.seq (.cond (.t 55) (.skip)
   (.exit 3))
  (.seq (.block 4 (.seq (.reg [oo 56 (.iadr 1 (.t 52) (.t 54)),
oo 57 (.load (none) (.t 56)),
oo 10 (.mv (.t 57))] [8, 10, 52, 53, 54])
   (.reg [oo 58 (.mv (.t 8)),
oo 59 (.mv (.t 10)),
oo 60 (.mn [.t 58, .t 59]),
oo 8 (.mv (.t 60))] [8, 52, 53, 54])))
  (.reg [oo 61 (.bin .add (.t 54) (.c (Value.int IntKind.i64 1))),
oo 54 (.mv (.t 61))] [8, 52, 53, 54])))

def m_interp_Fold_L0 : MC :=
  .seq (.reg [oo 36 (.bin .lss (.t 35) (.t 34))] [5, 33, 34, 35, 36])
  (.seq (.cond (.t 36) (.skip)
   (.exit 1))
  (.seq (.block 2 (.seq (.reg [oo 37 (.iadr 1 (.t 33) (.t 35)),
oo 38 (.load (none) (.t 37)),
oo 7 (.mv (.t 38))] [5, 7, 33, 34, 35])
   (.reg [oo 39 (.mv (.t 5)),
oo 40 (.mv (.t 7)),
oo 41 (.call 264 [.t 40]),
oo 42 (.call 295 [.t 41]),
oo 43 (.bin .add (.t 39) (.t 42)),
oo 5 (.mv (.t 43))] [5, 33, 34, 35])))
  (.reg [oo 44 (.bin .add (.t 35) (.c (Value.int IntKind.i64 1))),
oo 35 (.mv (.t 44))] [5, 33, 34, 35])))

def m_interp_Fold : MF := ⟨114, [.tmp 4], true, (
  .seq (.reg [oo 4 (.mv (.c (Value.int IntKind.i64 0)))] [0, 1])
  (.seq (.seq (.reg [oo 19 (.mv (.t 0))] [0, 1, 19])
  (.block 0 (.seq (.reg [oo 21 (.bin .eql (.t 19) (.c (Value.int IntKind.i64 20))),
oo 20 (.mv (.t 21))] [0, 1, 19, 20])
   (.cond (.t 20) (.seq (.reg [oo 22 (.mv (.t 1)),
oo 23 (.call 296 [.t 22, .c (Value.int IntKind.i64 0)]),
oo 24 (.un .not (.t 23)),
oo 25 (.call 295 [.t 24]),
oo 4 (.mv (.t 25))] [4])
    (.ret))
    (.seq (.reg [oo 27 (.bin .eql (.t 19) (.c (Value.int IntKind.i64 21))),
oo 26 (.mv (.t 27))] [0, 1, 19, 26])
    (.cond (.t 26) (.seq (.reg [oo 28 (.mv (.t 1)),
oo 29 (.call 297 [.t 28, .f 264]),
oo 30 (.call 295 [.t 29]),
oo 4 (.mv (.t 30))] [4])
     (.ret))
     (.seq (.reg [oo 32 (.bin .eql (.t 19) (.c (Value.int IntKind.i64 22))),
oo 31 (.mv (.t 32))] [0, 1, 19, 31])
     (.cond (.t 31) (.seq (.reg [oo 5 (.mv (.c (Value.int IntKind.i64 0)))] [1, 5])
      (.seq (.seq (.reg [oo 33 (.mv (.t 1)),
oo 34 (.len 1 (.t 33)),
oo 35 (.mv (.c (Value.int IntKind.i64 0)))] [5, 33, 34, 35])
      (.block 1 (.loop [5, 33, 34, 35] m_interp_Fold_L0)))
      (.seq (.reg [oo 45 (.mv (.t 5)),
oo 4 (.mv (.t 45))] [4])
      (.ret))))
      (.seq (.reg [oo 47 (.bin .eql (.t 19) (.c (Value.int IntKind.i64 23))),
oo 46 (.mv (.t 47))] [0, 1, 19, 46])
      (.cond (.t 46) (.seq (.reg [oo 48 (.mv (.t 1)),
oo 49 (.call 298 [.t 48, .f 264]),
oo 4 (.mv (.t 49))] [4])
       (.ret))
       (.seq (.reg [oo 51 (.bin .eql (.t 19) (.c (Value.int IntKind.i64 24))),
oo 50 (.mv (.t 51))] [0, 1, 19, 50])
       (.cond (.t 50) (.seq (.reg [oo 8 (.mv (.c (Value.int IntKind.i64 1073741824)))] [1, 8])
        (.seq (.seq (.reg [oo 52 (.mv (.t 1)),
oo 53 (.len 1 (.t 52)),
oo 54 (.mv (.c (Value.int IntKind.i64 0)))] [8, 52, 53, 54])
        (.block 3 (.loop [8, 52, 53, 54] m_interp_Fold_L1)))
        (.seq (.reg [oo 62 (.mv (.t 8)),
oo 4 (.mv (.t 62))] [4])
        (.ret))))
        (.seq (.seq (.reg [oo 64 (.bin .eql (.t 19) (.c (Value.int IntKind.i64 25))),
oo 63 (.mv (.t 64))] [0, 1, 19, 63])
        (.cond (.t 63) (.skip)
         (.reg [oo 65 (.bin .eql (.t 19) (.c (Value.int IntKind.i64 28))),
oo 63 (.mv (.t 65))] [0, 1, 19, 63])))
        (.cond (.t 63) (.seq (.reg [oo 11 (.mv (.c (Value.int IntKind.i64 (-1073741824)))),
oo 12 (.mv (.c (Value.int IntKind.i64 (-1073741824))))] [0, 1, 11, 12])
         (.seq (.seq (.reg [oo 66 (.mv (.t 1)),
oo 67 (.len 1 (.t 66)),
oo 68 (.mv (.c (Value.int IntKind.i64 0)))] [0, 11, 12, 66, 67, 68])
         (.block 5 (.loop [0, 11, 12, 66, 67, 68] m_interp_Fold_L2)))
         (.seq (.seq (.reg [oo 81 (.mv (.t 0)),
oo 82 (.bin .eql (.t 81) (.c (Value.int IntKind.i64 25)))] [11, 12, 82])
         (.cond (.t 82) (.seq (.reg [oo 83 (.mv (.t 11)),
oo 4 (.mv (.t 83))] [4])
          (.ret))
          (.skip)))
         (.seq (.reg [oo 84 (.mv (.t 12)),
oo 4 (.mv (.t 84))] [4])
         (.ret)))))
         (.seq (.reg [oo 86 (.bin .eql (.t 19) (.c (Value.int IntKind.i64 26))),
oo 85 (.mv (.t 86))] [1, 19, 85])
         (.cond (.t 85) (.seq (.reg [oo 15 (.mv (.c (Value.int IntKind.i64 0)))] [1, 15])
          (.seq (.seq (.reg [oo 87 (.mv (.t 1)),
oo 88 (.len 1 (.t 87)),
oo 89 (.mv (.c (Value.int IntKind.i64 0)))] [15, 87, 88, 89])
          (.block 7 (.loop [15, 87, 88, 89] m_interp_Fold_L3)))
          (.seq (.reg [oo 97 (.mv (.t 15)),
oo 98 (.call 299 [.t 97]),
oo 4 (.mv (.t 98))] [4])
          (.ret))))
          (.seq (.reg [oo 100 (.bin .eql (.t 19) (.c (Value.int IntKind.i64 27))),
oo 99 (.mv (.t 100))] [1, 99])
          (.cond (.t 99) (.seq (.reg [oo 18 (.mv (.c (Value.int IntKind.i64 0)))] [1, 18])
           (.block 9 (.loop [1, 18] m_interp_Fold_L4)))
           (.skip)))))))))))))))))))
  (.seq (.seq (.reg [oo 108 (.mv (.t 1)),
oo 109 (.len 1 (.t 108)),
oo 110 (.bin .eql (.t 109) (.c (Value.int IntKind.i64 0)))] [1, 110])
  (.cond (.t 110) (.seq (.reg [oo 4 (.mv (.c (Value.int IntKind.i64 0)))] [4])
   (.ret))
   (.skip)))
  (.seq (.reg [oo 111 (.mv (.t 1)),
oo 112 (.iadr 1 (.t 111) (.c (Value.int IntKind.i64 0))),
oo 113 (.load (none) (.t 112)),
oo 4 (.mv (.t 113))] [4])
  (.ret)))))⟩

-- 283 (*selfstab/interp.reader).each
def m_interp_reader_each_L0 : MC :=
  .seq (.reg [oo 26 (.bin .lss (.t 25) (.t 24))] [0, 3, 4, 24, 25, 26])
  (.seq (.cond (.t 26) (.skip)
   (.exit 0))
  (.seq (.block 1 (.seq (.reg [oo 27 (.mv (.t 25)),
oo 5 (.mv (.t 27))] [0, 3, 4, 5, 24, 25])
   (.seq (.reg [oo 28 (.mv (.t 0)),
oo 29 (.mv (.t 3)),
oo 30 (.nck (.t 28)),
oo 31 (.fadr 4 (.t 30)),
nn (.store 1 (.t 31) (.t 29))] [0, 3, 4, 5, 24, 25])
   (.reg [oo 32 (.mv (.t 4)),
oo 33 (.mv (.t 0)),
oo 34 (.mv (.t 5)),
oo 35 (.call 265 [.t 33, .t 34]),
oo 36 (.lit 1 [.v (Value.int .i64 0)] [(0, 1, (.t 35))] false),
oo 37 (.app 1 8 (.t 32) (.t 36)),
oo 4 (.mv (.t 37))] [0, 3, 4, 24, 25]))))
  (.reg [oo 38 (.bin .add (.t 25) (.c (Value.int IntKind.i64 1))),
oo 25 (.mv (.t 38))] [0, 3, 4, 24, 25])))

def m_interp_reader_each : MF := ⟨49, [.tmp 2], false, (
  .seq (.reg [oo 2 (.mv (.c (Value.slice none 0 0)))] [0])
  (.seq (.reg [oo 6 (.mv (.t 0)),
oo 7 (.nck (.t 6)),
oo 8 (.fadr 4 (.t 7)),
oo 9 (.load (none) (.t 8)),
oo 3 (.mv (.t 9))] [0, 3])
  (.seq (.reg [oo 4 (.mv (.c (Value.slice none 0 0)))] [0, 3, 4])
  (.seq (.seq (.reg [oo 10 (.mv (.t 0)),
oo 11 (.nck (.t 10)),
oo 12 (.fadr 0 (.t 11)),
oo 13 (.load (none) (.t 12)),
oo 14 (.nck (.t 13)),
oo 15 (.fadr 3 (.t 14)),
oo 16 (.fadr 1 (.t 15)),
oo 17 (.load (none) (.t 16)),
oo 18 (.mv (.t 0)),
oo 19 (.nck (.t 18)),
oo 20 (.fadr 2 (.t 19)),
oo 21 (.load (none) (.t 20)),
oo 22 (.iadr 1 (.t 17) (.t 21)),
oo 23 (.load (none) (.t 22)),
oo 24 (.len 1 (.t 23)),
oo 25 (.mv (.c (Value.int IntKind.i64 0)))] [0, 3, 4, 24, 25])
  (.block 0 (.loop [0, 3, 4, 24, 25] m_interp_reader_each_L0)))
  (.seq (.reg [oo 39 (.mv (.t 0)),
oo 40 (.mv (.t 0)),
oo 41 (.nck (.t 40)),
oo 42 (.fadr 3 (.t 41)),
oo 43 (.load (none) (.t 42)),
oo 44 (.mv (.t 3)),
oo 45 (.call 256 [.t 43, .t 44]),
oo 46 (.nck (.t 39)),
oo 47 (.fadr 4 (.t 46)),
nn (.store 1 (.t 47) (.t 45))] [4])
  (.seq (.reg [oo 48 (.mv (.t 4)),
oo 2 (.mv (.t 48))] [2])
  (.ret)))))))⟩

-- 285 selfstab/interp.Binary
def m_interp_Binary : MF := ⟨95, [.tmp 6], true, (
  .seq (.reg [oo 6 (.mv (.c (Value.int IntKind.i64 0)))] [0, 1, 2])
  (.seq (.seq (.reg [oo 7 (.mv (.t 0))] [1, 2, 7])
  (.block 0 (.seq (.reg [oo 9 (.bin .eql (.t 7) (.c (Value.int IntKind.i64 30))),
oo 8 (.mv (.t 9))] [1, 2, 7, 8])
   (.cond (.t 8) (.seq (.reg [oo 10 (.mv (.t 1)),
oo 11 (.mv (.t 2)),
oo 12 (.bin .mul (.t 10) (.t 11)),
oo 13 (.call 299 [.t 12]),
oo 6 (.mv (.t 13))] [6])
    (.ret))
    (.seq (.reg [oo 15 (.bin .eql (.t 7) (.c (Value.int IntKind.i64 31))),
oo 14 (.mv (.t 15))] [1, 2, 7, 14])
    (.cond (.t 14) (.seq (.reg [oo 16 (.mv (.t 1)),
oo 17 (.mv (.t 2)),
oo 18 (.call 300 [.t 16, .t 17]),
oo 19 (.call 299 [.t 18]),
oo 6 (.mv (.t 19))] [6])
     (.ret))
     (.seq (.reg [oo 21 (.bin .eql (.t 7) (.c (Value.int IntKind.i64 32))),
oo 20 (.mv (.t 21))] [1, 2, 7, 20])
     (.cond (.t 20) (.seq (.seq (.reg [oo 22 (.mv (.t 2)),
oo 23 (.bin .eql (.t 22) (.c (Value.int IntKind.i64 0)))] [1, 2, 23])
      (.cond (.t 23) (.seq (.reg [oo 6 (.mv (.c (Value.int IntKind.i64 0)))] [6])
       (.ret))
       (.skip)))
      (.seq (.reg [oo 24 (.mv (.t 1)),
oo 25 (.mv (.t 2)),
oo 26 (.mv (.t 1)),
oo 27 (.mv (.t 2)),
oo 28 (.call 300 [.t 26, .t 27]),
oo 29 (.bin .mul (.t 25) (.t 28)),
oo 30 (.bin .sub (.t 24) (.t 29)),
oo 6 (.mv (.t 30))] [6])
      (.ret)))
      (.seq (.reg [oo 32 (.bin .eql (.t 7) (.c (Value.int IntKind.i64 33))),
oo 31 (.mv (.t 32))] [1, 2, 7, 31])
      (.cond (.t 31) (.seq (.reg [oo 33 (.mv (.t 1)),
oo 34 (.mv (.t 2)),
oo 35 (.bin .add (.t 33) (.t 34)),
oo 36 (.call 299 [.t 35]),
oo 6 (.mv (.t 36))] [6])
       (.ret))
       (.seq (.reg [oo 38 (.bin .eql (.t 7) (.c (Value.int IntKind.i64 34))),
oo 37 (.mv (.t 38))] [1, 2, 7, 37])
       (.cond (.t 37) (.seq (.reg [oo 39 (.mv (.t 1)),
oo 40 (.mv (.t 2)),
oo 41 (.bin .sub (.t 39) (.t 40)),
oo 42 (.call 299 [.t 41]),
oo 6 (.mv (.t 42))] [6])
        (.ret))
        (.seq (.reg [oo 44 (.bin .eql (.t 7) (.c (Value.int IntKind.i64 35))),
oo 43 (.mv (.t 44))] [1, 2, 7, 43])
        (.cond (.t 43) (.seq (.reg [oo 45 (.mv (.t 1)),
oo 46 (.mv (.t 2)),
oo 47 (.bin .eql (.t 45) (.t 46)),
oo 48 (.call 295 [.t 47]),
oo 6 (.mv (.t 48))] [6])
         (.ret))
         (.seq (.reg [oo 50 (.bin .eql (.t 7) (.c (Value.int IntKind.i64 36))),
oo 49 (.mv (.t 50))] [1, 2, 7, 49])
         (.cond (.t 49) (.seq (.reg [oo 51 (.mv (.t 1)),
oo 52 (.mv (.t 2)),
oo 53 (.bin .neq (.t 51) (.t 52)),
oo 54 (.call 295 [.t 53]),
oo 6 (.mv (.t 54))] [6])
          (.ret))
          (.seq (.reg [oo 56 (.bin .eql (.t 7) (.c (Value.int IntKind.i64 37))),
oo 55 (.mv (.t 56))] [1, 2, 7, 55])
          (.cond (.t 55) (.seq (.reg [oo 57 (.mv (.t 1)),
oo 58 (.mv (.t 2)),
oo 59 (.bin .lss (.t 57) (.t 58)),
oo 60 (.call 295 [.t 59]),
oo 6 (.mv (.t 60))] [6])
           (.ret))
           (.seq (.reg [oo 62 (.bin .eql (.t 7) (.c (Value.int IntKind.i64 38))),
oo 61 (.mv (.t 62))] [1, 2, 7, 61])
           (.cond (.t 61) (.seq (.reg [oo 63 (.mv (.t 1)),
oo 64 (.mv (.t 2)),
oo 65 (.bin .leq (.t 63) (.t 64)),
oo 66 (.call 295 [.t 65]),
oo 6 (.mv (.t 66))] [6])
            (.ret))
            (.seq (.reg [oo 68 (.bin .eql (.t 7) (.c (Value.int IntKind.i64 39))),
oo 67 (.mv (.t 68))] [1, 2, 7, 67])
            (.cond (.t 67) (.seq (.reg [oo 69 (.mv (.t 1)),
oo 70 (.mv (.t 2)),
oo 71 (.bin .gtr (.t 69) (.t 70)),
oo 72 (.call 295 [.t 71]),
oo 6 (.mv (.t 72))] [6])
             (.ret))
             (.seq (.reg [oo 74 (.bin .eql (.t 7) (.c (Value.int IntKind.i64 40))),
oo 73 (.mv (.t 74))] [1, 2, 7, 73])
             (.cond (.t 73) (.seq (.reg [oo 75 (.mv (.t 1)),
oo 76 (.mv (.t 2)),
oo 77 (.bin .geq (.t 75) (.t 76)),
oo 78 (.call 295 [.t 77]),
oo 6 (.mv (.t 78))] [6])
              (.ret))
              (.seq (.reg [oo 80 (.bin .eql (.t 7) (.c (Value.int IntKind.i64 41))),
oo 79 (.mv (.t 80))] [1, 2, 79])
              (.cond (.t 79) (.seq (.reg [oo 81 (.mv (.t 1)),
oo 82 (.bin .neq (.t 81) (.c (Value.int IntKind.i64 0))),
oo 83 (.mv (.t 82)),
⟨some 84, .mv (.t 2), some (83, true)⟩,
⟨some 85, .bin .neq (.t 84) (.c (Value.int IntKind.i64 0)), some (83, true)⟩,
oo 86 (.pick (.t 83) (.t 85) (.c (Value.bool false))),
oo 87 (.call 295 [.t 86]),
oo 6 (.mv (.t 87))] [6])
               (.ret))
               (.skip)))))))))))))))))))))))))))
  (.seq (.reg [oo 88 (.mv (.t 1)),
oo 89 (.bin .neq (.t 88) (.c (Value.int IntKind.i64 0))),
oo 90 (.mv (.t 89)),
⟨some 91, .mv (.t 2), some (90, false)⟩,
⟨some 92, .bin .neq (.t 91) (.c (Value.int IntKind.i64 0)), some (90, false)⟩,
oo 93 (.pick (.t 90) (.c (Value.bool true)) (.t 92)),
oo 94 (.call 295 [.t 93]),
oo 6 (.mv (.t 94))] [6])
  (.ret))))⟩

-- 301 selfstab/domain.kinds$1
def m_domain_kinds_1 : MF := ⟨26, [.tmp 6, .tmp 7], true, (
  .seq (.reg [oo 3 (.box 6 (.t 0)),
oo 4 (.box 2 (.t 1)),
oo 6 (.mv (.c (Value.int IntKind.i64 0))),
oo 7 (.mv (.c (Value.int IntKind.i64 0)))] [3, 4])
  (.seq (.reg [oo 8 (.fadr 2 (.t 3)),
oo 9 (.load (none) (.t 8)),
oo 10 (.fadr 3 (.t 3)),
oo 11 (.load (none) (.t 10)),
oo 12 (.fadr 4 (.t 3)),
oo 13 (.load (none) (.t 12)),
oo 14 (.fadr 1 (.t 4)),
oo 15 (.load (none) (.t 14)),
oo 16 (.len 1 (.t 15)),
oo 17 (.bin .mul (.t 13) (.t 16)),
oo 18 (.bin .add (.t 11) (.t 17)),
oo 19 (.fadr 5 (.t 3)),
oo 20 (.load (none) (.t 19)),
oo 21 (.fadr 0 (.t 4)),
oo 22 (.load (none) (.t 21)),
oo 23 (.call 55 [.t 22]),
oo 24 (.bin .mul (.t 20) (.t 23)),
oo 25 (.bin .add (.t 18) (.t 24)),
oo 6 (.mv (.t 9)),
oo 7 (.mv (.t 25))] [6, 7])
  (.ret)))⟩

-- 302 selfstab/domain.kinds$2
def m_domain_kinds_2 : MF := ⟨8, [.tmp 6, .tmp 7], true, (
  .seq (.reg [oo 3 (.box 6 (.t 0)),
oo 4 (.box 2 (.t 1)),
oo 6 (.mv (.c (Value.int IntKind.i64 0))),
oo 7 (.mv (.c (Value.int IntKind.i64 0)))] [])
  (.seq (.reg [oo 6 (.mv (.c (Value.int IntKind.i64 0))),
oo 7 (.mv (.c (Value.int IntKind.i64 1)))] [6, 7])
  (.ret)))⟩

-- 303 selfstab/domain.kinds$3
def m_domain_kinds_3 : MF := ⟨15, [.tmp 6, .tmp 7], true, (
  .seq (.reg [oo 3 (.box 6 (.t 0)),
oo 4 (.box 2 (.t 1)),
oo 6 (.mv (.c (Value.int IntKind.i64 0))),
oo 7 (.mv (.c (Value.int IntKind.i64 0)))] [2, 4])
  (.seq (.reg [oo 8 (.fadr 1 (.t 4)),
oo 9 (.load (none) (.t 8)),
oo 10 (.mv (.t 2)),
oo 11 (.iadr 1 (.t 9) (.t 10)),
oo 12 (.load (none) (.t 11)),
oo 13 (.len 1 (.t 12)),
oo 14 (.bin .sub (.t 13) (.c (Value.int IntKind.i64 1))),
oo 6 (.mv (.c (Value.int IntKind.i64 (-1)))),
oo 7 (.mv (.t 14))] [6, 7])
  (.ret)))⟩

-- 291 (*selfstab/syntax.Reader).pick
def m_syntax_Reader_pick : MF := ⟨19, [.tmp 6], false, (
  .seq (.reg [oo 6 (.mv (.c (Value.int IntKind.i64 0)))] [0, 1, 2])
  (.seq (.seq (.reg [oo 8 (.mv (.t 0)),
oo 9 (.mv (.t 1)),
oo 10 (.call 195 [.t 8, .t 9]),
oo 7 (.mv (.t 10))] [1, 2, 7])
  (.seq (.reg [oo 11 (.mv (.t 7)),
oo 12 (.bin .neq (.t 11) (.c (Value.string ⟨#[]⟩)))] [1, 2, 7, 12])
  (.cond (.t 12) (.seq (.reg [oo 13 (.mv (.t 2)),
oo 14 (.mv (.t 1)),
oo 15 (.mv (.t 7)),
oo 16 (.call 233 [.t 14, .t 15]),
oo 17 (.iadr 1 (.t 13) (.t 16)),
oo 18 (.load (none) (.t 17)),
oo 6 (.mv (.t 18))] [6])
   (.ret))
   (.skip))))
  (.seq (.reg [oo 6 (.mv (.c (Value.int IntKind.i64 0)))] [6])
  (.ret))))⟩

-- 290 selfstab/syntax.Words
def m_syntax_Words : MF := ⟨4, [.tmp 0, .tmp 1], true, (
  .seq (.reg [oo 0 (.mv (.c (Value.slice none 0 0))),
oo 1 (.mv (.c (Value.slice none 0 0)))] [])
  (.seq (.reg [oo 2 (.lit 1 [.v (Value.string ⟨#[]⟩), .v (Value.string ⟨#[]⟩), .v (Value.string ⟨#[]⟩), .v (Value.string ⟨#[]⟩), .v (Value.string ⟨#[]⟩), .v (Value.string ⟨#[]⟩), .v (Value.string ⟨#[]⟩), .v (Value.string ⟨#[]⟩)] [(0, 1, (.c (Value.string ⟨#[116, 114, 117, 101]⟩))), (1, 1, (.c (Value.string ⟨#[102, 97, 108, 115, 101]⟩))), (2, 1, (.c (Value.string ⟨#[110, 111, 110, 101]⟩))), (3, 1, (.c (Value.string ⟨#[110]⟩))), (4, 1, (.c (Value.string ⟨#[105, 100, 115]⟩))), (5, 1, (.c (Value.string ⟨#[105, 100]⟩))), (6, 1, (.c (Value.string ⟨#[100, 101, 103]⟩))), (7, 1, (.c (Value.string ⟨#[114, 111, 111, 116]⟩)))] false),
oo 3 (.lit 1 [.v (Value.int .i64 0), .v (Value.int .i64 0), .v (Value.int .i64 0), .v (Value.int .i64 0), .v (Value.int .i64 0), .v (Value.int .i64 0), .v (Value.int .i64 0), .v (Value.int .i64 0)] [(0, 1, (.c (Value.int IntKind.i64 2))), (1, 1, (.c (Value.int IntKind.i64 3))), (2, 1, (.c (Value.int IntKind.i64 4))), (3, 1, (.c (Value.int IntKind.i64 6))), (4, 1, (.c (Value.int IntKind.i64 7))), (5, 1, (.c (Value.int IntKind.i64 8))), (6, 1, (.c (Value.int IntKind.i64 9))), (7, 1, (.c (Value.int IntKind.i64 10)))] false),
oo 0 (.mv (.t 2)),
oo 1 (.mv (.t 3))] [0, 1])
  (.ret)))⟩

-- 292 selfstab/syntax.Aggregates
def m_syntax_Aggregates : MF := ⟨4, [.tmp 0, .tmp 1], true, (
  .seq (.reg [oo 0 (.mv (.c (Value.slice none 0 0))),
oo 1 (.mv (.c (Value.slice none 0 0)))] [])
  (.seq (.reg [oo 2 (.lit 1 [.v (Value.string ⟨#[]⟩), .v (Value.string ⟨#[]⟩), .v (Value.string ⟨#[]⟩), .v (Value.string ⟨#[]⟩), .v (Value.string ⟨#[]⟩), .v (Value.string ⟨#[]⟩), .v (Value.string ⟨#[]⟩), .v (Value.string ⟨#[]⟩), .v (Value.string ⟨#[]⟩), .v (Value.string ⟨#[]⟩)] [(0, 1, (.c (Value.string ⟨#[97, 108, 108]⟩))), (1, 1, (.c (Value.string ⟨#[115, 111, 109, 101]⟩))), (2, 1, (.c (Value.string ⟨#[99, 111, 117, 110, 116]⟩))), (3, 1, (.c (Value.string ⟨#[102, 105, 114, 115, 116]⟩))), (4, 1, (.c (Value.string ⟨#[109, 105, 110]⟩))), (5, 1, (.c (Value.string ⟨#[109, 97, 120]⟩))), (6, 1, (.c (Value.string ⟨#[115, 117, 109]⟩))), (7, 1, (.c (Value.string ⟨#[109, 101, 120]⟩))), (8, 1, (.c (Value.string ⟨#[115, 101, 99, 111, 110, 100]⟩))), (9, 1, (.c (Value.string ⟨#[104, 101, 97, 100]⟩)))] false),
oo 3 (.lit 1 [.v (Value.int .i64 0), .v (Value.int .i64 0), .v (Value.int .i64 0), .v (Value.int .i64 0), .v (Value.int .i64 0), .v (Value.int .i64 0), .v (Value.int .i64 0), .v (Value.int .i64 0), .v (Value.int .i64 0), .v (Value.int .i64 0)] [(0, 1, (.c (Value.int IntKind.i64 20))), (1, 1, (.c (Value.int IntKind.i64 21))), (2, 1, (.c (Value.int IntKind.i64 22))), (3, 1, (.c (Value.int IntKind.i64 23))), (4, 1, (.c (Value.int IntKind.i64 24))), (5, 1, (.c (Value.int IntKind.i64 25))), (6, 1, (.c (Value.int IntKind.i64 26))), (7, 1, (.c (Value.int IntKind.i64 27))), (8, 1, (.c (Value.int IntKind.i64 28))), (9, 1, (.c (Value.int IntKind.i64 29)))] false),
oo 0 (.mv (.t 2)),
oo 1 (.mv (.t 3))] [0, 1])
  (.ret)))⟩

-- 293 selfstab/syntax.Fields
def m_syntax_Fields : MF := ⟨4, [.tmp 0, .tmp 1], true, (
  .seq (.reg [oo 0 (.mv (.c (Value.slice none 0 0))),
oo 1 (.mv (.c (Value.slice none 0 0)))] [])
  (.seq (.reg [oo 2 (.lit 1 [.v (Value.string ⟨#[]⟩), .v (Value.string ⟨#[]⟩), .v (Value.string ⟨#[]⟩), .v (Value.string ⟨#[]⟩), .v (Value.string ⟨#[]⟩)] [(0, 1, (.c (Value.string ⟨#[105, 100]⟩))), (1, 1, (.c (Value.string ⟨#[100, 101, 103]⟩))), (2, 1, (.c (Value.string ⟨#[114, 111, 111, 116]⟩))), (3, 1, (.c (Value.string ⟨#[119, 101, 105, 103, 104, 116]⟩))), (4, 1, (.c (Value.string ⟨#[98, 97, 99, 107]⟩)))] false),
oo 3 (.lit 1 [.v (Value.int .i64 0), .v (Value.int .i64 0), .v (Value.int .i64 0), .v (Value.int .i64 0), .v (Value.int .i64 0)] [(0, 1, (.c (Value.int IntKind.i64 13))), (1, 1, (.c (Value.int IntKind.i64 14))), (2, 1, (.c (Value.int IntKind.i64 15))), (3, 1, (.c (Value.int IntKind.i64 16))), (4, 1, (.c (Value.int IntKind.i64 17)))] false),
oo 0 (.mv (.t 2)),
oo 1 (.mv (.t 3))] [0, 1])
  (.ret)))⟩

-- 294 (*selfstab/interp.World).Fact
def m_interp_World_Fact : MF := ⟨109, [.tmp 8], false, (
  .seq (.reg [oo 8 (.mv (.c (Value.int IntKind.i64 0)))] [0, 1, 2, 3])
  (.seq (.seq (.reg [oo 10 (.mv (.t 1))] [0, 1, 2, 3, 10])
  (.block 0 (.seq (.reg [oo 12 (.bin .eql (.t 10) (.c (Value.int IntKind.i64 6))),
oo 11 (.mv (.t 12))] [0, 1, 2, 3, 10, 11])
   (.cond (.t 11) (.seq (.reg [oo 13 (.mv (.t 0)),
oo 14 (.nck (.t 13)),
oo 15 (.fadr 3 (.t 14)),
oo 16 (.fadr 1 (.t 15)),
oo 17 (.load (none) (.t 16)),
oo 18 (.len 1 (.t 17)),
oo 8 (.mv (.t 18))] [8])
    (.ret))
    (.seq (.reg [oo 20 (.bin .eql (.t 10) (.c (Value.int IntKind.i64 7))),
oo 19 (.mv (.t 20))] [0, 1, 2, 3, 10, 19])
    (.cond (.t 19) (.seq (.reg [oo 21 (.mv (.t 0)),
oo 22 (.nck (.t 21)),
oo 23 (.fadr 5 (.t 22)),
oo 24 (.load (none) (.t 23)),
oo 8 (.mv (.t 24))] [8])
     (.ret))
     (.seq (.reg [oo 26 (.bin .eql (.t 10) (.c (Value.int IntKind.i64 8))),
oo 25 (.mv (.t 26))] [0, 1, 2, 3, 10, 25])
     (.cond (.t 25) (.seq (.reg [oo 27 (.mv (.t 0)),
oo 28 (.nck (.t 27)),
oo 29 (.fadr 3 (.t 28)),
oo 30 (.fadr 0 (.t 29)),
oo 31 (.load (none) (.t 30)),
oo 32 (.mv (.t 2)),
oo 33 (.iadr 1 (.t 31) (.t 32)),
oo 34 (.load (none) (.t 33)),
oo 8 (.mv (.t 34))] [8])
      (.ret))
      (.seq (.reg [oo 36 (.bin .eql (.t 10) (.c (Value.int IntKind.i64 9))),
oo 35 (.mv (.t 36))] [0, 1, 2, 3, 10, 35])
      (.cond (.t 35) (.seq (.reg [oo 37 (.mv (.t 0)),
oo 38 (.nck (.t 37)),
oo 39 (.fadr 3 (.t 38)),
oo 40 (.fadr 1 (.t 39)),
oo 41 (.load (none) (.t 40)),
oo 42 (.mv (.t 2)),
oo 43 (.iadr 1 (.t 41) (.t 42)),
oo 44 (.load (none) (.t 43)),
oo 45 (.len 1 (.t 44)),
oo 8 (.mv (.t 45))] [8])
       (.ret))
       (.seq (.reg [oo 47 (.bin .eql (.t 10) (.c (Value.int IntKind.i64 10))),
oo 46 (.mv (.t 47))] [0, 1, 2, 3, 10, 46])
       (.cond (.t 46) (.seq (.reg [oo 48 (.mv (.t 2)),
oo 49 (.bin .eql (.t 48) (.c (Value.int IntKind.i64 0))),
oo 50 (.call 295 [.t 49]),
oo 8 (.mv (.t 50))] [8])
        (.ret))
        (.seq (.reg [oo 52 (.bin .eql (.t 10) (.c (Value.int IntKind.i64 11))),
oo 51 (.mv (.t 52))] [0, 1, 2, 3, 51])
        (.cond (.t 51) (.seq (.reg [oo 53 (.mv (.t 3)),
oo 8 (.mv (.t 53))] [8])
         (.ret))
         (.skip)))))))))))))))
  (.seq (.reg [oo 54 (.mv (.t 0)),
oo 55 (.nck (.t 54)),
oo 56 (.fadr 3 (.t 55)),
oo 57 (.fadr 1 (.t 56)),
oo 58 (.load (none) (.t 57)),
oo 59 (.mv (.t 2)),
oo 60 (.iadr 1 (.t 58) (.t 59)),
oo 61 (.load (none) (.t 60)),
oo 62 (.mv (.t 3)),
oo 63 (.iadr 2 (.t 61) (.t 62)),
oo 64 (.load (some 2) (.t 63)),
oo 9 (.alloc [.v (Value.int .i64 0), .v (Value.int .i64 0)]),
nn (.store 2 (.t 9) (.t 64))] [0, 1, 2, 3, 9])
  (.seq (.seq (.reg [oo 65 (.mv (.t 1))] [0, 2, 3, 9, 65])
  (.block 1 (.seq (.reg [oo 67 (.bin .eql (.t 65) (.c (Value.int IntKind.i64 13))),
oo 66 (.mv (.t 67))] [0, 2, 3, 9, 65, 66])
   (.cond (.t 66) (.seq (.reg [oo 68 (.mv (.t 0)),
oo 69 (.nck (.t 68)),
oo 70 (.fadr 3 (.t 69)),
oo 71 (.fadr 0 (.t 70)),
oo 72 (.load (none) (.t 71)),
oo 73 (.fadr 0 (.t 9)),
oo 74 (.load (none) (.t 73)),
oo 75 (.iadr 1 (.t 72) (.t 74)),
oo 76 (.load (none) (.t 75)),
oo 8 (.mv (.t 76))] [8])
    (.ret))
    (.seq (.reg [oo 78 (.bin .eql (.t 65) (.c (Value.int IntKind.i64 14))),
oo 77 (.mv (.t 78))] [0, 2, 3, 9, 65, 77])
    (.cond (.t 77) (.seq (.reg [oo 79 (.mv (.t 0)),
oo 80 (.nck (.t 79)),
oo 81 (.fadr 3 (.t 80)),
oo 82 (.fadr 1 (.t 81)),
oo 83 (.load (none) (.t 82)),
oo 84 (.fadr 0 (.t 9)),
oo 85 (.load (none) (.t 84)),
oo 86 (.iadr 1 (.t 83) (.t 85)),
oo 87 (.load (none) (.t 86)),
oo 88 (.len 1 (.t 87)),
oo 8 (.mv (.t 88))] [8])
     (.ret))
     (.seq (.reg [oo 90 (.bin .eql (.t 65) (.c (Value.int IntKind.i64 15))),
oo 89 (.mv (.t 90))] [0, 2, 3, 9, 65, 89])
     (.cond (.t 89) (.seq (.reg [oo 91 (.fadr 0 (.t 9)),
oo 92 (.load (none) (.t 91)),
oo 93 (.bin .eql (.t 92) (.c (Value.int IntKind.i64 0))),
oo 94 (.call 295 [.t 93]),
oo 8 (.mv (.t 94))] [8])
      (.ret))
      (.seq (.reg [oo 96 (.bin .eql (.t 65) (.c (Value.int IntKind.i64 16))),
oo 95 (.mv (.t 96))] [0, 2, 3, 9, 95])
      (.cond (.t 95) (.seq (.reg [oo 97 (.fadr 1 (.t 9)),
oo 98 (.load (none) (.t 97)),
oo 8 (.mv (.t 98))] [8])
       (.ret))
       (.skip)))))))))))
  (.seq (.reg [oo 99 (.mv (.t 0)),
oo 100 (.nck (.t 99)),
oo 101 (.fadr 6 (.t 100)),
oo 102 (.load (none) (.t 101)),
oo 103 (.mv (.t 2)),
oo 104 (.iadr 1 (.t 102) (.t 103)),
oo 105 (.load (none) (.t 104)),
oo 106 (.mv (.t 3)),
oo 107 (.iadr 1 (.t 105) (.t 106)),
oo 108 (.load (none) (.t 107)),
oo 8 (.mv (.t 108))] [8])
  (.ret))))))⟩

-- 295 selfstab/interp.truth
def m_interp_truth : MF := ⟨4, [.tmp 2], true, (
  .seq (.reg [oo 2 (.mv (.c (Value.int IntKind.i64 0)))] [0])
  (.seq (.seq (.reg [oo 3 (.mv (.t 0))] [3])
  (.cond (.t 3) (.seq (.reg [oo 2 (.mv (.c (Value.int IntKind.i64 1)))] [2])
   (.ret))
   (.skip)))
  (.seq (.reg [oo 2 (.mv (.c (Value.int IntKind.i64 0)))] [2])
  (.ret))))⟩

-- 296 slices.Contains[[]int,int]
def m_slices_Contains_int_int : MF := ⟨9, [.tmp 4], true, (
  .seq (.reg [oo 4 (.mv (.c (Value.bool false)))] [0, 1])
  (.seq (.reg [oo 5 (.mv (.t 0)),
oo 6 (.mv (.t 1)),
oo 7 (.call 306 [.t 5, .t 6]),
oo 8 (.bin .geq (.t 7) (.c (Value.int IntKind.i64 0))),
oo 4 (.mv (.t 8))] [4])
  (.ret)))⟩

-- 297 slices.ContainsFunc[[]int,int]
def m_slices_ContainsFunc_int_int : MF := ⟨9, [.tmp 4], true, (
  .seq (.reg [oo 4 (.mv (.c (Value.bool false)))] [0, 1])
  (.seq (.reg [oo 5 (.mv (.t 0)),
oo 6 (.mv (.t 1)),
oo 7 (.call 298 [.t 5, .t 6]),
oo 8 (.bin .geq (.t 7) (.c (Value.int IntKind.i64 0))),
oo 4 (.mv (.t 8))] [4])
  (.ret)))⟩

-- 298 slices.IndexFunc[[]int,int]
def m_slices_IndexFunc_int_int_L0 : MC :=
  .seq (.reg [oo 9 (.bin .lss (.t 8) (.t 7))] [0, 1, 7, 8, 9])
  (.seq (.cond (.t 9) (.skip)
   (.exit 0))
  (.seq (.block 1 (.seq (.reg [oo 10 (.mv (.t 8)),
oo 5 (.mv (.t 10))] [0, 1, 5, 7, 8])
   (.seq (.reg [oo 11 (.mv (.t 1)),
oo 12 (.mv (.t 0)),
oo 13 (.mv (.t 5)),
oo 14 (.iadr 1 (.t 12) (.t 13)),
oo 15 (.load (none) (.t 14)),
oo 16 (.callv (.t 11) [.t 15])] [0, 1, 5, 7, 8, 16])
   (.cond (.t 16) (.seq (.reg [oo 17 (.mv (.t 5)),
oo 4 (.mv (.t 17))] [4])
    (.ret))
    (.skip)))))
  (.reg [oo 18 (.bin .add (.t 8) (.c (Value.int IntKind.i64 1))),
oo 8 (.mv (.t 18))] [0, 1, 7, 8])))

def m_slices_IndexFunc_int_int : MF := ⟨19, [.tmp 4], true, (
  .seq (.reg [oo 4 (.mv (.c (Value.int IntKind.i64 0)))] [0, 1])
  (.seq (.seq (.reg [oo 6 (.mv (.t 0)),
oo 7 (.len 1 (.t 6)),
oo 8 (.mv (.c (Value.int IntKind.i64 0)))] [0, 1, 7, 8])
  (.block 0 (.loop [0, 1, 7, 8] m_slices_IndexFunc_int_int_L0)))
  (.seq (.reg [oo 4 (.mv (.c (Value.int IntKind.i64 (-1))))] [4])
  (.ret))))⟩

-- 299 selfstab/interp.saturated
def m_interp_saturated : MF := ⟨6, [.tmp 2], true, (
  .seq (.reg [oo 2 (.mv (.c (Value.int IntKind.i64 0)))] [0])
  (.seq (.reg [oo 3 (.mv (.t 0)),
oo 4 (.mn [.c (Value.int IntKind.i64 1073741824), .t 3]),
oo 5 (.mx [.c (Value.int IntKind.i64 (-1073741824)), .t 4]),
oo 2 (.mv (.t 5))] [2])
  (.ret)))⟩

-- 300 selfstab/interp.quotient
def m_interp_quotient : MF := ⟨25, [.tmp 4], true, (
  .seq (.reg [oo 4 (.mv (.c (Value.int IntKind.i64 0)))] [0, 1])
  (.seq (.seq (.reg [oo 6 (.mv (.t 1)),
oo 7 (.bin .eql (.t 6) (.c (Value.int IntKind.i64 0)))] [0, 1, 7])
  (.cond (.t 7) (.seq (.reg [oo 4 (.mv (.c (Value.int IntKind.i64 0)))] [4])
   (.ret))
   (.skip)))
  (.seq (.reg [oo 8 (.mv (.t 0)),
oo 9 (.mv (.t 1)),
oo 10 (.bin .quo (.t 8) (.t 9)),
oo 5 (.mv (.t 10))] [0, 1, 5])
  (.seq (.seq (.reg [oo 11 (.mv (.t 0)),
oo 12 (.mv (.t 1)),
oo 13 (.bin .rem (.t 11) (.t 12)),
oo 14 (.bin .neq (.t 13) (.c (Value.int IntKind.i64 0))),
oo 15 (.mv (.t 14)),
⟨some 16, .mv (.t 0), some (15, true)⟩,
⟨some 17, .bin .lss (.t 16) (.c (Value.int IntKind.i64 0)), some (15, true)⟩,
⟨some 18, .mv (.t 1), some (15, true)⟩,
⟨some 19, .bin .lss (.t 18) (.c (Value.int IntKind.i64 0)), some (15, true)⟩,
⟨some 20, .eqb true (.t 17) (.t 19), some (15, true)⟩,
oo 21 (.pick (.t 15) (.t 20) (.c (Value.bool false)))] [5, 21])
  (.cond (.t 21) (.reg [oo 22 (.mv (.t 5)),
oo 23 (.bin .sub (.t 22) (.c (Value.int IntKind.i64 1))),
oo 5 (.mv (.t 23))] [5])
   (.skip)))
  (.seq (.reg [oo 24 (.mv (.t 5)),
oo 4 (.mv (.t 24))] [4])
  (.ret))))))⟩

-- 306 slices.Index[[]int,int]
def m_slices_Index_int_int_L0 : MC :=
  .seq (.reg [oo 9 (.bin .lss (.t 8) (.t 7))] [0, 1, 7, 8, 9])
  (.seq (.cond (.t 9) (.skip)
   (.exit 0))
  (.seq (.block 1 (.seq (.reg [oo 10 (.mv (.t 8)),
oo 5 (.mv (.t 10))] [0, 1, 5, 7, 8])
   (.seq (.reg [oo 11 (.mv (.t 1)),
oo 12 (.mv (.t 0)),
oo 13 (.mv (.t 5)),
oo 14 (.iadr 1 (.t 12) (.t 13)),
oo 15 (.load (none) (.t 14)),
oo 16 (.bin .eql (.t 11) (.t 15))] [0, 1, 5, 7, 8, 16])
   (.cond (.t 16) (.seq (.reg [oo 17 (.mv (.t 5)),
oo 4 (.mv (.t 17))] [4])
    (.ret))
    (.skip)))))
  (.reg [oo 18 (.bin .add (.t 8) (.c (Value.int IntKind.i64 1))),
oo 8 (.mv (.t 18))] [0, 1, 7, 8])))

def m_slices_Index_int_int : MF := ⟨19, [.tmp 4], true, (
  .seq (.reg [oo 4 (.mv (.c (Value.int IntKind.i64 0)))] [0, 1])
  (.seq (.seq (.reg [oo 6 (.mv (.t 0)),
oo 7 (.len 1 (.t 6)),
oo 8 (.mv (.c (Value.int IntKind.i64 0)))] [0, 1, 7, 8])
  (.block 0 (.loop [0, 1, 7, 8] m_slices_Index_int_int_L0)))
  (.seq (.reg [oo 4 (.mv (.c (Value.int IntKind.i64 (-1))))] [4])
  (.ret))))⟩

def fnsL : List (Nat × MF) :=
  [(135, m_selfstablaw30_MatchingText),
   (115, m_program_Parse),
   (58, m_selfstabworld_Within),
   (131, m_matching_Text),
   (132, m_selfstabref30_Vars),
   (133, m_selfstablaw30_known),
   (134, m_selfstabref30_Text),
   (159, m_matching_Fit),
   (156, m_matching_Legit),
   (158, m_selfstablaw30_samePairs),
   (157, m_matching_Pairs),
   (136, m_syntax_Open),
   (173, m_program_reader_all),
   (179, m_types_Check),
   (65, m_selfstabref23_Pointer),
   (31, m_selfstabworld_Net_Tree),
   (138, m_selfstabworld_Program),
   (155, m_step_Step),
   (32, m_graph_Valid),
   (160, m_matching_configuration),
   (161, m_graph_Back),
   (43, m_shape_At),
   (78, m_slices_SortFunc_2_int_2_int),
   (162, m_matching_Pairs_1),
   (192, m_cmp_Compare_int),
   (163, m_lexer_Scan),
   (166, m_syntax_Reader_Wants),
   (167, m_syntax_Reader_Fresh),
   (168, m_program_reader_word),
   (169, m_program_reader_variable),
   (170, m_program_reader_rule),
   (171, m_syntax_Reader_Done),
   (172, m_syntax_Reader_Fail),
   (174, m_types_ranged),
   (175, m_lexer_Name),
   (176, m_types_named),
   (177, m_types_formed),
   (178, m_types_typed),
   (56, m_selfstabworld_Net_nodes),
   (59, m_selfstabworld_Net_link),
   (57, m_selfstabworld_at),
   (36, m_slices_IndexFunc_api_Link_api_Link),
   (181, m_interp_New),
   (182, m_interp_World_Enabled),
   (62, m_shape_Holds),
   (189, m_memory_Check),
   (190, m_interp_World_Step),
   (84, m_graph_node),
   (77, m_slices_pdqsortCmpFunc_2_int),
   (73, m_math_bits_Len),
   (191, m_cmp_isNaN_int),
   (193, m_lexer_skip),
   (194, m_lexer_next),
   (195, m_syntax_Reader_Takes),
   (196, m_syntax_Reader_ahead),
   (197, m_slices_Contains_string_string),
   (198, m_syntax_Reader_Sees),
   (199, m_syntax_Reader_Number),
   (200, m_program_reader_bound),
   (201, m_syntax_Reader_Choice),
   (202, m_syntax_Reader_Variable),
   (203, m_syntax_Reader_Place),
   (204, m_types_kind),
   (205, m_types_within),
   (206, m_lexer_letter),
   (208, m_lexer_while),
   (207, m_lexer_inside),
   (209, m_lexer_Reserved),
   (210, m_term_Valid),
   (211, m_types_of),
   (82, m_selfstabworld_linked),
   (55, m_slices_Max_int_int),
   (212, m_interp_New_1),
   (213, m_interp_World_Rule),
   (219, m_slices_Clone_int_int),
   (223, m_domain_Fits),
   (224, m_interp_World_Clamp),
   (225, m_interp_World_Move),
   (96, m_slices_insertionSortCmpFunc_2_int),
   (97, m_slices_heapSortCmpFunc_2_int),
   (98, m_slices_breakPatternsCmpFunc_2_int),
   (99, m_slices_choosePivotCmpFunc_2_int),
   (100, m_slices_reverseRangeCmpFunc_2_int),
   (101, m_slices_partialInsertionSortCmpFunc_2_int),
   (102, m_slices_partitionEqualCmpFunc_2_int),
   (103, m_slices_partitionCmpFunc_2_int),
   (94, m_math_bits_Len32),
   (95, m_math_bits_Len64),
   (226, m_lexer_blank),
   (227, m_lexer_skip_1),
   (228, m_lexer_digit),
   (229, m_lexer_number),
   (233, m_slices_Index_string_string),
   (234, m_syntax_Reader_Counts),
   (235, m_syntax_Reader_Follows),
   (236, m_syntax_Reader_level),
   (237, m_syntax_with),
   (238, m_term_one),
   (239, m_term_Depth),
   (240, m_term_Nest),
   (241, m_term_limit),
   (242, m_types_checker_read),
   (244, m_slices_IndexFunc_api_Rule_api_Rule),
   (243, m_interp_World_Rule_1),
   (264, m_interp_isTrue),
   (250, m_interp_World_Value),
   (248, m_domain_check),
   (249, m_domain_ends),
   (109, m_slices_siftDownCmpFunc_2_int),
   (105, m_slices_nextPowerOfTwo),
   (106, m_slices_xorshift_Next),
   (110, m_slices_medianAdjacentCmpFunc_2_int),
   (111, m_slices_medianCmpFunc_2_int),
   (254, m_syntax_Levels),
   (255, m_syntax_Reader_unary),
   (256, m_term_End),
   (258, m_term_fold),
   (257, m_term_Depth_1),
   (259, m_term_Nest_1),
   (280, m_term_aggregate),
   (261, m_types_checker_operands),
   (260, m_term_Arity),
   (262, m_types_when),
   (263, m_types_all),
   (265, m_interp_reader_read),
   (275, m_types_Valid),
   (276, m_domain_kinds),
   (113, m_slices_order2CmpFunc_2_int),
   (279, m_syntax_Reader_primary),
   (281, m_interp_reader_fact),
   (282, m_interp_Unary),
   (284, m_interp_Fold),
   (283, m_interp_reader_each),
   (285, m_interp_Binary),
   (301, m_domain_kinds_1),
   (302, m_domain_kinds_2),
   (303, m_domain_kinds_3),
   (291, m_syntax_Reader_pick),
   (290, m_syntax_Words),
   (292, m_syntax_Aggregates),
   (293, m_syntax_Fields),
   (294, m_interp_World_Fact),
   (295, m_interp_truth),
   (296, m_slices_Contains_int_int),
   (297, m_slices_ContainsFunc_int_int),
   (298, m_slices_IndexFunc_int_int),
   (299, m_interp_saturated),
   (300, m_interp_quotient),
   (306, m_slices_Index_int_int)]
def prgF (g : Nat) : Option MF := (fnsL.find? (·.1 = g)).map (·.2)
@[simp] theorem prgF_135 : prgF 135 = some m_selfstablaw30_MatchingText := rfl
@[simp] theorem prgF_115 : prgF 115 = some m_program_Parse := rfl
@[simp] theorem prgF_58 : prgF 58 = some m_selfstabworld_Within := rfl
@[simp] theorem prgF_131 : prgF 131 = some m_matching_Text := rfl
@[simp] theorem prgF_132 : prgF 132 = some m_selfstabref30_Vars := rfl
@[simp] theorem prgF_133 : prgF 133 = some m_selfstablaw30_known := rfl
@[simp] theorem prgF_134 : prgF 134 = some m_selfstabref30_Text := rfl
@[simp] theorem prgF_159 : prgF 159 = some m_matching_Fit := rfl
@[simp] theorem prgF_156 : prgF 156 = some m_matching_Legit := rfl
@[simp] theorem prgF_158 : prgF 158 = some m_selfstablaw30_samePairs := rfl
@[simp] theorem prgF_157 : prgF 157 = some m_matching_Pairs := rfl
@[simp] theorem prgF_136 : prgF 136 = some m_syntax_Open := rfl
@[simp] theorem prgF_173 : prgF 173 = some m_program_reader_all := rfl
@[simp] theorem prgF_179 : prgF 179 = some m_types_Check := rfl
@[simp] theorem prgF_65 : prgF 65 = some m_selfstabref23_Pointer := rfl
@[simp] theorem prgF_31 : prgF 31 = some m_selfstabworld_Net_Tree := rfl
@[simp] theorem prgF_138 : prgF 138 = some m_selfstabworld_Program := rfl
@[simp] theorem prgF_155 : prgF 155 = some m_step_Step := rfl
@[simp] theorem prgF_32 : prgF 32 = some m_graph_Valid := rfl
@[simp] theorem prgF_160 : prgF 160 = some m_matching_configuration := rfl
@[simp] theorem prgF_161 : prgF 161 = some m_graph_Back := rfl
@[simp] theorem prgF_43 : prgF 43 = some m_shape_At := rfl
@[simp] theorem prgF_78 : prgF 78 = some m_slices_SortFunc_2_int_2_int := rfl
@[simp] theorem prgF_162 : prgF 162 = some m_matching_Pairs_1 := rfl
@[simp] theorem prgF_192 : prgF 192 = some m_cmp_Compare_int := rfl
@[simp] theorem prgF_163 : prgF 163 = some m_lexer_Scan := rfl
@[simp] theorem prgF_166 : prgF 166 = some m_syntax_Reader_Wants := rfl
@[simp] theorem prgF_167 : prgF 167 = some m_syntax_Reader_Fresh := rfl
@[simp] theorem prgF_168 : prgF 168 = some m_program_reader_word := rfl
@[simp] theorem prgF_169 : prgF 169 = some m_program_reader_variable := rfl
@[simp] theorem prgF_170 : prgF 170 = some m_program_reader_rule := rfl
@[simp] theorem prgF_171 : prgF 171 = some m_syntax_Reader_Done := rfl
@[simp] theorem prgF_172 : prgF 172 = some m_syntax_Reader_Fail := rfl
@[simp] theorem prgF_174 : prgF 174 = some m_types_ranged := rfl
@[simp] theorem prgF_175 : prgF 175 = some m_lexer_Name := rfl
@[simp] theorem prgF_176 : prgF 176 = some m_types_named := rfl
@[simp] theorem prgF_177 : prgF 177 = some m_types_formed := rfl
@[simp] theorem prgF_178 : prgF 178 = some m_types_typed := rfl
@[simp] theorem prgF_56 : prgF 56 = some m_selfstabworld_Net_nodes := rfl
@[simp] theorem prgF_59 : prgF 59 = some m_selfstabworld_Net_link := rfl
@[simp] theorem prgF_57 : prgF 57 = some m_selfstabworld_at := rfl
@[simp] theorem prgF_36 : prgF 36 = some m_slices_IndexFunc_api_Link_api_Link := rfl
@[simp] theorem prgF_181 : prgF 181 = some m_interp_New := rfl
@[simp] theorem prgF_182 : prgF 182 = some m_interp_World_Enabled := rfl
@[simp] theorem prgF_62 : prgF 62 = some m_shape_Holds := rfl
@[simp] theorem prgF_189 : prgF 189 = some m_memory_Check := rfl
@[simp] theorem prgF_190 : prgF 190 = some m_interp_World_Step := rfl
@[simp] theorem prgF_84 : prgF 84 = some m_graph_node := rfl
@[simp] theorem prgF_77 : prgF 77 = some m_slices_pdqsortCmpFunc_2_int := rfl
@[simp] theorem prgF_73 : prgF 73 = some m_math_bits_Len := rfl
@[simp] theorem prgF_191 : prgF 191 = some m_cmp_isNaN_int := rfl
@[simp] theorem prgF_193 : prgF 193 = some m_lexer_skip := rfl
@[simp] theorem prgF_194 : prgF 194 = some m_lexer_next := rfl
@[simp] theorem prgF_195 : prgF 195 = some m_syntax_Reader_Takes := rfl
@[simp] theorem prgF_196 : prgF 196 = some m_syntax_Reader_ahead := rfl
@[simp] theorem prgF_197 : prgF 197 = some m_slices_Contains_string_string := rfl
@[simp] theorem prgF_198 : prgF 198 = some m_syntax_Reader_Sees := rfl
@[simp] theorem prgF_199 : prgF 199 = some m_syntax_Reader_Number := rfl
@[simp] theorem prgF_200 : prgF 200 = some m_program_reader_bound := rfl
@[simp] theorem prgF_201 : prgF 201 = some m_syntax_Reader_Choice := rfl
@[simp] theorem prgF_202 : prgF 202 = some m_syntax_Reader_Variable := rfl
@[simp] theorem prgF_203 : prgF 203 = some m_syntax_Reader_Place := rfl
@[simp] theorem prgF_204 : prgF 204 = some m_types_kind := rfl
@[simp] theorem prgF_205 : prgF 205 = some m_types_within := rfl
@[simp] theorem prgF_206 : prgF 206 = some m_lexer_letter := rfl
@[simp] theorem prgF_208 : prgF 208 = some m_lexer_while := rfl
@[simp] theorem prgF_207 : prgF 207 = some m_lexer_inside := rfl
@[simp] theorem prgF_209 : prgF 209 = some m_lexer_Reserved := rfl
@[simp] theorem prgF_210 : prgF 210 = some m_term_Valid := rfl
@[simp] theorem prgF_211 : prgF 211 = some m_types_of := rfl
@[simp] theorem prgF_82 : prgF 82 = some m_selfstabworld_linked := rfl
@[simp] theorem prgF_55 : prgF 55 = some m_slices_Max_int_int := rfl
@[simp] theorem prgF_212 : prgF 212 = some m_interp_New_1 := rfl
@[simp] theorem prgF_213 : prgF 213 = some m_interp_World_Rule := rfl
@[simp] theorem prgF_219 : prgF 219 = some m_slices_Clone_int_int := rfl
@[simp] theorem prgF_223 : prgF 223 = some m_domain_Fits := rfl
@[simp] theorem prgF_224 : prgF 224 = some m_interp_World_Clamp := rfl
@[simp] theorem prgF_225 : prgF 225 = some m_interp_World_Move := rfl
@[simp] theorem prgF_96 : prgF 96 = some m_slices_insertionSortCmpFunc_2_int := rfl
@[simp] theorem prgF_97 : prgF 97 = some m_slices_heapSortCmpFunc_2_int := rfl
@[simp] theorem prgF_98 : prgF 98 = some m_slices_breakPatternsCmpFunc_2_int := rfl
@[simp] theorem prgF_99 : prgF 99 = some m_slices_choosePivotCmpFunc_2_int := rfl
@[simp] theorem prgF_100 : prgF 100 = some m_slices_reverseRangeCmpFunc_2_int := rfl
@[simp] theorem prgF_101 : prgF 101 = some m_slices_partialInsertionSortCmpFunc_2_int := rfl
@[simp] theorem prgF_102 : prgF 102 = some m_slices_partitionEqualCmpFunc_2_int := rfl
@[simp] theorem prgF_103 : prgF 103 = some m_slices_partitionCmpFunc_2_int := rfl
@[simp] theorem prgF_94 : prgF 94 = some m_math_bits_Len32 := rfl
@[simp] theorem prgF_95 : prgF 95 = some m_math_bits_Len64 := rfl
@[simp] theorem prgF_226 : prgF 226 = some m_lexer_blank := rfl
@[simp] theorem prgF_227 : prgF 227 = some m_lexer_skip_1 := rfl
@[simp] theorem prgF_228 : prgF 228 = some m_lexer_digit := rfl
@[simp] theorem prgF_229 : prgF 229 = some m_lexer_number := rfl
@[simp] theorem prgF_233 : prgF 233 = some m_slices_Index_string_string := rfl
@[simp] theorem prgF_234 : prgF 234 = some m_syntax_Reader_Counts := rfl
@[simp] theorem prgF_235 : prgF 235 = some m_syntax_Reader_Follows := rfl
@[simp] theorem prgF_236 : prgF 236 = some m_syntax_Reader_level := rfl
@[simp] theorem prgF_237 : prgF 237 = some m_syntax_with := rfl
@[simp] theorem prgF_238 : prgF 238 = some m_term_one := rfl
@[simp] theorem prgF_239 : prgF 239 = some m_term_Depth := rfl
@[simp] theorem prgF_240 : prgF 240 = some m_term_Nest := rfl
@[simp] theorem prgF_241 : prgF 241 = some m_term_limit := rfl
@[simp] theorem prgF_242 : prgF 242 = some m_types_checker_read := rfl
@[simp] theorem prgF_244 : prgF 244 = some m_slices_IndexFunc_api_Rule_api_Rule := rfl
@[simp] theorem prgF_243 : prgF 243 = some m_interp_World_Rule_1 := rfl
@[simp] theorem prgF_264 : prgF 264 = some m_interp_isTrue := rfl
@[simp] theorem prgF_250 : prgF 250 = some m_interp_World_Value := rfl
@[simp] theorem prgF_248 : prgF 248 = some m_domain_check := rfl
@[simp] theorem prgF_249 : prgF 249 = some m_domain_ends := rfl
@[simp] theorem prgF_109 : prgF 109 = some m_slices_siftDownCmpFunc_2_int := rfl
@[simp] theorem prgF_105 : prgF 105 = some m_slices_nextPowerOfTwo := rfl
@[simp] theorem prgF_106 : prgF 106 = some m_slices_xorshift_Next := rfl
@[simp] theorem prgF_110 : prgF 110 = some m_slices_medianAdjacentCmpFunc_2_int := rfl
@[simp] theorem prgF_111 : prgF 111 = some m_slices_medianCmpFunc_2_int := rfl
@[simp] theorem prgF_254 : prgF 254 = some m_syntax_Levels := rfl
@[simp] theorem prgF_255 : prgF 255 = some m_syntax_Reader_unary := rfl
@[simp] theorem prgF_256 : prgF 256 = some m_term_End := rfl
@[simp] theorem prgF_258 : prgF 258 = some m_term_fold := rfl
@[simp] theorem prgF_257 : prgF 257 = some m_term_Depth_1 := rfl
@[simp] theorem prgF_259 : prgF 259 = some m_term_Nest_1 := rfl
@[simp] theorem prgF_280 : prgF 280 = some m_term_aggregate := rfl
@[simp] theorem prgF_261 : prgF 261 = some m_types_checker_operands := rfl
@[simp] theorem prgF_260 : prgF 260 = some m_term_Arity := rfl
@[simp] theorem prgF_262 : prgF 262 = some m_types_when := rfl
@[simp] theorem prgF_263 : prgF 263 = some m_types_all := rfl
@[simp] theorem prgF_265 : prgF 265 = some m_interp_reader_read := rfl
@[simp] theorem prgF_275 : prgF 275 = some m_types_Valid := rfl
@[simp] theorem prgF_276 : prgF 276 = some m_domain_kinds := rfl
@[simp] theorem prgF_113 : prgF 113 = some m_slices_order2CmpFunc_2_int := rfl
@[simp] theorem prgF_279 : prgF 279 = some m_syntax_Reader_primary := rfl
@[simp] theorem prgF_281 : prgF 281 = some m_interp_reader_fact := rfl
@[simp] theorem prgF_282 : prgF 282 = some m_interp_Unary := rfl
@[simp] theorem prgF_284 : prgF 284 = some m_interp_Fold := rfl
@[simp] theorem prgF_283 : prgF 283 = some m_interp_reader_each := rfl
@[simp] theorem prgF_285 : prgF 285 = some m_interp_Binary := rfl
@[simp] theorem prgF_301 : prgF 301 = some m_domain_kinds_1 := rfl
@[simp] theorem prgF_302 : prgF 302 = some m_domain_kinds_2 := rfl
@[simp] theorem prgF_303 : prgF 303 = some m_domain_kinds_3 := rfl
@[simp] theorem prgF_291 : prgF 291 = some m_syntax_Reader_pick := rfl
@[simp] theorem prgF_290 : prgF 290 = some m_syntax_Words := rfl
@[simp] theorem prgF_292 : prgF 292 = some m_syntax_Aggregates := rfl
@[simp] theorem prgF_293 : prgF 293 = some m_syntax_Fields := rfl
@[simp] theorem prgF_294 : prgF 294 = some m_interp_World_Fact := rfl
@[simp] theorem prgF_295 : prgF 295 = some m_interp_truth := rfl
@[simp] theorem prgF_296 : prgF 296 = some m_slices_Contains_int_int := rfl
@[simp] theorem prgF_297 : prgF 297 = some m_slices_ContainsFunc_int_int := rfl
@[simp] theorem prgF_298 : prgF 298 = some m_slices_IndexFunc_int_int := rfl
@[simp] theorem prgF_299 : prgF 299 = some m_interp_saturated := rfl
@[simp] theorem prgF_300 : prgF 300 = some m_interp_quotient := rfl
@[simp] theorem prgF_306 : prgF 306 = some m_slices_Index_int_int := rfl
end Sx
