/-
  K: functions as Lean functions, printed by wip/tools/kp.py.
-/
import Derived.Test.YtgmppophlalliaaGreatSxH1
namespace Sx
open Go
set_option linter.unusedVariables false
set_option maxRecDepth 10000

-- selfstab/selfstabworld.Within
def k_selfstabworld_Within : KF := ⟨16, [.tmp 4], (
  .seq (.reg [⟨some 4, .mv (.c (Value.int IntKind.i64 0)), none, none⟩] [0, 1])
  (.seq (.seq (.reg [⟨some 5, .mv (.t 1), none, none⟩,
    ⟨some 6, .bin .lss (.t 5) (.c (Value.int IntKind.i64 1)), none, none⟩] [0, 1, 6])
  (.cond (.t 6) (.seq (.reg [⟨some 4, .mv (.c (Value.int IntKind.i64 0)), none, none⟩] [4])
   (.ret))
   (.skip)))
  (.seq (.reg [⟨some 7, .mv (.t 0), none, none⟩,
    ⟨some 8, .mv (.t 1), none, none⟩,
    ⟨some 9, .bin .rem (.t 7) (.t 8), none, none⟩,
    ⟨some 0, .mv (.t 9), none, none⟩] [0, 1])
  (.seq (.seq (.reg [⟨some 10, .mv (.t 0), none, none⟩,
    ⟨some 11, .bin .lss (.t 10) (.c (Value.int IntKind.i64 0)), none, none⟩] [0, 1, 11])
  (.cond (.t 11) (.reg [⟨some 12, .mv (.t 0), none, none⟩,
     ⟨some 13, .mv (.t 1), none, none⟩,
     ⟨some 14, .bin .add (.t 12) (.t 13), none, none⟩,
     ⟨some 0, .mv (.t 14), none, none⟩] [0])
   (.skip)))
  (.seq (.reg [⟨some 15, .mv (.t 0), none, none⟩,
    ⟨some 4, .mv (.t 15), none, none⟩] [4])
  (.ret)))))), true⟩

theorem k_selfstabworld_Within_mf : k_selfstabworld_Within.mf = m_selfstabworld_Within := by kernel_rfl

def lp_selfstabworld_Within {R : Type} (N : Nat) : Nat → KSt → KK R → Option R
  | _, _, _ => none

def s_selfstabworld_Within (N : Nat) (v : Int) (m_ : Int) : Option (Int) :=
  sel (decide (m_ < 1)) (
    some 0) (
    chk (!(m_ == 0)) (
    sel (decide ((v.tmod m_) < 0)) (
      some (IntKind.i64.wrap ((v.tmod m_) + m_))) (
      some (v.tmod m_))))

def e_selfstabworld_Within (N : Nat) : Ent := ⟨58, [], [.cell (.int .i64), .cell (.int .i64)], .cell (.int .i64), fun x => s_selfstabworld_Within N x.1 x.2.1, false⟩

def es_selfstabworld_Within (N : Nat) : List Ent := []
theorem es_selfstabworld_Within_ok (N : Nat) : EntsOK prg0 N 0 (es_selfstabworld_Within N) := trivial

theorem ok_selfstabworld_Within (N : Nat) : EntOK prg0 N 1 (e_selfstabworld_Within N) :=
  ent_ok (es_selfstabworld_Within_ok N) (f := k_selfstabworld_Within) rfl ((prgF_58).trans (congrArg some k_selfstabworld_Within_mf.symm)) rfl rfl (lp_selfstabworld_Within N) (fun d hd call hcall hC => ⟨trivial, ⟨⟨trivial, ⟨⟨trivial, trivial⟩, trivial⟩⟩, ⟨trivial, ⟨⟨trivial, ⟨trivial, trivial⟩⟩, ⟨trivial, trivial⟩⟩⟩⟩⟩) (fun x => by kernel_rfl)

-- selfstab/graph.Valid
def k_graph_Valid_L2 : KC :=
  .seq (.reg [⟨some 65, .bin .lss (.t 64) (.t 63), none, none⟩] [3, 7, 8, 55, 56, 57, 62, 63, 64, 65])
  (.seq (.cond (.t 65) (.skip)
   (.exit 4))
  (.seq (.block 5 (.seq (.reg [⟨some 66, .iadr 2 (.t 62) (.t 64), none, none⟩,
     ⟨some 67, .load (some 2) (.t 66), none, none⟩,
     ⟨some 11, .alloc [.v (Value.int .i64 0), .v (Value.int .i64 0)], none, none⟩,
     ⟨none, .store 2 (.t 11) (.t 67), none, none⟩] [3, 7, 8, 11, 55, 56, 57, 62, 63, 64])
   (.seq (.reg [⟨some 68, .mv (.t 8), none, none⟩,
     ⟨some 69, .fadr 0 (.t 11), none, none⟩,
     ⟨some 70, .load (none) (.t 69), none, none⟩,
     ⟨some 71, .build [.v (Value.int .i64 0), .v (Value.int .i64 0)] [(0, 1, (.t 68)), (1, 1, (.t 70))], none, none⟩,
     ⟨some 12, .alloc [.v (Value.int .i64 0), .v (Value.int .i64 0)], none, none⟩,
     ⟨none, .store 2 (.t 12) (.t 71), none, none⟩] [3, 7, 8, 11, 12, 55, 56, 57, 62, 63, 64])
   (.seq (.seq (.reg [⟨some 72, .fadr 0 (.t 11), none, none⟩,
     ⟨some 73, .load (none) (.t 72), none, none⟩,
     ⟨some 74, .bin .lss (.t 73) (.c (Value.int IntKind.i64 0)), none, none⟩,
     ⟨some 75, .mv (.t 74), none, none⟩,
     ⟨some 76, .fadr 0 (.t 11), some (75, false), none⟩,
     ⟨some 77, .load (none) (.t 76), some (75, false), none⟩,
     ⟨some 78, .mv (.t 3), some (75, false), none⟩,
     ⟨some 79, .bin .geq (.t 77) (.t 78), some (75, false), none⟩,
     ⟨some 80, .pick (.t 75) (.c (Value.bool true)) (.t 79), none, none⟩,
     ⟨some 81, .mv (.t 80), none, none⟩,
     ⟨some 82, .fadr 0 (.t 11), some (81, false), none⟩,
     ⟨some 83, .load (none) (.t 82), some (81, false), none⟩,
     ⟨some 84, .mv (.t 8), some (81, false), none⟩,
     ⟨some 85, .bin .eql (.t 83) (.t 84), some (81, false), none⟩,
     ⟨some 86, .pick (.t 81) (.c (Value.bool true)) (.t 85), none, none⟩,
     ⟨some 87, .mv (.t 86), none, none⟩,
     ⟨some 88, .fadr 1 (.t 11), some (87, false), none⟩,
     ⟨some 89, .load (none) (.t 88), some (87, false), none⟩,
     ⟨some 90, .bin .lss (.t 89) (.c (Value.int IntKind.i64 1)), some (87, false), none⟩,
     ⟨some 91, .pick (.t 87) (.c (Value.bool true)) (.t 90), none, none⟩,
     ⟨some 92, .mv (.t 91), none, none⟩,
     ⟨some 93, .fadr 1 (.t 11), some (92, false), none⟩,
     ⟨some 94, .load (none) (.t 93), some (92, false), none⟩,
     ⟨some 95, .bin .gtr (.t 94) (.c (Value.int IntKind.i64 15)), some (92, false), none⟩,
     ⟨some 96, .pick (.t 92) (.c (Value.bool true)) (.t 95), none, none⟩,
     ⟨some 97, .mv (.t 96), none, none⟩,
     ⟨some 98, .mv (.t 7), some (97, false), none⟩,
     ⟨some 99, .load (some 2) (.t 12), some (97, false), none⟩,
     ⟨some 100, .look true [0, 0] (.v (Value.int .i64 0)) false (.t 98) (.t 99), some (97, false), none⟩,
     ⟨some 101, .bin .neq (.t 100) (.c (Value.int IntKind.i64 0)), some (97, false), none⟩,
     ⟨some 102, .pick (.t 97) (.c (Value.bool true)) (.t 101), none, none⟩] [3, 7, 8, 11, 12, 55, 56, 57, 62, 63, 64, 102])
   (.cond (.t 102) (.seq (.reg [⟨some 2, .mv (.c (Value.bool false)), none, none⟩] [2])
    (.ret))
    (.skip)))
   (.reg [⟨some 103, .mv (.t 7), none, none⟩,
     ⟨some 104, .load (some 2) (.t 12), none, none⟩,
     ⟨some 105, .fadr 1 (.t 11), none, none⟩,
     ⟨some 106, .load (none) (.t 105), none, none⟩,
     ⟨none, .mput true [0, 0] (.t 103) (.t 104) (.t 106), none, none⟩] [3, 7, 8, 55, 56, 57, 62, 63, 64])))))
  (.reg [⟨some 107, .bin .add (.t 64) (.c (Value.int IntKind.i64 1)), none, none⟩,
    ⟨some 64, .mv (.t 107), none, none⟩] [3, 7, 8, 55, 56, 57, 62, 63, 64])))

def k_graph_Valid_L1 : KC :=
  .seq (.reg [⟨some 58, .bin .lss (.t 57) (.t 56), none, none⟩] [3, 7, 55, 56, 57, 58])
  (.seq (.cond (.t 58) (.skip)
   (.exit 2))
  (.seq (.block 3 (.seq (.reg [⟨some 59, .mv (.t 57), none, none⟩,
     ⟨some 60, .iadr 1 (.t 55) (.t 57), none, none⟩,
     ⟨some 61, .load (none) (.t 60), none, none⟩,
     ⟨some 8, .mv (.t 59), none, none⟩,
     ⟨some 9, .mv (.t 61), none, none⟩] [3, 7, 8, 9, 55, 56, 57])
   (.seq (.reg [⟨some 62, .mv (.t 9), none, none⟩,
     ⟨some 63, .len 1 (.t 62), none, none⟩,
     ⟨some 64, .mv (.c (Value.int IntKind.i64 0)), none, none⟩] [3, 7, 8, 55, 56, 57, 62, 63, 64])
   (.block 4 (.loop 2 [3, 7, 8, 55, 56, 57, 62, 63, 64] k_graph_Valid_L2)))))
  (.reg [⟨some 108, .bin .add (.t 57) (.c (Value.int IntKind.i64 1)), none, none⟩,
    ⟨some 57, .mv (.t 108), none, none⟩] [3, 7, 55, 56, 57])))

def k_graph_Valid_L0 : KC :=
  .seq (.reg [⟨some 36, .bin .lss (.t 35) (.t 34), none, none⟩] [1, 3, 4, 33, 34, 35, 36])
  (.seq (.cond (.t 36) (.skip)
   (.exit 0))
  (.seq (.block 1 (.seq (.reg [⟨some 37, .iadr 1 (.t 33) (.t 35), none, none⟩,
     ⟨some 38, .load (none) (.t 37), none, none⟩,
     ⟨some 6, .mv (.t 38), none, none⟩] [1, 3, 4, 6, 33, 34, 35])
   (.seq (.seq (.reg [⟨some 39, .mv (.t 6), none, none⟩,
     ⟨some 40, .bin .lss (.t 39) (.c (Value.int IntKind.i64 0)), none, none⟩,
     ⟨some 41, .mv (.t 40), none, none⟩,
     ⟨some 42, .mv (.t 6), some (41, false), none⟩,
     ⟨some 43, .bin .gtr (.t 42) (.c (Value.int IntKind.i64 255)), some (41, false), none⟩,
     ⟨some 44, .pick (.t 41) (.c (Value.bool true)) (.t 43), none, none⟩,
     ⟨some 45, .mv (.t 44), none, none⟩,
     ⟨some 46, .mv (.t 4), some (45, false), none⟩,
     ⟨some 47, .mv (.t 6), some (45, false), none⟩,
     ⟨some 48, .look false [0] (.v (Value.bool false)) false (.t 46) (.t 47), some (45, false), none⟩,
     ⟨some 49, .pick (.t 45) (.c (Value.bool true)) (.t 48), none, none⟩] [1, 3, 4, 6, 33, 34, 35, 49])
   (.cond (.t 49) (.seq (.reg [⟨some 2, .mv (.c (Value.bool false)), none, none⟩] [2])
    (.ret))
    (.skip)))
   (.reg [⟨some 50, .mv (.t 4), none, none⟩,
     ⟨some 51, .mv (.t 6), none, none⟩,
     ⟨none, .mput false [0] (.t 50) (.t 51) (.c (Value.bool true)), none, none⟩] [1, 3, 4, 33, 34, 35]))))
  (.reg [⟨some 52, .bin .add (.t 35) (.c (Value.int IntKind.i64 1)), none, none⟩,
    ⟨some 35, .mv (.t 52), none, none⟩] [1, 3, 4, 33, 34, 35])))

def k_graph_Valid : KF := ⟨125, [.tmp 2], (
  .seq (.reg [⟨some 1, .box 2 (.t 0), none, none⟩,
    ⟨some 2, .mv (.c (Value.bool false)), none, none⟩] [1])
  (.seq (.reg [⟨some 15, .fadr 1 (.t 1), none, none⟩,
    ⟨some 16, .load (none) (.t 15), none, none⟩,
    ⟨some 17, .len 1 (.t 16), none, none⟩,
    ⟨some 3, .mv (.t 17), none, none⟩] [1, 3])
  (.seq (.seq (.reg [⟨some 18, .mv (.t 3), none, none⟩,
    ⟨some 19, .bin .lss (.t 18) (.c (Value.int IntKind.i64 1)), none, none⟩,
    ⟨some 20, .mv (.t 19), none, none⟩,
    ⟨some 21, .mv (.t 3), some (20, false), none⟩,
    ⟨some 22, .bin .gtr (.t 21) (.c (Value.int IntKind.i64 24)), some (20, false), none⟩,
    ⟨some 23, .pick (.t 20) (.c (Value.bool true)) (.t 22), none, none⟩,
    ⟨some 24, .mv (.t 23), none, none⟩,
    ⟨some 25, .fadr 0 (.t 1), some (24, false), none⟩,
    ⟨some 26, .load (none) (.t 25), some (24, false), none⟩,
    ⟨some 27, .len 1 (.t 26), some (24, false), none⟩,
    ⟨some 28, .mv (.t 3), some (24, false), none⟩,
    ⟨some 29, .bin .neq (.t 27) (.t 28), some (24, false), none⟩,
    ⟨some 30, .pick (.t 24) (.c (Value.bool true)) (.t 29), none, none⟩] [1, 3, 30])
  (.cond (.t 30) (.seq (.reg [⟨some 2, .mv (.c (Value.bool false)), none, none⟩] [2])
   (.ret))
   (.skip)))
  (.seq (.reg [⟨some 31, .mkmap, none, some (.pair (.int .i64) .bool)⟩,
    ⟨some 4, .mv (.t 31), none, none⟩] [1, 3, 4])
  (.seq (.seq (.reg [⟨some 32, .fadr 0 (.t 1), none, none⟩,
    ⟨some 33, .load (none) (.t 32), none, none⟩,
    ⟨some 34, .len 1 (.t 33), none, none⟩,
    ⟨some 35, .mv (.c (Value.int IntKind.i64 0)), none, none⟩] [1, 3, 4, 33, 34, 35])
  (.block 0 (.loop 0 [1, 3, 4, 33, 34, 35] k_graph_Valid_L0)))
  (.seq (.reg [⟨some 53, .mkmap, none, some (.pair (.pair (.int .i64) (.int .i64)) (.int .i64))⟩,
    ⟨some 7, .mv (.t 53), none, none⟩] [1, 3, 7])
  (.seq (.seq (.reg [⟨some 54, .fadr 1 (.t 1), none, none⟩,
    ⟨some 55, .load (none) (.t 54), none, none⟩,
    ⟨some 56, .len 1 (.t 55), none, none⟩,
    ⟨some 57, .mv (.c (Value.int IntKind.i64 0)), none, none⟩] [3, 7, 55, 56, 57])
  (.block 2 (.loop 1 [3, 7, 55, 56, 57] k_graph_Valid_L1)))
  (.seq (.ora 3 (.seq (.reg [oo 109 (.mv (.t 7)),
oo 110 (.rng (.t 109))] [7, 110])
  (.block 6 (.each 110 111 112 [7, 110] [(2, .bool false)] m_graph_Valid_L3))))
  (.seq (.reg [⟨some 2, .mv (.c (Value.bool true)), none, none⟩] [2])
  (.ret)))))))))), true⟩

theorem k_graph_Valid_mf : k_graph_Valid.mf = m_graph_Valid := by kernel_rfl

def sh_graph_Valid_L0 : SH := ⟨[(1, .rp (.pair (.arr (.int .i64)) (.arr (.arr (.pair (.int .i64) (.int .i64)))))), (3, .cell (.int .i64)), (4, .mp 0), (33, .cell (.arr (.int .i64))), (34, .cell (.int .i64)), (35, .cell (.int .i64))], [(true, (.pair (.int .i64) .bool))]⟩
def s_graph_Valid_L0 {R : Type} (N : Nat) (g1_1 : Arr Int) (g2_1 : Arr (Arr (Int × Int))) (n : Int) (t33 : Arr Int) (t34 : Int) (k0 : (List (Int × Bool)) → Option R) (k1 : Int → (List (Int × Bool)) → Option R) : Nat → Int → (List (Int × Bool)) → Option R
  | 0, _, _ => none
  | m + 1, t35, l0 =>
    sel (decide (t35 < t34)) (
      chk (inr t35 t33.n) (
      sel (decide ((t33.f t35.toNat) < 0)) (
        k0 l0) (
        sel (decide ((t33.f t35.toNat) > 255)) (
          k0 l0) (
          sel (optD (α := Bool) (mfind (.int .i64) .bool (t33.f t35.toNat) l0) false) (
            k0 l0) (
            s_graph_Valid_L0 N g1_1 g2_1 n t33 t34 k0 k1 m (IntKind.i64.wrap (t35 + 1)) (mput (.int .i64) .bool (t33.f t35.toNat) true l0)))))) (
      k1 t35 l0)

def sh_graph_Valid_L2 : SH := ⟨[(3, .cell (.int .i64)), (7, .mp 1), (8, .cell (.int .i64)), (55, .cell (.arr (.arr (.pair (.int .i64) (.int .i64))))), (56, .cell (.int .i64)), (57, .cell (.int .i64)), (62, .cell (.arr (.pair (.int .i64) (.int .i64)))), (63, .cell (.int .i64)), (64, .cell (.int .i64))], [(true, (.pair (.int .i64) .bool)), (true, (.pair (.pair (.int .i64) (.int .i64)) (.int .i64)))]⟩
def s_graph_Valid_L2 {R : Type} (N : Nat) (n2 : Int) (v : Int) (t55_1 : Arr (Arr (Int × Int))) (t56_1 : Int) (t57_1 : Int) (t62 : Arr (Int × Int)) (t63 : Int) (l0_2 : List (Int × Bool)) (k0 : (List ((Int × Int) × Int)) → Option R) (k1 : Int → (List ((Int × Int) × Int)) → Option R) : Nat → Int → (List ((Int × Int) × Int)) → Option R
  | 0, _, _ => none
  | m + 1, t64, l1_1 =>
    sel (decide (t64 < t63)) (
      chk (inr t64 t62.n) (
      sel (decide (((t62.f t64.toNat).1) < 0)) (
        k0 l1_1) (
        sel (decide (((t62.f t64.toNat).1) ≥ n2)) (
          k0 l1_1) (
          sel (((t62.f t64.toNat).1) == v) (
            k0 l1_1) (
            sel (decide (((t62.f t64.toNat).2) < 1)) (
              k0 l1_1) (
              sel (decide (((t62.f t64.toNat).2) > 15)) (
                k0 l1_1) (
                sel ((optD (α := Int) (mfind (.pair (.int .i64) (.int .i64)) (.int .i64) ((v, (t62.f t64.toNat).1)) l1_1) 0) != 0) (
                  k0 l1_1) (
                  s_graph_Valid_L2 N n2 v t55_1 t56_1 t57_1 t62 t63 l0_2 k0 k1 m (IntKind.i64.wrap (t64 + 1)) (mput (.pair (.int .i64) (.int .i64)) (.int .i64) ((v, (t62.f t64.toNat).1)) ((t62.f t64.toNat).2) l1_1))))))))) (
      k1 t64 l1_1)

def sh_graph_Valid_L1 : SH := ⟨[(3, .cell (.int .i64)), (7, .mp 1), (55, .cell (.arr (.arr (.pair (.int .i64) (.int .i64))))), (56, .cell (.int .i64)), (57, .cell (.int .i64))], [(true, (.pair (.int .i64) .bool)), (true, (.pair (.pair (.int .i64) (.int .i64)) (.int .i64)))]⟩
def s_graph_Valid_L1 {R : Type} (N : Nat) (n1 : Int) (t55 : Arr (Arr (Int × Int))) (t56 : Int) (l0_1 : List (Int × Bool)) (k0 : (List ((Int × Int) × Int)) → Option R) (k1 : Int → (List ((Int × Int) × Int)) → Option R) : Nat → Int → (List ((Int × Int) × Int)) → Option R
  | 0, _, _ => none
  | m + 1, t57, l1 =>
    sel (decide (t57 < t56)) (
      chk (inr t57 t55.n) (
      s_graph_Valid_L2 N n1 t57 t55 t56 t57 (t55.f t57.toNat) ((((t55.f t57.toNat).n : Nat) : Int)) l0_1
        (fun o0_4 =>
          k0 o0_4)
        (fun o0_5 o1_2 =>
          s_graph_Valid_L1 N n1 t55 t56 l0_1 k0 k1 m (IntKind.i64.wrap (t57 + 1)) o1_2)
        N 0 l1)) (
      k1 t57 l1)

def la_graph_Valid_L0 {R : Type} (N m : Nat) (y : sh_graph_Valid_L0.ty) (k : KK R) : Option R :=
  s_graph_Valid_L0 N y.1.1.1 y.1.1.2 y.1.2.1 y.1.2.2.2.1 y.1.2.2.2.2.1 (fun o0 => k .ret ⟨[(2, .b false)], [⟨(.pair (.int .i64) .bool), o0, true⟩]⟩)
    (fun o0 o1 => k (.exit 0) ⟨[(1, .rp [.ro (.int .i64) y.1.1.1, .ro (.arr (.pair (.int .i64) (.int .i64))) y.1.1.2]), (3, .i .i64 y.1.2.1), (4, .mp 0), (33, .ro (.int .i64) y.1.2.2.2.1), (34, .i .i64 y.1.2.2.2.2.1), (35, .i .i64 o0), (36, .b false)], [⟨(.pair (.int .i64) .bool), o1, true⟩]⟩) m y.1.2.2.2.2.2.1 y.2.1
def la_graph_Valid_L2 {R : Type} (N m : Nat) (y : sh_graph_Valid_L2.ty) (k : KK R) : Option R :=
  s_graph_Valid_L2 N y.1.1 y.1.2.2.1 y.1.2.2.2.1 y.1.2.2.2.2.1 y.1.2.2.2.2.2.1 y.1.2.2.2.2.2.2.1 y.1.2.2.2.2.2.2.2.1 y.2.1 (fun o0 => k .ret ⟨[(2, .b false)], [⟨(.pair (.int .i64) .bool), y.2.1, true⟩, ⟨(.pair (.pair (.int .i64) (.int .i64)) (.int .i64)), o0, true⟩]⟩)
    (fun o0 o1 => k (.exit 4) ⟨[(3, .i .i64 y.1.1), (7, .mp 1), (8, .i .i64 y.1.2.2.1), (55, .ro (.arr (.pair (.int .i64) (.int .i64))) y.1.2.2.2.1), (56, .i .i64 y.1.2.2.2.2.1), (57, .i .i64 y.1.2.2.2.2.2.1), (62, .ro (.pair (.int .i64) (.int .i64)) y.1.2.2.2.2.2.2.1), (63, .i .i64 y.1.2.2.2.2.2.2.2.1), (64, .i .i64 o0), (65, .b false)], [⟨(.pair (.int .i64) .bool), y.2.1, true⟩, ⟨(.pair (.pair (.int .i64) (.int .i64)) (.int .i64)), o1, true⟩]⟩) m y.1.2.2.2.2.2.2.2.2.1 y.2.2.1
def la_graph_Valid_L1 {R : Type} (N m : Nat) (y : sh_graph_Valid_L1.ty) (k : KK R) : Option R :=
  s_graph_Valid_L1 N y.1.1 y.1.2.2.1 y.1.2.2.2.1 y.2.1 (fun o0 => k .ret ⟨[(2, .b false)], [⟨(.pair (.int .i64) .bool), y.2.1, true⟩, ⟨(.pair (.pair (.int .i64) (.int .i64)) (.int .i64)), o0, true⟩]⟩)
    (fun o0 o1 => k (.exit 2) ⟨[(3, .i .i64 y.1.1), (7, .mp 1), (55, .ro (.arr (.pair (.int .i64) (.int .i64))) y.1.2.2.1), (56, .i .i64 y.1.2.2.2.1), (57, .i .i64 o0), (58, .b false)], [⟨(.pair (.int .i64) .bool), y.2.1, true⟩, ⟨(.pair (.pair (.int .i64) (.int .i64)) (.int .i64)), o1, true⟩]⟩) m y.1.2.2.2.2.1 y.2.2.1
def lp_graph_Valid {R : Type} (N : Nat) : Nat → KSt → KK R → Option R
  | 0, st, k => sh_graph_Valid_L0.dec { tmps := kkeep [1, 3, 4, 33, 34, 35] st.tmps, obs := st.obs } fun y => la_graph_Valid_L0 N N y k
  | 1, st, k => sh_graph_Valid_L1.dec { tmps := kkeep [3, 7, 55, 56, 57] st.tmps, obs := st.obs } fun y => la_graph_Valid_L1 N N y k
  | 2, st, k => sh_graph_Valid_L2.dec { tmps := kkeep [3, 7, 8, 55, 56, 57, 62, 63, 64] st.tmps, obs := st.obs } fun y => la_graph_Valid_L2 N N y k
  | 3, st, k => or_graph_Valid N st k
  | _, _, _ => none

def s_graph_Valid (N : Nat) (g1 : Arr Int) (g2 : Arr (Arr (Int × Int))) : Option (Bool) :=
  sel (decide ((((g2.n : Nat) : Int)) < 1)) (
    some false) (
    sel (decide ((((g2.n : Nat) : Int)) > 24)) (
      some false) (
      sel ((((g1.n : Nat) : Int)) != (((g2.n : Nat) : Int))) (
        some false) (
        s_graph_Valid_L0 N g1 g2 (((g2.n : Nat) : Int)) g1 (((g1.n : Nat) : Int))
          (fun o0 =>
            some false)
          (fun o0_1 o1 =>
            s_graph_Valid_L1 N ((((g2.n : Nat) : Int))) g2 (((g2.n : Nat) : Int)) o1
              (fun o0_6 =>
                some false)
              (fun o0_7 o1_3 =>
                chk (decide (o1_3.length < N)) (
                sel (wsym o1_3) (
                  some true) (
                  some false)))
              N 0 ([]))
          N 0 ([]))))

def e_graph_Valid (N : Nat) : Ent := ⟨32, [], [.agg (.pair (.arr (.int .i64)) (.arr (.arr (.pair (.int .i64) (.int .i64)))))], .cell .bool, fun x => s_graph_Valid N x.1.1 x.1.2, false⟩

def es_graph_Valid (N : Nat) : List Ent := []
theorem es_graph_Valid_ok (N : Nat) : EntsOK prg0 N 0 (es_graph_Valid N) := trivial

theorem ok_graph_Valid_L0 {R : Type} (N d : Nat) (hd : 0 ≤ d) (call : CallF) (hcall : call = evF prg0 N (d + 1)) (hC : CkOK (R := R) (ckOf (es_graph_Valid N)) call) : LoopOK (R := R) N call [1, 3, 4, 33, 34, 35] k_graph_Valid_L0.mc (lp_graph_Valid N 0) :=
  loop_of hC (⟨trivial, ⟨⟨trivial, trivial⟩, ⟨⟨trivial, ⟨⟨trivial, ⟨⟨trivial, trivial⟩, trivial⟩⟩, trivial⟩⟩, trivial⟩⟩⟩) (la_graph_Valid_L0 N) (fun _ _ => rfl) (fun m x k => by kernel_rfl) (fun _ _ => rfl)

theorem ok_graph_Valid_L2 {R : Type} (N d : Nat) (hd : 0 ≤ d) (call : CallF) (hcall : call = evF prg0 N (d + 1)) (hC : CkOK (R := R) (ckOf (es_graph_Valid N)) call) : LoopOK (R := R) N call [3, 7, 8, 55, 56, 57, 62, 63, 64] k_graph_Valid_L2.mc (lp_graph_Valid N 2) :=
  loop_of hC (⟨trivial, ⟨⟨trivial, trivial⟩, ⟨⟨trivial, ⟨trivial, ⟨⟨trivial, ⟨⟨trivial, trivial⟩, trivial⟩⟩, trivial⟩⟩⟩, trivial⟩⟩⟩) (la_graph_Valid_L2 N) (fun _ _ => rfl) (fun m x k => by kernel_rfl) (fun _ _ => rfl)

theorem ok_graph_Valid_L1 {R : Type} (N d : Nat) (hd : 0 ≤ d) (call : CallF) (hcall : call = evF prg0 N (d + 1)) (hC : CkOK (R := R) (ckOf (es_graph_Valid N)) call) : LoopOK (R := R) N call [3, 7, 55, 56, 57] k_graph_Valid_L1.mc (lp_graph_Valid N 1) :=
  loop_of hC (⟨trivial, ⟨⟨trivial, trivial⟩, ⟨⟨trivial, ⟨trivial, ok_graph_Valid_L2 N d hd call hcall hC⟩⟩, trivial⟩⟩⟩) (la_graph_Valid_L1 N) (fun _ _ => rfl) (fun m x k => by kernel_rfl) (fun _ _ => rfl)

theorem ok_graph_Valid (N : Nat) : EntOK prg0 N 1 (e_graph_Valid N) :=
  ent_ok (es_graph_Valid_ok N) (f := k_graph_Valid) rfl ((prgF_32).trans (congrArg some k_graph_Valid_mf.symm)) rfl rfl (lp_graph_Valid N) (fun d hd call hcall hC => ⟨trivial, ⟨trivial, ⟨⟨trivial, ⟨⟨trivial, trivial⟩, trivial⟩⟩, ⟨trivial, ⟨⟨trivial, ok_graph_Valid_L0 N d hd call hcall hC⟩, ⟨trivial, ⟨⟨trivial, ok_graph_Valid_L1 N d hd call hcall hC⟩, ⟨ora_graph_Valid N d hd call hcall hC, ⟨trivial, trivial⟩⟩⟩⟩⟩⟩⟩⟩⟩) (fun x => by kernel_rfl)

end Sx
