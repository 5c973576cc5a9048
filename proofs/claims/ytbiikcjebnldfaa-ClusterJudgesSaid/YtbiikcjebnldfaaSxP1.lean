/-
  K: functions as Lean functions, printed by wip/tools/kp.py.
-/
import Derived.Test.YtbiikcjebnldfaaSxH1
namespace Sx
open Go
set_option linter.unusedVariables false
set_option maxRecDepth 10000

-- selfstab/selfstablaw34.large
def k_selfstablaw34_large : KF := ⟨20, [.tmp 4], (
  .seq (.reg [⟨some 2, .box 2 (.t 0), none, none⟩,
    ⟨some 4, .mv (.c (Value.bool false)), none, none⟩] [1, 2])
  (.seq (.reg [⟨some 5, .fadr 1 (.t 2), none, none⟩,
    ⟨some 6, .load (none) (.t 5), none, none⟩,
    ⟨some 7, .len 1 (.t 6), none, none⟩,
    ⟨some 8, .bin .gtr (.t 7) (.c (Value.int IntKind.i64 60)), none, none⟩,
    ⟨some 9, .mv (.t 8), none, none⟩,
    ⟨some 10, .fadr 0 (.t 2), some (9, false), none⟩,
    ⟨some 11, .load (none) (.t 10), some (9, false), none⟩,
    ⟨some 12, .len 1 (.t 11), some (9, false), none⟩,
    ⟨some 13, .bin .gtr (.t 12) (.c (Value.int IntKind.i64 60)), some (9, false), none⟩,
    ⟨some 14, .pick (.t 9) (.c (Value.bool true)) (.t 13), none, none⟩,
    ⟨some 15, .mv (.t 14), none, none⟩,
    ⟨some 16, .mv (.t 1), some (15, false), none⟩,
    ⟨some 17, .len 1 (.t 16), some (15, false), none⟩,
    ⟨some 18, .bin .gtr (.t 17) (.c (Value.int IntKind.i64 60)), some (15, false), none⟩,
    ⟨some 19, .pick (.t 15) (.c (Value.bool true)) (.t 18), none, none⟩,
    ⟨some 4, .mv (.t 19), none, none⟩] [4])
  (.ret))), true⟩

theorem k_selfstablaw34_large_mf : k_selfstablaw34_large.mf = m_selfstablaw34_large := by kernel_rfl

def lp_selfstablaw34_large {R : Type} (N : Nat) : Nat → KSt → KK R → Option R
  | _, _, _ => none

def s_selfstablaw34_large (N : Nat) (g1 : Arr Int) (g2 : Arr (Arr (Int × Int))) (c : Arr (Arr Int)) : Option (Bool) :=
  sel (decide ((((g2.n : Nat) : Int)) > 60)) (
    some true) (
    sel (decide ((((g1.n : Nat) : Int)) > 60)) (
      some true) (
      some (decide ((((c.n : Nat) : Int)) > 60))))

def e_selfstablaw34_large (N : Nat) : Ent := ⟨1, [], [.agg (.pair (.arr (.int .i64)) (.arr (.arr (.pair (.int .i64) (.int .i64))))), .cell (.arr (.arr (.int .i64)))], .cell .bool, fun x => s_selfstablaw34_large N x.1.1 x.1.2 x.2.1, false⟩

def es_selfstablaw34_large (N : Nat) : List Ent := []
theorem es_selfstablaw34_large_ok (N : Nat) : EntsOK prg0 N 0 (es_selfstablaw34_large N) := trivial

theorem ok_selfstablaw34_large (N : Nat) : EntOK prg0 N 1 (e_selfstablaw34_large N) :=
  ent_ok (es_selfstablaw34_large_ok N) (f := k_selfstablaw34_large) rfl ((prgF_1).trans (congrArg some k_selfstablaw34_large_mf.symm)) rfl rfl (lp_selfstablaw34_large N) (fun d hd call hcall hC => ⟨trivial, ⟨trivial, trivial⟩⟩) (fun x => by kernel_rfl)

-- selfstab/graph.Valid
def k_graph_Valid_L2 : KC :=
  .seq (.reg [⟨some 65, .bin .lss (.t 64) (.t 63), none, none⟩] [3, 7, 8, 55, 56, 57, 62, 63, 64, 65])
  (.seq (.cond (.t 65) (.skip)
   (.exit 4))
  (.seq (.block 5 (.seq (.reg [⟨some 66, .iadr 2 (.t 62) (.t 64), none, none⟩,
     ⟨some 67, .load (some 2) (.t 66), none, none⟩,
     ⟨some 11, .alloc [.v (Value.int .i64 0), .v (Value.int .i64 0)], none, none⟩,
     ⟨none, .store 2 (.t 11) (.t 67), none, none⟩] [3, 7, 8, 11, 55, 56, 57, 62, 63, 64])
   (.seq (.reg [⟨some 68, .mv (.t 8), none, none⟩,
     ⟨some 69, .fadr 0 (.t 11), none, none⟩,
     ⟨some 70, .load (none) (.t 69), none, none⟩,
     ⟨some 71, .build [.v (Value.int .i64 0), .v (Value.int .i64 0)] [(0, 1, (.t 68)), (1, 1, (.t 70))], none, none⟩,
     ⟨some 12, .alloc [.v (Value.int .i64 0), .v (Value.int .i64 0)], none, none⟩,
     ⟨none, .store 2 (.t 12) (.t 71), none, none⟩] [3, 7, 8, 11, 12, 55, 56, 57, 62, 63, 64])
   (.seq (.seq (.reg [⟨some 72, .fadr 0 (.t 11), none, none⟩,
     ⟨some 73, .load (none) (.t 72), none, none⟩,
     ⟨some 74, .bin .lss (.t 73) (.c (Value.int IntKind.i64 0)), none, none⟩,
     ⟨some 75, .mv (.t 74), none, none⟩,
     ⟨some 76, .fadr 0 (.t 11), some (75, false), none⟩,
     ⟨some 77, .load (none) (.t 76), some (75, false), none⟩,
     ⟨some 78, .mv (.t 3), some (75, false), none⟩,
     ⟨some 79, .bin .geq (.t 77) (.t 78), some (75, false), none⟩,
     ⟨some 80, .pick (.t 75) (.c (Value.bool true)) (.t 79), none, none⟩,
     ⟨some 81, .mv (.t 80), none, none⟩,
     ⟨some 82, .fadr 0 (.t 11), some (81, false), none⟩,
     ⟨some 83, .load (none) (.t 82), some (81, false), none⟩,
     ⟨some 84, .mv (.t 8), some (81, false), none⟩,
     ⟨some 85, .bin .eql (.t 83) (.t 84), some (81, false), none⟩,
     ⟨some 86, .pick (.t 81) (.c (Value.bool true)) (.t 85), none, none⟩,
     ⟨some 87, .mv (.t 86), none, none⟩,
     ⟨some 88, .fadr 1 (.t 11), some (87, false), none⟩,
     ⟨some 89, .load (none) (.t 88), some (87, false), none⟩,
     ⟨some 90, .bin .lss (.t 89) (.c (Value.int IntKind.i64 1)), some (87, false), none⟩,
     ⟨some 91, .pick (.t 87) (.c (Value.bool true)) (.t 90), none, none⟩,
     ⟨some 92, .mv (.t 91), none, none⟩,
     ⟨some 93, .fadr 1 (.t 11), some (92, false), none⟩,
     ⟨some 94, .load (none) (.t 93), some (92, false), none⟩,
     ⟨some 95, .bin .gtr (.t 94) (.c (Value.int IntKind.i64 15)), some (92, false), none⟩,
     ⟨some 96, .pick (.t 92) (.c (Value.bool true)) (.t 95), none, none⟩,
     ⟨some 97, .mv (.t 96), none, none⟩,
     ⟨some 98, .mv (.t 7), some (97, false), none⟩,
     ⟨some 99, .load (some 2) (.t 12), some (97, false), none⟩,
     ⟨some 100, .look true [0, 0] (.v (Value.int .i64 0)) false (.t 98) (.t 99), some (97, false), none⟩,
     ⟨some 101, .bin .neq (.t 100) (.c (Value.int IntKind.i64 0)), some (97, false), none⟩,
     ⟨some 102, .pick (.t 97) (.c (Value.bool true)) (.t 101), none, none⟩] [3, 7, 8, 11, 12, 55, 56, 57, 62, 63, 64, 102])
   (.cond (.t 102) (.seq (.reg [⟨some 2, .mv (.c (Value.bool false)), none, none⟩] [2])
    (.ret))
    (.skip)))
   (.reg [⟨some 103, .mv (.t 7), none, none⟩,
     ⟨some 104, .load (some 2) (.t 12), none, none⟩,
     ⟨some 105, .fadr 1 (.t 11), none, none⟩,
     ⟨some 106, .load (none) (.t 105), none, none⟩,
     ⟨none, .mput true [0, 0] (.t 103) (.t 104) (.t 106), none, none⟩] [3, 7, 8, 55, 56, 57, 62, 63, 64])))))
  (.reg [⟨some 107, .bin .add (.t 64) (.c (Value.int IntKind.i64 1)), none, none⟩,
    ⟨some 64, .mv (.t 107), none, none⟩] [3, 7, 8, 55, 56, 57, 62, 63, 64])))

def k_graph_Valid_L1 : KC :=
  .seq (.reg [⟨some 58, .bin .lss (.t 57) (.t 56), none, none⟩] [3, 7, 55, 56, 57, 58])
  (.seq (.cond (.t 58) (.skip)
   (.exit 2))
  (.seq (.block 3 (.seq (.reg [⟨some 59, .mv (.t 57), none, none⟩,
     ⟨some 60, .iadr 1 (.t 55) (.t 57), none, none⟩,
     ⟨some 61, .load (none) (.t 60), none, none⟩,
     ⟨some 8, .mv (.t 59), none, none⟩,
     ⟨some 9, .mv (.t 61), none, none⟩] [3, 7, 8, 9, 55, 56, 57])
   (.seq (.reg [⟨some 62, .mv (.t 9), none, none⟩,
     ⟨some 63, .len 1 (.t 62), none, none⟩,
     ⟨some 64, .mv (.c (Value.int IntKind.i64 0)), none, none⟩] [3, 7, 8, 55, 56, 57, 62, 63, 64])
   (.block 4 (.loop 2 [3, 7, 8, 55, 56, 57, 62, 63, 64] k_graph_Valid_L2)))))
  (.reg [⟨some 108, .bin .add (.t 57) (.c (Value.int IntKind.i64 1)), none, none⟩,
    ⟨some 57, .mv (.t 108), none, none⟩] [3, 7, 55, 56, 57])))

def k_graph_Valid_L0 : KC :=
  .seq (.reg [⟨some 36, .bin .lss (.t 35) (.t 34), none, none⟩] [1, 3, 4, 33, 34, 35, 36])
  (.seq (.cond (.t 36) (.skip)
   (.exit 0))
  (.seq (.block 1 (.seq (.reg [⟨some 37, .iadr 1 (.t 33) (.t 35), none, none⟩,
     ⟨some 38, .load (none) (.t 37), none, none⟩,
     ⟨some 6, .mv (.t 38), none, none⟩] [1, 3, 4, 6, 33, 34, 35])
   (.seq (.seq (.reg [⟨some 39, .mv (.t 6), none, none⟩,
     ⟨some 40, .bin .lss (.t 39) (.c (Value.int IntKind.i64 0)), none, none⟩,
     ⟨some 41, .mv (.t 40), none, none⟩,
     ⟨some 42, .mv (.t 6), some (41, false), none⟩,
     ⟨some 43, .bin .gtr (.t 42) (.c (Value.int IntKind.i64 255)), some (41, false), none⟩,
     ⟨some 44, .pick (.t 41) (.c (Value.bool true)) (.t 43), none, none⟩,
     ⟨some 45, .mv (.t 44), none, none⟩,
     ⟨some 46, .mv (.t 4), some (45, false), none⟩,
     ⟨some 47, .mv (.t 6), some (45, false), none⟩,
     ⟨some 48, .look false [0] (.v (Value.bool false)) false (.t 46) (.t 47), some (45, false), none⟩,
     ⟨some 49, .pick (.t 45) (.c (Value.bool true)) (.t 48), none, none⟩] [1, 3, 4, 6, 33, 34, 35, 49])
   (.cond (.t 49) (.seq (.reg [⟨some 2, .mv (.c (Value.bool false)), none, none⟩] [2])
    (.ret))
    (.skip)))
   (.reg [⟨some 50, .mv (.t 4), none, none⟩,
     ⟨some 51, .mv (.t 6), none, none⟩,
     ⟨none, .mput false [0] (.t 50) (.t 51) (.c (Value.bool true)), none, none⟩] [1, 3, 4, 33, 34, 35]))))
  (.reg [⟨some 52, .bin .add (.t 35) (.c (Value.int IntKind.i64 1)), none, none⟩,
    ⟨some 35, .mv (.t 52), none, none⟩] [1, 3, 4, 33, 34, 35])))

def k_graph_Valid : KF := ⟨125, [.tmp 2], (
  .seq (.reg [⟨some 1, .box 2 (.t 0), none, none⟩,
    ⟨some 2, .mv (.c (Value.bool false)), none, none⟩] [1])
  (.seq (.reg [⟨some 15, .fadr 1 (.t 1), none, none⟩,
    ⟨some 16, .load (none) (.t 15), none, none⟩,
    ⟨some 17, .len 1 (.t 16), none, none⟩,
    ⟨some 3, .mv (.t 17), none, none⟩] [1, 3])
  (.seq (.seq (.reg [⟨some 18, .mv (.t 3), none, none⟩,
    ⟨some 19, .bin .lss (.t 18) (.c (Value.int IntKind.i64 1)), none, none⟩,
    ⟨some 20, .mv (.t 19), none, none⟩,
    ⟨some 21, .mv (.t 3), some (20, false), none⟩,
    ⟨some 22, .bin .gtr (.t 21) (.c (Value.int IntKind.i64 24)), some (20, false), none⟩,
    ⟨some 23, .pick (.t 20) (.c (Value.bool true)) (.t 22), none, none⟩,
    ⟨some 24, .mv (.t 23), none, none⟩,
    ⟨some 25, .fadr 0 (.t 1), some (24, false), none⟩,
    ⟨some 26, .load (none) (.t 25), some (24, false), none⟩,
    ⟨some 27, .len 1 (.t 26), some (24, false), none⟩,
    ⟨some 28, .mv (.t 3), some (24, false), none⟩,
    ⟨some 29, .bin .neq (.t 27) (.t 28), some (24, false), none⟩,
    ⟨some 30, .pick (.t 24) (.c (Value.bool true)) (.t 29), none, none⟩] [1, 3, 30])
  (.cond (.t 30) (.seq (.reg [⟨some 2, .mv (.c (Value.bool false)), none, none⟩] [2])
   (.ret))
   (.skip)))
  (.seq (.reg [⟨some 31, .mkmap, none, some (.pair (.int .i64) .bool)⟩,
    ⟨some 4, .mv (.t 31), none, none⟩] [1, 3, 4])
  (.seq (.seq (.reg [⟨some 32, .fadr 0 (.t 1), none, none⟩,
    ⟨some 33, .load (none) (.t 32), none, none⟩,
    ⟨some 34, .len 1 (.t 33), none, none⟩,
    ⟨some 35, .mv (.c (Value.int IntKind.i64 0)), none, none⟩] [1, 3, 4, 33, 34, 35])
  (.block 0 (.loop 0 [1, 3, 4, 33, 34, 35] k_graph_Valid_L0)))
  (.seq (.reg [⟨some 53, .mkmap, none, some (.pair (.pair (.int .i64) (.int .i64)) (.int .i64))⟩,
    ⟨some 7, .mv (.t 53), none, none⟩] [1, 3, 7])
  (.seq (.seq (.reg [⟨some 54, .fadr 1 (.t 1), none, none⟩,
    ⟨some 55, .load (none) (.t 54), none, none⟩,
    ⟨some 56, .len 1 (.t 55), none, none⟩,
    ⟨some 57, .mv (.c (Value.int IntKind.i64 0)), none, none⟩] [3, 7, 55, 56, 57])
  (.block 2 (.loop 1 [3, 7, 55, 56, 57] k_graph_Valid_L1)))
  (.seq (.ora 3 (.seq (.reg [⟨some 109, .mv (.t 7), none⟩,
    ⟨some 110, .rng (.t 109), none⟩] [7, 110])
  (.block 6 (.each 110 111 112 [7, 110] [(2, .bool false)] m_graph_Valid_L3))))
  (.seq (.reg [⟨some 2, .mv (.c (Value.bool true)), none, none⟩] [2])
  (.ret)))))))))), true⟩

theorem k_graph_Valid_mf : k_graph_Valid.mf = m_graph_Valid := by kernel_rfl

def sh_graph_Valid_L0 : SH := ⟨[(1, .rp (.pair (.arr (.int .i64)) (.arr (.arr (.pair (.int .i64) (.int .i64)))))), (3, .cell (.int .i64)), (4, .mp 0), (33, .cell (.arr (.int .i64))), (34, .cell (.int .i64)), (35, .cell (.int .i64))], [(true, (.pair (.int .i64) .bool))]⟩
def s_graph_Valid_L0 {R : Type} (N : Nat) (g1_1 : Arr Int) (g2_1 : Arr (Arr (Int × Int))) (n : Int) (t33 : Arr Int) (t34 : Int) (k0 : (List (Int × Bool)) → Option R) (k1 : Int → (List (Int × Bool)) → Option R) : Nat → Int → (List (Int × Bool)) → Option R
  | 0, _, _ => none
  | m + 1, t35, l0 =>
    sel (decide (t35 < t34)) (
      chk (inr t35 t33.n) (
      sel (decide ((t33.f t35.toNat) < 0)) (
        k0 l0) (
        sel (decide ((t33.f t35.toNat) > 255)) (
          k0 l0) (
          sel (optD (α := Bool) (mfind (.int .i64) .bool (t33.f t35.toNat) l0) false) (
            k0 l0) (
            s_graph_Valid_L0 N g1_1 g2_1 n t33 t34 k0 k1 m (IntKind.i64.wrap (t35 + 1)) (mput (.int .i64) .bool (t33.f t35.toNat) true l0)))))) (
      k1 t35 l0)

def sh_graph_Valid_L2 : SH := ⟨[(3, .cell (.int .i64)), (7, .mp 1), (8, .cell (.int .i64)), (55, .cell (.arr (.arr (.pair (.int .i64) (.int .i64))))), (56, .cell (.int .i64)), (57, .cell (.int .i64)), (62, .cell (.arr (.pair (.int .i64) (.int .i64)))), (63, .cell (.int .i64)), (64, .cell (.int .i64))], [(true, (.pair (.int .i64) .bool)), (true, (.pair (.pair (.int .i64) (.int .i64)) (.int .i64)))]⟩
def s_graph_Valid_L2 {R : Type} (N : Nat) (n2 : Int) (v : Int) (t55_1 : Arr (Arr (Int × Int))) (t56_1 : Int) (t57_1 : Int) (t62 : Arr (Int × Int)) (t63 : Int) (l0_2 : List (Int × Bool)) (k0 : (List ((Int × Int) × Int)) → Option R) (k1 : Int → (List ((Int × Int) × Int)) → Option R) : Nat → Int → (List ((Int × Int) × Int)) → Option R
  | 0, _, _ => none
  | m + 1, t64, l1_1 =>
    sel (decide (t64 < t63)) (
      chk (inr t64 t62.n) (
      sel (decide (((t62.f t64.toNat).1) < 0)) (
        k0 l1_1) (
        sel (decide (((t62.f t64.toNat).1) ≥ n2)) (
          k0 l1_1) (
          sel (((t62.f t64.toNat).1) == v) (
            k0 l1_1) (
            sel (decide (((t62.f t64.toNat).2) < 1)) (
              k0 l1_1) (
              sel (decide (((t62.f t64.toNat).2) > 15)) (
                k0 l1_1) (
                sel ((optD (α := Int) (mfind (.pair (.int .i64) (.int .i64)) (.int .i64) ((v, (t62.f t64.toNat).1)) l1_1) 0) != 0) (
                  k0 l1_1) (
                  s_graph_Valid_L2 N n2 v t55_1 t56_1 t57_1 t62 t63 l0_2 k0 k1 m (IntKind.i64.wrap (t64 + 1)) (mput (.pair (.int .i64) (.int .i64)) (.int .i64) ((v, (t62.f t64.toNat).1)) ((t62.f t64.toNat).2) l1_1))))))))) (
      k1 t64 l1_1)

def sh_graph_Valid_L1 : SH := ⟨[(3, .cell (.int .i64)), (7, .mp 1), (55, .cell (.arr (.arr (.pair (.int .i64) (.int .i64))))), (56, .cell (.int .i64)), (57, .cell (.int .i64))], [(true, (.pair (.int .i64) .bool)), (true, (.pair (.pair (.int .i64) (.int .i64)) (.int .i64)))]⟩
def s_graph_Valid_L1 {R : Type} (N : Nat) (n1 : Int) (t55 : Arr (Arr (Int × Int))) (t56 : Int) (l0_1 : List (Int × Bool)) (k0 : (List ((Int × Int) × Int)) → Option R) (k1 : Int → (List ((Int × Int) × Int)) → Option R) : Nat → Int → (List ((Int × Int) × Int)) → Option R
  | 0, _, _ => none
  | m + 1, t57, l1 =>
    sel (decide (t57 < t56)) (
      chk (inr t57 t55.n) (
      s_graph_Valid_L2 N n1 t57 t55 t56 t57 (t55.f t57.toNat) ((((t55.f t57.toNat).n : Nat) : Int)) l0_1
        (fun o0_4 =>
          k0 o0_4)
        (fun o0_5 o1_2 =>
          s_graph_Valid_L1 N n1 t55 t56 l0_1 k0 k1 m (IntKind.i64.wrap (t57 + 1)) o1_2)
        N 0 l1)) (
      k1 t57 l1)

def la_graph_Valid_L0 {R : Type} (N m : Nat) (y : sh_graph_Valid_L0.ty) (k : KK R) : Option R :=
  s_graph_Valid_L0 N y.1.1.1 y.1.1.2 y.1.2.1 y.1.2.2.2.1 y.1.2.2.2.2.1 (fun o0 => k .ret ⟨[(2, .b false)], [⟨(.pair (.int .i64) .bool), o0, true⟩]⟩)
    (fun o0 o1 => k (.exit 0) ⟨[(1, .rp [.ro (.int .i64) y.1.1.1, .ro (.arr (.pair (.int .i64) (.int .i64))) y.1.1.2]), (3, .i .i64 y.1.2.1), (4, .mp 0), (33, .ro (.int .i64) y.1.2.2.2.1), (34, .i .i64 y.1.2.2.2.2.1), (35, .i .i64 o0), (36, .b false)], [⟨(.pair (.int .i64) .bool), o1, true⟩]⟩) m y.1.2.2.2.2.2.1 y.2.1
def la_graph_Valid_L2 {R : Type} (N m : Nat) (y : sh_graph_Valid_L2.ty) (k : KK R) : Option R :=
  s_graph_Valid_L2 N y.1.1 y.1.2.2.1 y.1.2.2.2.1 y.1.2.2.2.2.1 y.1.2.2.2.2.2.1 y.1.2.2.2.2.2.2.1 y.1.2.2.2.2.2.2.2.1 y.2.1 (fun o0 => k .ret ⟨[(2, .b false)], [⟨(.pair (.int .i64) .bool), y.2.1, true⟩, ⟨(.pair (.pair (.int .i64) (.int .i64)) (.int .i64)), o0, true⟩]⟩)
    (fun o0 o1 => k (.exit 4) ⟨[(3, .i .i64 y.1.1), (7, .mp 1), (8, .i .i64 y.1.2.2.1), (55, .ro (.arr (.pair (.int .i64) (.int .i64))) y.1.2.2.2.1), (56, .i .i64 y.1.2.2.2.2.1), (57, .i .i64 y.1.2.2.2.2.2.1), (62, .ro (.pair (.int .i64) (.int .i64)) y.1.2.2.2.2.2.2.1), (63, .i .i64 y.1.2.2.2.2.2.2.2.1), (64, .i .i64 o0), (65, .b false)], [⟨(.pair (.int .i64) .bool), y.2.1, true⟩, ⟨(.pair (.pair (.int .i64) (.int .i64)) (.int .i64)), o1, true⟩]⟩) m y.1.2.2.2.2.2.2.2.2.1 y.2.2.1
def la_graph_Valid_L1 {R : Type} (N m : Nat) (y : sh_graph_Valid_L1.ty) (k : KK R) : Option R :=
  s_graph_Valid_L1 N y.1.1 y.1.2.2.1 y.1.2.2.2.1 y.2.1 (fun o0 => k .ret ⟨[(2, .b false)], [⟨(.pair (.int .i64) .bool), y.2.1, true⟩, ⟨(.pair (.pair (.int .i64) (.int .i64)) (.int .i64)), o0, true⟩]⟩)
    (fun o0 o1 => k (.exit 2) ⟨[(3, .i .i64 y.1.1), (7, .mp 1), (55, .ro (.arr (.pair (.int .i64) (.int .i64))) y.1.2.2.1), (56, .i .i64 y.1.2.2.2.1), (57, .i .i64 o0), (58, .b false)], [⟨(.pair (.int .i64) .bool), y.2.1, true⟩, ⟨(.pair (.pair (.int .i64) (.int .i64)) (.int .i64)), o1, true⟩]⟩) m y.1.2.2.2.2.1 y.2.2.1
def lp_graph_Valid {R : Type} (N : Nat) : Nat → KSt → KK R → Option R
  | 0, st, k => sh_graph_Valid_L0.dec { tmps := kkeep [1, 3, 4, 33, 34, 35] st.tmps, obs := st.obs } fun y => la_graph_Valid_L0 N N y k
  | 1, st, k => sh_graph_Valid_L1.dec { tmps := kkeep [3, 7, 55, 56, 57] st.tmps, obs := st.obs } fun y => la_graph_Valid_L1 N N y k
  | 2, st, k => sh_graph_Valid_L2.dec { tmps := kkeep [3, 7, 8, 55, 56, 57, 62, 63, 64] st.tmps, obs := st.obs } fun y => la_graph_Valid_L2 N N y k
  | 3, st, k => or_graph_Valid N st k
  | _, _, _ => none

def s_graph_Valid (N : Nat) (g1 : Arr Int) (g2 : Arr (Arr (Int × Int))) : Option (Bool) :=
  sel (decide ((((g2.n : Nat) : Int)) < 1)) (
    some false) (
    sel (decide ((((g2.n : Nat) : Int)) > 24)) (
      some false) (
      sel ((((g1.n : Nat) : Int)) != (((g2.n : Nat) : Int))) (
        some false) (
        s_graph_Valid_L0 N g1 g2 (((g2.n : Nat) : Int)) g1 (((g1.n : Nat) : Int))
          (fun o0 =>
            some false)
          (fun o0_1 o1 =>
            s_graph_Valid_L1 N ((((g2.n : Nat) : Int))) g2 (((g2.n : Nat) : Int)) o1
              (fun o0_6 =>
                some false)
              (fun o0_7 o1_3 =>
                chk (decide (o1_3.length < N)) (
                sel (wsym o1_3) (
                  some true) (
                  some false)))
              N 0 ([]))
          N 0 ([]))))

def e_graph_Valid (N : Nat) : Ent := ⟨32, [], [.agg (.pair (.arr (.int .i64)) (.arr (.arr (.pair (.int .i64) (.int .i64)))))], .cell .bool, fun x => s_graph_Valid N x.1.1 x.1.2, false⟩

def es_graph_Valid (N : Nat) : List Ent := []
theorem es_graph_Valid_ok (N : Nat) : EntsOK prg0 N 0 (es_graph_Valid N) := trivial

theorem ok_graph_Valid_L0 {R : Type} (N d : Nat) (hd : 0 ≤ d) (call : CallF) (hcall : call = evF prg0 N (d + 1)) (hC : CkOK (R := R) (ckOf (es_graph_Valid N)) call) : LoopOK (R := R) N call [1, 3, 4, 33, 34, 35] k_graph_Valid_L0.mc (lp_graph_Valid N 0) :=
  loop_of hC (⟨trivial, ⟨⟨trivial, trivial⟩, ⟨⟨trivial, ⟨⟨trivial, ⟨⟨trivial, trivial⟩, trivial⟩⟩, trivial⟩⟩, trivial⟩⟩⟩) (la_graph_Valid_L0 N) (fun _ _ => rfl) (fun m x k => by kernel_rfl) (fun _ _ => rfl)

theorem ok_graph_Valid_L2 {R : Type} (N d : Nat) (hd : 0 ≤ d) (call : CallF) (hcall : call = evF prg0 N (d + 1)) (hC : CkOK (R := R) (ckOf (es_graph_Valid N)) call) : LoopOK (R := R) N call [3, 7, 8, 55, 56, 57, 62, 63, 64] k_graph_Valid_L2.mc (lp_graph_Valid N 2) :=
  loop_of hC (⟨trivial, ⟨⟨trivial, trivial⟩, ⟨⟨trivial, ⟨trivial, ⟨⟨trivial, ⟨⟨trivial, trivial⟩, trivial⟩⟩, trivial⟩⟩⟩, trivial⟩⟩⟩) (la_graph_Valid_L2 N) (fun _ _ => rfl) (fun m x k => by kernel_rfl) (fun _ _ => rfl)

theorem ok_graph_Valid_L1 {R : Type} (N d : Nat) (hd : 0 ≤ d) (call : CallF) (hcall : call = evF prg0 N (d + 1)) (hC : CkOK (R := R) (ckOf (es_graph_Valid N)) call) : LoopOK (R := R) N call [3, 7, 55, 56, 57] k_graph_Valid_L1.mc (lp_graph_Valid N 1) :=
  loop_of hC (⟨trivial, ⟨⟨trivial, trivial⟩, ⟨⟨trivial, ⟨trivial, ok_graph_Valid_L2 N d hd call hcall hC⟩⟩, trivial⟩⟩⟩) (la_graph_Valid_L1 N) (fun _ _ => rfl) (fun m x k => by kernel_rfl) (fun _ _ => rfl)

theorem ok_graph_Valid (N : Nat) : EntOK prg0 N 1 (e_graph_Valid N) :=
  ent_ok (es_graph_Valid_ok N) (f := k_graph_Valid) rfl ((prgF_32).trans (congrArg some k_graph_Valid_mf.symm)) rfl rfl (lp_graph_Valid N) (fun d hd call hcall hC => ⟨trivial, ⟨trivial, ⟨⟨trivial, ⟨⟨trivial, trivial⟩, trivial⟩⟩, ⟨trivial, ⟨⟨trivial, ok_graph_Valid_L0 N d hd call hcall hC⟩, ⟨trivial, ⟨⟨trivial, ok_graph_Valid_L1 N d hd call hcall hC⟩, ⟨ora_graph_Valid N d hd call hcall hC, ⟨trivial, trivial⟩⟩⟩⟩⟩⟩⟩⟩⟩) (fun x => by kernel_rfl)

-- selfstab/cluster.Fit
def k_cluster_Fit : KF := ⟨5, [.tmp 2], (
  .seq (.reg [⟨some 1, .box 2 (.t 0), none, none⟩,
    ⟨some 2, .mv (.c (Value.bool false)), none, none⟩] [1])
  (.seq (.reg [⟨some 3, .load (some 2) (.t 1), none, none⟩,
    ⟨some 4, .call 32 [.t 3], none, none⟩,
    ⟨some 2, .mv (.t 4), none, none⟩] [2])
  (.ret))), true⟩

theorem k_cluster_Fit_mf : k_cluster_Fit.mf = m_cluster_Fit := by kernel_rfl

def lp_cluster_Fit {R : Type} (N : Nat) : Nat → KSt → KK R → Option R
  | _, _, _ => none

def s_cluster_Fit (N : Nat) (g1 : Arr Int) (g2 : Arr (Arr (Int × Int))) : Option (Bool) :=
  kO? (s_graph_Valid N g1 g2) (fun r =>
  some r)

def e_cluster_Fit (N : Nat) : Ent := ⟨3, [], [.agg (.pair (.arr (.int .i64)) (.arr (.arr (.pair (.int .i64) (.int .i64)))))], .cell .bool, fun x => s_cluster_Fit N x.1.1 x.1.2, false⟩

def es_cluster_Fit (N : Nat) : List Ent := [e_graph_Valid N]
theorem es_cluster_Fit_ok (N : Nat) : EntsOK prg0 N 1 (es_cluster_Fit N) := ⟨(ok_graph_Valid N).mono (by decide), trivial⟩

theorem ok_cluster_Fit (N : Nat) : EntOK prg0 N 2 (e_cluster_Fit N) :=
  ent_ok (es_cluster_Fit_ok N) (f := k_cluster_Fit) rfl ((prgF_3).trans (congrArg some k_cluster_Fit_mf.symm)) rfl rfl (lp_cluster_Fit N) (fun d hd call hcall hC => ⟨trivial, ⟨trivial, trivial⟩⟩) (fun x => by kernel_rfl)

-- selfstab/shape.Holds
def k_shape_Holds_L1 : KC :=
  .seq (.reg [⟨some 34, .bin .lss (.t 33) (.t 32), none, none⟩] [2, 3, 7, 19, 20, 21, 31, 32, 33, 34])
  (.seq (.cond (.t 34) (.skip)
   (.exit 2))
  (.seq (.block 3 (.seq (.reg [⟨some 35, .mv (.t 33), none, none⟩,
     ⟨some 36, .iadr 1 (.t 31) (.t 33), none, none⟩,
     ⟨some 37, .load (none) (.t 36), none, none⟩,
     ⟨some 9, .mv (.t 35), none, none⟩,
     ⟨some 10, .mv (.t 37), none, none⟩] [2, 3, 7, 9, 10, 19, 20, 21, 31, 32, 33])
   (.seq (.reg [⟨some 38, .mv (.t 2), none, none⟩,
     ⟨some 39, .mv (.t 9), none, none⟩,
     ⟨some 40, .iadr 1 (.t 38) (.t 39), none, none⟩,
     ⟨some 41, .load (none) (.t 40), none, none⟩,
     ⟨some 11, .mv (.c (Value.int IntKind.i64 0)), none, none⟩,
     ⟨some 12, .mv (.t 41), none, none⟩] [2, 3, 7, 10, 11, 12, 19, 20, 21, 31, 32, 33])
   (.seq (.seq (.reg [⟨some 42, .mv (.t 12), none, none⟩,
     ⟨some 43, .bin .eql (.t 42) (.c (Value.int IntKind.i64 (-1))), none, none⟩] [2, 3, 7, 10, 11, 12, 19, 20, 21, 31, 32, 33, 43])
   (.cond (.t 43) (.reg [⟨some 44, .fadr 1 (.t 3), none, none⟩,
      ⟨some 45, .load (none) (.t 44), none, none⟩,
      ⟨some 46, .mv (.t 7), none, none⟩,
      ⟨some 47, .iadr 1 (.t 45) (.t 46), none, none⟩,
      ⟨some 48, .load (none) (.t 47), none, none⟩,
      ⟨some 49, .len 1 (.t 48), none, none⟩,
      ⟨some 50, .bin .sub (.t 49) (.c (Value.int IntKind.i64 1)), none, none⟩,
      ⟨some 11, .mv (.c (Value.int IntKind.i64 (-1))), none, none⟩,
      ⟨some 12, .mv (.t 50), none, none⟩] [2, 3, 7, 10, 11, 12, 19, 20, 21, 31, 32, 33])
    (.skip)))
   (.seq (.reg [⟨some 51, .mv (.t 10), none, none⟩,
     ⟨some 52, .mv (.t 11), none, none⟩,
     ⟨some 53, .bin .lss (.t 51) (.t 52), none, none⟩,
     ⟨some 54, .mv (.t 53), none, none⟩,
     ⟨some 55, .mv (.t 10), some (54, false), none⟩,
     ⟨some 56, .mv (.t 12), some (54, false), none⟩,
     ⟨some 57, .bin .gtr (.t 55) (.t 56), some (54, false), none⟩,
     ⟨some 58, .pick (.t 54) (.c (Value.bool true)) (.t 57), none, none⟩] [2, 3, 7, 19, 20, 21, 31, 32, 33, 58])
   (.cond (.t 58) (.seq (.reg [⟨some 6, .mv (.c (Value.bool false)), none, none⟩] [6])
    (.ret))
    (.skip)))))))
  (.reg [⟨some 59, .bin .add (.t 33) (.c (Value.int IntKind.i64 1)), none, none⟩,
    ⟨some 33, .mv (.t 59), none, none⟩] [2, 3, 7, 19, 20, 21, 31, 32, 33])))

def k_shape_Holds_L0 : KC :=
  .seq (.reg [⟨some 22, .bin .lss (.t 21) (.t 20), none, none⟩] [2, 3, 19, 20, 21, 22])
  (.seq (.cond (.t 22) (.skip)
   (.exit 0))
  (.seq (.block 1 (.seq (.reg [⟨some 23, .mv (.t 21), none, none⟩,
     ⟨some 24, .iadr 1 (.t 19) (.t 21), none, none⟩,
     ⟨some 25, .load (none) (.t 24), none, none⟩,
     ⟨some 7, .mv (.t 23), none, none⟩,
     ⟨some 8, .mv (.t 25), none, none⟩] [2, 3, 7, 8, 19, 20, 21])
   (.seq (.seq (.reg [⟨some 26, .mv (.t 8), none, none⟩,
     ⟨some 27, .len 1 (.t 26), none, none⟩,
     ⟨some 28, .mv (.t 2), none, none⟩,
     ⟨some 29, .len 1 (.t 28), none, none⟩,
     ⟨some 30, .bin .neq (.t 27) (.t 29), none, none⟩] [2, 3, 7, 8, 19, 20, 21, 30])
   (.cond (.t 30) (.seq (.reg [⟨some 6, .mv (.c (Value.bool false)), none, none⟩] [6])
    (.ret))
    (.skip)))
   (.seq (.reg [⟨some 31, .mv (.t 8), none, none⟩,
     ⟨some 32, .len 1 (.t 31), none, none⟩,
     ⟨some 33, .mv (.c (Value.int IntKind.i64 0)), none, none⟩] [2, 3, 7, 19, 20, 21, 31, 32, 33])
   (.block 2 (.loop 1 [2, 3, 7, 19, 20, 21, 31, 32, 33] k_shape_Holds_L1))))))
  (.reg [⟨some 60, .bin .add (.t 21) (.c (Value.int IntKind.i64 1)), none, none⟩,
    ⟨some 21, .mv (.t 60), none, none⟩] [2, 3, 19, 20, 21])))

def k_shape_Holds : KF := ⟨61, [.tmp 6], (
  .seq (.reg [⟨some 3, .box 2 (.t 0), none, none⟩,
    ⟨some 6, .mv (.c (Value.bool false)), none, none⟩] [1, 2, 3])
  (.seq (.seq (.reg [⟨some 13, .mv (.t 1), none, none⟩,
    ⟨some 14, .len 1 (.t 13), none, none⟩,
    ⟨some 15, .fadr 1 (.t 3), none, none⟩,
    ⟨some 16, .load (none) (.t 15), none, none⟩,
    ⟨some 17, .len 1 (.t 16), none, none⟩,
    ⟨some 18, .bin .neq (.t 14) (.t 17), none, none⟩] [1, 2, 3, 18])
  (.cond (.t 18) (.seq (.reg [⟨some 6, .mv (.c (Value.bool false)), none, none⟩] [6])
   (.ret))
   (.skip)))
  (.seq (.seq (.reg [⟨some 19, .mv (.t 1), none, none⟩,
    ⟨some 20, .len 1 (.t 19), none, none⟩,
    ⟨some 21, .mv (.c (Value.int IntKind.i64 0)), none, none⟩] [2, 3, 19, 20, 21])
  (.block 0 (.loop 0 [2, 3, 19, 20, 21] k_shape_Holds_L0)))
  (.seq (.reg [⟨some 6, .mv (.c (Value.bool true)), none, none⟩] [6])
  (.ret))))), true⟩

theorem k_shape_Holds_mf : k_shape_Holds.mf = m_shape_Holds := by kernel_rfl

def sh_shape_Holds_L1 : SH := ⟨[(2, .cell (.arr (.int .i64))), (3, .rp (.pair (.arr (.int .i64)) (.arr (.arr (.pair (.int .i64) (.int .i64)))))), (7, .cell (.int .i64)), (19, .cell (.arr (.arr (.int .i64)))), (20, .cell (.int .i64)), (21, .cell (.int .i64)), (31, .cell (.arr (.int .i64))), (32, .cell (.int .i64)), (33, .cell (.int .i64))], []⟩
def s_shape_Holds_L1 {R : Type} (N : Nat) (most2 : Arr Int) (g1_2 : Arr Int) (g2_2 : Arr (Arr (Int × Int))) (v : Int) (t19_1 : Arr (Arr Int)) (t20_1 : Int) (t21_1 : Int) (t31 : Arr Int) (t32 : Int) (k0 : Option R) (k1 : Int → Option R) : Nat → Int → Option R
  | 0, _ => none
  | m + 1, t33 =>
    sel (decide (t33 < t32)) (
      chk (inr t33 t31.n) (
      chk (inr t33 most2.n) (
      sel ((most2.f t33.toNat) == (-1)) (
        chk (inr v g2_2.n) (
        sel (decide ((t31.f t33.toNat) < (-1))) (
          k0) (
          sel (decide ((t31.f t33.toNat) > (IntKind.i64.wrap (((((g2_2.f v.toNat).n : Nat) : Int)) - 1)))) (
            k0) (
            s_shape_Holds_L1 N most2 g1_2 g2_2 v t19_1 t20_1 t21_1 t31 t32 k0 k1 m (IntKind.i64.wrap (t33 + 1)))))) (
        sel (decide ((t31.f t33.toNat) < 0)) (
          k0) (
          sel (decide ((t31.f t33.toNat) > (most2.f t33.toNat))) (
            k0) (
            s_shape_Holds_L1 N most2 g1_2 g2_2 v t19_1 t20_1 t21_1 t31 t32 k0 k1 m (IntKind.i64.wrap (t33 + 1)))))))) (
      k1 t33)

def sh_shape_Holds_L0 : SH := ⟨[(2, .cell (.arr (.int .i64))), (3, .rp (.pair (.arr (.int .i64)) (.arr (.arr (.pair (.int .i64) (.int .i64)))))), (19, .cell (.arr (.arr (.int .i64)))), (20, .cell (.int .i64)), (21, .cell (.int .i64))], []⟩
def s_shape_Holds_L0 {R : Type} (N : Nat) (most1 : Arr Int) (g1_1 : Arr Int) (g2_1 : Arr (Arr (Int × Int))) (t19 : Arr (Arr Int)) (t20 : Int) (k0 : Option R) (k1 : Int → Option R) : Nat → Int → Option R
  | 0, _ => none
  | m + 1, t21 =>
    sel (decide (t21 < t20)) (
      chk (inr t21 t19.n) (
      sel (((((t19.f t21.toNat).n : Nat) : Int)) != (((most1.n : Nat) : Int))) (
        k0) (
        s_shape_Holds_L1 N most1 g1_1 g2_1 t21 t19 t20 t21 (t19.f t21.toNat) ((((t19.f t21.toNat).n : Nat) : Int))
          (
            k0)
          (fun o0_1 =>
            s_shape_Holds_L0 N most1 g1_1 g2_1 t19 t20 k0 k1 m (IntKind.i64.wrap (t21 + 1)))
          N 0))) (
      k1 t21)

def la_shape_Holds_L1 {R : Type} (N m : Nat) (y : sh_shape_Holds_L1.ty) (k : KK R) : Option R :=
  s_shape_Holds_L1 N y.1.1 y.1.2.1.1 y.1.2.1.2 y.1.2.2.1 y.1.2.2.2.1 y.1.2.2.2.2.1 y.1.2.2.2.2.2.1 y.1.2.2.2.2.2.2.1 y.1.2.2.2.2.2.2.2.1 (k .ret ⟨[(6, .b false)], []⟩)
    (fun o0 => k (.exit 2) ⟨[(2, .ro (.int .i64) y.1.1), (3, .rp [.ro (.int .i64) y.1.2.1.1, .ro (.arr (.pair (.int .i64) (.int .i64))) y.1.2.1.2]), (7, .i .i64 y.1.2.2.1), (19, .ro (.arr (.int .i64)) y.1.2.2.2.1), (20, .i .i64 y.1.2.2.2.2.1), (21, .i .i64 y.1.2.2.2.2.2.1), (31, .ro (.int .i64) y.1.2.2.2.2.2.2.1), (32, .i .i64 y.1.2.2.2.2.2.2.2.1), (33, .i .i64 o0), (34, .b false)], []⟩) m y.1.2.2.2.2.2.2.2.2.1
def la_shape_Holds_L0 {R : Type} (N m : Nat) (y : sh_shape_Holds_L0.ty) (k : KK R) : Option R :=
  s_shape_Holds_L0 N y.1.1 y.1.2.1.1 y.1.2.1.2 y.1.2.2.1 y.1.2.2.2.1 (k .ret ⟨[(6, .b false)], []⟩)
    (fun o0 => k (.exit 0) ⟨[(2, .ro (.int .i64) y.1.1), (3, .rp [.ro (.int .i64) y.1.2.1.1, .ro (.arr (.pair (.int .i64) (.int .i64))) y.1.2.1.2]), (19, .ro (.arr (.int .i64)) y.1.2.2.1), (20, .i .i64 y.1.2.2.2.1), (21, .i .i64 o0), (22, .b false)], []⟩) m y.1.2.2.2.2.1
def lp_shape_Holds {R : Type} (N : Nat) : Nat → KSt → KK R → Option R
  | 0, st, k => sh_shape_Holds_L0.dec { tmps := kkeep [2, 3, 19, 20, 21] st.tmps, obs := st.obs } fun y => la_shape_Holds_L0 N N y k
  | 1, st, k => sh_shape_Holds_L1.dec { tmps := kkeep [2, 3, 7, 19, 20, 21, 31, 32, 33] st.tmps, obs := st.obs } fun y => la_shape_Holds_L1 N N y k
  | _, _, _ => none

def s_shape_Holds (N : Nat) (g1 : Arr Int) (g2 : Arr (Arr (Int × Int))) (c : Arr (Arr Int)) (most : Arr Int) : Option (Bool) :=
  sel ((((c.n : Nat) : Int)) != (((g2.n : Nat) : Int))) (
    some false) (
    s_shape_Holds_L0 N most g1 g2 c (((c.n : Nat) : Int))
      (
        some false)
      (fun o0_2 =>
        some true)
      N 0)

def e_shape_Holds (N : Nat) : Ent := ⟨62, [], [.agg (.pair (.arr (.int .i64)) (.arr (.arr (.pair (.int .i64) (.int .i64))))), .cell (.arr (.arr (.int .i64))), .cell (.arr (.int .i64))], .cell .bool, fun x => s_shape_Holds N x.1.1 x.1.2 x.2.1 x.2.2.1, false⟩

def es_shape_Holds (N : Nat) : List Ent := []
theorem es_shape_Holds_ok (N : Nat) : EntsOK prg0 N 0 (es_shape_Holds N) := trivial

theorem ok_shape_Holds_L1 {R : Type} (N d : Nat) (hd : 0 ≤ d) (call : CallF) (hcall : call = evF prg0 N (d + 1)) (hC : CkOK (R := R) (ckOf (es_shape_Holds N)) call) : LoopOK (R := R) N call [2, 3, 7, 19, 20, 21, 31, 32, 33] k_shape_Holds_L1.mc (lp_shape_Holds N 1) :=
  loop_of hC (⟨trivial, ⟨⟨trivial, trivial⟩, ⟨⟨trivial, ⟨trivial, ⟨⟨trivial, ⟨trivial, trivial⟩⟩, ⟨trivial, ⟨⟨trivial, trivial⟩, trivial⟩⟩⟩⟩⟩, trivial⟩⟩⟩) (la_shape_Holds_L1 N) (fun _ _ => rfl) (fun m x k => by kernel_rfl) (fun _ _ => rfl)

theorem ok_shape_Holds_L0 {R : Type} (N d : Nat) (hd : 0 ≤ d) (call : CallF) (hcall : call = evF prg0 N (d + 1)) (hC : CkOK (R := R) (ckOf (es_shape_Holds N)) call) : LoopOK (R := R) N call [2, 3, 19, 20, 21] k_shape_Holds_L0.mc (lp_shape_Holds N 0) :=
  loop_of hC (⟨trivial, ⟨⟨trivial, trivial⟩, ⟨⟨trivial, ⟨⟨trivial, ⟨⟨trivial, trivial⟩, trivial⟩⟩, ⟨trivial, ok_shape_Holds_L1 N d hd call hcall hC⟩⟩⟩, trivial⟩⟩⟩) (la_shape_Holds_L0 N) (fun _ _ => rfl) (fun m x k => by kernel_rfl) (fun _ _ => rfl)

theorem ok_shape_Holds (N : Nat) : EntOK prg0 N 1 (e_shape_Holds N) :=
  ent_ok (es_shape_Holds_ok N) (f := k_shape_Holds) rfl ((prgF_62).trans (congrArg some k_shape_Holds_mf.symm)) rfl rfl (lp_shape_Holds N) (fun d hd call hcall hC => ⟨trivial, ⟨⟨trivial, ⟨⟨trivial, trivial⟩, trivial⟩⟩, ⟨⟨trivial, ok_shape_Holds_L0 N d hd call hcall hC⟩, ⟨trivial, trivial⟩⟩⟩⟩) (fun x => by kernel_rfl)

-- selfstab/cluster.configuration
def k_cluster_configuration : KF := ⟨13, [.tmp 4], (
  .seq (.reg [⟨some 2, .box 2 (.t 0), none, none⟩,
    ⟨some 4, .mv (.c (Value.bool false)), none, none⟩] [1, 2])
  (.seq (.reg [⟨some 5, .load (some 2) (.t 2), none, none⟩,
    ⟨some 6, .call 3 [.t 5], none, none⟩,
    ⟨some 7, .mv (.t 6), none, none⟩,
    ⟨some 8, .load (some 2) (.t 2), some (7, true), none⟩,
    ⟨some 9, .mv (.t 1), some (7, true), none⟩,
    ⟨some 10, .lit 1 [.v (Value.int .i64 0), .v (Value.int .i64 0)] [(0, 1, (.c (Value.int IntKind.i64 1))), (1, 1, (.c (Value.int IntKind.i64 (-1))))] false, some (7, true), none⟩,
    ⟨some 11, .call 62 [.t 8, .t 9, .t 10], some (7, true), none⟩,
    ⟨some 12, .pick (.t 7) (.t 11) (.c (Value.bool false)), none, none⟩,
    ⟨some 4, .mv (.t 12), none, none⟩] [4])
  (.ret))), true⟩

theorem k_cluster_configuration_mf : k_cluster_configuration.mf = m_cluster_configuration := by kernel_rfl

def lp_cluster_configuration {R : Type} (N : Nat) : Nat → KSt → KK R → Option R
  | _, _, _ => none

def s_cluster_configuration (N : Nat) (g1 : Arr Int) (g2 : Arr (Arr (Int × Int))) (c : Arr (Arr Int)) : Option (Bool) :=
  kO? (s_cluster_Fit N g1 g2) (fun r =>
  sel (r) (
    kO? (s_shape_Holds N g1 g2 c (arrL (0 : Int) [1, (-1)])) (fun r1 =>
    some r1)) (
    some false))

def e_cluster_configuration (N : Nat) : Ent := ⟨34, [], [.agg (.pair (.arr (.int .i64)) (.arr (.arr (.pair (.int .i64) (.int .i64))))), .cell (.arr (.arr (.int .i64)))], .cell .bool, fun x => s_cluster_configuration N x.1.1 x.1.2 x.2.1, false⟩

def es_cluster_configuration (N : Nat) : List Ent := [e_cluster_Fit N, e_shape_Holds N]
theorem es_cluster_configuration_ok (N : Nat) : EntsOK prg0 N 2 (es_cluster_configuration N) := ⟨(ok_cluster_Fit N).mono (by decide), (ok_shape_Holds N).mono (by decide), trivial⟩

theorem ok_cluster_configuration (N : Nat) : EntOK prg0 N 3 (e_cluster_configuration N) :=
  ent_ok (es_cluster_configuration_ok N) (f := k_cluster_configuration) rfl ((prgF_34).trans (congrArg some k_cluster_configuration_mf.symm)) rfl rfl (lp_cluster_configuration N) (fun d hd call hcall hC => ⟨trivial, ⟨trivial, trivial⟩⟩) (fun x => by kernel_rfl)

-- selfstab/cluster.Legit$1
def k_cluster_Legit_1 : KF := ⟨12, [.tmp 3], (
  .seq (.reg [⟨some 2, .box 2 (.t 0), none, none⟩,
    ⟨some 3, .mv (.c (Value.bool false)), none, none⟩] [1, 2])
  (.seq (.reg [⟨some 4, .load (none) (.t 1), none, none⟩,
    ⟨some 5, .fadr 0 (.t 2), none, none⟩,
    ⟨some 6, .load (none) (.t 5), none, none⟩,
    ⟨some 7, .iadr 1 (.t 4) (.t 6), none, none⟩,
    ⟨some 8, .load (none) (.t 7), none, none⟩,
    ⟨some 9, .iadr 1 (.t 8) (.c (Value.int IntKind.i64 0)), none, none⟩,
    ⟨some 10, .load (none) (.t 9), none, none⟩,
    ⟨some 11, .bin .eql (.t 10) (.c (Value.int IntKind.i64 1)), none, none⟩,
    ⟨some 3, .mv (.t 11), none, none⟩] [3])
  (.ret))), true⟩

theorem k_cluster_Legit_1_mf : k_cluster_Legit_1.mf = m_cluster_Legit_1 := by kernel_rfl

def lp_cluster_Legit_1 {R : Type} (N : Nat) : Nat → KSt → KK R → Option R
  | _, _, _ => none

def s_cluster_Legit_1 (N : Nat) (link1 : Int) (link2 : Int) (t1 : Arr (Arr Int)) : Option (Bool) :=
  chk (inr link1 t1.n) (
  chk (inr 0 (t1.f link1.toNat).n) (
  some (((t1.f link1.toNat).f ((0 : Int).toNat)) == 1)))

def e_cluster_Legit_1 (N : Nat) : Ent := ⟨35, [], [.agg (.pair (.int .i64) (.int .i64)), .rp (.arr (.arr (.int .i64)))], .cell .bool, fun x => s_cluster_Legit_1 N x.1.1 x.1.2 x.2.1, false⟩

def es_cluster_Legit_1 (N : Nat) : List Ent := []
theorem es_cluster_Legit_1_ok (N : Nat) : EntsOK prg0 N 0 (es_cluster_Legit_1 N) := trivial

theorem ok_cluster_Legit_1 (N : Nat) : EntOK prg0 N 1 (e_cluster_Legit_1 N) :=
  ent_ok (es_cluster_Legit_1_ok N) (f := k_cluster_Legit_1) rfl ((prgF_35).trans (congrArg some k_cluster_Legit_1_mf.symm)) rfl rfl (lp_cluster_Legit_1 N) (fun d hd call hcall hC => ⟨trivial, ⟨trivial, trivial⟩⟩) (fun x => by kernel_rfl)

-- slices.IndexFunc[[]selfstab/api.Link,selfstab/api.Link]
def k_slices_IndexFunc_api_Link_api_Link_L0 : KC :=
  .seq (.reg [⟨some 9, .bin .lss (.t 8) (.t 7), none, none⟩] [0, 1, 7, 8, 9])
  (.seq (.cond (.t 9) (.skip)
   (.exit 0))
  (.seq (.block 1 (.seq (.reg [⟨some 10, .mv (.t 8), none, none⟩,
     ⟨some 5, .mv (.t 10), none, none⟩] [0, 1, 5, 7, 8])
   (.seq (.reg [⟨some 11, .mv (.t 1), none, none⟩,
     ⟨some 12, .mv (.t 0), none, none⟩,
     ⟨some 13, .mv (.t 5), none, none⟩,
     ⟨some 14, .iadr 2 (.t 12) (.t 13), none, none⟩,
     ⟨some 15, .load (some 2) (.t 14), none, none⟩,
     ⟨some 16, .callv (.t 11) [.t 15], none, none⟩] [0, 1, 5, 7, 8, 16])
   (.cond (.t 16) (.seq (.reg [⟨some 17, .mv (.t 5), none, none⟩,
      ⟨some 4, .mv (.t 17), none, none⟩] [4])
    (.ret))
    (.skip)))))
  (.reg [⟨some 18, .bin .add (.t 8) (.c (Value.int IntKind.i64 1)), none, none⟩,
    ⟨some 8, .mv (.t 18), none, none⟩] [0, 1, 7, 8])))

def k_slices_IndexFunc_api_Link_api_Link : KF := ⟨19, [.tmp 4], (
  .seq (.reg [⟨some 4, .mv (.c (Value.int IntKind.i64 0)), none, none⟩] [0, 1])
  (.seq (.seq (.reg [⟨some 6, .mv (.t 0), none, none⟩,
    ⟨some 7, .len 1 (.t 6), none, none⟩,
    ⟨some 8, .mv (.c (Value.int IntKind.i64 0)), none, none⟩] [0, 1, 7, 8])
  (.block 0 (.loop 0 [0, 1, 7, 8] k_slices_IndexFunc_api_Link_api_Link_L0)))
  (.seq (.reg [⟨some 4, .mv (.c (Value.int IntKind.i64 (-1))), none, none⟩] [4])
  (.ret)))), true⟩

theorem k_slices_IndexFunc_api_Link_api_Link_mf : k_slices_IndexFunc_api_Link_api_Link.mf = m_slices_IndexFunc_api_Link_api_Link := by kernel_rfl

def sh_slices_IndexFunc_api_Link_api_Link_L0 : SH := ⟨[(0, .cell (.arr (.pair (.int .i64) (.int .i64)))), (1, .fn 35 [(true, (.arr (.arr (.int .i64))))]), (7, .cell (.int .i64)), (8, .cell (.int .i64))], []⟩
def s_slices_IndexFunc_api_Link_api_Link_L0 {R : Type} (N : Nat) (s1 : Arr (Int × Int)) (f1 : Arr (Arr Int)) (t7 : Int) (k0 : Int → Option R) (k1 : Int → Option R) : Nat → Int → Option R
  | 0, _ => none
  | m + 1, t8 =>
    sel (decide (t8 < t7)) (
      chk (inr t8 s1.n) (
      kO? (s_cluster_Legit_1 N ((s1.f t8.toNat).1) ((s1.f t8.toNat).2) f1) (fun r1 =>
      sel (r1) (
        k0 t8) (
        s_slices_IndexFunc_api_Link_api_Link_L0 N s1 f1 t7 k0 k1 m (IntKind.i64.wrap (t8 + 1)))))) (
      k1 t8)

def la_slices_IndexFunc_api_Link_api_Link_L0 {R : Type} (N m : Nat) (y : sh_slices_IndexFunc_api_Link_api_Link_L0.ty) (k : KK R) : Option R :=
  s_slices_IndexFunc_api_Link_api_Link_L0 N y.1.1 y.1.2.1.1 y.1.2.2.1 (fun o0 => k .ret ⟨[(4, .i .i64 o0)], []⟩)
    (fun o0 => k (.exit 0) ⟨[(0, .ro (.pair (.int .i64) (.int .i64)) y.1.1), (1, .fn 35 [.rp [.ro (.arr (.int .i64)) y.1.2.1.1]]), (7, .i .i64 y.1.2.2.1), (8, .i .i64 o0), (9, .b false)], []⟩) m y.1.2.2.2.1
def lp_slices_IndexFunc_api_Link_api_Link {R : Type} (N : Nat) : Nat → KSt → KK R → Option R
  | 0, st, k => sh_slices_IndexFunc_api_Link_api_Link_L0.dec { tmps := kkeep [0, 1, 7, 8] st.tmps, obs := st.obs } fun y => la_slices_IndexFunc_api_Link_api_Link_L0 N N y k
  | _, _, _ => none

def s_slices_IndexFunc_api_Link_api_Link (N : Nat) (s : Arr (Int × Int)) (f : Arr (Arr Int)) : Option (Int) :=
  s_slices_IndexFunc_api_Link_api_Link_L0 N s f (((s.n : Nat) : Int))
    (fun o0 =>
      some o0)
    (fun o0_1 =>
      some (-1))
    N 0

def e_slices_IndexFunc_api_Link_api_Link (N : Nat) : Ent := ⟨36, [35], [.cell (.arr (.pair (.int .i64) (.int .i64))), .fn 35 [(true, (.arr (.arr (.int .i64))))]], .cell (.int .i64), fun x => s_slices_IndexFunc_api_Link_api_Link N x.1 x.2.1.1, false⟩

def es_slices_IndexFunc_api_Link_api_Link (N : Nat) : List Ent := [e_cluster_Legit_1 N]
theorem es_slices_IndexFunc_api_Link_api_Link_ok (N : Nat) : EntsOK prg0 N 1 (es_slices_IndexFunc_api_Link_api_Link N) := ⟨(ok_cluster_Legit_1 N).mono (by decide), trivial⟩

theorem ok_slices_IndexFunc_api_Link_api_Link_L0 {R : Type} (N d : Nat) (hd : 1 ≤ d) (call : CallF) (hcall : call = evF prg0 N (d + 1)) (hC : CkOK (R := R) (ckOf (es_slices_IndexFunc_api_Link_api_Link N)) call) : LoopOK (R := R) N call [0, 1, 7, 8] k_slices_IndexFunc_api_Link_api_Link_L0.mc (lp_slices_IndexFunc_api_Link_api_Link N 0) :=
  loop_of hC (⟨trivial, ⟨⟨trivial, trivial⟩, ⟨⟨trivial, ⟨trivial, ⟨⟨trivial, trivial⟩, trivial⟩⟩⟩, trivial⟩⟩⟩) (la_slices_IndexFunc_api_Link_api_Link_L0 N) (fun _ _ => rfl) (fun m x k => by kernel_rfl) (fun _ _ => rfl)

theorem ok_slices_IndexFunc_api_Link_api_Link (N : Nat) : EntOK prg0 N 2 (e_slices_IndexFunc_api_Link_api_Link N) :=
  ent_ok (es_slices_IndexFunc_api_Link_api_Link_ok N) (f := k_slices_IndexFunc_api_Link_api_Link) rfl ((prgF_36).trans (congrArg some k_slices_IndexFunc_api_Link_api_Link_mf.symm)) rfl rfl (lp_slices_IndexFunc_api_Link_api_Link N) (fun d hd call hcall hC => ⟨trivial, ⟨⟨trivial, ok_slices_IndexFunc_api_Link_api_Link_L0 N d hd call hcall hC⟩, ⟨trivial, trivial⟩⟩⟩) (fun x => by kernel_rfl)

-- selfstab/cluster.Legit
def k_cluster_Legit_L0 : KC :=
  .seq (.reg [⟨some 16, .bin .lss (.t 15) (.t 14), none, none⟩] [2, 3, 13, 14, 15, 16])
  (.seq (.cond (.t 16) (.skip)
   (.exit 0))
  (.seq (.block 1 (.seq (.reg [⟨some 17, .mv (.t 15), none, none⟩,
     ⟨some 18, .iadr 1 (.t 13) (.t 15), none, none⟩,
     ⟨some 19, .load (none) (.t 18), none, none⟩,
     ⟨some 5, .mv (.t 17), none, none⟩,
     ⟨some 6, .mv (.t 19), none, none⟩] [2, 3, 5, 6, 13, 14, 15])
   (.seq (.reg [⟨some 20, .fadr 1 (.t 2), none, none⟩,
     ⟨some 21, .load (none) (.t 20), none, none⟩,
     ⟨some 22, .mv (.t 5), none, none⟩,
     ⟨some 23, .iadr 1 (.t 21) (.t 22), none, none⟩,
     ⟨some 24, .load (none) (.t 23), none, none⟩,
     ⟨some 25, .mkf 35 [.t 3], none, none⟩,
     ⟨some 26, .call 36 [.t 24, .t 25], none, none⟩,
     ⟨some 7, .mv (.t 26), none, none⟩] [2, 3, 6, 7, 13, 14, 15])
   (.seq (.reg [⟨some 27, .mv (.t 6), none, none⟩,
     ⟨some 28, .iadr 1 (.t 27) (.c (Value.int IntKind.i64 0)), none, none⟩,
     ⟨some 29, .load (none) (.t 28), none, none⟩,
     ⟨some 30, .bin .eql (.t 29) (.c (Value.int IntKind.i64 1)), none, none⟩,
     ⟨some 8, .mv (.t 30), none, none⟩] [2, 3, 6, 7, 8, 13, 14, 15])
   (.block 2 (.seq (.reg [⟨some 32, .mv (.t 8), none, none⟩,
      ⟨some 33, .mv (.t 32), none, none⟩,
      ⟨some 34, .mv (.t 7), some (33, true), none⟩,
      ⟨some 35, .bin .geq (.t 34) (.c (Value.int IntKind.i64 0)), some (33, true), none⟩,
      ⟨some 36, .mv (.t 35), some (33, true), none⟩,
      ⟨some 37, .mv (.t 6), some (36, false), none⟩,
      ⟨some 38, .iadr 1 (.t 37) (.c (Value.int IntKind.i64 1)), some (36, false), none⟩,
      ⟨some 39, .load (none) (.t 38), some (36, false), none⟩,
      ⟨some 40, .bin .neq (.t 39) (.c (Value.int IntKind.i64 (-1))), some (36, false), none⟩,
      ⟨some 41, .pick (.t 36) (.c (Value.bool true)) (.t 40), some (33, true), none⟩,
      ⟨some 42, .pick (.t 33) (.t 41) (.c (Value.bool false)), none, none⟩,
      ⟨some 31, .mv (.t 42), none, none⟩] [2, 3, 6, 7, 8, 13, 14, 15, 31])
    (.cond (.t 31) (.seq (.reg [⟨some 4, .mv (.c (Value.bool false)), none, none⟩] [4])
     (.ret))
     (.seq (.reg [⟨some 44, .mv (.t 8), none, none⟩,
       ⟨some 45, .un .not (.t 44), none, none⟩,
       ⟨some 46, .mv (.t 45), none, none⟩,
       ⟨some 47, .mv (.t 7), some (46, true), none⟩,
       ⟨some 48, .bin .lss (.t 47) (.c (Value.int IntKind.i64 0)), some (46, true), none⟩,
       ⟨some 49, .mv (.t 48), some (46, true), none⟩,
       ⟨some 50, .mv (.t 6), some (49, false), none⟩,
       ⟨some 51, .iadr 1 (.t 50) (.c (Value.int IntKind.i64 1)), some (49, false), none⟩,
       ⟨some 52, .load (none) (.t 51), some (49, false), none⟩,
       ⟨some 53, .mv (.t 7), some (49, false), none⟩,
       ⟨some 54, .bin .neq (.t 52) (.t 53), some (49, false), none⟩,
       ⟨some 55, .pick (.t 49) (.c (Value.bool true)) (.t 54), some (46, true), none⟩,
       ⟨some 56, .pick (.t 46) (.t 55) (.c (Value.bool false)), none, none⟩,
       ⟨some 43, .mv (.t 56), none, none⟩] [2, 3, 13, 14, 15, 43])
     (.cond (.t 43) (.seq (.reg [⟨some 4, .mv (.c (Value.bool false)), none, none⟩] [4])
      (.ret))
      (.skip))))))))))
  (.reg [⟨some 57, .bin .add (.t 15) (.c (Value.int IntKind.i64 1)), none, none⟩,
    ⟨some 15, .mv (.t 57), none, none⟩] [2, 3, 13, 14, 15])))

def k_cluster_Legit : KF := ⟨58, [.tmp 4], (
  .seq (.reg [⟨some 2, .box 2 (.t 0), none, none⟩,
    ⟨some 3, .box 1 (.t 1), none, none⟩,
    ⟨some 4, .mv (.c (Value.bool false)), none, none⟩] [2, 3])
  (.seq (.seq (.reg [⟨some 9, .load (some 2) (.t 2), none, none⟩,
    ⟨some 10, .load (none) (.t 3), none, none⟩,
    ⟨some 11, .call 34 [.t 9, .t 10], none, none⟩,
    ⟨some 12, .un .not (.t 11), none, none⟩] [2, 3, 12])
  (.cond (.t 12) (.seq (.reg [⟨some 4, .mv (.c (Value.bool false)), none, none⟩] [4])
   (.ret))
   (.skip)))
  (.seq (.seq (.reg [⟨some 13, .load (none) (.t 3), none, none⟩,
    ⟨some 14, .len 1 (.t 13), none, none⟩,
    ⟨some 15, .mv (.c (Value.int IntKind.i64 0)), none, none⟩] [2, 3, 13, 14, 15])
  (.block 0 (.loop 0 [2, 3, 13, 14, 15] k_cluster_Legit_L0)))
  (.seq (.reg [⟨some 4, .mv (.c (Value.bool true)), none, none⟩] [4])
  (.ret))))), true⟩

theorem k_cluster_Legit_mf : k_cluster_Legit.mf = m_cluster_Legit := by kernel_rfl

def sh_cluster_Legit_L0 : SH := ⟨[(2, .rp (.pair (.arr (.int .i64)) (.arr (.arr (.pair (.int .i64) (.int .i64)))))), (3, .rp (.arr (.arr (.int .i64)))), (13, .cell (.arr (.arr (.int .i64)))), (14, .cell (.int .i64)), (15, .cell (.int .i64))], []⟩
def s_cluster_Legit_L0 {R : Type} (N : Nat) (g1_1 : Arr Int) (g2_1 : Arr (Arr (Int × Int))) (c1 : Arr (Arr Int)) (t13 : Arr (Arr Int)) (t14 : Int) (k0 : Option R) (k1 : Int → Option R) : Nat → Int → Option R
  | 0, _ => none
  | m + 1, t15 =>
    sel (decide (t15 < t14)) (
      chk (inr t15 t13.n) (
      chk (inr t15 g2_1.n) (
      kO? (s_slices_IndexFunc_api_Link_api_Link N (g2_1.f t15.toNat) c1) (fun r2 =>
      chk (inr 0 (t13.f t15.toNat).n) (
      sel (((t13.f t15.toNat).f ((0 : Int).toNat)) == 1) (
        sel (decide (r2 ≥ 0)) (
          k0) (
          chk (inr 1 (t13.f t15.toNat).n) (
          sel (((t13.f t15.toNat).f ((1 : Int).toNat)) != (-1)) (
            k0) (
            sel (!(((t13.f t15.toNat).f ((0 : Int).toNat)) == 1)) (
              sel (decide (r2 < 0)) (
                k0) (
                chk (inr 1 (t13.f t15.toNat).n) (
                sel (((t13.f t15.toNat).f ((1 : Int).toNat)) != r2) (
                  k0) (
                  s_cluster_Legit_L0 N g1_1 g2_1 c1 t13 t14 k0 k1 m (IntKind.i64.wrap (t15 + 1)))))) (
              s_cluster_Legit_L0 N g1_1 g2_1 c1 t13 t14 k0 k1 m (IntKind.i64.wrap (t15 + 1))))))) (
        sel (!(((t13.f t15.toNat).f ((0 : Int).toNat)) == 1)) (
          sel (decide (r2 < 0)) (
            k0) (
            chk (inr 1 (t13.f t15.toNat).n) (
            sel (((t13.f t15.toNat).f ((1 : Int).toNat)) != r2) (
              k0) (
              s_cluster_Legit_L0 N g1_1 g2_1 c1 t13 t14 k0 k1 m (IntKind.i64.wrap (t15 + 1)))))) (
          s_cluster_Legit_L0 N g1_1 g2_1 c1 t13 t14 k0 k1 m (IntKind.i64.wrap (t15 + 1))))))))) (
      k1 t15)

def la_cluster_Legit_L0 {R : Type} (N m : Nat) (y : sh_cluster_Legit_L0.ty) (k : KK R) : Option R :=
  s_cluster_Legit_L0 N y.1.1.1 y.1.1.2 y.1.2.1 y.1.2.2.1 y.1.2.2.2.1 (k .ret ⟨[(4, .b false)], []⟩)
    (fun o0 => k (.exit 0) ⟨[(2, .rp [.ro (.int .i64) y.1.1.1, .ro (.arr (.pair (.int .i64) (.int .i64))) y.1.1.2]), (3, .rp [.ro (.arr (.int .i64)) y.1.2.1]), (13, .ro (.arr (.int .i64)) y.1.2.2.1), (14, .i .i64 y.1.2.2.2.1), (15, .i .i64 o0), (16, .b false)], []⟩) m y.1.2.2.2.2.1
def lp_cluster_Legit {R : Type} (N : Nat) : Nat → KSt → KK R → Option R
  | 0, st, k => sh_cluster_Legit_L0.dec { tmps := kkeep [2, 3, 13, 14, 15] st.tmps, obs := st.obs } fun y => la_cluster_Legit_L0 N N y k
  | _, _, _ => none

def s_cluster_Legit (N : Nat) (g1 : Arr Int) (g2 : Arr (Arr (Int × Int))) (c : Arr (Arr Int)) : Option (Bool) :=
  kO? (s_cluster_configuration N g1 g2 c) (fun r =>
  sel (!r) (
    some false) (
    s_cluster_Legit_L0 N g1 g2 c c (((c.n : Nat) : Int))
      (
        some false)
      (fun o0 =>
        some true)
      N 0))

def e_cluster_Legit (N : Nat) : Ent := ⟨5, [], [.agg (.pair (.arr (.int .i64)) (.arr (.arr (.pair (.int .i64) (.int .i64))))), .cell (.arr (.arr (.int .i64)))], .cell .bool, fun x => s_cluster_Legit N x.1.1 x.1.2 x.2.1, false⟩

def es_cluster_Legit (N : Nat) : List Ent := [e_cluster_configuration N, e_slices_IndexFunc_api_Link_api_Link N]
theorem es_cluster_Legit_ok (N : Nat) : EntsOK prg0 N 3 (es_cluster_Legit N) := ⟨(ok_cluster_configuration N).mono (by decide), (ok_slices_IndexFunc_api_Link_api_Link N).mono (by decide), trivial⟩

theorem ok_cluster_Legit_L0 {R : Type} (N d : Nat) (hd : 3 ≤ d) (call : CallF) (hcall : call = evF prg0 N (d + 1)) (hC : CkOK (R := R) (ckOf (es_cluster_Legit N)) call) : LoopOK (R := R) N call [2, 3, 13, 14, 15] k_cluster_Legit_L0.mc (lp_cluster_Legit N 0) :=
  loop_of hC (⟨trivial, ⟨⟨trivial, trivial⟩, ⟨⟨trivial, ⟨trivial, ⟨trivial, ⟨trivial, ⟨⟨trivial, trivial⟩, ⟨trivial, ⟨⟨trivial, trivial⟩, trivial⟩⟩⟩⟩⟩⟩⟩, trivial⟩⟩⟩) (la_cluster_Legit_L0 N) (fun _ _ => rfl) (fun m x k => by kernel_rfl) (fun _ _ => rfl)

theorem ok_cluster_Legit (N : Nat) : EntOK prg0 N 4 (e_cluster_Legit N) :=
  ent_ok (es_cluster_Legit_ok N) (f := k_cluster_Legit) rfl ((prgF_5).trans (congrArg some k_cluster_Legit_mf.symm)) rfl rfl (lp_cluster_Legit N) (fun d hd call hcall hC => ⟨trivial, ⟨⟨trivial, ⟨⟨trivial, trivial⟩, trivial⟩⟩, ⟨⟨trivial, ok_cluster_Legit_L0 N d hd call hcall hC⟩, ⟨trivial, trivial⟩⟩⟩⟩) (fun x => by kernel_rfl)

-- selfstab/shape.At
def k_shape_At : KF := ⟨18, [.tmp 6], (
  .seq (.reg [⟨some 3, .box 2 (.t 0), none, none⟩,
    ⟨some 6, .mv (.c (Value.int IntKind.i64 0)), none, none⟩] [1, 2, 3])
  (.seq (.seq (.reg [⟨some 7, .mv (.t 2), none, none⟩,
    ⟨some 8, .bin .lss (.t 7) (.c (Value.int IntKind.i64 0)), none, none⟩] [1, 2, 3, 8])
  (.cond (.t 8) (.seq (.reg [⟨some 6, .mv (.c (Value.int IntKind.i64 (-1))), none, none⟩] [6])
   (.ret))
   (.skip)))
  (.seq (.reg [⟨some 9, .fadr 1 (.t 3), none, none⟩,
    ⟨some 10, .load (none) (.t 9), none, none⟩,
    ⟨some 11, .mv (.t 1), none, none⟩,
    ⟨some 12, .iadr 1 (.t 10) (.t 11), none, none⟩,
    ⟨some 13, .load (none) (.t 12), none, none⟩,
    ⟨some 14, .mv (.t 2), none, none⟩,
    ⟨some 15, .iadr 2 (.t 13) (.t 14), none, none⟩,
    ⟨some 16, .fadr 0 (.t 15), none, none⟩,
    ⟨some 17, .load (none) (.t 16), none, none⟩,
    ⟨some 6, .mv (.t 17), none, none⟩] [6])
  (.ret)))), true⟩

theorem k_shape_At_mf : k_shape_At.mf = m_shape_At := by kernel_rfl

def lp_shape_At {R : Type} (N : Nat) : Nat → KSt → KK R → Option R
  | _, _, _ => none

def s_shape_At (N : Nat) (g1 : Arr Int) (g2 : Arr (Arr (Int × Int))) (v : Int) (port : Int) : Option (Int) :=
  sel (decide (port < 0)) (
    some (-1)) (
    chk (inr v g2.n) (
    chk (inr port (g2.f v.toNat).n) (
    some (((g2.f v.toNat).f port.toNat).1))))

def e_shape_At (N : Nat) : Ent := ⟨43, [], [.agg (.pair (.arr (.int .i64)) (.arr (.arr (.pair (.int .i64) (.int .i64))))), .cell (.int .i64), .cell (.int .i64)], .cell (.int .i64), fun x => s_shape_At N x.1.1 x.1.2 x.2.1 x.2.2.1, false⟩

def es_shape_At (N : Nat) : List Ent := []
theorem es_shape_At_ok (N : Nat) : EntsOK prg0 N 0 (es_shape_At N) := trivial

theorem ok_shape_At (N : Nat) : EntOK prg0 N 1 (e_shape_At N) :=
  ent_ok (es_shape_At_ok N) (f := k_shape_At) rfl ((prgF_43).trans (congrArg some k_shape_At_mf.symm)) rfl rfl (lp_shape_At N) (fun d hd call hcall hC => ⟨trivial, ⟨⟨trivial, ⟨⟨trivial, trivial⟩, trivial⟩⟩, ⟨trivial, trivial⟩⟩⟩) (fun x => by kernel_rfl)

-- selfstab/cluster.Heads
def k_cluster_Heads_L0 : KC :=
  .seq (.reg [⟨some 18, .bin .lss (.t 17) (.t 16), none, none⟩] [2, 5, 15, 16, 17, 18])
  (.seq (.cond (.t 18) (.skip)
   (.exit 0))
  (.seq (.block 1 (.seq (.reg [⟨some 19, .mv (.t 17), none, none⟩,
     ⟨some 20, .iadr 1 (.t 15) (.t 17), none, none⟩,
     ⟨some 21, .load (none) (.t 20), none, none⟩,
     ⟨some 6, .mv (.t 19), none, none⟩,
     ⟨some 7, .mv (.t 21), none, none⟩] [2, 5, 6, 7, 15, 16, 17])
   (.seq (.reg [⟨some 22, .mv (.t 5), none, none⟩,
     ⟨some 23, .mv (.t 6), none, none⟩,
     ⟨some 24, .mv (.t 6), none, none⟩,
     ⟨some 25, .iadr 1 (.t 22) (.t 23), none, none⟩,
     ⟨none, .store 1 (.t 25) (.t 24), none, none⟩] [2, 5, 6, 7, 15, 16, 17])
   (.seq (.reg [⟨some 26, .mv (.t 7), none, none⟩,
     ⟨some 27, .iadr 1 (.t 26) (.c (Value.int IntKind.i64 0)), none, none⟩,
     ⟨some 28, .load (none) (.t 27), none, none⟩,
     ⟨some 29, .bin .eql (.t 28) (.c (Value.int IntKind.i64 0)), none, none⟩] [2, 5, 6, 7, 15, 16, 17, 29])
   (.cond (.t 29) (.reg [⟨some 30, .mv (.t 5), none, none⟩,
      ⟨some 31, .mv (.t 6), none, none⟩,
      ⟨some 32, .load (some 2) (.t 2), none, none⟩,
      ⟨some 33, .mv (.t 6), none, none⟩,
      ⟨some 34, .mv (.t 7), none, none⟩,
      ⟨some 35, .iadr 1 (.t 34) (.c (Value.int IntKind.i64 1)), none, none⟩,
      ⟨some 36, .load (none) (.t 35), none, none⟩,
      ⟨some 37, .call 43 [.t 32, .t 33, .t 36], none, none⟩,
      ⟨some 38, .iadr 1 (.t 30) (.t 31), none, none⟩,
      ⟨none, .store 1 (.t 38) (.t 37), none, none⟩] [2, 5, 15, 16, 17])
    (.skip))))))
  (.reg [⟨some 39, .bin .add (.t 17) (.c (Value.int IntKind.i64 1)), none, none⟩,
    ⟨some 17, .mv (.t 39), none, none⟩] [2, 5, 15, 16, 17])))

def k_cluster_Heads : KF := ⟨41, [.tmp 4], (
  .seq (.reg [⟨some 2, .box 2 (.t 0), none, none⟩,
    ⟨some 4, .mv (.c (Value.slice none 0 0)), none, none⟩] [1, 2])
  (.seq (.seq (.reg [⟨some 8, .load (some 2) (.t 2), none, none⟩,
    ⟨some 9, .mv (.t 1), none, none⟩,
    ⟨some 10, .call 34 [.t 8, .t 9], none, none⟩,
    ⟨some 11, .un .not (.t 10), none, none⟩] [1, 2, 11])
  (.cond (.t 11) (.seq (.reg [⟨some 4, .mv (.c (Value.slice none 0 0)), none, none⟩] [4])
   (.ret))
   (.skip)))
  (.seq (.reg [⟨some 12, .mv (.t 1), none, none⟩,
    ⟨some 13, .len 1 (.t 12), none, none⟩,
    ⟨some 14, .mks 1 8 [.v (Value.int .i64 0)] (.t 13) (.t 13), none, none⟩,
    ⟨some 5, .mv (.t 14), none, none⟩] [1, 2, 5])
  (.seq (.seq (.reg [⟨some 15, .mv (.t 1), none, none⟩,
    ⟨some 16, .len 1 (.t 15), none, none⟩,
    ⟨some 17, .mv (.c (Value.int IntKind.i64 0)), none, none⟩] [2, 5, 15, 16, 17])
  (.block 0 (.loop 0 [2, 5, 15, 16, 17] k_cluster_Heads_L0)))
  (.seq (.reg [⟨some 40, .mv (.t 5), none, none⟩,
    ⟨some 4, .mv (.t 40), none, none⟩] [4])
  (.ret)))))), true⟩

theorem k_cluster_Heads_mf : k_cluster_Heads.mf = m_cluster_Heads := by kernel_rfl

def sh_cluster_Heads_L0 : SH := ⟨[(2, .rp (.pair (.arr (.int .i64)) (.arr (.arr (.pair (.int .i64) (.int .i64)))))), (5, .own 0), (15, .cell (.arr (.arr (.int .i64)))), (16, .cell (.int .i64)), (17, .cell (.int .i64))], [(false, (.int .i64))]⟩
def s_cluster_Heads_L0 {R : Type} (N : Nat) (g1_1 : Arr Int) (g2_1 : Arr (Arr (Int × Int))) (t15 : Arr (Arr Int)) (t16 : Int) (k0 : Int → (List (Int)) → Option R) : Nat → Int → List Int → Option R
  | 0, _, _ => none
  | m + 1, t17, l0 =>
    sel (decide (t17 < t16)) (
      chk (inr t17 t15.n) (
      chk (inr t17 l0.length) (
      chk (decide (t17.toNat < l0.length)) (
      chk (inr 0 (t15.f t17.toNat).n) (
      sel (((t15.f t17.toNat).f ((0 : Int).toNat)) == 0) (
        chk (inr 1 (t15.f t17.toNat).n) (
        kO? (s_shape_At N g1_1 g2_1 t17 ((t15.f t17.toNat).f ((1 : Int).toNat))) (fun r2 =>
        chk (inr t17 (l0.set t17.toNat t17).length) (
        chk (decide (t17.toNat < (l0.set t17.toNat t17).length)) (
        s_cluster_Heads_L0 N g1_1 g2_1 t15 t16 k0 m (IntKind.i64.wrap (t17 + 1)) ((l0.set t17.toNat t17).set t17.toNat r2)))))) (
        s_cluster_Heads_L0 N g1_1 g2_1 t15 t16 k0 m (IntKind.i64.wrap (t17 + 1)) (l0.set t17.toNat t17))))))) (
      k0 t17 l0)

def la_cluster_Heads_L0 {R : Type} (N m : Nat) (y : sh_cluster_Heads_L0.ty) (k : KK R) : Option R :=
  s_cluster_Heads_L0 N y.1.1.1 y.1.1.2 y.1.2.2.1 y.1.2.2.2.1 (fun o0 o1 => k (.exit 0) ⟨[(2, .rp [.ro (.int .i64) y.1.1.1, .ro (.arr (.pair (.int .i64) (.int .i64))) y.1.1.2]), (5, .own 0), (15, .ro (.arr (.int .i64)) y.1.2.2.1), (16, .i .i64 y.1.2.2.2.1), (17, .i .i64 o0), (18, .b false)], [⟨(.int .i64), o1, false⟩]⟩) m y.1.2.2.2.2.1 y.2.1
def lp_cluster_Heads {R : Type} (N : Nat) : Nat → KSt → KK R → Option R
  | 0, st, k => sh_cluster_Heads_L0.dec { tmps := kkeep [2, 5, 15, 16, 17] st.tmps, obs := st.obs } fun y => la_cluster_Heads_L0 N N y k
  | _, _, _ => none

def s_cluster_Heads (N : Nat) (g1 : Arr Int) (g2 : Arr (Arr (Int × Int))) (c : Arr (Arr Int)) : Option (Arr Int) :=
  kO? (s_cluster_configuration N g1 g2 c) (fun r =>
  sel (!r) (
    some ((⟨0, fun _ => (0 : Int)⟩ : Arr Int))) (
    chk (roomM (((c.n : Nat) : Int)) 8) (
    s_cluster_Heads_L0 N g1 g2 c (((c.n : Nat) : Int))
      (fun o0 o1 =>
        some (arrL (0 : Int) o1))
      N 0 (List.replicate ((((c.n : Nat) : Int)).toNat) 0))))

def e_cluster_Heads (N : Nat) : Ent := ⟨9, [], [.agg (.pair (.arr (.int .i64)) (.arr (.arr (.pair (.int .i64) (.int .i64))))), .cell (.arr (.arr (.int .i64)))], .cell (.arr (.int .i64)), fun x => s_cluster_Heads N x.1.1 x.1.2 x.2.1, false⟩

def es_cluster_Heads (N : Nat) : List Ent := [e_cluster_configuration N, e_shape_At N]
theorem es_cluster_Heads_ok (N : Nat) : EntsOK prg0 N 3 (es_cluster_Heads N) := ⟨(ok_cluster_configuration N).mono (by decide), (ok_shape_At N).mono (by decide), trivial⟩

theorem ok_cluster_Heads_L0 {R : Type} (N d : Nat) (hd : 3 ≤ d) (call : CallF) (hcall : call = evF prg0 N (d + 1)) (hC : CkOK (R := R) (ckOf (es_cluster_Heads N)) call) : LoopOK (R := R) N call [2, 5, 15, 16, 17] k_cluster_Heads_L0.mc (lp_cluster_Heads N 0) :=
  loop_of hC (⟨trivial, ⟨⟨trivial, trivial⟩, ⟨⟨trivial, ⟨trivial, ⟨trivial, ⟨trivial, trivial⟩⟩⟩⟩, trivial⟩⟩⟩) (la_cluster_Heads_L0 N) (fun _ _ => rfl) (fun m x k => by kernel_rfl) (fun _ _ => rfl)

theorem ok_cluster_Heads (N : Nat) : EntOK prg0 N 4 (e_cluster_Heads N) :=
  ent_ok (es_cluster_Heads_ok N) (f := k_cluster_Heads) rfl ((prgF_9).trans (congrArg some k_cluster_Heads_mf.symm)) rfl rfl (lp_cluster_Heads N) (fun d hd call hcall hC => ⟨trivial, ⟨⟨trivial, ⟨⟨trivial, trivial⟩, trivial⟩⟩, ⟨trivial, ⟨⟨trivial, ok_cluster_Heads_L0 N d hd call hcall hC⟩, ⟨trivial, trivial⟩⟩⟩⟩⟩) (fun x => by kernel_rfl)

-- selfstab/selfstablaw34.sameInts
def k_selfstablaw34_sameInts_L0 : KC :=
  .seq (.seq (.reg [⟨some 11, .mv (.t 5), none, none⟩,
    ⟨some 12, .mv (.t 0), none, none⟩,
    ⟨some 13, .len 1 (.t 12), none, none⟩,
    ⟨some 14, .bin .lss (.t 11) (.t 13), none, none⟩] [0, 1, 5, 14])
  (.cond (.t 14) (.skip)
   (.exit 0)))
  (.seq (.block 1 (.seq (.reg [⟨some 17, .mv (.t 0), none, none⟩,
     ⟨some 18, .mv (.t 5), none, none⟩,
     ⟨some 19, .iadr 1 (.t 17) (.t 18), none, none⟩,
     ⟨some 20, .load (none) (.t 19), none, none⟩,
     ⟨some 21, .mv (.t 1), none, none⟩,
     ⟨some 22, .mv (.t 5), none, none⟩,
     ⟨some 23, .iadr 1 (.t 21) (.t 22), none, none⟩,
     ⟨some 24, .load (none) (.t 23), none, none⟩,
     ⟨some 25, .bin .neq (.t 20) (.t 24), none, none⟩] [0, 1, 5, 25])
   (.cond (.t 25) (.seq (.reg [⟨some 4, .mv (.c (Value.bool false)), none, none⟩] [4])
    (.ret))
    (.skip))))
  (.reg [⟨some 15, .mv (.t 5), none, none⟩,
    ⟨some 16, .bin .add (.t 15) (.c (Value.int IntKind.i64 1)), none, none⟩,
    ⟨some 5, .mv (.t 16), none, none⟩] [0, 1, 5]))

def k_selfstablaw34_sameInts : KF := ⟨26, [.tmp 4], (
  .seq (.reg [⟨some 4, .mv (.c (Value.bool false)), none, none⟩] [0, 1])
  (.seq (.seq (.reg [⟨some 6, .mv (.t 0), none, none⟩,
    ⟨some 7, .len 1 (.t 6), none, none⟩,
    ⟨some 8, .mv (.t 1), none, none⟩,
    ⟨some 9, .len 1 (.t 8), none, none⟩,
    ⟨some 10, .bin .neq (.t 7) (.t 9), none, none⟩] [0, 1, 10])
  (.cond (.t 10) (.seq (.reg [⟨some 4, .mv (.c (Value.bool false)), none, none⟩] [4])
   (.ret))
   (.skip)))
  (.seq (.seq (.reg [⟨some 5, .mv (.c (Value.int IntKind.i64 0)), none, none⟩] [0, 1, 5])
  (.block 0 (.loop 0 [0, 1, 5] k_selfstablaw34_sameInts_L0)))
  (.seq (.reg [⟨some 4, .mv (.c (Value.bool true)), none, none⟩] [4])
  (.ret))))), true⟩

theorem k_selfstablaw34_sameInts_mf : k_selfstablaw34_sameInts.mf = m_selfstablaw34_sameInts := by kernel_rfl

def sh_selfstablaw34_sameInts_L0 : SH := ⟨[(0, .cell (.arr (.int .i64))), (1, .cell (.arr (.int .i64))), (5, .cell (.int .i64))], []⟩
def s_selfstablaw34_sameInts_L0 {R : Type} (N : Nat) (a1 : Arr Int) (b1 : Arr Int) (k0 : Option R) (k1 : Int → Option R) : Nat → Int → Option R
  | 0, _ => none
  | m + 1, i =>
    sel (decide (i < (((a1.n : Nat) : Int)))) (
      chk (inr i a1.n) (
      chk (inr i b1.n) (
      sel ((a1.f i.toNat) != (b1.f i.toNat)) (
        k0) (
        s_selfstablaw34_sameInts_L0 N a1 b1 k0 k1 m (IntKind.i64.wrap (i + 1)))))) (
      k1 i)

def la_selfstablaw34_sameInts_L0 {R : Type} (N m : Nat) (y : sh_selfstablaw34_sameInts_L0.ty) (k : KK R) : Option R :=
  s_selfstablaw34_sameInts_L0 N y.1.1 y.1.2.1 (k .ret ⟨[(4, .b false)], []⟩)
    (fun o0 => k (.exit 0) ⟨[(0, .ro (.int .i64) y.1.1), (1, .ro (.int .i64) y.1.2.1), (5, .i .i64 o0), (14, .b false)], []⟩) m y.1.2.2.1
def lp_selfstablaw34_sameInts {R : Type} (N : Nat) : Nat → KSt → KK R → Option R
  | 0, st, k => sh_selfstablaw34_sameInts_L0.dec { tmps := kkeep [0, 1, 5] st.tmps, obs := st.obs } fun y => la_selfstablaw34_sameInts_L0 N N y k
  | _, _, _ => none

def s_selfstablaw34_sameInts (N : Nat) (a : Arr Int) (b : Arr Int) : Option (Bool) :=
  sel ((((a.n : Nat) : Int)) != (((b.n : Nat) : Int))) (
    some false) (
    s_selfstablaw34_sameInts_L0 N a b
      (
        some false)
      (fun o0 =>
        some true)
      N 0)

def e_selfstablaw34_sameInts (N : Nat) : Ent := ⟨11, [], [.cell (.arr (.int .i64)), .cell (.arr (.int .i64))], .cell .bool, fun x => s_selfstablaw34_sameInts N x.1 x.2.1, false⟩

def es_selfstablaw34_sameInts (N : Nat) : List Ent := []
theorem es_selfstablaw34_sameInts_ok (N : Nat) : EntsOK prg0 N 0 (es_selfstablaw34_sameInts N) := trivial

theorem ok_selfstablaw34_sameInts_L0 {R : Type} (N d : Nat) (hd : 0 ≤ d) (call : CallF) (hcall : call = evF prg0 N (d + 1)) (hC : CkOK (R := R) (ckOf (es_selfstablaw34_sameInts N)) call) : LoopOK (R := R) N call [0, 1, 5] k_selfstablaw34_sameInts_L0.mc (lp_selfstablaw34_sameInts N 0) :=
  loop_of hC (⟨⟨trivial, ⟨trivial, trivial⟩⟩, ⟨⟨trivial, ⟨⟨trivial, trivial⟩, trivial⟩⟩, trivial⟩⟩) (la_selfstablaw34_sameInts_L0 N) (fun _ _ => rfl) (fun m x k => by kernel_rfl) (fun _ _ => rfl)

theorem ok_selfstablaw34_sameInts (N : Nat) : EntOK prg0 N 1 (e_selfstablaw34_sameInts N) :=
  ent_ok (es_selfstablaw34_sameInts_ok N) (f := k_selfstablaw34_sameInts) rfl ((prgF_11).trans (congrArg some k_selfstablaw34_sameInts_mf.symm)) rfl rfl (lp_selfstablaw34_sameInts N) (fun d hd call hcall hC => ⟨trivial, ⟨⟨trivial, ⟨⟨trivial, trivial⟩, trivial⟩⟩, ⟨⟨trivial, ok_selfstablaw34_sameInts_L0 N d hd call hcall hC⟩, ⟨trivial, trivial⟩⟩⟩⟩) (fun x => by kernel_rfl)

-- selfstab/selfstablaw34.known
def k_selfstablaw34_known : KF := ⟨29, [.tmp 0], (
  .seq (.reg [⟨some 0, .mv (.c (Value.bool false)), none, none⟩] [])
  (.seq (.ora 0 (.reg [⟨some 3, .lit 1 [.v (Value.int .i64 0), .v (Value.int .i64 0)] [(0, 1, (.c (Value.int IntKind.i64 0))), (1, 1, (.c (Value.int IntKind.i64 1)))] false, none⟩,
    ⟨some 4, .build [.v (Value.int .i64 0), .v (Value.slice none 0 0), .v (Value.slice none 0 0), .v (Value.slice none 0 0), .v (Value.bool false), .v (Value.bool false)] [(0, 1, (.c (Value.int IntKind.i64 3))), (1, 1, (.t 3))], none⟩,
    ⟨some 5, .call 31 [.t 4, .c (Value.int IntKind.i64 3)], none⟩,
    ⟨some 1, .alloc [.v (Value.slice none 0 0), .v (Value.slice none 0 0)], none⟩,
    ⟨none, .store 2 (.t 1) (.t 5), none⟩] [1]))
  (.seq (.reg [⟨some 6, .lit 1 [.v (Value.int .i64 0), .v (Value.int .i64 0)] [(0, 1, (.c (Value.int IntKind.i64 0))), (1, 1, (.c (Value.int IntKind.i64 0)))] false, none, none⟩,
    ⟨some 7, .lit 1 [.v (Value.int .i64 0), .v (Value.int .i64 0)] [(0, 1, (.c (Value.int IntKind.i64 1))), (1, 1, (.c (Value.int IntKind.i64 (-1))))] false, none, none⟩,
    ⟨some 8, .lit 1 [.v (Value.int .i64 0), .v (Value.int .i64 0)] [(0, 1, (.c (Value.int IntKind.i64 0))), (1, 1, (.c (Value.int IntKind.i64 0)))] false, none, none⟩,
    ⟨some 9, .lit 1 [.v (Value.slice none 0 0), .v (Value.slice none 0 0), .v (Value.slice none 0 0)] [(0, 1, (.t 6)), (1, 1, (.t 7)), (2, 1, (.t 8))] false, none, none⟩,
    ⟨some 2, .mv (.t 9), none, none⟩] [1, 2])
  (.seq (.reg [⟨some 10, .load (some 2) (.t 1), none, none⟩,
    ⟨some 11, .mv (.t 2), none, none⟩,
    ⟨some 12, .call 5 [.t 10, .t 11], none, none⟩,
    ⟨some 13, .mv (.t 12), none, none⟩,
    ⟨some 14, .load (some 2) (.t 1), some (13, true), none⟩,
    ⟨some 15, .mv (.t 2), some (13, true), none⟩,
    ⟨some 16, .call 9 [.t 14, .t 15], some (13, true), none⟩,
    ⟨some 17, .lit 1 [.v (Value.int .i64 0), .v (Value.int .i64 0), .v (Value.int .i64 0)] [(0, 1, (.c (Value.int IntKind.i64 1))), (1, 1, (.c (Value.int IntKind.i64 1))), (2, 1, (.c (Value.int IntKind.i64 1)))] false, some (13, true), none⟩,
    ⟨some 18, .call 11 [.t 16, .t 17], some (13, true), none⟩,
    ⟨some 19, .pick (.t 13) (.t 18) (.c (Value.bool false)), none, none⟩,
    ⟨some 20, .mv (.t 19), none, none⟩,
    ⟨some 21, .load (some 2) (.t 1), some (20, true), none⟩,
    ⟨some 22, .lit 1 [.v (Value.int .i64 0), .v (Value.int .i64 0)] [(0, 1, (.c (Value.int IntKind.i64 0))), (1, 1, (.c (Value.int IntKind.i64 0)))] false, some (20, true), none⟩,
    ⟨some 23, .lit 1 [.v (Value.int .i64 0), .v (Value.int .i64 0)] [(0, 1, (.c (Value.int IntKind.i64 1))), (1, 1, (.c (Value.int IntKind.i64 0)))] false, some (20, true), none⟩,
    ⟨some 24, .lit 1 [.v (Value.int .i64 0), .v (Value.int .i64 0)] [(0, 1, (.c (Value.int IntKind.i64 0))), (1, 1, (.c (Value.int IntKind.i64 0)))] false, some (20, true), none⟩,
    ⟨some 25, .lit 1 [.v (Value.slice none 0 0), .v (Value.slice none 0 0), .v (Value.slice none 0 0)] [(0, 1, (.t 22)), (1, 1, (.t 23)), (2, 1, (.t 24))] false, some (20, true), none⟩,
    ⟨some 26, .call 5 [.t 21, .t 25], some (20, true), none⟩,
    ⟨some 27, .un .not (.t 26), some (20, true), none⟩,
    ⟨some 28, .pick (.t 20) (.t 27) (.c (Value.bool false)), none, none⟩,
    ⟨some 0, .mv (.t 28), none, none⟩] [0])
  (.ret))))), true⟩

theorem k_selfstablaw34_known_mf : k_selfstablaw34_known.mf = m_selfstablaw34_known := by kernel_rfl

def lp_selfstablaw34_known {R : Type} (N : Nat) : Nat → KSt → KK R → Option R
  | 0, st, k => or_selfstablaw34_known_1 N st k
  | _, _, _ => none

def s_selfstablaw34_known (N : Nat) : Option (Bool) :=
  chk (decide (100 ≤ N)) (
  kO? (s_cluster_Legit N (aI [0, 1, 2]) (aG [aL [(1, 1)], aL [(0, 1), (2, 1)], aL [(1, 1)]]) (arrL (⟨0, fun _ => (0 : Int)⟩ : Arr Int) [arrL (0 : Int) [0, 0], arrL (0 : Int) [1, (-1)], arrL (0 : Int) [0, 0]])) (fun r =>
  sel (r) (
    kO? (s_cluster_Heads N (aI [0, 1, 2]) (aG [aL [(1, 1)], aL [(0, 1), (2, 1)], aL [(1, 1)]]) (arrL (⟨0, fun _ => (0 : Int)⟩ : Arr Int) [arrL (0 : Int) [0, 0], arrL (0 : Int) [1, (-1)], arrL (0 : Int) [0, 0]])) (fun r1 =>
    kO? (s_selfstablaw34_sameInts N r1 (arrL (0 : Int) [1, 1, 1])) (fun r2 =>
    sel (r2) (
      kO? (s_cluster_Legit N (aI [0, 1, 2]) (aG [aL [(1, 1)], aL [(0, 1), (2, 1)], aL [(1, 1)]]) (arrL (⟨0, fun _ => (0 : Int)⟩ : Arr Int) [arrL (0 : Int) [0, 0], arrL (0 : Int) [1, 0], arrL (0 : Int) [0, 0]])) (fun r3 =>
      some (!r3))) (
      some false)))) (
    some false)))

def e_selfstablaw34_known (N : Nat) : Ent := ⟨2, [], [], .cell .bool, fun x => s_selfstablaw34_known N, false⟩

def es_selfstablaw34_known (N : Nat) : List Ent := [e_cluster_Legit N, e_cluster_Heads N, e_selfstablaw34_sameInts N]
theorem es_selfstablaw34_known_ok (N : Nat) : EntsOK prg0 N 10 (es_selfstablaw34_known N) := ⟨(ok_cluster_Legit N).mono (by decide), (ok_cluster_Heads N).mono (by decide), (ok_selfstablaw34_sameInts N).mono (by decide), trivial⟩

theorem ok_selfstablaw34_known (N : Nat) : EntOK prg0 N 11 (e_selfstablaw34_known N) :=
  ent_ok (es_selfstablaw34_known_ok N) (f := k_selfstablaw34_known) rfl ((prgF_2).trans (congrArg some k_selfstablaw34_known_mf.symm)) rfl rfl (lp_selfstablaw34_known N) (fun d hd call hcall hC => ⟨trivial, ⟨ora_selfstablaw34_known_1 N d hd call hcall hC, ⟨trivial, ⟨trivial, trivial⟩⟩⟩⟩) (fun x => by kernel_rfl)

-- selfstab/selfstabref01.In
def k_selfstabref01_In : KF := ⟨15, [.tmp 6], (
  .seq (.reg [⟨some 6, .mv (.c (Value.bool false)), none, none⟩] [0, 1, 2])
  (.seq (.reg [⟨some 7, .mv (.t 0), none, none⟩,
    ⟨some 8, .mv (.t 1), none, none⟩,
    ⟨some 9, .bin .geq (.t 7) (.t 8), none, none⟩,
    ⟨some 10, .mv (.t 9), none, none⟩,
    ⟨some 11, .mv (.t 0), some (10, true), none⟩,
    ⟨some 12, .mv (.t 2), some (10, true), none⟩,
    ⟨some 13, .bin .leq (.t 11) (.t 12), some (10, true), none⟩,
    ⟨some 14, .pick (.t 10) (.t 13) (.c (Value.bool false)), none, none⟩,
    ⟨some 6, .mv (.t 14), none, none⟩] [6])
  (.ret))), true⟩

theorem k_selfstabref01_In_mf : k_selfstabref01_In.mf = m_selfstabref01_In := by kernel_rfl

def lp_selfstabref01_In {R : Type} (N : Nat) : Nat → KSt → KK R → Option R
  | _, _, _ => none

def s_selfstabref01_In (N : Nat) (v : Int) (lo : Int) (hi : Int) : Option (Bool) :=
  sel (decide (v ≥ lo)) (
    some (decide (v ≤ hi))) (
    some false)

def e_selfstabref01_In (N : Nat) : Ent := ⟨60, [], [.cell (.int .i64), .cell (.int .i64), .cell (.int .i64)], .cell .bool, fun x => s_selfstabref01_In N x.1 x.2.1 x.2.2.1, false⟩

def es_selfstabref01_In (N : Nat) : List Ent := []
theorem es_selfstabref01_In_ok (N : Nat) : EntsOK prg0 N 0 (es_selfstabref01_In N) := trivial

theorem ok_selfstabref01_In (N : Nat) : EntOK prg0 N 1 (e_selfstabref01_In N) :=
  ent_ok (es_selfstabref01_In_ok N) (f := k_selfstabref01_In) rfl ((prgF_60).trans (congrArg some k_selfstabref01_In_mf.symm)) rfl rfl (lp_selfstabref01_In N) (fun d hd call hcall hC => ⟨trivial, ⟨trivial, trivial⟩⟩) (fun x => by kernel_rfl)

-- selfstab/selfstabref01.linksValid
def k_selfstabref01_linksValid_L1 : KC :=
  .seq (.seq (.reg [⟨some 42, .mv (.t 8), none, none⟩,
    ⟨some 43, .mv (.t 7), none, none⟩,
    ⟨some 44, .bin .lss (.t 42) (.t 43), none, none⟩] [0, 1, 2, 7, 8, 44])
  (.cond (.t 44) (.skip)
   (.exit 2)))
  (.seq (.block 3 (.seq (.reg [⟨some 47, .mv (.t 0), none, none⟩,
     ⟨some 48, .mv (.t 8), none, none⟩,
     ⟨some 49, .iadr 2 (.t 47) (.t 48), none, none⟩,
     ⟨some 50, .fadr 0 (.t 49), none, none⟩,
     ⟨some 51, .load (none) (.t 50), none, none⟩,
     ⟨some 52, .mv (.t 0), none, none⟩,
     ⟨some 53, .mv (.t 7), none, none⟩,
     ⟨some 54, .iadr 2 (.t 52) (.t 53), none, none⟩,
     ⟨some 55, .fadr 0 (.t 54), none, none⟩,
     ⟨some 56, .load (none) (.t 55), none, none⟩,
     ⟨some 57, .bin .eql (.t 51) (.t 56), none, none⟩] [0, 1, 2, 7, 8, 57])
   (.cond (.t 57) (.seq (.reg [⟨some 6, .mv (.c (Value.bool false)), none, none⟩] [6])
    (.ret))
    (.skip))))
  (.reg [⟨some 45, .mv (.t 8), none, none⟩,
    ⟨some 46, .bin .add (.t 45) (.c (Value.int IntKind.i64 1)), none, none⟩,
    ⟨some 8, .mv (.t 46), none, none⟩] [0, 1, 2, 7, 8]))

def k_selfstabref01_linksValid_L0 : KC :=
  .seq (.seq (.reg [⟨some 9, .mv (.t 7), none, none⟩,
    ⟨some 10, .mv (.t 0), none, none⟩,
    ⟨some 11, .len 1 (.t 10), none, none⟩,
    ⟨some 12, .bin .lss (.t 9) (.t 11), none, none⟩] [0, 1, 2, 7, 12])
  (.cond (.t 12) (.skip)
   (.exit 0)))
  (.seq (.block 1 (.seq (.seq (.reg [⟨some 15, .mv (.t 0), none, none⟩,
     ⟨some 16, .mv (.t 7), none, none⟩,
     ⟨some 17, .iadr 2 (.t 15) (.t 16), none, none⟩,
     ⟨some 18, .fadr 0 (.t 17), none, none⟩,
     ⟨some 19, .load (none) (.t 18), none, none⟩,
     ⟨some 20, .mv (.t 2), none, none⟩,
     ⟨some 21, .bin .sub (.t 20) (.c (Value.int IntKind.i64 1)), none, none⟩,
     ⟨some 22, .call 60 [.t 19, .c (Value.int IntKind.i64 0), .t 21], none, none⟩,
     ⟨some 23, .un .not (.t 22), none, none⟩,
     ⟨some 24, .mv (.t 23), none, none⟩,
     ⟨some 25, .mv (.t 0), some (24, false), none⟩,
     ⟨some 26, .mv (.t 7), some (24, false), none⟩,
     ⟨some 27, .iadr 2 (.t 25) (.t 26), some (24, false), none⟩,
     ⟨some 28, .fadr 0 (.t 27), some (24, false), none⟩,
     ⟨some 29, .load (none) (.t 28), some (24, false), none⟩,
     ⟨some 30, .mv (.t 1), some (24, false), none⟩,
     ⟨some 31, .bin .eql (.t 29) (.t 30), some (24, false), none⟩,
     ⟨some 32, .pick (.t 24) (.c (Value.bool true)) (.t 31), none, none⟩,
     ⟨some 33, .mv (.t 32), none, none⟩,
     ⟨some 34, .mv (.t 0), some (33, false), none⟩,
     ⟨some 35, .mv (.t 7), some (33, false), none⟩,
     ⟨some 36, .iadr 2 (.t 34) (.t 35), some (33, false), none⟩,
     ⟨some 37, .fadr 1 (.t 36), some (33, false), none⟩,
     ⟨some 38, .load (none) (.t 37), some (33, false), none⟩,
     ⟨some 39, .call 60 [.t 38, .c (Value.int IntKind.i64 1), .c (Value.int IntKind.i64 15)], some (33, false), none⟩,
     ⟨some 40, .un .not (.t 39), some (33, false), none⟩,
     ⟨some 41, .pick (.t 33) (.c (Value.bool true)) (.t 40), none, none⟩] [0, 1, 2, 7, 41])
   (.cond (.t 41) (.seq (.reg [⟨some 6, .mv (.c (Value.bool false)), none, none⟩] [6])
    (.ret))
    (.skip)))
   (.seq (.reg [⟨some 8, .mv (.c (Value.int IntKind.i64 0)), none, none⟩] [0, 1, 2, 7, 8])
   (.block 2 (.loop 1 [0, 1, 2, 7, 8] k_selfstabref01_linksValid_L1)))))
  (.reg [⟨some 13, .mv (.t 7), none, none⟩,
    ⟨some 14, .bin .add (.t 13) (.c (Value.int IntKind.i64 1)), none, none⟩,
    ⟨some 7, .mv (.t 14), none, none⟩] [0, 1, 2, 7]))

def k_selfstabref01_linksValid : KF := ⟨58, [.tmp 6], (
  .seq (.reg [⟨some 6, .mv (.c (Value.bool false)), none, none⟩] [0, 1, 2])
  (.seq (.seq (.reg [⟨some 7, .mv (.c (Value.int IntKind.i64 0)), none, none⟩] [0, 1, 2, 7])
  (.block 0 (.loop 0 [0, 1, 2, 7] k_selfstabref01_linksValid_L0)))
  (.seq (.reg [⟨some 6, .mv (.c (Value.bool true)), none, none⟩] [6])
  (.ret)))), true⟩

theorem k_selfstabref01_linksValid_mf : k_selfstabref01_linksValid.mf = m_selfstabref01_linksValid := by kernel_rfl

def sh_selfstabref01_linksValid_L1 : SH := ⟨[(0, .cell (.arr (.pair (.int .i64) (.int .i64)))), (1, .cell (.int .i64)), (2, .cell (.int .i64)), (7, .cell (.int .i64)), (8, .cell (.int .i64))], []⟩
def s_selfstabref01_linksValid_L1 {R : Type} (N : Nat) (l2 : Arr (Int × Int)) (v2 : Int) (n2 : Int) (i1 : Int) (k0 : Option R) (k1 : Int → Option R) : Nat → Int → Option R
  | 0, _ => none
  | m + 1, k =>
    sel (decide (k < i1)) (
      chk (inr k l2.n) (
      chk (inr i1 l2.n) (
      sel (((l2.f k.toNat).1) == ((l2.f i1.toNat).1)) (
        k0) (
        s_selfstabref01_linksValid_L1 N l2 v2 n2 i1 k0 k1 m (IntKind.i64.wrap (k + 1)))))) (
      k1 k)

def sh_selfstabref01_linksValid_L0 : SH := ⟨[(0, .cell (.arr (.pair (.int .i64) (.int .i64)))), (1, .cell (.int .i64)), (2, .cell (.int .i64)), (7, .cell (.int .i64))], []⟩
def s_selfstabref01_linksValid_L0 {R : Type} (N : Nat) (l1 : Arr (Int × Int)) (v1 : Int) (n1 : Int) (k0 : Option R) (k1 : Int → Option R) : Nat → Int → Option R
  | 0, _ => none
  | m + 1, i =>
    sel (decide (i < (((l1.n : Nat) : Int)))) (
      chk (inr i l1.n) (
      kO? (s_selfstabref01_In N ((l1.f i.toNat).1) 0 (IntKind.i64.wrap (n1 - 1))) (fun r2 =>
      sel (!r2) (
        k0) (
        chk (inr i l1.n) (
        sel (((l1.f i.toNat).1) == v1) (
          k0) (
          chk (inr i l1.n) (
          kO? (s_selfstabref01_In N ((l1.f i.toNat).2) 1 15) (fun r3 =>
          sel (!r3) (
            k0) (
            s_selfstabref01_linksValid_L1 N l1 v1 n1 i
              (
                k0)
              (fun o0_1 =>
                s_selfstabref01_linksValid_L0 N l1 v1 n1 k0 k1 m (IntKind.i64.wrap (i + 1)))
              N 0))))))))) (
      k1 i)

def la_selfstabref01_linksValid_L1 {R : Type} (N m : Nat) (y : sh_selfstabref01_linksValid_L1.ty) (k : KK R) : Option R :=
  s_selfstabref01_linksValid_L1 N y.1.1 y.1.2.1 y.1.2.2.1 y.1.2.2.2.1 (k .ret ⟨[(6, .b false)], []⟩)
    (fun o0 => k (.exit 2) ⟨[(0, .ro (.pair (.int .i64) (.int .i64)) y.1.1), (1, .i .i64 y.1.2.1), (2, .i .i64 y.1.2.2.1), (7, .i .i64 y.1.2.2.2.1), (8, .i .i64 o0), (44, .b false)], []⟩) m y.1.2.2.2.2.1
def la_selfstabref01_linksValid_L0 {R : Type} (N m : Nat) (y : sh_selfstabref01_linksValid_L0.ty) (k : KK R) : Option R :=
  s_selfstabref01_linksValid_L0 N y.1.1 y.1.2.1 y.1.2.2.1 (k .ret ⟨[(6, .b false)], []⟩)
    (fun o0 => k (.exit 0) ⟨[(0, .ro (.pair (.int .i64) (.int .i64)) y.1.1), (1, .i .i64 y.1.2.1), (2, .i .i64 y.1.2.2.1), (7, .i .i64 o0), (12, .b false)], []⟩) m y.1.2.2.2.1
def lp_selfstabref01_linksValid {R : Type} (N : Nat) : Nat → KSt → KK R → Option R
  | 0, st, k => sh_selfstabref01_linksValid_L0.dec { tmps := kkeep [0, 1, 2, 7] st.tmps, obs := st.obs } fun y => la_selfstabref01_linksValid_L0 N N y k
  | 1, st, k => sh_selfstabref01_linksValid_L1.dec { tmps := kkeep [0, 1, 2, 7, 8] st.tmps, obs := st.obs } fun y => la_selfstabref01_linksValid_L1 N N y k
  | _, _, _ => none

def s_selfstabref01_linksValid (N : Nat) (l : Arr (Int × Int)) (v : Int) (n : Int) : Option (Bool) :=
  s_selfstabref01_linksValid_L0 N l v n
    (
      some false)
    (fun o0_2 =>
      some true)
    N 0

def e_selfstabref01_linksValid (N : Nat) : Ent := ⟨61, [], [.cell (.arr (.pair (.int .i64) (.int .i64))), .cell (.int .i64), .cell (.int .i64)], .cell .bool, fun x => s_selfstabref01_linksValid N x.1 x.2.1 x.2.2.1, false⟩

def es_selfstabref01_linksValid (N : Nat) : List Ent := [e_selfstabref01_In N]
theorem es_selfstabref01_linksValid_ok (N : Nat) : EntsOK prg0 N 1 (es_selfstabref01_linksValid N) := ⟨(ok_selfstabref01_In N).mono (by decide), trivial⟩

theorem ok_selfstabref01_linksValid_L1 {R : Type} (N d : Nat) (hd : 1 ≤ d) (call : CallF) (hcall : call = evF prg0 N (d + 1)) (hC : CkOK (R := R) (ckOf (es_selfstabref01_linksValid N)) call) : LoopOK (R := R) N call [0, 1, 2, 7, 8] k_selfstabref01_linksValid_L1.mc (lp_selfstabref01_linksValid N 1) :=
  loop_of hC (⟨⟨trivial, ⟨trivial, trivial⟩⟩, ⟨⟨trivial, ⟨⟨trivial, trivial⟩, trivial⟩⟩, trivial⟩⟩) (la_selfstabref01_linksValid_L1 N) (fun _ _ => rfl) (fun m x k => by kernel_rfl) (fun _ _ => rfl)

theorem ok_selfstabref01_linksValid_L0 {R : Type} (N d : Nat) (hd : 1 ≤ d) (call : CallF) (hcall : call = evF prg0 N (d + 1)) (hC : CkOK (R := R) (ckOf (es_selfstabref01_linksValid N)) call) : LoopOK (R := R) N call [0, 1, 2, 7] k_selfstabref01_linksValid_L0.mc (lp_selfstabref01_linksValid N 0) :=
  loop_of hC (⟨⟨trivial, ⟨trivial, trivial⟩⟩, ⟨⟨⟨trivial, ⟨⟨trivial, trivial⟩, trivial⟩⟩, ⟨trivial, ok_selfstabref01_linksValid_L1 N d hd call hcall hC⟩⟩, trivial⟩⟩) (la_selfstabref01_linksValid_L0 N) (fun _ _ => rfl) (fun m x k => by kernel_rfl) (fun _ _ => rfl)

theorem ok_selfstabref01_linksValid (N : Nat) : EntOK prg0 N 2 (e_selfstabref01_linksValid N) :=
  ent_ok (es_selfstabref01_linksValid_ok N) (f := k_selfstabref01_linksValid) rfl ((prgF_61).trans (congrArg some k_selfstabref01_linksValid_mf.symm)) rfl rfl (lp_selfstabref01_linksValid N) (fun d hd call hcall hC => ⟨trivial, ⟨⟨trivial, ok_selfstabref01_linksValid_L0 N d hd call hcall hC⟩, ⟨trivial, trivial⟩⟩⟩) (fun x => by kernel_rfl)

-- selfstab/selfstabref01.Port
def k_selfstabref01_Port_L0 : KC :=
  .seq (.seq (.reg [⟨some 8, .mv (.t 7), none, none⟩,
    ⟨some 9, .fadr 1 (.t 3), none, none⟩,
    ⟨some 10, .load (none) (.t 9), none, none⟩,
    ⟨some 11, .mv (.t 1), none, none⟩,
    ⟨some 12, .iadr 1 (.t 10) (.t 11), none, none⟩,
    ⟨some 13, .load (none) (.t 12), none, none⟩,
    ⟨some 14, .len 1 (.t 13), none, none⟩,
    ⟨some 15, .bin .lss (.t 8) (.t 14), none, none⟩] [1, 2, 3, 7, 15])
  (.cond (.t 15) (.skip)
   (.exit 0)))
  (.seq (.block 1 (.seq (.reg [⟨some 18, .fadr 1 (.t 3), none, none⟩,
     ⟨some 19, .load (none) (.t 18), none, none⟩,
     ⟨some 20, .mv (.t 1), none, none⟩,
     ⟨some 21, .iadr 1 (.t 19) (.t 20), none, none⟩,
     ⟨some 22, .load (none) (.t 21), none, none⟩,
     ⟨some 23, .mv (.t 7), none, none⟩,
     ⟨some 24, .iadr 2 (.t 22) (.t 23), none, none⟩,
     ⟨some 25, .fadr 0 (.t 24), none, none⟩,
     ⟨some 26, .load (none) (.t 25), none, none⟩,
     ⟨some 27, .mv (.t 2), none, none⟩,
     ⟨some 28, .bin .eql (.t 26) (.t 27), none, none⟩] [1, 2, 3, 7, 28])
   (.cond (.t 28) (.seq (.reg [⟨some 29, .mv (.t 7), none, none⟩,
      ⟨some 6, .mv (.t 29), none, none⟩] [6])
    (.ret))
    (.skip))))
  (.reg [⟨some 16, .mv (.t 7), none, none⟩,
    ⟨some 17, .bin .add (.t 16) (.c (Value.int IntKind.i64 1)), none, none⟩,
    ⟨some 7, .mv (.t 17), none, none⟩] [1, 2, 3, 7]))

def k_selfstabref01_Port : KF := ⟨30, [.tmp 6], (
  .seq (.reg [⟨some 3, .box 2 (.t 0), none, none⟩,
    ⟨some 6, .mv (.c (Value.int IntKind.i64 0)), none, none⟩] [1, 2, 3])
  (.seq (.seq (.reg [⟨some 7, .mv (.c (Value.int IntKind.i64 0)), none, none⟩] [1, 2, 3, 7])
  (.block 0 (.loop 0 [1, 2, 3, 7] k_selfstabref01_Port_L0)))
  (.seq (.reg [⟨some 6, .mv (.c (Value.int IntKind.i64 (-1))), none, none⟩] [6])
  (.ret)))), true⟩

theorem k_selfstabref01_Port_mf : k_selfstabref01_Port.mf = m_selfstabref01_Port := by kernel_rfl

def sh_selfstabref01_Port_L0 : SH := ⟨[(1, .cell (.int .i64)), (2, .cell (.int .i64)), (3, .rp (.pair (.arr (.int .i64)) (.arr (.arr (.pair (.int .i64) (.int .i64)))))), (7, .cell (.int .i64))], []⟩
def s_selfstabref01_Port_L0 {R : Type} (N : Nat) (v1 : Int) (u1 : Int) (g1_1 : Arr Int) (g2_1 : Arr (Arr (Int × Int))) (k0 : Int → Option R) (k1 : Int → Option R) : Nat → Int → Option R
  | 0, _ => none
  | m + 1, i =>
    chk (inr v1 g2_1.n) (
    sel (decide (i < ((((g2_1.f v1.toNat).n : Nat) : Int)))) (
      chk (inr v1 g2_1.n) (
      chk (inr i (g2_1.f v1.toNat).n) (
      sel ((((g2_1.f v1.toNat).f i.toNat).1) == u1) (
        k0 i) (
        s_selfstabref01_Port_L0 N v1 u1 g1_1 g2_1 k0 k1 m (IntKind.i64.wrap (i + 1)))))) (
      k1 i))

def la_selfstabref01_Port_L0 {R : Type} (N m : Nat) (y : sh_selfstabref01_Port_L0.ty) (k : KK R) : Option R :=
  s_selfstabref01_Port_L0 N y.1.1 y.1.2.1 y.1.2.2.1.1 y.1.2.2.1.2 (fun o0 => k .ret ⟨[(6, .i .i64 o0)], []⟩)
    (fun o0 => k (.exit 0) ⟨[(1, .i .i64 y.1.1), (2, .i .i64 y.1.2.1), (3, .rp [.ro (.int .i64) y.1.2.2.1.1, .ro (.arr (.pair (.int .i64) (.int .i64))) y.1.2.2.1.2]), (7, .i .i64 o0), (15, .b false)], []⟩) m y.1.2.2.2.1
def lp_selfstabref01_Port {R : Type} (N : Nat) : Nat → KSt → KK R → Option R
  | 0, st, k => sh_selfstabref01_Port_L0.dec { tmps := kkeep [1, 2, 3, 7] st.tmps, obs := st.obs } fun y => la_selfstabref01_Port_L0 N N y k
  | _, _, _ => none

def s_selfstabref01_Port (N : Nat) (g1 : Arr Int) (g2 : Arr (Arr (Int × Int))) (v : Int) (u : Int) : Option (Int) :=
  s_selfstabref01_Port_L0 N v u g1 g2
    (fun o0 =>
      some o0)
    (fun o0_1 =>
      some (-1))
    N 0

def e_selfstabref01_Port (N : Nat) : Ent := ⟨46, [], [.agg (.pair (.arr (.int .i64)) (.arr (.arr (.pair (.int .i64) (.int .i64))))), .cell (.int .i64), .cell (.int .i64)], .cell (.int .i64), fun x => s_selfstabref01_Port N x.1.1 x.1.2 x.2.1 x.2.2.1, false⟩

def es_selfstabref01_Port (N : Nat) : List Ent := []
theorem es_selfstabref01_Port_ok (N : Nat) : EntsOK prg0 N 0 (es_selfstabref01_Port N) := trivial

theorem ok_selfstabref01_Port_L0 {R : Type} (N d : Nat) (hd : 0 ≤ d) (call : CallF) (hcall : call = evF prg0 N (d + 1)) (hC : CkOK (R := R) (ckOf (es_selfstabref01_Port N)) call) : LoopOK (R := R) N call [1, 2, 3, 7] k_selfstabref01_Port_L0.mc (lp_selfstabref01_Port N 0) :=
  loop_of hC (⟨⟨trivial, ⟨trivial, trivial⟩⟩, ⟨⟨trivial, ⟨⟨trivial, trivial⟩, trivial⟩⟩, trivial⟩⟩) (la_selfstabref01_Port_L0 N) (fun _ _ => rfl) (fun m x k => by kernel_rfl) (fun _ _ => rfl)

theorem ok_selfstabref01_Port (N : Nat) : EntOK prg0 N 1 (e_selfstabref01_Port N) :=
  ent_ok (es_selfstabref01_Port_ok N) (f := k_selfstabref01_Port) rfl ((prgF_46).trans (congrArg some k_selfstabref01_Port_mf.symm)) rfl rfl (lp_selfstabref01_Port N) (fun d hd call hcall hC => ⟨trivial, ⟨⟨trivial, ok_selfstabref01_Port_L0 N d hd call hcall hC⟩, ⟨trivial, trivial⟩⟩⟩) (fun x => by kernel_rfl)

-- selfstab/selfstabref01.Valid
def k_selfstabref01_Valid_L3 : KC :=
  .seq (.seq (.reg [⟨some 77, .mv (.t 7), none, none⟩,
    ⟨some 78, .fadr 1 (.t 1), none, none⟩,
    ⟨some 79, .load (none) (.t 78), none, none⟩,
    ⟨some 80, .mv (.t 6), none, none⟩,
    ⟨some 81, .iadr 1 (.t 79) (.t 80), none, none⟩,
    ⟨some 82, .load (none) (.t 81), none, none⟩,
    ⟨some 83, .len 1 (.t 82), none, none⟩,
    ⟨some 84, .bin .lss (.t 77) (.t 83), none, none⟩] [1, 3, 6, 7, 84])
  (.cond (.t 84) (.skip)
   (.exit 6)))
  (.seq (.block 7 (.seq (.reg [⟨some 87, .fadr 1 (.t 1), none, none⟩,
     ⟨some 88, .load (none) (.t 87), none, none⟩,
     ⟨some 89, .mv (.t 6), none, none⟩,
     ⟨some 90, .iadr 1 (.t 88) (.t 89), none, none⟩,
     ⟨some 91, .load (none) (.t 90), none, none⟩,
     ⟨some 92, .mv (.t 7), none, none⟩,
     ⟨some 93, .iadr 2 (.t 91) (.t 92), none, none⟩,
     ⟨some 94, .load (some 2) (.t 93), none, none⟩,
     ⟨some 8, .alloc [.v (Value.int .i64 0), .v (Value.int .i64 0)], none, none⟩,
     ⟨none, .store 2 (.t 8) (.t 94), none, none⟩] [1, 3, 6, 7, 8])
   (.seq (.reg [⟨some 95, .load (some 2) (.t 1), none, none⟩,
     ⟨some 96, .fadr 0 (.t 8), none, none⟩,
     ⟨some 97, .load (none) (.t 96), none, none⟩,
     ⟨some 98, .mv (.t 6), none, none⟩,
     ⟨some 99, .call 46 [.t 95, .t 97, .t 98], none, none⟩,
     ⟨some 9, .mv (.t 99), none, none⟩] [1, 3, 6, 7, 8, 9])
   (.seq (.reg [⟨some 100, .mv (.t 9), none, none⟩,
     ⟨some 101, .bin .lss (.t 100) (.c (Value.int IntKind.i64 0)), none, none⟩,
     ⟨some 102, .mv (.t 101), none, none⟩,
     ⟨some 103, .fadr 1 (.t 1), some (102, false), none⟩,
     ⟨some 104, .load (none) (.t 103), some (102, false), none⟩,
     ⟨some 105, .fadr 0 (.t 8), some (102, false), none⟩,
     ⟨some 106, .load (none) (.t 105), some (102, false), none⟩,
     ⟨some 107, .iadr 1 (.t 104) (.t 106), some (102, false), none⟩,
     ⟨some 108, .load (none) (.t 107), some (102, false), none⟩,
     ⟨some 109, .mv (.t 9), some (102, false), none⟩,
     ⟨some 110, .iadr 2 (.t 108) (.t 109), some (102, false), none⟩,
     ⟨some 111, .fadr 1 (.t 110), some (102, false), none⟩,
     ⟨some 112, .load (none) (.t 111), some (102, false), none⟩,
     ⟨some 113, .fadr 1 (.t 8), some (102, false), none⟩,
     ⟨some 114, .load (none) (.t 113), some (102, false), none⟩,
     ⟨some 115, .bin .neq (.t 112) (.t 114), some (102, false), none⟩,
     ⟨some 116, .pick (.t 102) (.c (Value.bool true)) (.t 115), none, none⟩] [1, 3, 6, 7, 116])
   (.cond (.t 116) (.seq (.reg [⟨some 2, .mv (.c (Value.bool false)), none, none⟩] [2])
    (.ret))
    (.skip))))))
  (.reg [⟨some 85, .mv (.t 7), none, none⟩,
    ⟨some 86, .bin .add (.t 85) (.c (Value.int IntKind.i64 1)), none, none⟩,
    ⟨some 7, .mv (.t 86), none, none⟩] [1, 3, 6, 7]))

def k_selfstabref01_Valid_L2 : KC :=
  .seq (.seq (.reg [⟨some 72, .mv (.t 6), none, none⟩,
    ⟨some 73, .mv (.t 3), none, none⟩,
    ⟨some 74, .bin .lss (.t 72) (.t 73), none, none⟩] [1, 3, 6, 74])
  (.cond (.t 74) (.skip)
   (.exit 4)))
  (.seq (.block 5 (.seq (.reg [⟨some 7, .mv (.c (Value.int IntKind.i64 0)), none, none⟩] [1, 3, 6, 7])
   (.block 6 (.loop 3 [1, 3, 6, 7] k_selfstabref01_Valid_L3))))
  (.reg [⟨some 75, .mv (.t 6), none, none⟩,
    ⟨some 76, .bin .add (.t 75) (.c (Value.int IntKind.i64 1)), none, none⟩,
    ⟨some 6, .mv (.t 76), none, none⟩] [1, 3, 6]))

def k_selfstabref01_Valid_L1 : KC :=
  .seq (.seq (.reg [⟨some 56, .mv (.t 5), none, none⟩,
    ⟨some 57, .mv (.t 4), none, none⟩,
    ⟨some 58, .bin .lss (.t 56) (.t 57), none, none⟩] [1, 3, 4, 5, 58])
  (.cond (.t 58) (.skip)
   (.exit 2)))
  (.seq (.block 3 (.seq (.reg [⟨some 61, .fadr 0 (.t 1), none, none⟩,
     ⟨some 62, .load (none) (.t 61), none, none⟩,
     ⟨some 63, .mv (.t 5), none, none⟩,
     ⟨some 64, .iadr 1 (.t 62) (.t 63), none, none⟩,
     ⟨some 65, .load (none) (.t 64), none, none⟩,
     ⟨some 66, .fadr 0 (.t 1), none, none⟩,
     ⟨some 67, .load (none) (.t 66), none, none⟩,
     ⟨some 68, .mv (.t 4), none, none⟩,
     ⟨some 69, .iadr 1 (.t 67) (.t 68), none, none⟩,
     ⟨some 70, .load (none) (.t 69), none, none⟩,
     ⟨some 71, .bin .eql (.t 65) (.t 70), none, none⟩] [1, 3, 4, 5, 71])
   (.cond (.t 71) (.seq (.reg [⟨some 2, .mv (.c (Value.bool false)), none, none⟩] [2])
    (.ret))
    (.skip))))
  (.reg [⟨some 59, .mv (.t 5), none, none⟩,
    ⟨some 60, .bin .add (.t 59) (.c (Value.int IntKind.i64 1)), none, none⟩,
    ⟨some 5, .mv (.t 60), none, none⟩] [1, 3, 4, 5]))

def k_selfstabref01_Valid_L0 : KC :=
  .seq (.seq (.reg [⟨some 23, .mv (.t 4), none, none⟩,
    ⟨some 24, .mv (.t 3), none, none⟩,
    ⟨some 25, .bin .lss (.t 23) (.t 24), none, none⟩] [1, 3, 4, 25])
  (.cond (.t 25) (.skip)
   (.exit 0)))
  (.seq (.block 1 (.seq (.seq (.reg [⟨some 28, .fadr 0 (.t 1), none, none⟩,
     ⟨some 29, .load (none) (.t 28), none, none⟩,
     ⟨some 30, .mv (.t 4), none, none⟩,
     ⟨some 31, .iadr 1 (.t 29) (.t 30), none, none⟩,
     ⟨some 32, .load (none) (.t 31), none, none⟩,
     ⟨some 33, .call 60 [.t 32, .c (Value.int IntKind.i64 0), .c (Value.int IntKind.i64 255)], none, none⟩,
     ⟨some 34, .un .not (.t 33), none, none⟩,
     ⟨some 35, .mv (.t 34), none, none⟩,
     ⟨some 36, .fadr 1 (.t 1), some (35, false), none⟩,
     ⟨some 37, .load (none) (.t 36), some (35, false), none⟩,
     ⟨some 38, .mv (.t 4), some (35, false), none⟩,
     ⟨some 39, .iadr 1 (.t 37) (.t 38), some (35, false), none⟩,
     ⟨some 40, .load (none) (.t 39), some (35, false), none⟩,
     ⟨some 41, .len 1 (.t 40), some (35, false), none⟩,
     ⟨some 42, .mv (.t 3), some (35, false), none⟩,
     ⟨some 43, .bin .geq (.t 41) (.t 42), some (35, false), none⟩,
     ⟨some 44, .pick (.t 35) (.c (Value.bool true)) (.t 43), none, none⟩,
     ⟨some 45, .mv (.t 44), none, none⟩,
     ⟨some 46, .fadr 1 (.t 1), some (45, false), none⟩,
     ⟨some 47, .load (none) (.t 46), some (45, false), none⟩,
     ⟨some 48, .mv (.t 4), some (45, false), none⟩,
     ⟨some 49, .iadr 1 (.t 47) (.t 48), some (45, false), none⟩,
     ⟨some 50, .load (none) (.t 49), some (45, false), none⟩,
     ⟨some 51, .mv (.t 4), some (45, false), none⟩,
     ⟨some 52, .mv (.t 3), some (45, false), none⟩,
     ⟨some 53, .call 61 [.t 50, .t 51, .t 52], some (45, false), none⟩,
     ⟨some 54, .un .not (.t 53), some (45, false), none⟩,
     ⟨some 55, .pick (.t 45) (.c (Value.bool true)) (.t 54), none, none⟩] [1, 3, 4, 55])
   (.cond (.t 55) (.seq (.reg [⟨some 2, .mv (.c (Value.bool false)), none, none⟩] [2])
    (.ret))
    (.skip)))
   (.seq (.reg [⟨some 5, .mv (.c (Value.int IntKind.i64 0)), none, none⟩] [1, 3, 4, 5])
   (.block 2 (.loop 1 [1, 3, 4, 5] k_selfstabref01_Valid_L1)))))
  (.reg [⟨some 26, .mv (.t 4), none, none⟩,
    ⟨some 27, .bin .add (.t 26) (.c (Value.int IntKind.i64 1)), none, none⟩,
    ⟨some 4, .mv (.t 27), none, none⟩] [1, 3, 4]))

def k_selfstabref01_Valid : KF := ⟨117, [.tmp 2], (
  .seq (.reg [⟨some 1, .box 2 (.t 0), none, none⟩,
    ⟨some 2, .mv (.c (Value.bool false)), none, none⟩] [1])
  (.seq (.reg [⟨some 10, .fadr 1 (.t 1), none, none⟩,
    ⟨some 11, .load (none) (.t 10), none, none⟩,
    ⟨some 12, .len 1 (.t 11), none, none⟩,
    ⟨some 3, .mv (.t 12), none, none⟩] [1, 3])
  (.seq (.seq (.reg [⟨some 13, .mv (.t 3), none, none⟩,
    ⟨some 14, .call 60 [.t 13, .c (Value.int IntKind.i64 1), .c (Value.int IntKind.i64 24)], none, none⟩,
    ⟨some 15, .un .not (.t 14), none, none⟩,
    ⟨some 16, .mv (.t 15), none, none⟩,
    ⟨some 17, .fadr 0 (.t 1), some (16, false), none⟩,
    ⟨some 18, .load (none) (.t 17), some (16, false), none⟩,
    ⟨some 19, .len 1 (.t 18), some (16, false), none⟩,
    ⟨some 20, .mv (.t 3), some (16, false), none⟩,
    ⟨some 21, .bin .neq (.t 19) (.t 20), some (16, false), none⟩,
    ⟨some 22, .pick (.t 16) (.c (Value.bool true)) (.t 21), none, none⟩] [1, 3, 22])
  (.cond (.t 22) (.seq (.reg [⟨some 2, .mv (.c (Value.bool false)), none, none⟩] [2])
   (.ret))
   (.skip)))
  (.seq (.seq (.reg [⟨some 4, .mv (.c (Value.int IntKind.i64 0)), none, none⟩] [1, 3, 4])
  (.block 0 (.loop 0 [1, 3, 4] k_selfstabref01_Valid_L0)))
  (.seq (.seq (.reg [⟨some 6, .mv (.c (Value.int IntKind.i64 0)), none, none⟩] [1, 3, 6])
  (.block 4 (.loop 2 [1, 3, 6] k_selfstabref01_Valid_L2)))
  (.seq (.reg [⟨some 2, .mv (.c (Value.bool true)), none, none⟩] [2])
  (.ret))))))), true⟩

theorem k_selfstabref01_Valid_mf : k_selfstabref01_Valid.mf = m_selfstabref01_Valid := by kernel_rfl

def sh_selfstabref01_Valid_L1 : SH := ⟨[(1, .rp (.pair (.arr (.int .i64)) (.arr (.arr (.pair (.int .i64) (.int .i64)))))), (3, .cell (.int .i64)), (4, .cell (.int .i64)), (5, .cell (.int .i64))], []⟩
def s_selfstabref01_Valid_L1 {R : Type} (N : Nat) (g1_2 : Arr Int) (g2_2 : Arr (Arr (Int × Int))) (n1 : Int) (v1 : Int) (k0 : Option R) (k1 : Int → Option R) : Nat → Int → Option R
  | 0, _ => none
  | m + 1, u =>
    sel (decide (u < v1)) (
      chk (inr u g1_2.n) (
      chk (inr v1 g1_2.n) (
      sel ((g1_2.f u.toNat) == (g1_2.f v1.toNat)) (
        k0) (
        s_selfstabref01_Valid_L1 N g1_2 g2_2 n1 v1 k0 k1 m (IntKind.i64.wrap (u + 1)))))) (
      k1 u)

def sh_selfstabref01_Valid_L0 : SH := ⟨[(1, .rp (.pair (.arr (.int .i64)) (.arr (.arr (.pair (.int .i64) (.int .i64)))))), (3, .cell (.int .i64)), (4, .cell (.int .i64))], []⟩
def s_selfstabref01_Valid_L0 {R : Type} (N : Nat) (g1_1 : Arr Int) (g2_1 : Arr (Arr (Int × Int))) (n : Int) (k0 : Option R) (k1 : Int → Option R) : Nat → Int → Option R
  | 0, _ => none
  | m + 1, v =>
    sel (decide (v < n)) (
      chk (inr v g1_1.n) (
      kO? (s_selfstabref01_In N (g1_1.f v.toNat) 0 255) (fun r3 =>
      sel (!r3) (
        k0) (
        chk (inr v g2_1.n) (
        sel (decide (((((g2_1.f v.toNat).n : Nat) : Int)) ≥ n)) (
          k0) (
          chk (inr v g2_1.n) (
          kO? (s_selfstabref01_linksValid N (g2_1.f v.toNat) v n) (fun r4 =>
          sel (!r4) (
            k0) (
            s_selfstabref01_Valid_L1 N g1_1 g2_1 n v
              (
                k0)
              (fun o0_1 =>
                s_selfstabref01_Valid_L0 N g1_1 g2_1 n k0 k1 m (IntKind.i64.wrap (v + 1)))
              N 0))))))))) (
      k1 v)

def sh_selfstabref01_Valid_L3 : SH := ⟨[(1, .rp (.pair (.arr (.int .i64)) (.arr (.arr (.pair (.int .i64) (.int .i64)))))), (3, .cell (.int .i64)), (6, .cell (.int .i64)), (7, .cell (.int .i64))], []⟩
def s_selfstabref01_Valid_L3 {R : Type} (N : Nat) (g1_4 : Arr Int) (g2_4 : Arr (Arr (Int × Int))) (n3 : Int) (v3 : Int) (k0 : Option R) (k1 : Int → Option R) : Nat → Int → Option R
  | 0, _ => none
  | m + 1, i =>
    chk (inr v3 g2_4.n) (
    sel (decide (i < ((((g2_4.f v3.toNat).n : Nat) : Int)))) (
      chk (inr v3 g2_4.n) (
      chk (inr i (g2_4.f v3.toNat).n) (
      kO? (s_selfstabref01_Port N g1_4 g2_4 (((g2_4.f v3.toNat).f i.toNat).1) v3) (fun r6 =>
      sel (decide (r6 < 0)) (
        k0) (
        chk (inr (((g2_4.f v3.toNat).f i.toNat).1) g2_4.n) (
        chk (inr r6 (g2_4.f ((((g2_4.f v3.toNat).f i.toNat).1).toNat)).n) (
        sel ((((g2_4.f ((((g2_4.f v3.toNat).f i.toNat).1).toNat)).f r6.toNat).2) != (((g2_4.f v3.toNat).f i.toNat).2)) (
          k0) (
          s_selfstabref01_Valid_L3 N g1_4 g2_4 n3 v3 k0 k1 m (IntKind.i64.wrap (i + 1)))))))))) (
      k1 i))

def sh_selfstabref01_Valid_L2 : SH := ⟨[(1, .rp (.pair (.arr (.int .i64)) (.arr (.arr (.pair (.int .i64) (.int .i64)))))), (3, .cell (.int .i64)), (6, .cell (.int .i64))], []⟩
def s_selfstabref01_Valid_L2 {R : Type} (N : Nat) (g1_3 : Arr Int) (g2_3 : Arr (Arr (Int × Int))) (n2 : Int) (k0 : Option R) (k1 : Int → Option R) : Nat → Int → Option R
  | 0, _ => none
  | m + 1, v2 =>
    sel (decide (v2 < n2)) (
      s_selfstabref01_Valid_L3 N g1_3 g2_3 n2 v2
        (
          k0)
        (fun o0_4 =>
          s_selfstabref01_Valid_L2 N g1_3 g2_3 n2 k0 k1 m (IntKind.i64.wrap (v2 + 1)))
        N 0) (
      k1 v2)

def la_selfstabref01_Valid_L1 {R : Type} (N m : Nat) (y : sh_selfstabref01_Valid_L1.ty) (k : KK R) : Option R :=
  s_selfstabref01_Valid_L1 N y.1.1.1 y.1.1.2 y.1.2.1 y.1.2.2.1 (k .ret ⟨[(2, .b false)], []⟩)
    (fun o0 => k (.exit 2) ⟨[(1, .rp [.ro (.int .i64) y.1.1.1, .ro (.arr (.pair (.int .i64) (.int .i64))) y.1.1.2]), (3, .i .i64 y.1.2.1), (4, .i .i64 y.1.2.2.1), (5, .i .i64 o0), (58, .b false)], []⟩) m y.1.2.2.2.1
def la_selfstabref01_Valid_L0 {R : Type} (N m : Nat) (y : sh_selfstabref01_Valid_L0.ty) (k : KK R) : Option R :=
  s_selfstabref01_Valid_L0 N y.1.1.1 y.1.1.2 y.1.2.1 (k .ret ⟨[(2, .b false)], []⟩)
    (fun o0 => k (.exit 0) ⟨[(1, .rp [.ro (.int .i64) y.1.1.1, .ro (.arr (.pair (.int .i64) (.int .i64))) y.1.1.2]), (3, .i .i64 y.1.2.1), (4, .i .i64 o0), (25, .b false)], []⟩) m y.1.2.2.1
def la_selfstabref01_Valid_L3 {R : Type} (N m : Nat) (y : sh_selfstabref01_Valid_L3.ty) (k : KK R) : Option R :=
  s_selfstabref01_Valid_L3 N y.1.1.1 y.1.1.2 y.1.2.1 y.1.2.2.1 (k .ret ⟨[(2, .b false)], []⟩)
    (fun o0 => k (.exit 6) ⟨[(1, .rp [.ro (.int .i64) y.1.1.1, .ro (.arr (.pair (.int .i64) (.int .i64))) y.1.1.2]), (3, .i .i64 y.1.2.1), (6, .i .i64 y.1.2.2.1), (7, .i .i64 o0), (84, .b false)], []⟩) m y.1.2.2.2.1
def la_selfstabref01_Valid_L2 {R : Type} (N m : Nat) (y : sh_selfstabref01_Valid_L2.ty) (k : KK R) : Option R :=
  s_selfstabref01_Valid_L2 N y.1.1.1 y.1.1.2 y.1.2.1 (k .ret ⟨[(2, .b false)], []⟩)
    (fun o0 => k (.exit 4) ⟨[(1, .rp [.ro (.int .i64) y.1.1.1, .ro (.arr (.pair (.int .i64) (.int .i64))) y.1.1.2]), (3, .i .i64 y.1.2.1), (6, .i .i64 o0), (74, .b false)], []⟩) m y.1.2.2.1
def lp_selfstabref01_Valid {R : Type} (N : Nat) : Nat → KSt → KK R → Option R
  | 0, st, k => sh_selfstabref01_Valid_L0.dec { tmps := kkeep [1, 3, 4] st.tmps, obs := st.obs } fun y => la_selfstabref01_Valid_L0 N N y k
  | 1, st, k => sh_selfstabref01_Valid_L1.dec { tmps := kkeep [1, 3, 4, 5] st.tmps, obs := st.obs } fun y => la_selfstabref01_Valid_L1 N N y k
  | 2, st, k => sh_selfstabref01_Valid_L2.dec { tmps := kkeep [1, 3, 6] st.tmps, obs := st.obs } fun y => la_selfstabref01_Valid_L2 N N y k
  | 3, st, k => sh_selfstabref01_Valid_L3.dec { tmps := kkeep [1, 3, 6, 7] st.tmps, obs := st.obs } fun y => la_selfstabref01_Valid_L3 N N y k
  | _, _, _ => none

def s_selfstabref01_Valid (N : Nat) (g1 : Arr Int) (g2 : Arr (Arr (Int × Int))) : Option (Bool) :=
  kO? (s_selfstabref01_In N (((g2.n : Nat) : Int)) 1 24) (fun r =>
  sel (!r) (
    some false) (
    sel ((((g1.n : Nat) : Int)) != (((g2.n : Nat) : Int))) (
      some false) (
      s_selfstabref01_Valid_L0 N g1 g2 (((g2.n : Nat) : Int))
        (
          some false)
        (fun o0_2 =>
          s_selfstabref01_Valid_L2 N g1 g2 ((((g2.n : Nat) : Int)))
            (
              some false)
            (fun o0_5 =>
              some true)
            N 0)
        N 0)))

def e_selfstabref01_Valid (N : Nat) : Ent := ⟨33, [], [.agg (.pair (.arr (.int .i64)) (.arr (.arr (.pair (.int .i64) (.int .i64)))))], .cell .bool, fun x => s_selfstabref01_Valid N x.1.1 x.1.2, false⟩

def es_selfstabref01_Valid (N : Nat) : List Ent := [e_selfstabref01_In N, e_selfstabref01_linksValid N, e_selfstabref01_Port N]
theorem es_selfstabref01_Valid_ok (N : Nat) : EntsOK prg0 N 2 (es_selfstabref01_Valid N) := ⟨(ok_selfstabref01_In N).mono (by decide), (ok_selfstabref01_linksValid N).mono (by decide), (ok_selfstabref01_Port N).mono (by decide), trivial⟩

theorem ok_selfstabref01_Valid_L1 {R : Type} (N d : Nat) (hd : 2 ≤ d) (call : CallF) (hcall : call = evF prg0 N (d + 1)) (hC : CkOK (R := R) (ckOf (es_selfstabref01_Valid N)) call) : LoopOK (R := R) N call [1, 3, 4, 5] k_selfstabref01_Valid_L1.mc (lp_selfstabref01_Valid N 1) :=
  loop_of hC (⟨⟨trivial, ⟨trivial, trivial⟩⟩, ⟨⟨trivial, ⟨⟨trivial, trivial⟩, trivial⟩⟩, trivial⟩⟩) (la_selfstabref01_Valid_L1 N) (fun _ _ => rfl) (fun m x k => by kernel_rfl) (fun _ _ => rfl)

theorem ok_selfstabref01_Valid_L0 {R : Type} (N d : Nat) (hd : 2 ≤ d) (call : CallF) (hcall : call = evF prg0 N (d + 1)) (hC : CkOK (R := R) (ckOf (es_selfstabref01_Valid N)) call) : LoopOK (R := R) N call [1, 3, 4] k_selfstabref01_Valid_L0.mc (lp_selfstabref01_Valid N 0) :=
  loop_of hC (⟨⟨trivial, ⟨trivial, trivial⟩⟩, ⟨⟨⟨trivial, ⟨⟨trivial, trivial⟩, trivial⟩⟩, ⟨trivial, ok_selfstabref01_Valid_L1 N d hd call hcall hC⟩⟩, trivial⟩⟩) (la_selfstabref01_Valid_L0 N) (fun _ _ => rfl) (fun m x k => by kernel_rfl) (fun _ _ => rfl)

theorem ok_selfstabref01_Valid_L3 {R : Type} (N d : Nat) (hd : 2 ≤ d) (call : CallF) (hcall : call = evF prg0 N (d + 1)) (hC : CkOK (R := R) (ckOf (es_selfstabref01_Valid N)) call) : LoopOK (R := R) N call [1, 3, 6, 7] k_selfstabref01_Valid_L3.mc (lp_selfstabref01_Valid N 3) :=
  loop_of hC (⟨⟨trivial, ⟨trivial, trivial⟩⟩, ⟨⟨trivial, ⟨trivial, ⟨trivial, ⟨⟨trivial, trivial⟩, trivial⟩⟩⟩⟩, trivial⟩⟩) (la_selfstabref01_Valid_L3 N) (fun _ _ => rfl) (fun m x k => by kernel_rfl) (fun _ _ => rfl)

theorem ok_selfstabref01_Valid_L2 {R : Type} (N d : Nat) (hd : 2 ≤ d) (call : CallF) (hcall : call = evF prg0 N (d + 1)) (hC : CkOK (R := R) (ckOf (es_selfstabref01_Valid N)) call) : LoopOK (R := R) N call [1, 3, 6] k_selfstabref01_Valid_L2.mc (lp_selfstabref01_Valid N 2) :=
  loop_of hC (⟨⟨trivial, ⟨trivial, trivial⟩⟩, ⟨⟨trivial, ok_selfstabref01_Valid_L3 N d hd call hcall hC⟩, trivial⟩⟩) (la_selfstabref01_Valid_L2 N) (fun _ _ => rfl) (fun m x k => by kernel_rfl) (fun _ _ => rfl)

theorem ok_selfstabref01_Valid (N : Nat) : EntOK prg0 N 3 (e_selfstabref01_Valid N) :=
  ent_ok (es_selfstabref01_Valid_ok N) (f := k_selfstabref01_Valid) rfl ((prgF_33).trans (congrArg some k_selfstabref01_Valid_mf.symm)) rfl rfl (lp_selfstabref01_Valid N) (fun d hd call hcall hC => ⟨trivial, ⟨trivial, ⟨⟨trivial, ⟨⟨trivial, trivial⟩, trivial⟩⟩, ⟨⟨trivial, ok_selfstabref01_Valid_L0 N d hd call hcall hC⟩, ⟨⟨trivial, ok_selfstabref01_Valid_L2 N d hd call hcall hC⟩, ⟨trivial, trivial⟩⟩⟩⟩⟩⟩) (fun x => by kernel_rfl)

-- selfstab/selfstabref34.Fit
def k_selfstabref34_Fit : KF := ⟨5, [.tmp 2], (
  .seq (.reg [⟨some 1, .box 2 (.t 0), none, none⟩,
    ⟨some 2, .mv (.c (Value.bool false)), none, none⟩] [1])
  (.seq (.reg [⟨some 3, .load (some 2) (.t 1), none, none⟩,
    ⟨some 4, .call 33 [.t 3], none, none⟩,
    ⟨some 2, .mv (.t 4), none, none⟩] [2])
  (.ret))), true⟩

theorem k_selfstabref34_Fit_mf : k_selfstabref34_Fit.mf = m_selfstabref34_Fit := by kernel_rfl

def lp_selfstabref34_Fit {R : Type} (N : Nat) : Nat → KSt → KK R → Option R
  | _, _, _ => none

def s_selfstabref34_Fit (N : Nat) (g1 : Arr Int) (g2 : Arr (Arr (Int × Int))) : Option (Bool) :=
  kO? (s_selfstabref01_Valid N g1 g2) (fun r =>
  some r)

def e_selfstabref34_Fit (N : Nat) : Ent := ⟨4, [], [.agg (.pair (.arr (.int .i64)) (.arr (.arr (.pair (.int .i64) (.int .i64)))))], .cell .bool, fun x => s_selfstabref34_Fit N x.1.1 x.1.2, false⟩

def es_selfstabref34_Fit (N : Nat) : List Ent := [e_selfstabref01_Valid N]
theorem es_selfstabref34_Fit_ok (N : Nat) : EntsOK prg0 N 3 (es_selfstabref34_Fit N) := ⟨(ok_selfstabref01_Valid N).mono (by decide), trivial⟩

theorem ok_selfstabref34_Fit (N : Nat) : EntOK prg0 N 4 (e_selfstabref34_Fit N) :=
  ent_ok (es_selfstabref34_Fit_ok N) (f := k_selfstabref34_Fit) rfl ((prgF_4).trans (congrArg some k_selfstabref34_Fit_mf.symm)) rfl rfl (lp_selfstabref34_Fit N) (fun d hd call hcall hC => ⟨trivial, ⟨trivial, trivial⟩⟩) (fun x => by kernel_rfl)

-- selfstab/selfstabref23.Truth
def k_selfstabref23_Truth : KF := ⟨5, [.cell 2 (some 6)], (
  .seq (.reg [⟨some 2, .new [.v (Value.string ⟨#[]⟩), .v (Value.int .i64 0), .v (Value.int .i64 0), .v (Value.int .i64 0), .v (Value.int .i64 0), .v (Value.int .i64 0)], none, none⟩] [0, 2])
  (.seq (.reg [⟨some 3, .mv (.t 0), none, none⟩,
    ⟨some 4, .build [.v (Value.string ⟨#[]⟩), .v (Value.int .i64 0), .v (Value.int .i64 0), .v (Value.int .i64 0), .v (Value.int .i64 0), .v (Value.int .i64 0)] [(0, 1, (.t 3)), (1, 1, (.c (Value.int IntKind.i64 2)))], none, none⟩,
    ⟨none, .store 6 (.t 2) (.t 4), none, none⟩] [2])
  (.ret))), true⟩

theorem k_selfstabref23_Truth_mf : k_selfstabref23_Truth.mf = m_selfstabref23_Truth := by kernel_rfl

def lp_selfstabref23_Truth {R : Type} (N : Nat) : Nat → KSt → KK R → Option R
  | _, _, _ => none

def s_selfstabref23_Truth (N : Nat) (name : ByteArray) : Option (ByteArray × Int × Int × Int × Int × Int) :=
  chk (decide (0 < ([((⟨#[]⟩ : ByteArray), 0, 0, 0, 0, 0)]).length)) (
  chk (decide (0 < (([((⟨#[]⟩ : ByteArray), 0, 0, 0, 0, 0)]).set 0 (name, 2, 0, 0, 0, 0)).length)) (
  some ((((([((⟨#[]⟩ : ByteArray), 0, 0, 0, 0, 0)]).set 0 (name, 2, 0, 0, 0, 0)).getD 0 (((⟨#[]⟩ : ByteArray), ((0 : Int), ((0 : Int), ((0 : Int), ((0 : Int), (0 : Int)))))))).1, (((([((⟨#[]⟩ : ByteArray), 0, 0, 0, 0, 0)]).set 0 (name, 2, 0, 0, 0, 0)).getD 0 (((⟨#[]⟩ : ByteArray), ((0 : Int), ((0 : Int), ((0 : Int), ((0 : Int), (0 : Int)))))))).2).1, ((((([((⟨#[]⟩ : ByteArray), 0, 0, 0, 0, 0)]).set 0 (name, 2, 0, 0, 0, 0)).getD 0 (((⟨#[]⟩ : ByteArray), ((0 : Int), ((0 : Int), ((0 : Int), ((0 : Int), (0 : Int)))))))).2).2).1, (((((([((⟨#[]⟩ : ByteArray), 0, 0, 0, 0, 0)]).set 0 (name, 2, 0, 0, 0, 0)).getD 0 (((⟨#[]⟩ : ByteArray), ((0 : Int), ((0 : Int), ((0 : Int), ((0 : Int), (0 : Int)))))))).2).2).2).1, ((((((([((⟨#[]⟩ : ByteArray), 0, 0, 0, 0, 0)]).set 0 (name, 2, 0, 0, 0, 0)).getD 0 (((⟨#[]⟩ : ByteArray), ((0 : Int), ((0 : Int), ((0 : Int), ((0 : Int), (0 : Int)))))))).2).2).2).2).1, ((((((([((⟨#[]⟩ : ByteArray), 0, 0, 0, 0, 0)]).set 0 (name, 2, 0, 0, 0, 0)).getD 0 (((⟨#[]⟩ : ByteArray), ((0 : Int), ((0 : Int), ((0 : Int), ((0 : Int), (0 : Int)))))))).2).2).2).2).2))))

def e_selfstabref23_Truth (N : Nat) : Ent := ⟨64, [], [.cell .str], .agg (.pair .str (.pair (.int .i64) (.pair (.int .i64) (.pair (.int .i64) (.pair (.int .i64) (.int .i64)))))), fun x => s_selfstabref23_Truth N x.1, false⟩

def es_selfstabref23_Truth (N : Nat) : List Ent := []
theorem es_selfstabref23_Truth_ok (N : Nat) : EntsOK prg0 N 0 (es_selfstabref23_Truth N) := trivial

theorem ok_selfstabref23_Truth (N : Nat) : EntOK prg0 N 1 (e_selfstabref23_Truth N) :=
  ent_ok (es_selfstabref23_Truth_ok N) (f := k_selfstabref23_Truth) rfl ((prgF_64).trans (congrArg some k_selfstabref23_Truth_mf.symm)) rfl rfl (lp_selfstabref23_Truth N) (fun d hd call hcall hC => ⟨trivial, ⟨trivial, trivial⟩⟩) (fun x => by kernel_rfl)

-- selfstab/selfstabref23.Pointer
def k_selfstabref23_Pointer : KF := ⟨5, [.cell 2 (some 6)], (
  .seq (.reg [⟨some 2, .new [.v (Value.string ⟨#[]⟩), .v (Value.int .i64 0), .v (Value.int .i64 0), .v (Value.int .i64 0), .v (Value.int .i64 0), .v (Value.int .i64 0)], none, none⟩] [0, 2])
  (.seq (.reg [⟨some 3, .mv (.t 0), none, none⟩,
    ⟨some 4, .build [.v (Value.string ⟨#[]⟩), .v (Value.int .i64 0), .v (Value.int .i64 0), .v (Value.int .i64 0), .v (Value.int .i64 0), .v (Value.int .i64 0)] [(0, 1, (.t 3)), (1, 1, (.c (Value.int IntKind.i64 3)))], none, none⟩,
    ⟨none, .store 6 (.t 2) (.t 4), none, none⟩] [2])
  (.ret))), true⟩

theorem k_selfstabref23_Pointer_mf : k_selfstabref23_Pointer.mf = m_selfstabref23_Pointer := by kernel_rfl

def lp_selfstabref23_Pointer {R : Type} (N : Nat) : Nat → KSt → KK R → Option R
  | _, _, _ => none

def s_selfstabref23_Pointer (N : Nat) (name : ByteArray) : Option (ByteArray × Int × Int × Int × Int × Int) :=
  chk (decide (0 < ([((⟨#[]⟩ : ByteArray), 0, 0, 0, 0, 0)]).length)) (
  chk (decide (0 < (([((⟨#[]⟩ : ByteArray), 0, 0, 0, 0, 0)]).set 0 (name, 3, 0, 0, 0, 0)).length)) (
  some ((((([((⟨#[]⟩ : ByteArray), 0, 0, 0, 0, 0)]).set 0 (name, 3, 0, 0, 0, 0)).getD 0 (((⟨#[]⟩ : ByteArray), ((0 : Int), ((0 : Int), ((0 : Int), ((0 : Int), (0 : Int)))))))).1, (((([((⟨#[]⟩ : ByteArray), 0, 0, 0, 0, 0)]).set 0 (name, 3, 0, 0, 0, 0)).getD 0 (((⟨#[]⟩ : ByteArray), ((0 : Int), ((0 : Int), ((0 : Int), ((0 : Int), (0 : Int)))))))).2).1, ((((([((⟨#[]⟩ : ByteArray), 0, 0, 0, 0, 0)]).set 0 (name, 3, 0, 0, 0, 0)).getD 0 (((⟨#[]⟩ : ByteArray), ((0 : Int), ((0 : Int), ((0 : Int), ((0 : Int), (0 : Int)))))))).2).2).1, (((((([((⟨#[]⟩ : ByteArray), 0, 0, 0, 0, 0)]).set 0 (name, 3, 0, 0, 0, 0)).getD 0 (((⟨#[]⟩ : ByteArray), ((0 : Int), ((0 : Int), ((0 : Int), ((0 : Int), (0 : Int)))))))).2).2).2).1, ((((((([((⟨#[]⟩ : ByteArray), 0, 0, 0, 0, 0)]).set 0 (name, 3, 0, 0, 0, 0)).getD 0 (((⟨#[]⟩ : ByteArray), ((0 : Int), ((0 : Int), ((0 : Int), ((0 : Int), (0 : Int)))))))).2).2).2).2).1, ((((((([((⟨#[]⟩ : ByteArray), 0, 0, 0, 0, 0)]).set 0 (name, 3, 0, 0, 0, 0)).getD 0 (((⟨#[]⟩ : ByteArray), ((0 : Int), ((0 : Int), ((0 : Int), ((0 : Int), (0 : Int)))))))).2).2).2).2).2))))

def e_selfstabref23_Pointer (N : Nat) : Ent := ⟨65, [], [.cell .str], .agg (.pair .str (.pair (.int .i64) (.pair (.int .i64) (.pair (.int .i64) (.pair (.int .i64) (.int .i64)))))), fun x => s_selfstabref23_Pointer N x.1, false⟩

def es_selfstabref23_Pointer (N : Nat) : List Ent := []
theorem es_selfstabref23_Pointer_ok (N : Nat) : EntsOK prg0 N 0 (es_selfstabref23_Pointer N) := trivial

theorem ok_selfstabref23_Pointer (N : Nat) : EntOK prg0 N 1 (e_selfstabref23_Pointer N) :=
  ent_ok (es_selfstabref23_Pointer_ok N) (f := k_selfstabref23_Pointer) rfl ((prgF_65).trans (congrArg some k_selfstabref23_Pointer_mf.symm)) rfl rfl (lp_selfstabref23_Pointer N) (fun d hd call hcall hC => ⟨trivial, ⟨trivial, trivial⟩⟩) (fun x => by kernel_rfl)

-- selfstab/selfstabref34.Vars
def k_selfstabref34_Vars : KF := ⟨4, [.tmp 0], (
  .seq (.reg [⟨some 0, .mv (.c (Value.slice none 0 0)), none, none⟩] [])
  (.seq (.reg [⟨some 1, .call 64 [.c (Value.string ⟨#[109]⟩)], none, none⟩,
    ⟨some 2, .call 65 [.c (Value.string ⟨#[104]⟩)], none, none⟩,
    ⟨some 3, .lit 6 [.v (Value.string ⟨#[]⟩), .v (Value.int .i64 0), .v (Value.int .i64 0), .v (Value.int .i64 0), .v (Value.int .i64 0), .v (Value.int .i64 0), .v (Value.string ⟨#[]⟩), .v (Value.int .i64 0), .v (Value.int .i64 0), .v (Value.int .i64 0), .v (Value.int .i64 0), .v (Value.int .i64 0)] [(0, 6, (.t 1)), (6, 6, (.t 2))] false, none, none⟩,
    ⟨some 0, .mv (.t 3), none, none⟩] [0])
  (.ret))), true⟩

theorem k_selfstabref34_Vars_mf : k_selfstabref34_Vars.mf = m_selfstabref34_Vars := by kernel_rfl

def lp_selfstabref34_Vars {R : Type} (N : Nat) : Nat → KSt → KK R → Option R
  | _, _, _ => none

def s_selfstabref34_Vars (N : Nat) : Option (Arr (ByteArray × Int × Int × Int × Int × Int)) :=
  kO? (s_selfstabref23_Truth N (⟨#[109]⟩)) (fun r =>
  kO? (s_selfstabref23_Pointer N (⟨#[104]⟩)) (fun r1 =>
  some (arrL ((⟨#[]⟩ : ByteArray), ((0 : Int), ((0 : Int), ((0 : Int), ((0 : Int), (0 : Int)))))) [(r.1, r.2.1, r.2.2.1, r.2.2.2.1, r.2.2.2.2.1, r.2.2.2.2.2), (r1.1, r1.2.1, r1.2.2.1, r1.2.2.2.1, r1.2.2.2.2.1, r1.2.2.2.2.2)])))

def e_selfstabref34_Vars (N : Nat) : Ent := ⟨37, [], [], .cell (.arr (.pair .str (.pair (.int .i64) (.pair (.int .i64) (.pair (.int .i64) (.pair (.int .i64) (.int .i64))))))), fun x => s_selfstabref34_Vars N, false⟩

def es_selfstabref34_Vars (N : Nat) : List Ent := [e_selfstabref23_Truth N, e_selfstabref23_Pointer N]
theorem es_selfstabref34_Vars_ok (N : Nat) : EntsOK prg0 N 1 (es_selfstabref34_Vars N) := ⟨(ok_selfstabref23_Truth N).mono (by decide), (ok_selfstabref23_Pointer N).mono (by decide), trivial⟩

theorem ok_selfstabref34_Vars (N : Nat) : EntOK prg0 N 2 (e_selfstabref34_Vars N) :=
  ent_ok (es_selfstabref34_Vars_ok N) (f := k_selfstabref34_Vars) rfl ((prgF_37).trans (congrArg some k_selfstabref34_Vars_mf.symm)) rfl rfl (lp_selfstabref34_Vars N) (fun d hd call hcall hC => ⟨trivial, ⟨trivial, trivial⟩⟩) (fun x => by kernel_rfl)

-- selfstab/selfstabref23.top
def k_selfstabref23_top_L0 : KC :=
  .seq (.seq (.reg [⟨some 5, .mv (.t 4), none, none⟩,
    ⟨some 6, .fadr 0 (.t 1), none, none⟩,
    ⟨some 7, .load (none) (.t 6), none, none⟩,
    ⟨some 8, .len 1 (.t 7), none, none⟩,
    ⟨some 9, .bin .lss (.t 5) (.t 8), none, none⟩] [1, 3, 4, 9])
  (.cond (.t 9) (.skip)
   (.exit 0)))
  (.seq (.block 1 (.reg [⟨some 12, .mv (.t 3), none, none⟩,
     ⟨some 13, .fadr 0 (.t 1), none, none⟩,
     ⟨some 14, .load (none) (.t 13), none, none⟩,
     ⟨some 15, .mv (.t 4), none, none⟩,
     ⟨some 16, .iadr 1 (.t 14) (.t 15), none, none⟩,
     ⟨some 17, .load (none) (.t 16), none, none⟩,
     ⟨some 18, .mx [.t 12, .t 17], none, none⟩,
     ⟨some 3, .mv (.t 18), none, none⟩] [1, 3, 4]))
  (.reg [⟨some 10, .mv (.t 4), none, none⟩,
    ⟨some 11, .bin .add (.t 10) (.c (Value.int IntKind.i64 1)), none, none⟩,
    ⟨some 4, .mv (.t 11), none, none⟩] [1, 3, 4]))

def k_selfstabref23_top : KF := ⟨20, [.tmp 2], (
  .seq (.reg [⟨some 1, .box 2 (.t 0), none, none⟩,
    ⟨some 2, .mv (.c (Value.int IntKind.i64 0)), none, none⟩] [1])
  (.seq (.reg [⟨some 3, .mv (.c (Value.int IntKind.i64 0)), none, none⟩] [1, 3])
  (.seq (.seq (.reg [⟨some 4, .mv (.c (Value.int IntKind.i64 0)), none, none⟩] [1, 3, 4])
  (.block 0 (.loop 0 [1, 3, 4] k_selfstabref23_top_L0)))
  (.seq (.reg [⟨some 19, .mv (.t 3), none, none⟩,
    ⟨some 2, .mv (.t 19), none, none⟩] [2])
  (.ret))))), true⟩

theorem k_selfstabref23_top_mf : k_selfstabref23_top.mf = m_selfstabref23_top := by kernel_rfl

def sh_selfstabref23_top_L0 : SH := ⟨[(1, .rp (.pair (.arr (.int .i64)) (.arr (.arr (.pair (.int .i64) (.int .i64)))))), (3, .cell (.int .i64)), (4, .cell (.int .i64))], []⟩
def s_selfstabref23_top_L0 {R : Type} (N : Nat) (g1_1 : Arr Int) (g2_1 : Arr (Arr (Int × Int))) (k0 : Int → Int → Option R) : Nat → Int → Int → Option R
  | 0, _, _ => none
  | m + 1, out, v =>
    sel (decide (v < (((g1_1.n : Nat) : Int)))) (
      chk (inr v g1_1.n) (
      s_selfstabref23_top_L0 N g1_1 g2_1 k0 m (if g1_1.f v.toNat > out then g1_1.f v.toNat else out) (IntKind.i64.wrap (v + 1)))) (
      k0 out v)

def la_selfstabref23_top_L0 {R : Type} (N m : Nat) (y : sh_selfstabref23_top_L0.ty) (k : KK R) : Option R :=
  s_selfstabref23_top_L0 N y.1.1.1 y.1.1.2 (fun o0 o1 => k (.exit 0) ⟨[(1, .rp [.ro (.int .i64) y.1.1.1, .ro (.arr (.pair (.int .i64) (.int .i64))) y.1.1.2]), (3, .i .i64 o0), (4, .i .i64 o1), (9, .b false)], []⟩) m y.1.2.1 y.1.2.2.1
def lp_selfstabref23_top {R : Type} (N : Nat) : Nat → KSt → KK R → Option R
  | 0, st, k => sh_selfstabref23_top_L0.dec { tmps := kkeep [1, 3, 4] st.tmps, obs := st.obs } fun y => la_selfstabref23_top_L0 N N y k
  | _, _, _ => none

def s_selfstabref23_top (N : Nat) (g1 : Arr Int) (g2 : Arr (Arr (Int × Int))) : Option (Int) :=
  s_selfstabref23_top_L0 N g1 g2
    (fun o0 o1 =>
      some o0)
    N 0 0

def e_selfstabref23_top (N : Nat) : Ent := ⟨63, [], [.agg (.pair (.arr (.int .i64)) (.arr (.arr (.pair (.int .i64) (.int .i64)))))], .cell (.int .i64), fun x => s_selfstabref23_top N x.1.1 x.1.2, false⟩

def es_selfstabref23_top (N : Nat) : List Ent := []
theorem es_selfstabref23_top_ok (N : Nat) : EntsOK prg0 N 0 (es_selfstabref23_top N) := trivial

theorem ok_selfstabref23_top_L0 {R : Type} (N d : Nat) (hd : 0 ≤ d) (call : CallF) (hcall : call = evF prg0 N (d + 1)) (hC : CkOK (R := R) (ckOf (es_selfstabref23_top N)) call) : LoopOK (R := R) N call [1, 3, 4] k_selfstabref23_top_L0.mc (lp_selfstabref23_top N 0) :=
  loop_of hC (⟨⟨trivial, ⟨trivial, trivial⟩⟩, ⟨trivial, trivial⟩⟩) (la_selfstabref23_top_L0 N) (fun _ _ => rfl) (fun m x k => by kernel_rfl) (fun _ _ => rfl)

theorem ok_selfstabref23_top (N : Nat) : EntOK prg0 N 1 (e_selfstabref23_top N) :=
  ent_ok (es_selfstabref23_top_ok N) (f := k_selfstabref23_top) rfl ((prgF_63).trans (congrArg some k_selfstabref23_top_mf.symm)) rfl rfl (lp_selfstabref23_top N) (fun d hd call hcall hC => ⟨trivial, ⟨trivial, ⟨⟨trivial, ok_selfstabref23_top_L0 N d hd call hcall hC⟩, ⟨trivial, trivial⟩⟩⟩⟩) (fun x => by kernel_rfl)

-- selfstab/selfstabref23.Config
def k_selfstabref23_Config_L1 : KC :=
  .seq (.seq (.reg [⟨some 37, .mv (.t 9), none, none⟩,
    ⟨some 38, .mv (.t 2), none, none⟩,
    ⟨some 39, .len 1 (.t 38), none, none⟩,
    ⟨some 40, .bin .lss (.t 37) (.t 39), none, none⟩] [1, 2, 3, 7, 8, 9, 40])
  (.cond (.t 40) (.skip)
   (.exit 2)))
  (.seq (.block 3 (.seq (.reg [⟨some 43, .mv (.t 2), none, none⟩,
     ⟨some 44, .mv (.t 9), none, none⟩,
     ⟨some 45, .iadr 6 (.t 43) (.t 44), none, none⟩,
     ⟨some 46, .fadr 2 (.t 45), none, none⟩,
     ⟨some 47, .load (none) (.t 46), none, none⟩,
     ⟨some 48, .mv (.t 2), none, none⟩,
     ⟨some 49, .mv (.t 9), none, none⟩,
     ⟨some 50, .iadr 6 (.t 48) (.t 49), none, none⟩,
     ⟨some 51, .fadr 3 (.t 50), none, none⟩,
     ⟨some 52, .load (none) (.t 51), none, none⟩,
     ⟨some 53, .mv (.t 2), none, none⟩,
     ⟨some 54, .mv (.t 9), none, none⟩,
     ⟨some 55, .iadr 6 (.t 53) (.t 54), none, none⟩,
     ⟨some 56, .fadr 4 (.t 55), none, none⟩,
     ⟨some 57, .load (none) (.t 56), none, none⟩,
     ⟨some 58, .mv (.t 7), none, none⟩,
     ⟨some 59, .bin .mul (.t 57) (.t 58), none, none⟩,
     ⟨some 60, .bin .add (.t 52) (.t 59), none, none⟩,
     ⟨some 61, .mv (.t 2), none, none⟩,
     ⟨some 62, .mv (.t 9), none, none⟩,
     ⟨some 63, .iadr 6 (.t 61) (.t 62), none, none⟩,
     ⟨some 64, .fadr 5 (.t 63), none, none⟩,
     ⟨some 65, .load (none) (.t 64), none, none⟩,
     ⟨some 66, .load (some 2) (.t 3), none, none⟩,
     ⟨some 67, .call 63 [.t 66], none, none⟩,
     ⟨some 68, .bin .mul (.t 65) (.t 67), none, none⟩,
     ⟨some 69, .bin .add (.t 60) (.t 68), none, none⟩,
     ⟨some 10, .mv (.t 47), none, none⟩,
     ⟨some 11, .mv (.t 69), none, none⟩] [1, 2, 3, 7, 8, 9, 10, 11])
   (.seq (.seq (.reg [⟨some 70, .mv (.t 2), none, none⟩,
     ⟨some 71, .mv (.t 9), none, none⟩,
     ⟨some 72, .iadr 6 (.t 70) (.t 71), none, none⟩,
     ⟨some 73, .fadr 1 (.t 72), none, none⟩,
     ⟨some 74, .load (none) (.t 73), none, none⟩] [1, 2, 3, 7, 8, 9, 10, 11, 74])
   (.block 4 (.seq (.reg [⟨some 76, .bin .eql (.t 74) (.c (Value.int IntKind.i64 2)), none, none⟩,
      ⟨some 75, .mv (.t 76), none, none⟩] [1, 2, 3, 7, 8, 9, 10, 11, 74, 75])
    (.cond (.t 75) (.reg [⟨some 10, .mv (.c (Value.int IntKind.i64 0)), none, none⟩,
       ⟨some 11, .mv (.c (Value.int IntKind.i64 1)), none, none⟩] [1, 2, 3, 7, 8, 9, 10, 11])
     (.seq (.reg [⟨some 78, .bin .eql (.t 74) (.c (Value.int IntKind.i64 3)), none, none⟩,
       ⟨some 77, .mv (.t 78), none, none⟩] [1, 2, 3, 7, 8, 9, 10, 11, 77])
     (.cond (.t 77) (.reg [⟨some 79, .fadr 1 (.t 3), none, none⟩,
        ⟨some 80, .load (none) (.t 79), none, none⟩,
        ⟨some 81, .mv (.t 8), none, none⟩,
        ⟨some 82, .iadr 1 (.t 80) (.t 81), none, none⟩,
        ⟨some 83, .load (none) (.t 82), none, none⟩,
        ⟨some 84, .len 1 (.t 83), none, none⟩,
        ⟨some 85, .bin .sub (.t 84) (.c (Value.int IntKind.i64 1)), none, none⟩,
        ⟨some 10, .mv (.c (Value.int IntKind.i64 (-1))), none, none⟩,
        ⟨some 11, .mv (.t 85), none, none⟩] [1, 2, 3, 7, 8, 9, 10, 11])
      (.skip)))))))
   (.seq (.reg [⟨some 86, .mv (.t 1), none, none⟩,
     ⟨some 87, .mv (.t 8), none, none⟩,
     ⟨some 88, .iadr 1 (.t 86) (.t 87), none, none⟩,
     ⟨some 89, .load (none) (.t 88), none, none⟩,
     ⟨some 90, .mv (.t 9), none, none⟩,
     ⟨some 91, .iadr 1 (.t 89) (.t 90), none, none⟩,
     ⟨some 92, .load (none) (.t 91), none, none⟩,
     ⟨some 93, .mv (.t 10), none, none⟩,
     ⟨some 94, .mv (.t 11), none, none⟩,
     ⟨some 95, .call 60 [.t 92, .t 93, .t 94], none, none⟩,
     ⟨some 96, .un .not (.t 95), none, none⟩] [1, 2, 3, 7, 8, 9, 96])
   (.cond (.t 96) (.seq (.reg [⟨some 6, .mv (.c (Value.bool false)), none, none⟩] [6])
    (.ret))
    (.skip))))))
  (.reg [⟨some 41, .mv (.t 9), none, none⟩,
    ⟨some 42, .bin .add (.t 41) (.c (Value.int IntKind.i64 1)), none, none⟩,
    ⟨some 9, .mv (.t 42), none, none⟩] [1, 2, 3, 7, 8, 9]))

def k_selfstabref23_Config_L0 : KC :=
  .seq (.seq (.reg [⟨some 24, .mv (.t 8), none, none⟩,
    ⟨some 25, .mv (.t 7), none, none⟩,
    ⟨some 26, .bin .lss (.t 24) (.t 25), none, none⟩] [1, 2, 3, 7, 8, 26])
  (.cond (.t 26) (.skip)
   (.exit 0)))
  (.seq (.block 1 (.seq (.seq (.reg [⟨some 29, .mv (.t 1), none, none⟩,
     ⟨some 30, .mv (.t 8), none, none⟩,
     ⟨some 31, .iadr 1 (.t 29) (.t 30), none, none⟩,
     ⟨some 32, .load (none) (.t 31), none, none⟩,
     ⟨some 33, .len 1 (.t 32), none, none⟩,
     ⟨some 34, .mv (.t 2), none, none⟩,
     ⟨some 35, .len 1 (.t 34), none, none⟩,
     ⟨some 36, .bin .neq (.t 33) (.t 35), none, none⟩] [1, 2, 3, 7, 8, 36])
   (.cond (.t 36) (.seq (.reg [⟨some 6, .mv (.c (Value.bool false)), none, none⟩] [6])
    (.ret))
    (.skip)))
   (.seq (.reg [⟨some 9, .mv (.c (Value.int IntKind.i64 0)), none, none⟩] [1, 2, 3, 7, 8, 9])
   (.block 2 (.loop 1 [1, 2, 3, 7, 8, 9] k_selfstabref23_Config_L1)))))
  (.reg [⟨some 27, .mv (.t 8), none, none⟩,
    ⟨some 28, .bin .add (.t 27) (.c (Value.int IntKind.i64 1)), none, none⟩,
    ⟨some 8, .mv (.t 28), none, none⟩] [1, 2, 3, 7, 8]))

def k_selfstabref23_Config : KF := ⟨97, [.tmp 6], (
  .seq (.reg [⟨some 3, .box 2 (.t 0), none, none⟩,
    ⟨some 6, .mv (.c (Value.bool false)), none, none⟩] [1, 2, 3])
  (.seq (.reg [⟨some 12, .fadr 1 (.t 3), none, none⟩,
    ⟨some 13, .load (none) (.t 12), none, none⟩,
    ⟨some 14, .len 1 (.t 13), none, none⟩,
    ⟨some 7, .mv (.t 14), none, none⟩] [1, 2, 3, 7])
  (.seq (.seq (.reg [⟨some 15, .load (some 2) (.t 3), none, none⟩,
    ⟨some 16, .call 33 [.t 15], none, none⟩,
    ⟨some 17, .un .not (.t 16), none, none⟩,
    ⟨some 18, .mv (.t 17), none, none⟩,
    ⟨some 19, .mv (.t 1), some (18, false), none⟩,
    ⟨some 20, .len 1 (.t 19), some (18, false), none⟩,
    ⟨some 21, .mv (.t 7), some (18, false), none⟩,
    ⟨some 22, .bin .neq (.t 20) (.t 21), some (18, false), none⟩,
    ⟨some 23, .pick (.t 18) (.c (Value.bool true)) (.t 22), none, none⟩] [1, 2, 3, 7, 23])
  (.cond (.t 23) (.seq (.reg [⟨some 6, .mv (.c (Value.bool false)), none, none⟩] [6])
   (.ret))
   (.skip)))
  (.seq (.seq (.reg [⟨some 8, .mv (.c (Value.int IntKind.i64 0)), none, none⟩] [1, 2, 3, 7, 8])
  (.block 0 (.loop 0 [1, 2, 3, 7, 8] k_selfstabref23_Config_L0)))
  (.seq (.reg [⟨some 6, .mv (.c (Value.bool true)), none, none⟩] [6])
  (.ret)))))), true⟩

theorem k_selfstabref23_Config_mf : k_selfstabref23_Config.mf = m_selfstabref23_Config := by kernel_rfl

def sh_selfstabref23_Config_L1 : SH := ⟨[(1, .cell (.arr (.arr (.int .i64)))), (2, .cell (.arr (.pair .str (.pair (.int .i64) (.pair (.int .i64) (.pair (.int .i64) (.pair (.int .i64) (.int .i64)))))))), (3, .rp (.pair (.arr (.int .i64)) (.arr (.arr (.pair (.int .i64) (.int .i64)))))), (7, .cell (.int .i64)), (8, .cell (.int .i64)), (9, .cell (.int .i64))], []⟩
def s_selfstabref23_Config_L1 {R : Type} (N : Nat) (c2 : Arr (Arr Int)) (vars2 : Arr (ByteArray × Int × Int × Int × Int × Int)) (g1_2 : Arr Int) (g2_2 : Arr (Arr (Int × Int))) (n1 : Int) (v1 : Int) (k0 : Option R) (k1 : Int → Option R) : Nat → Int → Option R
  | 0, _ => none
  | m + 1, i =>
    sel (decide (i < (((vars2.n : Nat) : Int)))) (
      chk (inr i vars2.n) (
      chk (inr i vars2.n) (
      chk (inr i vars2.n) (
      chk (inr i vars2.n) (
      kO? (s_selfstabref23_top N g1_2 g2_2) (fun r5 =>
      chk (inr i vars2.n) (
      sel ((((vars2.f i.toNat).2).1) == 2) (
        chk (inr v1 c2.n) (
        chk (inr i (c2.f v1.toNat).n) (
        kO? (s_selfstabref01_In N ((c2.f v1.toNat).f i.toNat) 0 1) (fun r6 =>
        sel (!r6) (
          k0) (
          s_selfstabref23_Config_L1 N c2 vars2 g1_2 g2_2 n1 v1 k0 k1 m (IntKind.i64.wrap (i + 1))))))) (
        sel ((((vars2.f i.toNat).2).1) == 3) (
          chk (inr v1 g2_2.n) (
          chk (inr v1 c2.n) (
          chk (inr i (c2.f v1.toNat).n) (
          kO? (s_selfstabref01_In N ((c2.f v1.toNat).f i.toNat) (-1) (IntKind.i64.wrap (((((g2_2.f v1.toNat).n : Nat) : Int)) - 1))) (fun r7 =>
          sel (!r7) (
            k0) (
            s_selfstabref23_Config_L1 N c2 vars2 g1_2 g2_2 n1 v1 k0 k1 m (IntKind.i64.wrap (i + 1)))))))) (
          chk (inr v1 c2.n) (
          chk (inr i (c2.f v1.toNat).n) (
          kO? (s_selfstabref01_In N ((c2.f v1.toNat).f i.toNat) ((((vars2.f i.toNat).2).2).1) (IntKind.i64.wrap ((IntKind.i64.wrap ((((((vars2.f i.toNat).2).2).2).1) + (IntKind.i64.wrap (((((((vars2.f i.toNat).2).2).2).2).1) * n1)))) + (IntKind.i64.wrap (((((((vars2.f i.toNat).2).2).2).2).2) * r5))))) (fun r8 =>
          sel (!r8) (
            k0) (
            s_selfstabref23_Config_L1 N c2 vars2 g1_2 g2_2 n1 v1 k0 k1 m (IntKind.i64.wrap (i + 1))))))))))))))) (
      k1 i)

def sh_selfstabref23_Config_L0 : SH := ⟨[(1, .cell (.arr (.arr (.int .i64)))), (2, .cell (.arr (.pair .str (.pair (.int .i64) (.pair (.int .i64) (.pair (.int .i64) (.pair (.int .i64) (.int .i64)))))))), (3, .rp (.pair (.arr (.int .i64)) (.arr (.arr (.pair (.int .i64) (.int .i64)))))), (7, .cell (.int .i64)), (8, .cell (.int .i64))], []⟩
def s_selfstabref23_Config_L0 {R : Type} (N : Nat) (c1 : Arr (Arr Int)) (vars1 : Arr (ByteArray × Int × Int × Int × Int × Int)) (g1_1 : Arr Int) (g2_1 : Arr (Arr (Int × Int))) (n : Int) (k0 : Option R) (k1 : Int → Option R) : Nat → Int → Option R
  | 0, _ => none
  | m + 1, v =>
    sel (decide (v < n)) (
      chk (inr v c1.n) (
      sel (((((c1.f v.toNat).n : Nat) : Int)) != (((vars1.n : Nat) : Int))) (
        k0) (
        s_selfstabref23_Config_L1 N c1 vars1 g1_1 g2_1 n v
          (
            k0)
          (fun o0_1 =>
            s_selfstabref23_Config_L0 N c1 vars1 g1_1 g2_1 n k0 k1 m (IntKind.i64.wrap (v + 1)))
          N 0))) (
      k1 v)

def la_selfstabref23_Config_L1 {R : Type} (N m : Nat) (y : sh_selfstabref23_Config_L1.ty) (k : KK R) : Option R :=
  s_selfstabref23_Config_L1 N y.1.1 y.1.2.1 y.1.2.2.1.1 y.1.2.2.1.2 y.1.2.2.2.1 y.1.2.2.2.2.1 (k .ret ⟨[(6, .b false)], []⟩)
    (fun o0 => k (.exit 2) ⟨[(1, .ro (.arr (.int .i64)) y.1.1), (2, .ro (.pair .str (.pair (.int .i64) (.pair (.int .i64) (.pair (.int .i64) (.pair (.int .i64) (.int .i64)))))) y.1.2.1), (3, .rp [.ro (.int .i64) y.1.2.2.1.1, .ro (.arr (.pair (.int .i64) (.int .i64))) y.1.2.2.1.2]), (7, .i .i64 y.1.2.2.2.1), (8, .i .i64 y.1.2.2.2.2.1), (9, .i .i64 o0), (40, .b false)], []⟩) m y.1.2.2.2.2.2.1
def la_selfstabref23_Config_L0 {R : Type} (N m : Nat) (y : sh_selfstabref23_Config_L0.ty) (k : KK R) : Option R :=
  s_selfstabref23_Config_L0 N y.1.1 y.1.2.1 y.1.2.2.1.1 y.1.2.2.1.2 y.1.2.2.2.1 (k .ret ⟨[(6, .b false)], []⟩)
    (fun o0 => k (.exit 0) ⟨[(1, .ro (.arr (.int .i64)) y.1.1), (2, .ro (.pair .str (.pair (.int .i64) (.pair (.int .i64) (.pair (.int .i64) (.pair (.int .i64) (.int .i64)))))) y.1.2.1), (3, .rp [.ro (.int .i64) y.1.2.2.1.1, .ro (.arr (.pair (.int .i64) (.int .i64))) y.1.2.2.1.2]), (7, .i .i64 y.1.2.2.2.1), (8, .i .i64 o0), (26, .b false)], []⟩) m y.1.2.2.2.2.1
def lp_selfstabref23_Config {R : Type} (N : Nat) : Nat → KSt → KK R → Option R
  | 0, st, k => sh_selfstabref23_Config_L0.dec { tmps := kkeep [1, 2, 3, 7, 8] st.tmps, obs := st.obs } fun y => la_selfstabref23_Config_L0 N N y k
  | 1, st, k => sh_selfstabref23_Config_L1.dec { tmps := kkeep [1, 2, 3, 7, 8, 9] st.tmps, obs := st.obs } fun y => la_selfstabref23_Config_L1 N N y k
  | _, _, _ => none

def s_selfstabref23_Config (N : Nat) (g1 : Arr Int) (g2 : Arr (Arr (Int × Int))) (c : Arr (Arr Int)) (vars : Arr (ByteArray × Int × Int × Int × Int × Int)) : Option (Bool) :=
  kO? (s_selfstabref01_Valid N g1 g2) (fun r =>
  sel (!r) (
    some false) (
    sel ((((c.n : Nat) : Int)) != (((g2.n : Nat) : Int))) (
      some false) (
      s_selfstabref23_Config_L0 N c vars g1 g2 (((g2.n : Nat) : Int))
        (
          some false)
        (fun o0_2 =>
          some true)
        N 0)))

def e_selfstabref23_Config (N : Nat) : Ent := ⟨38, [], [.agg (.pair (.arr (.int .i64)) (.arr (.arr (.pair (.int .i64) (.int .i64))))), .cell (.arr (.arr (.int .i64))), .cell (.arr (.pair .str (.pair (.int .i64) (.pair (.int .i64) (.pair (.int .i64) (.pair (.int .i64) (.int .i64)))))))], .cell .bool, fun x => s_selfstabref23_Config N x.1.1 x.1.2 x.2.1 x.2.2.1, false⟩

def es_selfstabref23_Config (N : Nat) : List Ent := [e_selfstabref01_Valid N, e_selfstabref23_top N, e_selfstabref01_In N]
theorem es_selfstabref23_Config_ok (N : Nat) : EntsOK prg0 N 3 (es_selfstabref23_Config N) := ⟨(ok_selfstabref01_Valid N).mono (by decide), (ok_selfstabref23_top N).mono (by decide), (ok_selfstabref01_In N).mono (by decide), trivial⟩

theorem ok_selfstabref23_Config_L1 {R : Type} (N d : Nat) (hd : 3 ≤ d) (call : CallF) (hcall : call = evF prg0 N (d + 1)) (hC : CkOK (R := R) (ckOf (es_selfstabref23_Config N)) call) : LoopOK (R := R) N call [1, 2, 3, 7, 8, 9] k_selfstabref23_Config_L1.mc (lp_selfstabref23_Config N 1) :=
  loop_of hC (⟨⟨trivial, ⟨trivial, trivial⟩⟩, ⟨⟨trivial, ⟨⟨trivial, ⟨trivial, ⟨trivial, ⟨trivial, ⟨trivial, trivial⟩⟩⟩⟩⟩, ⟨trivial, ⟨⟨trivial, trivial⟩, trivial⟩⟩⟩⟩, trivial⟩⟩) (la_selfstabref23_Config_L1 N) (fun _ _ => rfl) (fun m x k => by kernel_rfl) (fun _ _ => rfl)

theorem ok_selfstabref23_Config_L0 {R : Type} (N d : Nat) (hd : 3 ≤ d) (call : CallF) (hcall : call = evF prg0 N (d + 1)) (hC : CkOK (R := R) (ckOf (es_selfstabref23_Config N)) call) : LoopOK (R := R) N call [1, 2, 3, 7, 8] k_selfstabref23_Config_L0.mc (lp_selfstabref23_Config N 0) :=
  loop_of hC (⟨⟨trivial, ⟨trivial, trivial⟩⟩, ⟨⟨⟨trivial, ⟨⟨trivial, trivial⟩, trivial⟩⟩, ⟨trivial, ok_selfstabref23_Config_L1 N d hd call hcall hC⟩⟩, trivial⟩⟩) (la_selfstabref23_Config_L0 N) (fun _ _ => rfl) (fun m x k => by kernel_rfl) (fun _ _ => rfl)

theorem ok_selfstabref23_Config (N : Nat) : EntOK prg0 N 4 (e_selfstabref23_Config N) :=
  ent_ok (es_selfstabref23_Config_ok N) (f := k_selfstabref23_Config) rfl ((prgF_38).trans (congrArg some k_selfstabref23_Config_mf.symm)) rfl rfl (lp_selfstabref23_Config N) (fun d hd call hcall hC => ⟨trivial, ⟨trivial, ⟨⟨trivial, ⟨⟨trivial, trivial⟩, trivial⟩⟩, ⟨⟨trivial, ok_selfstabref23_Config_L0 N d hd call hcall hC⟩, ⟨trivial, trivial⟩⟩⟩⟩⟩) (fun x => by kernel_rfl)

-- selfstab/selfstabref31.Ones
def k_selfstabref31_Ones_L0 : KC :=
  .seq (.seq (.reg [⟨some 7, .mv (.t 6), none, none⟩,
    ⟨some 8, .mv (.t 0), none, none⟩,
    ⟨some 9, .len 1 (.t 8), none, none⟩,
    ⟨some 10, .bin .lss (.t 7) (.t 9), none, none⟩] [0, 1, 5, 6, 10])
  (.cond (.t 10) (.skip)
   (.exit 0)))
  (.seq (.block 1 (.seq (.reg [⟨some 13, .mv (.t 0), none, none⟩,
     ⟨some 14, .mv (.t 6), none, none⟩,
     ⟨some 15, .iadr 1 (.t 13) (.t 14), none, none⟩,
     ⟨some 16, .load (none) (.t 15), none, none⟩,
     ⟨some 17, .mv (.t 1), none, none⟩,
     ⟨some 18, .iadr 1 (.t 16) (.t 17), none, none⟩,
     ⟨some 19, .load (none) (.t 18), none, none⟩,
     ⟨some 20, .bin .eql (.t 19) (.c (Value.int IntKind.i64 1)), none, none⟩] [0, 1, 5, 6, 20])
   (.cond (.t 20) (.reg [⟨some 21, .mv (.t 5), none, none⟩,
      ⟨some 22, .mv (.t 6), none, none⟩,
      ⟨some 23, .conv .u64 (.t 22), none, none⟩,
      ⟨some 24, .bin .shl (.c (Value.int IntKind.u32 1)) (.t 23), none, none⟩,
      ⟨some 25, .bin .or (.t 21) (.t 24), none, none⟩,
      ⟨some 5, .mv (.t 25), none, none⟩] [0, 1, 5, 6])
    (.skip))))
  (.reg [⟨some 11, .mv (.t 6), none, none⟩,
    ⟨some 12, .bin .add (.t 11) (.c (Value.int IntKind.i64 1)), none, none⟩,
    ⟨some 6, .mv (.t 12), none, none⟩] [0, 1, 5, 6]))

def k_selfstabref31_Ones : KF := ⟨27, [.tmp 4], (
  .seq (.reg [⟨some 4, .mv (.c (Value.int IntKind.u32 0)), none, none⟩] [0, 1])
  (.seq (.reg [⟨some 5, .mv (.c (Value.int IntKind.u32 0)), none, none⟩] [0, 1, 5])
  (.seq (.seq (.reg [⟨some 6, .mv (.c (Value.int IntKind.i64 0)), none, none⟩] [0, 1, 5, 6])
  (.block 0 (.loop 0 [0, 1, 5, 6] k_selfstabref31_Ones_L0)))
  (.seq (.reg [⟨some 26, .mv (.t 5), none, none⟩,
    ⟨some 4, .mv (.t 26), none, none⟩] [4])
  (.ret))))), true⟩

theorem k_selfstabref31_Ones_mf : k_selfstabref31_Ones.mf = m_selfstabref31_Ones := by kernel_rfl

def sh_selfstabref31_Ones_L0 : SH := ⟨[(0, .cell (.arr (.arr (.int .i64)))), (1, .cell (.int .i64)), (5, .cell (.int .u32)), (6, .cell (.int .i64))], []⟩
def s_selfstabref31_Ones_L0 {R : Type} (N : Nat) (c1 : Arr (Arr Int)) (at_1 : Int) (k0 : Int → Int → Option R) : Nat → Int → Int → Option R
  | 0, _, _ => none
  | m + 1, out, v =>
    sel (decide (v < (((c1.n : Nat) : Int)))) (
      chk (inr v c1.n) (
      chk (inr at_1 (c1.f v.toNat).n) (
      sel (((c1.f v.toNat).f at_1.toNat) == 1) (
        chk (!decide ((IntKind.u64.wrap v) < 0)) (
        s_selfstabref31_Ones_L0 N c1 at_1 k0 m (IntKind.u32.wrap (BitVec.ofInt (IntKind.u32).bits out ||| BitVec.ofInt (IntKind.u32).bits (IntKind.u32.wrap (1 * 2 ^ (min ((IntKind.u64.wrap v) : Int).toNat (IntKind.u32).bits)))).toNat) (IntKind.i64.wrap (v + 1)))) (
        s_selfstabref31_Ones_L0 N c1 at_1 k0 m out (IntKind.i64.wrap (v + 1)))))) (
      k0 out v)

def la_selfstabref31_Ones_L0 {R : Type} (N m : Nat) (y : sh_selfstabref31_Ones_L0.ty) (k : KK R) : Option R :=
  s_selfstabref31_Ones_L0 N y.1.1 y.1.2.1 (fun o0 o1 => k (.exit 0) ⟨[(0, .ro (.arr (.int .i64)) y.1.1), (1, .i .i64 y.1.2.1), (5, .i .u32 o0), (6, .i .i64 o1), (10, .b false)], []⟩) m y.1.2.2.1 y.1.2.2.2.1
def lp_selfstabref31_Ones {R : Type} (N : Nat) : Nat → KSt → KK R → Option R
  | 0, st, k => sh_selfstabref31_Ones_L0.dec { tmps := kkeep [0, 1, 5, 6] st.tmps, obs := st.obs } fun y => la_selfstabref31_Ones_L0 N N y k
  | _, _, _ => none

def s_selfstabref31_Ones (N : Nat) (c : Arr (Arr Int)) (at_ : Int) : Option (Int) :=
  s_selfstabref31_Ones_L0 N c at_
    (fun o0 o1 =>
      some o0)
    N 0 0

def e_selfstabref31_Ones (N : Nat) : Ent := ⟨39, [], [.cell (.arr (.arr (.int .i64))), .cell (.int .i64)], .cell (.int .u32), fun x => s_selfstabref31_Ones N x.1 x.2.1, false⟩

def es_selfstabref31_Ones (N : Nat) : List Ent := []
theorem es_selfstabref31_Ones_ok (N : Nat) : EntsOK prg0 N 0 (es_selfstabref31_Ones N) := trivial

theorem ok_selfstabref31_Ones_L0 {R : Type} (N d : Nat) (hd : 0 ≤ d) (call : CallF) (hcall : call = evF prg0 N (d + 1)) (hC : CkOK (R := R) (ckOf (es_selfstabref31_Ones N)) call) : LoopOK (R := R) N call [0, 1, 5, 6] k_selfstabref31_Ones_L0.mc (lp_selfstabref31_Ones N 0) :=
  loop_of hC (⟨⟨trivial, ⟨trivial, trivial⟩⟩, ⟨⟨trivial, ⟨trivial, trivial⟩⟩, trivial⟩⟩) (la_selfstabref31_Ones_L0 N) (fun _ _ => rfl) (fun m x k => by kernel_rfl) (fun _ _ => rfl)

theorem ok_selfstabref31_Ones (N : Nat) : EntOK prg0 N 1 (e_selfstabref31_Ones N) :=
  ent_ok (es_selfstabref31_Ones_ok N) (f := k_selfstabref31_Ones) rfl ((prgF_39).trans (congrArg some k_selfstabref31_Ones_mf.symm)) rfl rfl (lp_selfstabref31_Ones N) (fun d hd call hcall hC => ⟨trivial, ⟨trivial, ⟨⟨trivial, ok_selfstabref31_Ones_L0 N d hd call hcall hC⟩, ⟨trivial, trivial⟩⟩⟩⟩) (fun x => by kernel_rfl)

-- selfstab/selfstabref01.All
def k_selfstabref01_All_L0 : KC :=
  .seq (.seq (.reg [⟨some 5, .mv (.t 4), none, none⟩,
    ⟨some 6, .mv (.t 0), none, none⟩,
    ⟨some 7, .bin .lss (.t 5) (.t 6), none, none⟩,
    ⟨some 8, .mv (.t 7), none, none⟩,
    ⟨some 9, .mv (.t 4), some (8, true), none⟩,
    ⟨some 10, .bin .lss (.t 9) (.c (Value.int IntKind.i64 32)), some (8, true), none⟩,
    ⟨some 11, .pick (.t 8) (.t 10) (.c (Value.bool false)), none, none⟩] [0, 3, 4, 11])
  (.cond (.t 11) (.skip)
   (.exit 0)))
  (.seq (.block 1 (.reg [⟨some 14, .mv (.t 3), none, none⟩,
     ⟨some 15, .mv (.t 4), none, none⟩,
     ⟨some 16, .conv .u64 (.t 15), none, none⟩,
     ⟨some 17, .bin .shl (.c (Value.int IntKind.u32 1)) (.t 16), none, none⟩,
     ⟨some 18, .bin .or (.t 14) (.t 17), none, none⟩,
     ⟨some 3, .mv (.t 18), none, none⟩] [0, 3, 4]))
  (.reg [⟨some 12, .mv (.t 4), none, none⟩,
    ⟨some 13, .bin .add (.t 12) (.c (Value.int IntKind.i64 1)), none, none⟩,
    ⟨some 4, .mv (.t 13), none, none⟩] [0, 3, 4]))

def k_selfstabref01_All : KF := ⟨20, [.tmp 2], (
  .seq (.reg [⟨some 2, .mv (.c (Value.int IntKind.u32 0)), none, none⟩] [0])
  (.seq (.reg [⟨some 3, .mv (.c (Value.int IntKind.u32 0)), none, none⟩] [0, 3])
  (.seq (.seq (.reg [⟨some 4, .mv (.c (Value.int IntKind.i64 0)), none, none⟩] [0, 3, 4])
  (.block 0 (.loop 0 [0, 3, 4] k_selfstabref01_All_L0)))
  (.seq (.reg [⟨some 19, .mv (.t 3), none, none⟩,
    ⟨some 2, .mv (.t 19), none, none⟩] [2])
  (.ret))))), true⟩

theorem k_selfstabref01_All_mf : k_selfstabref01_All.mf = m_selfstabref01_All := by kernel_rfl

def sh_selfstabref01_All_L0 : SH := ⟨[(0, .cell (.int .i64)), (3, .cell (.int .u32)), (4, .cell (.int .i64))], []⟩
def s_selfstabref01_All_L0 {R : Type} (N : Nat) (n1 : Int) (k0 : Int → Int → Option R) : Nat → Int → Int → Option R
  | 0, _, _ => none
  | m + 1, out, v =>
    sel (decide (v < n1)) (
      sel (decide (v < 32)) (
        chk (!decide ((IntKind.u64.wrap v) < 0)) (
        s_selfstabref01_All_L0 N n1 k0 m (IntKind.u32.wrap (BitVec.ofInt (IntKind.u32).bits out ||| BitVec.ofInt (IntKind.u32).bits (IntKind.u32.wrap (1 * 2 ^ (min ((IntKind.u64.wrap v) : Int).toNat (IntKind.u32).bits)))).toNat) (IntKind.i64.wrap (v + 1)))) (
        k0 out v)) (
      k0 out v)

def la_selfstabref01_All_L0 {R : Type} (N m : Nat) (y : sh_selfstabref01_All_L0.ty) (k : KK R) : Option R :=
  s_selfstabref01_All_L0 N y.1.1 (fun o0 o1 => k (.exit 0) ⟨[(0, .i .i64 y.1.1), (3, .i .u32 o0), (4, .i .i64 o1), (11, .b false)], []⟩) m y.1.2.1 y.1.2.2.1
def lp_selfstabref01_All {R : Type} (N : Nat) : Nat → KSt → KK R → Option R
  | 0, st, k => sh_selfstabref01_All_L0.dec { tmps := kkeep [0, 3, 4] st.tmps, obs := st.obs } fun y => la_selfstabref01_All_L0 N N y k
  | _, _, _ => none

def s_selfstabref01_All (N : Nat) (n : Int) : Option (Int) :=
  s_selfstabref01_All_L0 N n
    (fun o0 o1 =>
      some o0)
    N 0 0

def e_selfstabref01_All (N : Nat) : Ent := ⟨68, [], [.cell (.int .i64)], .cell (.int .u32), fun x => s_selfstabref01_All N x.1, false⟩

def es_selfstabref01_All (N : Nat) : List Ent := []
theorem es_selfstabref01_All_ok (N : Nat) : EntsOK prg0 N 0 (es_selfstabref01_All N) := trivial

theorem ok_selfstabref01_All_L0 {R : Type} (N d : Nat) (hd : 0 ≤ d) (call : CallF) (hcall : call = evF prg0 N (d + 1)) (hC : CkOK (R := R) (ckOf (es_selfstabref01_All N)) call) : LoopOK (R := R) N call [0, 3, 4] k_selfstabref01_All_L0.mc (lp_selfstabref01_All N 0) :=
  loop_of hC (⟨⟨trivial, ⟨trivial, trivial⟩⟩, ⟨trivial, trivial⟩⟩) (la_selfstabref01_All_L0 N) (fun _ _ => rfl) (fun m x k => by kernel_rfl) (fun _ _ => rfl)

theorem ok_selfstabref01_All (N : Nat) : EntOK prg0 N 1 (e_selfstabref01_All N) :=
  ent_ok (es_selfstabref01_All_ok N) (f := k_selfstabref01_All) rfl ((prgF_68).trans (congrArg some k_selfstabref01_All_mf.symm)) rfl rfl (lp_selfstabref01_All N) (fun d hd call hcall hC => ⟨trivial, ⟨trivial, ⟨⟨trivial, ok_selfstabref01_All_L0 N d hd call hcall hC⟩, ⟨trivial, trivial⟩⟩⟩⟩) (fun x => by kernel_rfl)

-- selfstab/selfstabref01.Has
def k_selfstabref01_Has : KF := ⟨19, [.tmp 4], (
  .seq (.reg [⟨some 4, .mv (.c (Value.bool false)), none, none⟩] [0, 1])
  (.seq (.reg [⟨some 5, .mv (.t 1), none, none⟩,
    ⟨some 6, .bin .geq (.t 5) (.c (Value.int IntKind.i64 0)), none, none⟩,
    ⟨some 7, .mv (.t 6), none, none⟩,
    ⟨some 8, .mv (.t 1), some (7, true), none⟩,
    ⟨some 9, .bin .lss (.t 8) (.c (Value.int IntKind.i64 32)), some (7, true), none⟩,
    ⟨some 10, .pick (.t 7) (.t 9) (.c (Value.bool false)), none, none⟩,
    ⟨some 11, .mv (.t 10), none, none⟩,
    ⟨some 12, .mv (.t 0), some (11, true), none⟩,
    ⟨some 13, .mv (.t 1), some (11, true), none⟩,
    ⟨some 14, .conv .u64 (.t 13), some (11, true), none⟩,
    ⟨some 15, .bin .shr (.t 12) (.t 14), some (11, true), none⟩,
    ⟨some 16, .bin .and (.t 15) (.c (Value.int IntKind.u32 1)), some (11, true), none⟩,
    ⟨some 17, .bin .eql (.t 16) (.c (Value.int IntKind.u32 1)), some (11, true), none⟩,
    ⟨some 18, .pick (.t 11) (.t 17) (.c (Value.bool false)), none, none⟩,
    ⟨some 4, .mv (.t 18), none, none⟩] [4])
  (.ret))), true⟩

theorem k_selfstabref01_Has_mf : k_selfstabref01_Has.mf = m_selfstabref01_Has := by kernel_rfl

def lp_selfstabref01_Has {R : Type} (N : Nat) : Nat → KSt → KK R → Option R
  | _, _, _ => none

def s_selfstabref01_Has (N : Nat) (set_ : Int) (v : Int) : Option (Bool) :=
  sel (decide (v ≥ 0)) (
    sel (decide (v < 32)) (
      chk (!decide ((IntKind.u64.wrap v) < 0)) (
      some ((IntKind.u32.wrap (BitVec.ofInt (IntKind.u32).bits ((set_ : Int).fdiv (2 ^ (min ((IntKind.u64.wrap v) : Int).toNat (IntKind.u32).bits))) &&& BitVec.ofInt (IntKind.u32).bits 1).toNat) == 1))) (
      some false)) (
    some false)

def e_selfstabref01_Has (N : Nat) : Ent := ⟨83, [], [.cell (.int .u32), .cell (.int .i64)], .cell .bool, fun x => s_selfstabref01_Has N x.1 x.2.1, false⟩

def es_selfstabref01_Has (N : Nat) : List Ent := []
theorem es_selfstabref01_Has_ok (N : Nat) : EntsOK prg0 N 0 (es_selfstabref01_Has N) := trivial

theorem ok_selfstabref01_Has (N : Nat) : EntOK prg0 N 1 (e_selfstabref01_Has N) :=
  ent_ok (es_selfstabref01_Has_ok N) (f := k_selfstabref01_Has) rfl ((prgF_83).trans (congrArg some k_selfstabref01_Has_mf.symm)) rfl rfl (lp_selfstabref01_Has N) (fun d hd call hcall hC => ⟨trivial, ⟨trivial, trivial⟩⟩) (fun x => by kernel_rfl)

-- selfstab/selfstabref01.Neighbours
def k_selfstabref01_Neighbours_L1 : KC :=
  .seq (.seq (.reg [⟨some 18, .mv (.t 7), none, none⟩,
    ⟨some 19, .fadr 1 (.t 2), none, none⟩,
    ⟨some 20, .load (none) (.t 19), none, none⟩,
    ⟨some 21, .mv (.t 6), none, none⟩,
    ⟨some 22, .iadr 1 (.t 20) (.t 21), none, none⟩,
    ⟨some 23, .load (none) (.t 22), none, none⟩,
    ⟨some 24, .len 1 (.t 23), none, none⟩,
    ⟨some 25, .bin .lss (.t 18) (.t 24), none, none⟩] [1, 2, 5, 6, 7, 25])
  (.cond (.t 25) (.skip)
   (.exit 2)))
  (.seq (.block 3 (.seq (.reg [⟨some 28, .mv (.t 1), none, none⟩,
     ⟨some 29, .fadr 1 (.t 2), none, none⟩,
     ⟨some 30, .load (none) (.t 29), none, none⟩,
     ⟨some 31, .mv (.t 6), none, none⟩,
     ⟨some 32, .iadr 1 (.t 30) (.t 31), none, none⟩,
     ⟨some 33, .load (none) (.t 32), none, none⟩,
     ⟨some 34, .mv (.t 7), none, none⟩,
     ⟨some 35, .iadr 2 (.t 33) (.t 34), none, none⟩,
     ⟨some 36, .fadr 0 (.t 35), none, none⟩,
     ⟨some 37, .load (none) (.t 36), none, none⟩,
     ⟨some 38, .call 83 [.t 28, .t 37], none, none⟩] [1, 2, 5, 6, 7, 38])
   (.cond (.t 38) (.reg [⟨some 39, .mv (.t 5), none, none⟩,
      ⟨some 40, .mv (.t 6), none, none⟩,
      ⟨some 41, .conv .u64 (.t 40), none, none⟩,
      ⟨some 42, .bin .shl (.c (Value.int IntKind.u32 1)) (.t 41), none, none⟩,
      ⟨some 43, .bin .or (.t 39) (.t 42), none, none⟩,
      ⟨some 5, .mv (.t 43), none, none⟩] [1, 2, 5, 6, 7])
    (.skip))))
  (.reg [⟨some 26, .mv (.t 7), none, none⟩,
    ⟨some 27, .bin .add (.t 26) (.c (Value.int IntKind.i64 1)), none, none⟩,
    ⟨some 7, .mv (.t 27), none, none⟩] [1, 2, 5, 6, 7]))

def k_selfstabref01_Neighbours_L0 : KC :=
  .seq (.seq (.reg [⟨some 11, .mv (.t 6), none, none⟩,
    ⟨some 12, .fadr 1 (.t 2), none, none⟩,
    ⟨some 13, .load (none) (.t 12), none, none⟩,
    ⟨some 14, .len 1 (.t 13), none, none⟩,
    ⟨some 15, .bin .lss (.t 11) (.t 14), none, none⟩] [1, 2, 5, 6, 15])
  (.cond (.t 15) (.skip)
   (.exit 0)))
  (.seq (.block 1 (.seq (.reg [⟨some 7, .mv (.c (Value.int IntKind.i64 0)), none, none⟩] [1, 2, 5, 6, 7])
   (.block 2 (.loop 1 [1, 2, 5, 6, 7] k_selfstabref01_Neighbours_L1))))
  (.reg [⟨some 16, .mv (.t 6), none, none⟩,
    ⟨some 17, .bin .add (.t 16) (.c (Value.int IntKind.i64 1)), none, none⟩,
    ⟨some 6, .mv (.t 17), none, none⟩] [1, 2, 5, 6]))

def k_selfstabref01_Neighbours : KF := ⟨45, [.tmp 4], (
  .seq (.reg [⟨some 2, .box 2 (.t 0), none, none⟩,
    ⟨some 4, .mv (.c (Value.int IntKind.u32 0)), none, none⟩] [1, 2])
  (.seq (.seq (.reg [⟨some 8, .load (some 2) (.t 2), none, none⟩,
    ⟨some 9, .call 33 [.t 8], none, none⟩,
    ⟨some 10, .un .not (.t 9), none, none⟩] [1, 2, 10])
  (.cond (.t 10) (.seq (.reg [⟨some 4, .mv (.c (Value.int IntKind.u32 0)), none, none⟩] [4])
   (.ret))
   (.skip)))
  (.seq (.reg [⟨some 5, .mv (.c (Value.int IntKind.u32 0)), none, none⟩] [1, 2, 5])
  (.seq (.seq (.reg [⟨some 6, .mv (.c (Value.int IntKind.i64 0)), none, none⟩] [1, 2, 5, 6])
  (.block 0 (.loop 0 [1, 2, 5, 6] k_selfstabref01_Neighbours_L0)))
  (.seq (.reg [⟨some 44, .mv (.t 5), none, none⟩,
    ⟨some 4, .mv (.t 44), none, none⟩] [4])
  (.ret)))))), true⟩

theorem k_selfstabref01_Neighbours_mf : k_selfstabref01_Neighbours.mf = m_selfstabref01_Neighbours := by kernel_rfl

def sh_selfstabref01_Neighbours_L1 : SH := ⟨[(1, .cell (.int .u32)), (2, .rp (.pair (.arr (.int .i64)) (.arr (.arr (.pair (.int .i64) (.int .i64)))))), (5, .cell (.int .u32)), (6, .cell (.int .i64)), (7, .cell (.int .i64))], []⟩
def s_selfstabref01_Neighbours_L1 {R : Type} (N : Nat) (set_2 : Int) (g1_2 : Arr Int) (g2_2 : Arr (Arr (Int × Int))) (v1 : Int) (k0 : Int → Int → Option R) : Nat → Int → Int → Option R
  | 0, _, _ => none
  | m + 1, out1, i =>
    chk (inr v1 g2_2.n) (
    sel (decide (i < ((((g2_2.f v1.toNat).n : Nat) : Int)))) (
      chk (inr v1 g2_2.n) (
      chk (inr i (g2_2.f v1.toNat).n) (
      kO? (s_selfstabref01_Has N set_2 (((g2_2.f v1.toNat).f i.toNat).1)) (fun r2 =>
      sel (r2) (
        chk (!decide ((IntKind.u64.wrap v1) < 0)) (
        s_selfstabref01_Neighbours_L1 N set_2 g1_2 g2_2 v1 k0 m (IntKind.u32.wrap (BitVec.ofInt (IntKind.u32).bits out1 ||| BitVec.ofInt (IntKind.u32).bits (IntKind.u32.wrap (1 * 2 ^ (min ((IntKind.u64.wrap v1) : Int).toNat (IntKind.u32).bits)))).toNat) (IntKind.i64.wrap (i + 1)))) (
        s_selfstabref01_Neighbours_L1 N set_2 g1_2 g2_2 v1 k0 m out1 (IntKind.i64.wrap (i + 1))))))) (
      k0 out1 i))

def sh_selfstabref01_Neighbours_L0 : SH := ⟨[(1, .cell (.int .u32)), (2, .rp (.pair (.arr (.int .i64)) (.arr (.arr (.pair (.int .i64) (.int .i64)))))), (5, .cell (.int .u32)), (6, .cell (.int .i64))], []⟩
def s_selfstabref01_Neighbours_L0 {R : Type} (N : Nat) (set_1 : Int) (g1_1 : Arr Int) (g2_1 : Arr (Arr (Int × Int))) (k0 : Int → Int → Option R) : Nat → Int → Int → Option R
  | 0, _, _ => none
  | m + 1, out, v =>
    sel (decide (v < (((g2_1.n : Nat) : Int)))) (
      s_selfstabref01_Neighbours_L1 N set_1 g1_1 g2_1 v
        (fun o0_1 o1_1 =>
          s_selfstabref01_Neighbours_L0 N set_1 g1_1 g2_1 k0 m o0_1 (IntKind.i64.wrap (v + 1)))
        N out 0) (
      k0 out v)

def la_selfstabref01_Neighbours_L1 {R : Type} (N m : Nat) (y : sh_selfstabref01_Neighbours_L1.ty) (k : KK R) : Option R :=
  s_selfstabref01_Neighbours_L1 N y.1.1 y.1.2.1.1 y.1.2.1.2 y.1.2.2.2.1 (fun o0 o1 => k (.exit 2) ⟨[(1, .i .u32 y.1.1), (2, .rp [.ro (.int .i64) y.1.2.1.1, .ro (.arr (.pair (.int .i64) (.int .i64))) y.1.2.1.2]), (5, .i .u32 o0), (6, .i .i64 y.1.2.2.2.1), (7, .i .i64 o1), (25, .b false)], []⟩) m y.1.2.2.1 y.1.2.2.2.2.1
def la_selfstabref01_Neighbours_L0 {R : Type} (N m : Nat) (y : sh_selfstabref01_Neighbours_L0.ty) (k : KK R) : Option R :=
  s_selfstabref01_Neighbours_L0 N y.1.1 y.1.2.1.1 y.1.2.1.2 (fun o0 o1 => k (.exit 0) ⟨[(1, .i .u32 y.1.1), (2, .rp [.ro (.int .i64) y.1.2.1.1, .ro (.arr (.pair (.int .i64) (.int .i64))) y.1.2.1.2]), (5, .i .u32 o0), (6, .i .i64 o1), (15, .b false)], []⟩) m y.1.2.2.1 y.1.2.2.2.1
def lp_selfstabref01_Neighbours {R : Type} (N : Nat) : Nat → KSt → KK R → Option R
  | 0, st, k => sh_selfstabref01_Neighbours_L0.dec { tmps := kkeep [1, 2, 5, 6] st.tmps, obs := st.obs } fun y => la_selfstabref01_Neighbours_L0 N N y k
  | 1, st, k => sh_selfstabref01_Neighbours_L1.dec { tmps := kkeep [1, 2, 5, 6, 7] st.tmps, obs := st.obs } fun y => la_selfstabref01_Neighbours_L1 N N y k
  | _, _, _ => none

def s_selfstabref01_Neighbours (N : Nat) (g1 : Arr Int) (g2 : Arr (Arr (Int × Int))) (set_ : Int) : Option (Int) :=
  kO? (s_selfstabref01_Valid N g1 g2) (fun r =>
  sel (!r) (
    some 0) (
    s_selfstabref01_Neighbours_L0 N set_ g1 g2
      (fun o0_2 o1_2 =>
        some o0_2)
      N 0 0))

def e_selfstabref01_Neighbours (N : Nat) : Ent := ⟨67, [], [.agg (.pair (.arr (.int .i64)) (.arr (.arr (.pair (.int .i64) (.int .i64))))), .cell (.int .u32)], .cell (.int .u32), fun x => s_selfstabref01_Neighbours N x.1.1 x.1.2 x.2.1, false⟩

def es_selfstabref01_Neighbours (N : Nat) : List Ent := [e_selfstabref01_Valid N, e_selfstabref01_Has N]
theorem es_selfstabref01_Neighbours_ok (N : Nat) : EntsOK prg0 N 3 (es_selfstabref01_Neighbours N) := ⟨(ok_selfstabref01_Valid N).mono (by decide), (ok_selfstabref01_Has N).mono (by decide), trivial⟩

theorem ok_selfstabref01_Neighbours_L1 {R : Type} (N d : Nat) (hd : 3 ≤ d) (call : CallF) (hcall : call = evF prg0 N (d + 1)) (hC : CkOK (R := R) (ckOf (es_selfstabref01_Neighbours N)) call) : LoopOK (R := R) N call [1, 2, 5, 6, 7] k_selfstabref01_Neighbours_L1.mc (lp_selfstabref01_Neighbours N 1) :=
  loop_of hC (⟨⟨trivial, ⟨trivial, trivial⟩⟩, ⟨⟨trivial, ⟨trivial, trivial⟩⟩, trivial⟩⟩) (la_selfstabref01_Neighbours_L1 N) (fun _ _ => rfl) (fun m x k => by kernel_rfl) (fun _ _ => rfl)

theorem ok_selfstabref01_Neighbours_L0 {R : Type} (N d : Nat) (hd : 3 ≤ d) (call : CallF) (hcall : call = evF prg0 N (d + 1)) (hC : CkOK (R := R) (ckOf (es_selfstabref01_Neighbours N)) call) : LoopOK (R := R) N call [1, 2, 5, 6] k_selfstabref01_Neighbours_L0.mc (lp_selfstabref01_Neighbours N 0) :=
  loop_of hC (⟨⟨trivial, ⟨trivial, trivial⟩⟩, ⟨⟨trivial, ok_selfstabref01_Neighbours_L1 N d hd call hcall hC⟩, trivial⟩⟩) (la_selfstabref01_Neighbours_L0 N) (fun _ _ => rfl) (fun m x k => by kernel_rfl) (fun _ _ => rfl)

theorem ok_selfstabref01_Neighbours (N : Nat) : EntOK prg0 N 4 (e_selfstabref01_Neighbours N) :=
  ent_ok (es_selfstabref01_Neighbours_ok N) (f := k_selfstabref01_Neighbours) rfl ((prgF_67).trans (congrArg some k_selfstabref01_Neighbours_mf.symm)) rfl rfl (lp_selfstabref01_Neighbours N) (fun d hd call hcall hC => ⟨trivial, ⟨⟨trivial, ⟨⟨trivial, trivial⟩, trivial⟩⟩, ⟨trivial, ⟨⟨trivial, ok_selfstabref01_Neighbours_L0 N d hd call hcall hC⟩, ⟨trivial, trivial⟩⟩⟩⟩⟩) (fun x => by kernel_rfl)

-- selfstab/selfstabref01.Independent
def k_selfstabref01_Independent : KF := ⟨23, [.tmp 4], (
  .seq (.reg [⟨some 2, .box 2 (.t 0), none, none⟩,
    ⟨some 4, .mv (.c (Value.bool false)), none, none⟩] [1, 2])
  (.seq (.seq (.reg [⟨some 5, .load (some 2) (.t 2), none, none⟩,
    ⟨some 6, .call 33 [.t 5], none, none⟩,
    ⟨some 7, .un .not (.t 6), none, none⟩,
    ⟨some 8, .mv (.t 7), none, none⟩,
    ⟨some 9, .mv (.t 1), some (8, false), none⟩,
    ⟨some 10, .fadr 1 (.t 2), some (8, false), none⟩,
    ⟨some 11, .load (none) (.t 10), some (8, false), none⟩,
    ⟨some 12, .len 1 (.t 11), some (8, false), none⟩,
    ⟨some 13, .call 68 [.t 12], some (8, false), none⟩,
    ⟨some 14, .bin .andNot (.t 9) (.t 13), some (8, false), none⟩,
    ⟨some 15, .bin .neq (.t 14) (.c (Value.int IntKind.u32 0)), some (8, false), none⟩,
    ⟨some 16, .pick (.t 8) (.c (Value.bool true)) (.t 15), none, none⟩] [1, 2, 16])
  (.cond (.t 16) (.seq (.reg [⟨some 4, .mv (.c (Value.bool false)), none, none⟩] [4])
   (.ret))
   (.skip)))
  (.seq (.reg [⟨some 17, .load (some 2) (.t 2), none, none⟩,
    ⟨some 18, .mv (.t 1), none, none⟩,
    ⟨some 19, .call 67 [.t 17, .t 18], none, none⟩,
    ⟨some 20, .mv (.t 1), none, none⟩,
    ⟨some 21, .bin .and (.t 19) (.t 20), none, none⟩,
    ⟨some 22, .bin .eql (.t 21) (.c (Value.int IntKind.u32 0)), none, none⟩,
    ⟨some 4, .mv (.t 22), none, none⟩] [4])
  (.ret)))), true⟩

theorem k_selfstabref01_Independent_mf : k_selfstabref01_Independent.mf = m_selfstabref01_Independent := by kernel_rfl

def lp_selfstabref01_Independent {R : Type} (N : Nat) : Nat → KSt → KK R → Option R
  | _, _, _ => none

def s_selfstabref01_Independent (N : Nat) (g1 : Arr Int) (g2 : Arr (Arr (Int × Int))) (set_ : Int) : Option (Bool) :=
  kO? (s_selfstabref01_Valid N g1 g2) (fun r =>
  sel (!r) (
    some false) (
    kO? (s_selfstabref01_All N (((g2.n : Nat) : Int))) (fun r1 =>
    sel ((IntKind.u32.wrap (BitVec.ofInt (IntKind.u32).bits set_ &&& ~~~ BitVec.ofInt (IntKind.u32).bits r1).toNat) != 0) (
      some false) (
      kO? (s_selfstabref01_Neighbours N g1 g2 set_) (fun r2 =>
      some ((IntKind.u32.wrap (BitVec.ofInt (IntKind.u32).bits r2 &&& BitVec.ofInt (IntKind.u32).bits set_).toNat) == 0))))))

def e_selfstabref01_Independent (N : Nat) : Ent := ⟨66, [], [.agg (.pair (.arr (.int .i64)) (.arr (.arr (.pair (.int .i64) (.int .i64))))), .cell (.int .u32)], .cell .bool, fun x => s_selfstabref01_Independent N x.1.1 x.1.2 x.2.1, false⟩

def es_selfstabref01_Independent (N : Nat) : List Ent := [e_selfstabref01_Valid N, e_selfstabref01_All N, e_selfstabref01_Neighbours N]
theorem es_selfstabref01_Independent_ok (N : Nat) : EntsOK prg0 N 4 (es_selfstabref01_Independent N) := ⟨(ok_selfstabref01_Valid N).mono (by decide), (ok_selfstabref01_All N).mono (by decide), (ok_selfstabref01_Neighbours N).mono (by decide), trivial⟩

theorem ok_selfstabref01_Independent (N : Nat) : EntOK prg0 N 5 (e_selfstabref01_Independent N) :=
  ent_ok (es_selfstabref01_Independent_ok N) (f := k_selfstabref01_Independent) rfl ((prgF_66).trans (congrArg some k_selfstabref01_Independent_mf.symm)) rfl rfl (lp_selfstabref01_Independent N) (fun d hd call hcall hC => ⟨trivial, ⟨⟨trivial, ⟨⟨trivial, trivial⟩, trivial⟩⟩, ⟨trivial, trivial⟩⟩⟩) (fun x => by kernel_rfl)

-- selfstab/selfstabref31.Maximal
def k_selfstabref31_Maximal : KF := ⟨20, [.tmp 4], (
  .seq (.reg [⟨some 2, .box 2 (.t 0), none, none⟩,
    ⟨some 4, .mv (.c (Value.bool false)), none, none⟩] [1, 2])
  (.seq (.reg [⟨some 5, .load (some 2) (.t 2), none, none⟩,
    ⟨some 6, .mv (.t 1), none, none⟩,
    ⟨some 7, .call 66 [.t 5, .t 6], none, none⟩,
    ⟨some 8, .mv (.t 7), none, none⟩,
    ⟨some 9, .mv (.t 1), some (8, true), none⟩,
    ⟨some 10, .load (some 2) (.t 2), some (8, true), none⟩,
    ⟨some 11, .mv (.t 1), some (8, true), none⟩,
    ⟨some 12, .call 67 [.t 10, .t 11], some (8, true), none⟩,
    ⟨some 13, .bin .or (.t 9) (.t 12), some (8, true), none⟩,
    ⟨some 14, .fadr 1 (.t 2), some (8, true), none⟩,
    ⟨some 15, .load (none) (.t 14), some (8, true), none⟩,
    ⟨some 16, .len 1 (.t 15), some (8, true), none⟩,
    ⟨some 17, .call 68 [.t 16], some (8, true), none⟩,
    ⟨some 18, .bin .eql (.t 13) (.t 17), some (8, true), none⟩,
    ⟨some 19, .pick (.t 8) (.t 18) (.c (Value.bool false)), none, none⟩,
    ⟨some 4, .mv (.t 19), none, none⟩] [4])
  (.ret))), true⟩

theorem k_selfstabref31_Maximal_mf : k_selfstabref31_Maximal.mf = m_selfstabref31_Maximal := by kernel_rfl

def lp_selfstabref31_Maximal {R : Type} (N : Nat) : Nat → KSt → KK R → Option R
  | _, _, _ => none

def s_selfstabref31_Maximal (N : Nat) (g1 : Arr Int) (g2 : Arr (Arr (Int × Int))) (set_ : Int) : Option (Bool) :=
  kO? (s_selfstabref01_Independent N g1 g2 set_) (fun r =>
  sel (r) (
    kO? (s_selfstabref01_Neighbours N g1 g2 set_) (fun r1 =>
    kO? (s_selfstabref01_All N (((g2.n : Nat) : Int))) (fun r2 =>
    some ((IntKind.u32.wrap (BitVec.ofInt (IntKind.u32).bits set_ ||| BitVec.ofInt (IntKind.u32).bits r1).toNat) == r2)))) (
    some false))

def e_selfstabref31_Maximal (N : Nat) : Ent := ⟨40, [], [.agg (.pair (.arr (.int .i64)) (.arr (.arr (.pair (.int .i64) (.int .i64))))), .cell (.int .u32)], .cell .bool, fun x => s_selfstabref31_Maximal N x.1.1 x.1.2 x.2.1, false⟩

def es_selfstabref31_Maximal (N : Nat) : List Ent := [e_selfstabref01_Independent N, e_selfstabref01_Neighbours N, e_selfstabref01_All N]
theorem es_selfstabref31_Maximal_ok (N : Nat) : EntsOK prg0 N 5 (es_selfstabref31_Maximal N) := ⟨(ok_selfstabref01_Independent N).mono (by decide), (ok_selfstabref01_Neighbours N).mono (by decide), (ok_selfstabref01_All N).mono (by decide), trivial⟩

theorem ok_selfstabref31_Maximal (N : Nat) : EntOK prg0 N 6 (e_selfstabref31_Maximal N) :=
  ent_ok (es_selfstabref31_Maximal_ok N) (f := k_selfstabref31_Maximal) rfl ((prgF_40).trans (congrArg some k_selfstabref31_Maximal_mf.symm)) rfl rfl (lp_selfstabref31_Maximal N) (fun d hd call hcall hC => ⟨trivial, ⟨trivial, trivial⟩⟩) (fun x => by kernel_rfl)

-- selfstab/selfstabref34.Legit
def k_selfstabref34_Legit_L1 : KC :=
  .seq (.seq (.reg [⟨some 38, .mv (.t 7), none, none⟩,
    ⟨some 39, .bin .geq (.t 38) (.c (Value.int IntKind.i64 0)), none, none⟩,
    ⟨some 40, .mv (.t 39), none, none⟩,
    ⟨some 41, .mv (.t 1), some (40, true), none⟩,
    ⟨some 42, .mv (.t 5), some (40, true), none⟩,
    ⟨some 43, .iadr 1 (.t 41) (.t 42), some (40, true), none⟩,
    ⟨some 44, .load (none) (.t 43), some (40, true), none⟩,
    ⟨some 45, .iadr 1 (.t 44) (.c (Value.int IntKind.i64 0)), some (40, true), none⟩,
    ⟨some 46, .load (none) (.t 45), some (40, true), none⟩,
    ⟨some 47, .bin .eql (.t 46) (.c (Value.int IntKind.i64 0)), some (40, true), none⟩,
    ⟨some 48, .pick (.t 40) (.t 47) (.c (Value.bool false)), none, none⟩] [1, 2, 5, 6, 7, 48])
  (.cond (.t 48) (.skip)
   (.exit 2)))
  (.seq (.block 3 (.seq (.reg [⟨some 51, .mv (.t 1), none, none⟩,
     ⟨some 52, .fadr 1 (.t 2), none, none⟩,
     ⟨some 53, .load (none) (.t 52), none, none⟩,
     ⟨some 54, .mv (.t 5), none, none⟩,
     ⟨some 55, .iadr 1 (.t 53) (.t 54), none, none⟩,
     ⟨some 56, .load (none) (.t 55), none, none⟩,
     ⟨some 57, .mv (.t 7), none, none⟩,
     ⟨some 58, .iadr 2 (.t 56) (.t 57), none, none⟩,
     ⟨some 59, .fadr 0 (.t 58), none, none⟩,
     ⟨some 60, .load (none) (.t 59), none, none⟩,
     ⟨some 61, .iadr 1 (.t 51) (.t 60), none, none⟩,
     ⟨some 62, .load (none) (.t 61), none, none⟩,
     ⟨some 63, .iadr 1 (.t 62) (.c (Value.int IntKind.i64 0)), none, none⟩,
     ⟨some 64, .load (none) (.t 63), none, none⟩,
     ⟨some 65, .bin .eql (.t 64) (.c (Value.int IntKind.i64 1)), none, none⟩] [1, 2, 5, 6, 7, 65])
   (.cond (.t 65) (.reg [⟨some 66, .mv (.t 7), none, none⟩,
      ⟨some 6, .mv (.t 66), none, none⟩] [1, 2, 5, 6, 7])
    (.skip))))
  (.reg [⟨some 49, .mv (.t 7), none, none⟩,
    ⟨some 50, .bin .sub (.t 49) (.c (Value.int IntKind.i64 1)), none, none⟩,
    ⟨some 7, .mv (.t 50), none, none⟩] [1, 2, 5, 6, 7]))

def k_selfstabref34_Legit_L0 : KC :=
  .seq (.seq (.reg [⟨some 25, .mv (.t 5), none, none⟩,
    ⟨some 26, .mv (.t 1), none, none⟩,
    ⟨some 27, .len 1 (.t 26), none, none⟩,
    ⟨some 28, .bin .lss (.t 25) (.t 27), none, none⟩] [1, 2, 5, 28])
  (.cond (.t 28) (.skip)
   (.exit 0)))
  (.seq (.block 1 (.seq (.reg [⟨some 6, .mv (.c (Value.int IntKind.i64 (-1))), none, none⟩] [1, 2, 5, 6])
   (.seq (.seq (.reg [⟨some 31, .fadr 1 (.t 2), none, none⟩,
     ⟨some 32, .load (none) (.t 31), none, none⟩,
     ⟨some 33, .mv (.t 5), none, none⟩,
     ⟨some 34, .iadr 1 (.t 32) (.t 33), none, none⟩,
     ⟨some 35, .load (none) (.t 34), none, none⟩,
     ⟨some 36, .len 1 (.t 35), none, none⟩,
     ⟨some 37, .bin .sub (.t 36) (.c (Value.int IntKind.i64 1)), none, none⟩,
     ⟨some 7, .mv (.t 37), none, none⟩] [1, 2, 5, 6, 7])
   (.block 2 (.loop 1 [1, 2, 5, 6, 7] k_selfstabref34_Legit_L1)))
   (.seq (.reg [⟨some 67, .mv (.t 1), none, none⟩,
     ⟨some 68, .mv (.t 5), none, none⟩,
     ⟨some 69, .iadr 1 (.t 67) (.t 68), none, none⟩,
     ⟨some 70, .load (none) (.t 69), none, none⟩,
     ⟨some 71, .iadr 1 (.t 70) (.c (Value.int IntKind.i64 1)), none, none⟩,
     ⟨some 72, .load (none) (.t 71), none, none⟩,
     ⟨some 73, .mv (.t 6), none, none⟩,
     ⟨some 74, .bin .neq (.t 72) (.t 73), none, none⟩] [1, 2, 5, 74])
   (.cond (.t 74) (.seq (.reg [⟨some 4, .mv (.c (Value.bool false)), none, none⟩] [4])
    (.ret))
    (.skip))))))
  (.reg [⟨some 29, .mv (.t 5), none, none⟩,
    ⟨some 30, .bin .add (.t 29) (.c (Value.int IntKind.i64 1)), none, none⟩,
    ⟨some 5, .mv (.t 30), none, none⟩] [1, 2, 5]))

def k_selfstabref34_Legit : KF := ⟨75, [.tmp 4], (
  .seq (.reg [⟨some 2, .box 2 (.t 0), none, none⟩,
    ⟨some 4, .mv (.c (Value.bool false)), none, none⟩] [1, 2])
  (.seq (.seq (.reg [⟨some 8, .load (some 2) (.t 2), none, none⟩,
    ⟨some 9, .call 4 [.t 8], none, none⟩,
    ⟨some 10, .un .not (.t 9), none, none⟩,
    ⟨some 11, .mv (.t 10), none, none⟩,
    ⟨some 12, .load (some 2) (.t 2), some (11, false), none⟩,
    ⟨some 13, .mv (.t 1), some (11, false), none⟩,
    ⟨some 14, .call 37 [], some (11, false), none⟩,
    ⟨some 15, .call 38 [.t 12, .t 13, .t 14], some (11, false), none⟩,
    ⟨some 16, .un .not (.t 15), some (11, false), none⟩,
    ⟨some 17, .pick (.t 11) (.c (Value.bool true)) (.t 16), none, none⟩,
    ⟨some 18, .mv (.t 17), none, none⟩,
    ⟨some 19, .load (some 2) (.t 2), some (18, false), none⟩,
    ⟨some 20, .mv (.t 1), some (18, false), none⟩,
    ⟨some 21, .call 39 [.t 20, .c (Value.int IntKind.i64 0)], some (18, false), none⟩,
    ⟨some 22, .call 40 [.t 19, .t 21], some (18, false), none⟩,
    ⟨some 23, .un .not (.t 22), some (18, false), none⟩,
    ⟨some 24, .pick (.t 18) (.c (Value.bool true)) (.t 23), none, none⟩] [1, 2, 24])
  (.cond (.t 24) (.seq (.reg [⟨some 4, .mv (.c (Value.bool false)), none, none⟩] [4])
   (.ret))
   (.skip)))
  (.seq (.seq (.reg [⟨some 5, .mv (.c (Value.int IntKind.i64 0)), none, none⟩] [1, 2, 5])
  (.block 0 (.loop 0 [1, 2, 5] k_selfstabref34_Legit_L0)))
  (.seq (.reg [⟨some 4, .mv (.c (Value.bool true)), none, none⟩] [4])
  (.ret))))), true⟩

theorem k_selfstabref34_Legit_mf : k_selfstabref34_Legit.mf = m_selfstabref34_Legit := by kernel_rfl

def sh_selfstabref34_Legit_L1 : SH := ⟨[(1, .cell (.arr (.arr (.int .i64)))), (2, .rp (.pair (.arr (.int .i64)) (.arr (.arr (.pair (.int .i64) (.int .i64)))))), (5, .cell (.int .i64)), (6, .cell (.int .i64)), (7, .cell (.int .i64))], []⟩
def s_selfstabref34_Legit_L1 {R : Type} (N : Nat) (c2 : Arr (Arr Int)) (g1_2 : Arr Int) (g2_2 : Arr (Arr (Int × Int))) (v1 : Int) (k0 : Int → Int → Option R) : Nat → Int → Int → Option R
  | 0, _, _ => none
  | m + 1, first, i =>
    sel (decide (i ≥ 0)) (
      chk (inr v1 c2.n) (
      chk (inr 0 (c2.f v1.toNat).n) (
      sel (((c2.f v1.toNat).f ((0 : Int).toNat)) == 0) (
        chk (inr v1 g2_2.n) (
        chk (inr i (g2_2.f v1.toNat).n) (
        chk (inr (((g2_2.f v1.toNat).f i.toNat).1) c2.n) (
        chk (inr 0 (c2.f ((((g2_2.f v1.toNat).f i.toNat).1).toNat)).n) (
        sel (((c2.f ((((g2_2.f v1.toNat).f i.toNat).1).toNat)).f ((0 : Int).toNat)) == 1) (
          s_selfstabref34_Legit_L1 N c2 g1_2 g2_2 v1 k0 m i (IntKind.i64.wrap (i - 1))) (
          s_selfstabref34_Legit_L1 N c2 g1_2 g2_2 v1 k0 m first (IntKind.i64.wrap (i - 1)))))))) (
        k0 first i)))) (
      k0 first i)

def sh_selfstabref34_Legit_L0 : SH := ⟨[(1, .cell (.arr (.arr (.int .i64)))), (2, .rp (.pair (.arr (.int .i64)) (.arr (.arr (.pair (.int .i64) (.int .i64)))))), (5, .cell (.int .i64))], []⟩
def s_selfstabref34_Legit_L0 {R : Type} (N : Nat) (c1 : Arr (Arr Int)) (g1_1 : Arr Int) (g2_1 : Arr (Arr (Int × Int))) (k0 : Option R) (k1 : Int → Option R) : Nat → Int → Option R
  | 0, _ => none
  | m + 1, v =>
    sel (decide (v < (((c1.n : Nat) : Int)))) (
      chk (inr v g2_1.n) (
      s_selfstabref34_Legit_L1 N c1 g1_1 g2_1 v
        (fun o0_1 o1_1 =>
          chk (inr v c1.n) (
          chk (inr 1 (c1.f v.toNat).n) (
          sel (((c1.f v.toNat).f ((1 : Int).toNat)) != o0_1) (
            k0) (
            s_selfstabref34_Legit_L0 N c1 g1_1 g2_1 k0 k1 m (IntKind.i64.wrap (v + 1))))))
        N (-1) (IntKind.i64.wrap (((((g2_1.f v.toNat).n : Nat) : Int)) - 1)))) (
      k1 v)

def la_selfstabref34_Legit_L1 {R : Type} (N m : Nat) (y : sh_selfstabref34_Legit_L1.ty) (k : KK R) : Option R :=
  s_selfstabref34_Legit_L1 N y.1.1 y.1.2.1.1 y.1.2.1.2 y.1.2.2.1 (fun o0 o1 => k (.exit 2) ⟨[(1, .ro (.arr (.int .i64)) y.1.1), (2, .rp [.ro (.int .i64) y.1.2.1.1, .ro (.arr (.pair (.int .i64) (.int .i64))) y.1.2.1.2]), (5, .i .i64 y.1.2.2.1), (6, .i .i64 o0), (7, .i .i64 o1), (48, .b false)], []⟩) m y.1.2.2.2.1 y.1.2.2.2.2.1
def la_selfstabref34_Legit_L0 {R : Type} (N m : Nat) (y : sh_selfstabref34_Legit_L0.ty) (k : KK R) : Option R :=
  s_selfstabref34_Legit_L0 N y.1.1 y.1.2.1.1 y.1.2.1.2 (k .ret ⟨[(4, .b false)], []⟩)
    (fun o0 => k (.exit 0) ⟨[(1, .ro (.arr (.int .i64)) y.1.1), (2, .rp [.ro (.int .i64) y.1.2.1.1, .ro (.arr (.pair (.int .i64) (.int .i64))) y.1.2.1.2]), (5, .i .i64 o0), (28, .b false)], []⟩) m y.1.2.2.1
def lp_selfstabref34_Legit {R : Type} (N : Nat) : Nat → KSt → KK R → Option R
  | 0, st, k => sh_selfstabref34_Legit_L0.dec { tmps := kkeep [1, 2, 5] st.tmps, obs := st.obs } fun y => la_selfstabref34_Legit_L0 N N y k
  | 1, st, k => sh_selfstabref34_Legit_L1.dec { tmps := kkeep [1, 2, 5, 6, 7] st.tmps, obs := st.obs } fun y => la_selfstabref34_Legit_L1 N N y k
  | _, _, _ => none

def s_selfstabref34_Legit (N : Nat) (g1 : Arr Int) (g2 : Arr (Arr (Int × Int))) (c : Arr (Arr Int)) : Option (Bool) :=
  kO? (s_selfstabref34_Fit N g1 g2) (fun r =>
  sel (!r) (
    some false) (
    kO? (s_selfstabref34_Vars N) (fun r1 =>
    kO? (s_selfstabref23_Config N g1 g2 c r1) (fun r2 =>
    sel (!r2) (
      some false) (
      kO? (s_selfstabref31_Ones N c 0) (fun r3 =>
      kO? (s_selfstabref31_Maximal N g1 g2 r3) (fun r4 =>
      sel (!r4) (
        some false) (
        s_selfstabref34_Legit_L0 N c g1 g2
          (
            some false)
          (fun o0_2 =>
            some true)
          N 0))))))))

def e_selfstabref34_Legit (N : Nat) : Ent := ⟨6, [], [.agg (.pair (.arr (.int .i64)) (.arr (.arr (.pair (.int .i64) (.int .i64))))), .cell (.arr (.arr (.int .i64)))], .cell .bool, fun x => s_selfstabref34_Legit N x.1.1 x.1.2 x.2.1, false⟩

def es_selfstabref34_Legit (N : Nat) : List Ent := [e_selfstabref34_Fit N, e_selfstabref34_Vars N, e_selfstabref23_Config N, e_selfstabref31_Ones N, e_selfstabref31_Maximal N]
theorem es_selfstabref34_Legit_ok (N : Nat) : EntsOK prg0 N 6 (es_selfstabref34_Legit N) := ⟨(ok_selfstabref34_Fit N).mono (by decide), (ok_selfstabref34_Vars N).mono (by decide), (ok_selfstabref23_Config N).mono (by decide), (ok_selfstabref31_Ones N).mono (by decide), (ok_selfstabref31_Maximal N).mono (by decide), trivial⟩

theorem ok_selfstabref34_Legit_L1 {R : Type} (N d : Nat) (hd : 6 ≤ d) (call : CallF) (hcall : call = evF prg0 N (d + 1)) (hC : CkOK (R := R) (ckOf (es_selfstabref34_Legit N)) call) : LoopOK (R := R) N call [1, 2, 5, 6, 7] k_selfstabref34_Legit_L1.mc (lp_selfstabref34_Legit N 1) :=
  loop_of hC (⟨⟨trivial, ⟨trivial, trivial⟩⟩, ⟨⟨trivial, ⟨trivial, trivial⟩⟩, trivial⟩⟩) (la_selfstabref34_Legit_L1 N) (fun _ _ => rfl) (fun m x k => by kernel_rfl) (fun _ _ => rfl)

theorem ok_selfstabref34_Legit_L0 {R : Type} (N d : Nat) (hd : 6 ≤ d) (call : CallF) (hcall : call = evF prg0 N (d + 1)) (hC : CkOK (R := R) (ckOf (es_selfstabref34_Legit N)) call) : LoopOK (R := R) N call [1, 2, 5] k_selfstabref34_Legit_L0.mc (lp_selfstabref34_Legit N 0) :=
  loop_of hC (⟨⟨trivial, ⟨trivial, trivial⟩⟩, ⟨⟨trivial, ⟨⟨trivial, ok_selfstabref34_Legit_L1 N d hd call hcall hC⟩, ⟨trivial, ⟨⟨trivial, trivial⟩, trivial⟩⟩⟩⟩, trivial⟩⟩) (la_selfstabref34_Legit_L0 N) (fun _ _ => rfl) (fun m x k => by kernel_rfl) (fun _ _ => rfl)

theorem ok_selfstabref34_Legit (N : Nat) : EntOK prg0 N 7 (e_selfstabref34_Legit N) :=
  ent_ok (es_selfstabref34_Legit_ok N) (f := k_selfstabref34_Legit) rfl ((prgF_6).trans (congrArg some k_selfstabref34_Legit_mf.symm)) rfl rfl (lp_selfstabref34_Legit N) (fun d hd call hcall hC => ⟨trivial, ⟨⟨trivial, ⟨⟨trivial, trivial⟩, trivial⟩⟩, ⟨⟨trivial, ok_selfstabref34_Legit_L0 N d hd call hcall hC⟩, ⟨trivial, trivial⟩⟩⟩⟩) (fun x => by kernel_rfl)

-- selfstab/graph.Size
def k_graph_Size_L0 : KC :=
  .seq (.reg [⟨some 13, .bin .lss (.t 12) (.t 11), none, none⟩] [1, 3, 10, 11, 12, 13])
  (.seq (.cond (.t 13) (.skip)
   (.exit 0))
  (.seq (.block 1 (.seq (.reg [⟨some 14, .iadr 1 (.t 10) (.t 12), none, none⟩,
     ⟨some 15, .load (none) (.t 14), none, none⟩,
     ⟨some 5, .mv (.t 15), none, none⟩] [1, 3, 5, 10, 11, 12])
   (.reg [⟨some 16, .mv (.t 3), none, none⟩,
     ⟨some 17, .mv (.t 5), none, none⟩,
     ⟨some 18, .len 1 (.t 17), none, none⟩,
     ⟨some 19, .bin .add (.t 16) (.t 18), none, none⟩,
     ⟨some 3, .mv (.t 19), none, none⟩] [1, 3, 10, 11, 12])))
  (.reg [⟨some 20, .bin .add (.t 12) (.c (Value.int IntKind.i64 1)), none, none⟩,
    ⟨some 12, .mv (.t 20), none, none⟩] [1, 3, 10, 11, 12])))

def k_graph_Size : KF := ⟨26, [.tmp 2, .tmp 3], (
  .seq (.reg [⟨some 1, .box 2 (.t 0), none, none⟩,
    ⟨some 2, .mv (.c (Value.int IntKind.i64 0)), none, none⟩,
    ⟨some 3, .mv (.c (Value.int IntKind.i64 0)), none, none⟩] [1, 3])
  (.seq (.seq (.reg [⟨some 6, .load (some 2) (.t 1), none, none⟩,
    ⟨some 7, .call 32 [.t 6], none, none⟩,
    ⟨some 8, .un .not (.t 7), none, none⟩] [1, 3, 8])
  (.cond (.t 8) (.seq (.reg [⟨some 2, .mv (.c (Value.int IntKind.i64 0)), none, none⟩,
     ⟨some 3, .mv (.c (Value.int IntKind.i64 0)), none, none⟩] [2, 3])
   (.ret))
   (.skip)))
  (.seq (.seq (.reg [⟨some 9, .fadr 1 (.t 1), none, none⟩,
    ⟨some 10, .load (none) (.t 9), none, none⟩,
    ⟨some 11, .len 1 (.t 10), none, none⟩,
    ⟨some 12, .mv (.c (Value.int IntKind.i64 0)), none, none⟩] [1, 3, 10, 11, 12])
  (.block 0 (.loop 0 [1, 3, 10, 11, 12] k_graph_Size_L0)))
  (.seq (.reg [⟨some 21, .fadr 1 (.t 1), none, none⟩,
    ⟨some 22, .load (none) (.t 21), none, none⟩,
    ⟨some 23, .len 1 (.t 22), none, none⟩,
    ⟨some 24, .mv (.t 3), none, none⟩,
    ⟨some 25, .bin .quo (.t 24) (.c (Value.int IntKind.i64 2)), none, none⟩,
    ⟨some 2, .mv (.t 23), none, none⟩,
    ⟨some 3, .mv (.t 25), none, none⟩] [2, 3])
  (.ret))))), true⟩

theorem k_graph_Size_mf : k_graph_Size.mf = m_graph_Size := by kernel_rfl

def sh_graph_Size_L0 : SH := ⟨[(1, .rp (.pair (.arr (.int .i64)) (.arr (.arr (.pair (.int .i64) (.int .i64)))))), (3, .cell (.int .i64)), (10, .cell (.arr (.arr (.pair (.int .i64) (.int .i64))))), (11, .cell (.int .i64)), (12, .cell (.int .i64))], []⟩
def s_graph_Size_L0 {R : Type} (N : Nat) (g1_1 : Arr Int) (g2_1 : Arr (Arr (Int × Int))) (t10 : Arr (Arr (Int × Int))) (t11 : Int) (k0 : Int → Int → Option R) : Nat → Int → Int → Option R
  | 0, _, _ => none
  | m + 1, links, t12 =>
    sel (decide (t12 < t11)) (
      chk (inr t12 t10.n) (
      s_graph_Size_L0 N g1_1 g2_1 t10 t11 k0 m (IntKind.i64.wrap (links + ((((t10.f t12.toNat).n : Nat) : Int)))) (IntKind.i64.wrap (t12 + 1)))) (
      k0 links t12)

def la_graph_Size_L0 {R : Type} (N m : Nat) (y : sh_graph_Size_L0.ty) (k : KK R) : Option R :=
  s_graph_Size_L0 N y.1.1.1 y.1.1.2 y.1.2.2.1 y.1.2.2.2.1 (fun o0 o1 => k (.exit 0) ⟨[(1, .rp [.ro (.int .i64) y.1.1.1, .ro (.arr (.pair (.int .i64) (.int .i64))) y.1.1.2]), (3, .i .i64 o0), (10, .ro (.arr (.pair (.int .i64) (.int .i64))) y.1.2.2.1), (11, .i .i64 y.1.2.2.2.1), (12, .i .i64 o1), (13, .b false)], []⟩) m y.1.2.1 y.1.2.2.2.2.1
def lp_graph_Size {R : Type} (N : Nat) : Nat → KSt → KK R → Option R
  | 0, st, k => sh_graph_Size_L0.dec { tmps := kkeep [1, 3, 10, 11, 12] st.tmps, obs := st.obs } fun y => la_graph_Size_L0 N N y k
  | _, _, _ => none

def s_graph_Size (N : Nat) (g1 : Arr Int) (g2 : Arr (Arr (Int × Int))) : Option (Int × Int) :=
  kO? (s_graph_Valid N g1 g2) (fun r =>
  sel (!r) (
    some (0, 0)) (
    s_graph_Size_L0 N g1 g2 g2 (((g2.n : Nat) : Int))
      (fun o0 o1 =>
        chk (!(2 == 0)) (
        some ((((g2.n : Nat) : Int), IntKind.i64.wrap (o0.tdiv 2)))))
      N 0 0))

def e_graph_Size (N : Nat) : Ent := ⟨41, [], [.agg (.pair (.arr (.int .i64)) (.arr (.arr (.pair (.int .i64) (.int .i64)))))], .tup (.pair (.int .i64) (.int .i64)), fun x => s_graph_Size N x.1.1 x.1.2, false⟩

def es_graph_Size (N : Nat) : List Ent := [e_graph_Valid N]
theorem es_graph_Size_ok (N : Nat) : EntsOK prg0 N 1 (es_graph_Size N) := ⟨(ok_graph_Valid N).mono (by decide), trivial⟩

theorem ok_graph_Size_L0 {R : Type} (N d : Nat) (hd : 1 ≤ d) (call : CallF) (hcall : call = evF prg0 N (d + 1)) (hC : CkOK (R := R) (ckOf (es_graph_Size N)) call) : LoopOK (R := R) N call [1, 3, 10, 11, 12] k_graph_Size_L0.mc (lp_graph_Size N 0) :=
  loop_of hC (⟨trivial, ⟨⟨trivial, trivial⟩, ⟨⟨trivial, trivial⟩, trivial⟩⟩⟩) (la_graph_Size_L0 N) (fun _ _ => rfl) (fun m x k => by kernel_rfl) (fun _ _ => rfl)

theorem ok_graph_Size (N : Nat) : EntOK prg0 N 2 (e_graph_Size N) :=
  ent_ok (es_graph_Size_ok N) (f := k_graph_Size) rfl ((prgF_41).trans (congrArg some k_graph_Size_mf.symm)) rfl rfl (lp_graph_Size N) (fun d hd call hcall hC => ⟨trivial, ⟨⟨trivial, ⟨⟨trivial, trivial⟩, trivial⟩⟩, ⟨⟨trivial, ok_graph_Size_L0 N d hd call hcall hC⟩, ⟨trivial, trivial⟩⟩⟩⟩) (fun x => by kernel_rfl)

-- selfstab/cluster.Claim
def k_cluster_Claim : KF := ⟨20, [.cell 2 (some 5)], (
  .seq (.reg [⟨some 1, .box 2 (.t 0), none, none⟩,
    ⟨some 2, .new [.v (Value.int .i64 0), .v (Value.bool false), .v (Value.bool false), .v (Value.int .i64 0), .v (Value.int .i64 0)], none, none⟩] [1, 2])
  (.seq (.seq (.reg [⟨some 5, .load (some 2) (.t 1), none, none⟩,
    ⟨some 6, .call 3 [.t 5], none, none⟩,
    ⟨some 7, .un .not (.t 6), none, none⟩] [1, 2, 7])
  (.cond (.t 7) (.seq (.reg [⟨some 8, .build [.v (Value.int .i64 0), .v (Value.bool false), .v (Value.bool false), .v (Value.int .i64 0), .v (Value.int .i64 0)] [], none, none⟩,
     ⟨none, .store 5 (.t 2) (.t 8), none, none⟩] [2])
   (.ret))
   (.skip)))
  (.seq (.reg [⟨some 10, .load (some 2) (.t 1), none, none⟩,
    ⟨some 11, .call 41 [.t 10], none, none⟩,
    ⟨some 9, .mv (.t 11), none, none⟩,
    ⟨some 12, .ext (.t 9) 0, none, none⟩,
    ⟨some 13, .ext (.t 9) 1, none, none⟩,
    ⟨some 3, .mv (.t 12), none, none⟩,
    ⟨some 4, .mv (.t 13), none, none⟩] [2, 3, 4])
  (.seq (.reg [⟨some 14, .mv (.t 3), none, none⟩,
    ⟨some 15, .bin .mul (.c (Value.int IntKind.i64 5)) (.t 14), none, none⟩,
    ⟨some 16, .mv (.t 4), none, none⟩,
    ⟨some 17, .bin .mul (.c (Value.int IntKind.i64 4)) (.t 16), none, none⟩,
    ⟨some 18, .bin .add (.t 15) (.t 17), none, none⟩,
    ⟨some 19, .build [.v (Value.int .i64 0), .v (Value.bool false), .v (Value.bool false), .v (Value.int .i64 0), .v (Value.int .i64 0)] [(0, 1, (.c (Value.int IntKind.i64 2))), (2, 1, (.c (Value.bool true))), (3, 1, (.c (Value.int IntKind.i64 3))), (4, 1, (.t 18))], none, none⟩,
    ⟨none, .store 5 (.t 2) (.t 19), none, none⟩] [2])
  (.ret))))), true⟩

theorem k_cluster_Claim_mf : k_cluster_Claim.mf = m_cluster_Claim := by kernel_rfl

def lp_cluster_Claim {R : Type} (N : Nat) : Nat → KSt → KK R → Option R
  | _, _, _ => none

def s_cluster_Claim (N : Nat) (g1 : Arr Int) (g2 : Arr (Arr (Int × Int))) : Option (Int × Bool × Bool × Int × Int) :=
  kO? (s_cluster_Fit N g1 g2) (fun r =>
  sel (!r) (
    chk (decide (0 < ([(0, false, false, 0, 0)]).length)) (
    chk (decide (0 < (([(0, false, false, 0, 0)]).set 0 (0, false, false, 0, 0)).length)) (
    some ((((([(0, false, false, 0, 0)]).set 0 (0, false, false, 0, 0)).getD 0 (((0 : Int), (false, (false, ((0 : Int), (0 : Int))))))).1, (((([(0, false, false, 0, 0)]).set 0 (0, false, false, 0, 0)).getD 0 (((0 : Int), (false, (false, ((0 : Int), (0 : Int))))))).2).1, ((((([(0, false, false, 0, 0)]).set 0 (0, false, false, 0, 0)).getD 0 (((0 : Int), (false, (false, ((0 : Int), (0 : Int))))))).2).2).1, (((((([(0, false, false, 0, 0)]).set 0 (0, false, false, 0, 0)).getD 0 (((0 : Int), (false, (false, ((0 : Int), (0 : Int))))))).2).2).2).1, (((((([(0, false, false, 0, 0)]).set 0 (0, false, false, 0, 0)).getD 0 (((0 : Int), (false, (false, ((0 : Int), (0 : Int))))))).2).2).2).2))))) (
    kO? (s_graph_Size N g1 g2) (fun r1 =>
    chk (decide (0 < ([(0, false, false, 0, 0)]).length)) (
    chk (decide (0 < (([(0, false, false, 0, 0)]).set 0 ((2, false, true, 3, IntKind.i64.wrap ((IntKind.i64.wrap (5 * r1.1)) + (IntKind.i64.wrap (4 * r1.2)))))).length)) (
    some ((((([(0, false, false, 0, 0)]).set 0 ((2, false, true, 3, IntKind.i64.wrap ((IntKind.i64.wrap (5 * r1.1)) + (IntKind.i64.wrap (4 * r1.2)))))).getD 0 (((0 : Int), (false, (false, ((0 : Int), (0 : Int))))))).1, (((([(0, false, false, 0, 0)]).set 0 ((2, false, true, 3, IntKind.i64.wrap ((IntKind.i64.wrap (5 * r1.1)) + (IntKind.i64.wrap (4 * r1.2)))))).getD 0 (((0 : Int), (false, (false, ((0 : Int), (0 : Int))))))).2).1, ((((([(0, false, false, 0, 0)]).set 0 ((2, false, true, 3, IntKind.i64.wrap ((IntKind.i64.wrap (5 * r1.1)) + (IntKind.i64.wrap (4 * r1.2)))))).getD 0 (((0 : Int), (false, (false, ((0 : Int), (0 : Int))))))).2).2).1, (((((([(0, false, false, 0, 0)]).set 0 ((2, false, true, 3, IntKind.i64.wrap ((IntKind.i64.wrap (5 * r1.1)) + (IntKind.i64.wrap (4 * r1.2)))))).getD 0 (((0 : Int), (false, (false, ((0 : Int), (0 : Int))))))).2).2).2).1, (((((([(0, false, false, 0, 0)]).set 0 ((2, false, true, 3, IntKind.i64.wrap ((IntKind.i64.wrap (5 * r1.1)) + (IntKind.i64.wrap (4 * r1.2)))))).getD 0 (((0 : Int), (false, (false, ((0 : Int), (0 : Int))))))).2).2).2).2)))))))

def e_cluster_Claim (N : Nat) : Ent := ⟨7, [], [.agg (.pair (.arr (.int .i64)) (.arr (.arr (.pair (.int .i64) (.int .i64)))))], .agg (.pair (.int .i64) (.pair .bool (.pair .bool (.pair (.int .i64) (.int .i64))))), fun x => s_cluster_Claim N x.1.1 x.1.2, false⟩

def es_cluster_Claim (N : Nat) : List Ent := [e_cluster_Fit N, e_graph_Size N]
theorem es_cluster_Claim_ok (N : Nat) : EntsOK prg0 N 2 (es_cluster_Claim N) := ⟨(ok_cluster_Fit N).mono (by decide), (ok_graph_Size N).mono (by decide), trivial⟩

theorem ok_cluster_Claim (N : Nat) : EntOK prg0 N 3 (e_cluster_Claim N) :=
  ent_ok (es_cluster_Claim_ok N) (f := k_cluster_Claim) rfl ((prgF_7).trans (congrArg some k_cluster_Claim_mf.symm)) rfl rfl (lp_cluster_Claim N) (fun d hd call hcall hC => ⟨trivial, ⟨⟨trivial, ⟨⟨trivial, trivial⟩, trivial⟩⟩, ⟨trivial, ⟨trivial, trivial⟩⟩⟩⟩) (fun x => by kernel_rfl)

-- selfstab/selfstabref01.Size
def k_selfstabref01_Size_L0 : KC :=
  .seq (.seq (.reg [⟨some 9, .mv (.t 5), none, none⟩,
    ⟨some 10, .fadr 1 (.t 1), none, none⟩,
    ⟨some 11, .load (none) (.t 10), none, none⟩,
    ⟨some 12, .len 1 (.t 11), none, none⟩,
    ⟨some 13, .bin .lss (.t 9) (.t 12), none, none⟩] [1, 4, 5, 13])
  (.cond (.t 13) (.skip)
   (.exit 0)))
  (.seq (.block 1 (.reg [⟨some 16, .mv (.t 4), none, none⟩,
     ⟨some 17, .fadr 1 (.t 1), none, none⟩,
     ⟨some 18, .load (none) (.t 17), none, none⟩,
     ⟨some 19, .mv (.t 5), none, none⟩,
     ⟨some 20, .iadr 1 (.t 18) (.t 19), none, none⟩,
     ⟨some 21, .load (none) (.t 20), none, none⟩,
     ⟨some 22, .len 1 (.t 21), none, none⟩,
     ⟨some 23, .bin .add (.t 16) (.t 22), none, none⟩,
     ⟨some 4, .mv (.t 23), none, none⟩] [1, 4, 5]))
  (.reg [⟨some 14, .mv (.t 5), none, none⟩,
    ⟨some 15, .bin .add (.t 14) (.c (Value.int IntKind.i64 1)), none, none⟩,
    ⟨some 5, .mv (.t 15), none, none⟩] [1, 4, 5]))

def k_selfstabref01_Size : KF := ⟨29, [.tmp 2, .tmp 3], (
  .seq (.reg [⟨some 1, .box 2 (.t 0), none, none⟩,
    ⟨some 2, .mv (.c (Value.int IntKind.i64 0)), none, none⟩,
    ⟨some 3, .mv (.c (Value.int IntKind.i64 0)), none, none⟩] [1])
  (.seq (.seq (.reg [⟨some 6, .load (some 2) (.t 1), none, none⟩,
    ⟨some 7, .call 33 [.t 6], none, none⟩,
    ⟨some 8, .un .not (.t 7), none, none⟩] [1, 8])
  (.cond (.t 8) (.seq (.reg [⟨some 2, .mv (.c (Value.int IntKind.i64 0)), none, none⟩,
     ⟨some 3, .mv (.c (Value.int IntKind.i64 0)), none, none⟩] [2, 3])
   (.ret))
   (.skip)))
  (.seq (.reg [⟨some 4, .mv (.c (Value.int IntKind.i64 0)), none, none⟩] [1, 4])
  (.seq (.seq (.reg [⟨some 5, .mv (.c (Value.int IntKind.i64 0)), none, none⟩] [1, 4, 5])
  (.block 0 (.loop 0 [1, 4, 5] k_selfstabref01_Size_L0)))
  (.seq (.reg [⟨some 24, .fadr 1 (.t 1), none, none⟩,
    ⟨some 25, .load (none) (.t 24), none, none⟩,
    ⟨some 26, .len 1 (.t 25), none, none⟩,
    ⟨some 27, .mv (.t 4), none, none⟩,
    ⟨some 28, .bin .quo (.t 27) (.c (Value.int IntKind.i64 2)), none, none⟩,
    ⟨some 2, .mv (.t 26), none, none⟩,
    ⟨some 3, .mv (.t 28), none, none⟩] [2, 3])
  (.ret)))))), true⟩

theorem k_selfstabref01_Size_mf : k_selfstabref01_Size.mf = m_selfstabref01_Size := by kernel_rfl

def sh_selfstabref01_Size_L0 : SH := ⟨[(1, .rp (.pair (.arr (.int .i64)) (.arr (.arr (.pair (.int .i64) (.int .i64)))))), (4, .cell (.int .i64)), (5, .cell (.int .i64))], []⟩
def s_selfstabref01_Size_L0 {R : Type} (N : Nat) (g1_1 : Arr Int) (g2_1 : Arr (Arr (Int × Int))) (k0 : Int → Int → Option R) : Nat → Int → Int → Option R
  | 0, _, _ => none
  | m + 1, ports, v =>
    sel (decide (v < (((g2_1.n : Nat) : Int)))) (
      chk (inr v g2_1.n) (
      s_selfstabref01_Size_L0 N g1_1 g2_1 k0 m (IntKind.i64.wrap (ports + ((((g2_1.f v.toNat).n : Nat) : Int)))) (IntKind.i64.wrap (v + 1)))) (
      k0 ports v)

def la_selfstabref01_Size_L0 {R : Type} (N m : Nat) (y : sh_selfstabref01_Size_L0.ty) (k : KK R) : Option R :=
  s_selfstabref01_Size_L0 N y.1.1.1 y.1.1.2 (fun o0 o1 => k (.exit 0) ⟨[(1, .rp [.ro (.int .i64) y.1.1.1, .ro (.arr (.pair (.int .i64) (.int .i64))) y.1.1.2]), (4, .i .i64 o0), (5, .i .i64 o1), (13, .b false)], []⟩) m y.1.2.1 y.1.2.2.1
def lp_selfstabref01_Size {R : Type} (N : Nat) : Nat → KSt → KK R → Option R
  | 0, st, k => sh_selfstabref01_Size_L0.dec { tmps := kkeep [1, 4, 5] st.tmps, obs := st.obs } fun y => la_selfstabref01_Size_L0 N N y k
  | _, _, _ => none

def s_selfstabref01_Size (N : Nat) (g1 : Arr Int) (g2 : Arr (Arr (Int × Int))) : Option (Int × Int) :=
  kO? (s_selfstabref01_Valid N g1 g2) (fun r =>
  sel (!r) (
    some (0, 0)) (
    s_selfstabref01_Size_L0 N g1 g2
      (fun o0 o1 =>
        chk (!(2 == 0)) (
        some ((((g2.n : Nat) : Int), IntKind.i64.wrap (o0.tdiv 2)))))
      N 0 0))

def e_selfstabref01_Size (N : Nat) : Ent := ⟨42, [], [.agg (.pair (.arr (.int .i64)) (.arr (.arr (.pair (.int .i64) (.int .i64)))))], .tup (.pair (.int .i64) (.int .i64)), fun x => s_selfstabref01_Size N x.1.1 x.1.2, false⟩

def es_selfstabref01_Size (N : Nat) : List Ent := [e_selfstabref01_Valid N]
theorem es_selfstabref01_Size_ok (N : Nat) : EntsOK prg0 N 3 (es_selfstabref01_Size N) := ⟨(ok_selfstabref01_Valid N).mono (by decide), trivial⟩

theorem ok_selfstabref01_Size_L0 {R : Type} (N d : Nat) (hd : 3 ≤ d) (call : CallF) (hcall : call = evF prg0 N (d + 1)) (hC : CkOK (R := R) (ckOf (es_selfstabref01_Size N)) call) : LoopOK (R := R) N call [1, 4, 5] k_selfstabref01_Size_L0.mc (lp_selfstabref01_Size N 0) :=
  loop_of hC (⟨⟨trivial, ⟨trivial, trivial⟩⟩, ⟨trivial, trivial⟩⟩) (la_selfstabref01_Size_L0 N) (fun _ _ => rfl) (fun m x k => by kernel_rfl) (fun _ _ => rfl)

theorem ok_selfstabref01_Size (N : Nat) : EntOK prg0 N 4 (e_selfstabref01_Size N) :=
  ent_ok (es_selfstabref01_Size_ok N) (f := k_selfstabref01_Size) rfl ((prgF_42).trans (congrArg some k_selfstabref01_Size_mf.symm)) rfl rfl (lp_selfstabref01_Size N) (fun d hd call hcall hC => ⟨trivial, ⟨⟨trivial, ⟨⟨trivial, trivial⟩, trivial⟩⟩, ⟨trivial, ⟨⟨trivial, ok_selfstabref01_Size_L0 N d hd call hcall hC⟩, ⟨trivial, trivial⟩⟩⟩⟩⟩) (fun x => by kernel_rfl)

-- selfstab/selfstabref34.Claim
def k_selfstabref34_Claim : KF := ⟨20, [.cell 2 (some 5)], (
  .seq (.reg [⟨some 1, .box 2 (.t 0), none, none⟩,
    ⟨some 2, .new [.v (Value.int .i64 0), .v (Value.bool false), .v (Value.bool false), .v (Value.int .i64 0), .v (Value.int .i64 0)], none, none⟩] [1, 2])
  (.seq (.seq (.reg [⟨some 5, .load (some 2) (.t 1), none, none⟩,
    ⟨some 6, .call 4 [.t 5], none, none⟩,
    ⟨some 7, .un .not (.t 6), none, none⟩] [1, 2, 7])
  (.cond (.t 7) (.seq (.reg [⟨some 8, .build [.v (Value.int .i64 0), .v (Value.bool false), .v (Value.bool false), .v (Value.int .i64 0), .v (Value.int .i64 0)] [], none, none⟩,
     ⟨none, .store 5 (.t 2) (.t 8), none, none⟩] [2])
   (.ret))
   (.skip)))
  (.seq (.reg [⟨some 10, .load (some 2) (.t 1), none, none⟩,
    ⟨some 11, .call 42 [.t 10], none, none⟩,
    ⟨some 9, .mv (.t 11), none, none⟩,
    ⟨some 12, .ext (.t 9) 0, none, none⟩,
    ⟨some 13, .ext (.t 9) 1, none, none⟩,
    ⟨some 3, .mv (.t 12), none, none⟩,
    ⟨some 4, .mv (.t 13), none, none⟩] [2, 3, 4])
  (.seq (.reg [⟨some 14, .mv (.t 3), none, none⟩,
    ⟨some 15, .bin .mul (.c (Value.int IntKind.i64 5)) (.t 14), none, none⟩,
    ⟨some 16, .mv (.t 4), none, none⟩,
    ⟨some 17, .bin .mul (.c (Value.int IntKind.i64 4)) (.t 16), none, none⟩,
    ⟨some 18, .bin .add (.t 15) (.t 17), none, none⟩,
    ⟨some 19, .build [.v (Value.int .i64 0), .v (Value.bool false), .v (Value.bool false), .v (Value.int .i64 0), .v (Value.int .i64 0)] [(0, 1, (.c (Value.int IntKind.i64 2))), (2, 1, (.c (Value.bool true))), (3, 1, (.c (Value.int IntKind.i64 3))), (4, 1, (.t 18))], none, none⟩,
    ⟨none, .store 5 (.t 2) (.t 19), none, none⟩] [2])
  (.ret))))), true⟩

theorem k_selfstabref34_Claim_mf : k_selfstabref34_Claim.mf = m_selfstabref34_Claim := by kernel_rfl

def lp_selfstabref34_Claim {R : Type} (N : Nat) : Nat → KSt → KK R → Option R
  | _, _, _ => none

def s_selfstabref34_Claim (N : Nat) (g1 : Arr Int) (g2 : Arr (Arr (Int × Int))) : Option (Int × Bool × Bool × Int × Int) :=
  kO? (s_selfstabref34_Fit N g1 g2) (fun r =>
  sel (!r) (
    chk (decide (0 < ([(0, false, false, 0, 0)]).length)) (
    chk (decide (0 < (([(0, false, false, 0, 0)]).set 0 (0, false, false, 0, 0)).length)) (
    some ((((([(0, false, false, 0, 0)]).set 0 (0, false, false, 0, 0)).getD 0 (((0 : Int), (false, (false, ((0 : Int), (0 : Int))))))).1, (((([(0, false, false, 0, 0)]).set 0 (0, false, false, 0, 0)).getD 0 (((0 : Int), (false, (false, ((0 : Int), (0 : Int))))))).2).1, ((((([(0, false, false, 0, 0)]).set 0 (0, false, false, 0, 0)).getD 0 (((0 : Int), (false, (false, ((0 : Int), (0 : Int))))))).2).2).1, (((((([(0, false, false, 0, 0)]).set 0 (0, false, false, 0, 0)).getD 0 (((0 : Int), (false, (false, ((0 : Int), (0 : Int))))))).2).2).2).1, (((((([(0, false, false, 0, 0)]).set 0 (0, false, false, 0, 0)).getD 0 (((0 : Int), (false, (false, ((0 : Int), (0 : Int))))))).2).2).2).2))))) (
    kO? (s_selfstabref01_Size N g1 g2) (fun r1 =>
    chk (decide (0 < ([(0, false, false, 0, 0)]).length)) (
    chk (decide (0 < (([(0, false, false, 0, 0)]).set 0 ((2, false, true, 3, IntKind.i64.wrap ((IntKind.i64.wrap (5 * r1.1)) + (IntKind.i64.wrap (4 * r1.2)))))).length)) (
    some ((((([(0, false, false, 0, 0)]).set 0 ((2, false, true, 3, IntKind.i64.wrap ((IntKind.i64.wrap (5 * r1.1)) + (IntKind.i64.wrap (4 * r1.2)))))).getD 0 (((0 : Int), (false, (false, ((0 : Int), (0 : Int))))))).1, (((([(0, false, false, 0, 0)]).set 0 ((2, false, true, 3, IntKind.i64.wrap ((IntKind.i64.wrap (5 * r1.1)) + (IntKind.i64.wrap (4 * r1.2)))))).getD 0 (((0 : Int), (false, (false, ((0 : Int), (0 : Int))))))).2).1, ((((([(0, false, false, 0, 0)]).set 0 ((2, false, true, 3, IntKind.i64.wrap ((IntKind.i64.wrap (5 * r1.1)) + (IntKind.i64.wrap (4 * r1.2)))))).getD 0 (((0 : Int), (false, (false, ((0 : Int), (0 : Int))))))).2).2).1, (((((([(0, false, false, 0, 0)]).set 0 ((2, false, true, 3, IntKind.i64.wrap ((IntKind.i64.wrap (5 * r1.1)) + (IntKind.i64.wrap (4 * r1.2)))))).getD 0 (((0 : Int), (false, (false, ((0 : Int), (0 : Int))))))).2).2).2).1, (((((([(0, false, false, 0, 0)]).set 0 ((2, false, true, 3, IntKind.i64.wrap ((IntKind.i64.wrap (5 * r1.1)) + (IntKind.i64.wrap (4 * r1.2)))))).getD 0 (((0 : Int), (false, (false, ((0 : Int), (0 : Int))))))).2).2).2).2)))))))

def e_selfstabref34_Claim (N : Nat) : Ent := ⟨8, [], [.agg (.pair (.arr (.int .i64)) (.arr (.arr (.pair (.int .i64) (.int .i64)))))], .agg (.pair (.int .i64) (.pair .bool (.pair .bool (.pair (.int .i64) (.int .i64))))), fun x => s_selfstabref34_Claim N x.1.1 x.1.2, false⟩

def es_selfstabref34_Claim (N : Nat) : List Ent := [e_selfstabref34_Fit N, e_selfstabref01_Size N]
theorem es_selfstabref34_Claim_ok (N : Nat) : EntsOK prg0 N 4 (es_selfstabref34_Claim N) := ⟨(ok_selfstabref34_Fit N).mono (by decide), (ok_selfstabref01_Size N).mono (by decide), trivial⟩

theorem ok_selfstabref34_Claim (N : Nat) : EntOK prg0 N 5 (e_selfstabref34_Claim N) :=
  ent_ok (es_selfstabref34_Claim_ok N) (f := k_selfstabref34_Claim) rfl ((prgF_8).trans (congrArg some k_selfstabref34_Claim_mf.symm)) rfl rfl (lp_selfstabref34_Claim N) (fun d hd call hcall hC => ⟨trivial, ⟨⟨trivial, ⟨⟨trivial, trivial⟩, trivial⟩⟩, ⟨trivial, ⟨trivial, trivial⟩⟩⟩⟩) (fun x => by kernel_rfl)

-- selfstab/selfstabref23.Named
def k_selfstabref23_Named_L0 : KC :=
  .seq (.seq (.reg [⟨some 10, .mv (.t 8), none, none⟩,
    ⟨some 11, .mv (.t 1), none, none⟩,
    ⟨some 12, .len 1 (.t 11), none, none⟩,
    ⟨some 13, .bin .lss (.t 10) (.t 12), none, none⟩] [1, 2, 3, 7, 8, 13])
  (.cond (.t 13) (.skip)
   (.exit 0)))
  (.seq (.block 1 (.seq (.reg [⟨some 9, .mv (.c (Value.int IntKind.i64 (-1))), none, none⟩] [1, 2, 3, 7, 8, 9])
   (.seq (.seq (.reg [⟨some 16, .mv (.t 1), none, none⟩,
     ⟨some 17, .mv (.t 8), none, none⟩,
     ⟨some 18, .iadr 1 (.t 16) (.t 17), none, none⟩,
     ⟨some 19, .load (none) (.t 18), none, none⟩,
     ⟨some 20, .mv (.t 2), none, none⟩,
     ⟨some 21, .iadr 1 (.t 19) (.t 20), none, none⟩,
     ⟨some 22, .load (none) (.t 21), none, none⟩,
     ⟨some 23, .bin .geq (.t 22) (.c (Value.int IntKind.i64 0)), none, none⟩] [1, 2, 3, 7, 8, 9, 23])
   (.cond (.t 23) (.reg [⟨some 24, .fadr 1 (.t 3), none, none⟩,
      ⟨some 25, .load (none) (.t 24), none, none⟩,
      ⟨some 26, .mv (.t 8), none, none⟩,
      ⟨some 27, .iadr 1 (.t 25) (.t 26), none, none⟩,
      ⟨some 28, .load (none) (.t 27), none, none⟩,
      ⟨some 29, .mv (.t 1), none, none⟩,
      ⟨some 30, .mv (.t 8), none, none⟩,
      ⟨some 31, .iadr 1 (.t 29) (.t 30), none, none⟩,
      ⟨some 32, .load (none) (.t 31), none, none⟩,
      ⟨some 33, .mv (.t 2), none, none⟩,
      ⟨some 34, .iadr 1 (.t 32) (.t 33), none, none⟩,
      ⟨some 35, .load (none) (.t 34), none, none⟩,
      ⟨some 36, .iadr 2 (.t 28) (.t 35), none, none⟩,
      ⟨some 37, .fadr 0 (.t 36), none, none⟩,
      ⟨some 38, .load (none) (.t 37), none, none⟩,
      ⟨some 9, .mv (.t 38), none, none⟩] [1, 2, 3, 7, 8, 9])
    (.skip)))
   (.reg [⟨some 39, .mv (.t 7), none, none⟩,
     ⟨some 40, .mv (.t 9), none, none⟩,
     ⟨some 41, .lit 1 [.v (Value.int .i64 0)] [(0, 1, (.t 40))] false, none, none⟩,
     ⟨some 42, .app 1 8 (.t 39) (.t 41), none, none⟩,
     ⟨some 7, .mv (.t 42), none, none⟩] [1, 2, 3, 7, 8]))))
  (.reg [⟨some 14, .mv (.t 8), none, none⟩,
    ⟨some 15, .bin .add (.t 14) (.c (Value.int IntKind.i64 1)), none, none⟩,
    ⟨some 8, .mv (.t 15), none, none⟩] [1, 2, 3, 7, 8]))

def k_selfstabref23_Named : KF := ⟨44, [.tmp 6], (
  .seq (.reg [⟨some 3, .box 2 (.t 0), none, none⟩,
    ⟨some 6, .mv (.c (Value.slice none 0 0)), none, none⟩] [1, 2, 3])
  (.seq (.reg [⟨some 7, .mv (.c (Value.slice none 0 0)), none, some (.int .i64)⟩] [1, 2, 3, 7])
  (.seq (.seq (.reg [⟨some 8, .mv (.c (Value.int IntKind.i64 0)), none, none⟩] [1, 2, 3, 7, 8])
  (.block 0 (.loop 0 [1, 2, 3, 7, 8] k_selfstabref23_Named_L0)))
  (.seq (.reg [⟨some 43, .mv (.t 7), none, none⟩,
    ⟨some 6, .mv (.t 43), none, none⟩] [6])
  (.ret))))), false⟩

theorem k_selfstabref23_Named_mf : k_selfstabref23_Named.mf = m_selfstabref23_Named := by kernel_rfl

def sh_selfstabref23_Named_L0 : SH := ⟨[(1, .cell (.arr (.arr (.int .i64)))), (2, .cell (.int .i64)), (3, .rp (.pair (.arr (.int .i64)) (.arr (.arr (.pair (.int .i64) (.int .i64)))))), (7, .own 0), (8, .cell (.int .i64))], [(false, (.int .i64))]⟩
def s_selfstabref23_Named_L0 {R : Type} (N : Nat) (c1 : Arr (Arr Int)) (at_1 : Int) (g1_1 : Arr Int) (g2_1 : Arr (Arr (Int × Int))) (k0 : Int → (List (Int)) → Option R) : Nat → Int → List Int → Option R
  | 0, _, _ => none
  | m + 1, v, l0 =>
    sel (decide (v < (((c1.n : Nat) : Int)))) (
      chk (inr v c1.n) (
      chk (inr at_1 (c1.f v.toNat).n) (
      sel (decide (((c1.f v.toNat).f at_1.toNat) ≥ 0)) (
        chk (inr v g2_1.n) (
        chk (inr v c1.n) (
        chk (inr at_1 (c1.f v.toNat).n) (
        chk (inr ((c1.f v.toNat).f at_1.toNat) (g2_1.f v.toNat).n) (
        chk (roomA (l0.length + ([((g2_1.f v.toNat).f (((c1.f v.toNat).f at_1.toNat).toNat)).1]).length) 8) (
        s_selfstabref23_Named_L0 N c1 at_1 g1_1 g2_1 k0 m (IntKind.i64.wrap (v + 1)) (l0 ++ ([((g2_1.f v.toNat).f (((c1.f v.toNat).f at_1.toNat).toNat)).1])))))))) (
        chk (roomA (l0.length + ([(-1)]).length) 8) (
        s_selfstabref23_Named_L0 N c1 at_1 g1_1 g2_1 k0 m (IntKind.i64.wrap (v + 1)) (l0 ++ ([(-1)]))))))) (
      k0 v l0)

def la_selfstabref23_Named_L0 {R : Type} (N m : Nat) (y : sh_selfstabref23_Named_L0.ty) (k : KK R) : Option R :=
  s_selfstabref23_Named_L0 N y.1.1 y.1.2.1 y.1.2.2.1.1 y.1.2.2.1.2 (fun o0 o1 => k (.exit 0) ⟨[(1, .ro (.arr (.int .i64)) y.1.1), (2, .i .i64 y.1.2.1), (3, .rp [.ro (.int .i64) y.1.2.2.1.1, .ro (.arr (.pair (.int .i64) (.int .i64))) y.1.2.2.1.2]), (7, .own 0), (8, .i .i64 o0), (13, .b false)], [⟨(.int .i64), o1, false⟩]⟩) m y.1.2.2.2.2.1 y.2.1
def lp_selfstabref23_Named {R : Type} (N : Nat) : Nat → KSt → KK R → Option R
  | 0, st, k => sh_selfstabref23_Named_L0.dec { tmps := kkeep [1, 2, 3, 7, 8] st.tmps, obs := st.obs } fun y => la_selfstabref23_Named_L0 N N y k
  | _, _, _ => none

def s_selfstabref23_Named (N : Nat) (g1 : Arr Int) (g2 : Arr (Arr (Int × Int))) (c : Arr (Arr Int)) (at_ : Int) : Option (Arr Int) :=
  s_selfstabref23_Named_L0 N c at_ g1 g2
    (fun o0 o1 =>
      some (arrL (0 : Int) o1))
    N 0 ([])

def e_selfstabref23_Named (N : Nat) : Ent := ⟨44, [], [.agg (.pair (.arr (.int .i64)) (.arr (.arr (.pair (.int .i64) (.int .i64))))), .cell (.arr (.arr (.int .i64))), .cell (.int .i64)], .cell (.arr (.int .i64)), fun x => s_selfstabref23_Named N x.1.1 x.1.2 x.2.1 x.2.2.1, true⟩

def es_selfstabref23_Named (N : Nat) : List Ent := []
theorem es_selfstabref23_Named_ok (N : Nat) : EntsOK prg0 N 0 (es_selfstabref23_Named N) := trivial

theorem ok_selfstabref23_Named_L0 {R : Type} (N d : Nat) (hd : 0 ≤ d) (call : CallF) (hcall : call = evF prg0 N (d + 1)) (hC : CkOK (R := R) (ckOf (es_selfstabref23_Named N)) call) : LoopOK (R := R) N call [1, 2, 3, 7, 8] k_selfstabref23_Named_L0.mc (lp_selfstabref23_Named N 0) :=
  loop_of hC (⟨⟨trivial, ⟨trivial, trivial⟩⟩, ⟨⟨trivial, ⟨⟨trivial, ⟨trivial, trivial⟩⟩, trivial⟩⟩, trivial⟩⟩) (la_selfstabref23_Named_L0 N) (fun _ _ => rfl) (fun m x k => by kernel_rfl) (fun _ _ => rfl)

theorem ok_selfstabref23_Named (N : Nat) : EntOK prg0 N 1 (e_selfstabref23_Named N) :=
  ent_okF (es_selfstabref23_Named_ok N) (f := k_selfstabref23_Named) rfl ((prgF_44).trans (congrArg some k_selfstabref23_Named_mf.symm)) rfl (lp_selfstabref23_Named N) (fun d hd call hcall hC => ⟨trivial, ⟨trivial, ⟨⟨trivial, ok_selfstabref23_Named_L0 N d hd call hcall hC⟩, ⟨trivial, trivial⟩⟩⟩⟩) (fun x => by kernel_rfl)

-- selfstab/selfstabref34.Heads
def k_selfstabref34_Heads_L0 : KC :=
  .seq (.seq (.reg [⟨some 20, .mv (.t 6), none, none⟩,
    ⟨some 21, .mv (.t 1), none, none⟩,
    ⟨some 22, .len 1 (.t 21), none, none⟩,
    ⟨some 23, .bin .lss (.t 20) (.t 22), none, none⟩] [1, 5, 6, 23])
  (.cond (.t 23) (.skip)
   (.exit 0)))
  (.seq (.block 1 (.seq (.reg [⟨some 26, .mv (.t 1), none, none⟩,
     ⟨some 27, .mv (.t 6), none, none⟩,
     ⟨some 28, .iadr 1 (.t 26) (.t 27), none, none⟩,
     ⟨some 29, .load (none) (.t 28), none, none⟩,
     ⟨some 30, .iadr 1 (.t 29) (.c (Value.int IntKind.i64 0)), none, none⟩,
     ⟨some 31, .load (none) (.t 30), none, none⟩,
     ⟨some 32, .bin .eql (.t 31) (.c (Value.int IntKind.i64 1)), none, none⟩] [1, 5, 6, 32])
   (.cond (.t 32) (.reg [⟨some 33, .mv (.t 5), none, none⟩,
      ⟨some 34, .mv (.t 6), none, none⟩,
      ⟨some 35, .mv (.t 6), none, none⟩,
      ⟨some 36, .iadr 1 (.t 33) (.t 34), none, none⟩,
      ⟨none, .store 1 (.t 36) (.t 35), none, none⟩] [1, 5, 6])
    (.skip))))
  (.reg [⟨some 24, .mv (.t 6), none, none⟩,
    ⟨some 25, .bin .add (.t 24) (.c (Value.int IntKind.i64 1)), none, none⟩,
    ⟨some 6, .mv (.t 25), none, none⟩] [1, 5, 6]))

def k_selfstabref34_Heads : KF := ⟨38, [.tmp 4], (
  .seq (.reg [⟨some 2, .box 2 (.t 0), none, none⟩,
    ⟨some 4, .mv (.c (Value.slice none 0 0)), none, none⟩] [1, 2])
  (.seq (.seq (.reg [⟨some 7, .load (some 2) (.t 2), none, none⟩,
    ⟨some 8, .call 4 [.t 7], none, none⟩,
    ⟨some 9, .un .not (.t 8), none, none⟩,
    ⟨some 10, .mv (.t 9), none, none⟩,
    ⟨some 11, .load (some 2) (.t 2), some (10, false), none⟩,
    ⟨some 12, .mv (.t 1), some (10, false), none⟩,
    ⟨some 13, .call 37 [], some (10, false), none⟩,
    ⟨some 14, .call 38 [.t 11, .t 12, .t 13], some (10, false), none⟩,
    ⟨some 15, .un .not (.t 14), some (10, false), none⟩,
    ⟨some 16, .pick (.t 10) (.c (Value.bool true)) (.t 15), none, none⟩] [1, 2, 16])
  (.cond (.t 16) (.seq (.reg [⟨some 4, .mv (.c (Value.slice none 0 0)), none, none⟩] [4])
   (.ret))
   (.skip)))
  (.seq (.reg [⟨some 17, .load (some 2) (.t 2), none, none⟩,
    ⟨some 18, .mv (.t 1), none, none⟩,
    ⟨some 19, .call 44 [.t 17, .t 18, .c (Value.int IntKind.i64 1)], none, none⟩,
    ⟨some 5, .mv (.t 19), none, none⟩] [1, 5])
  (.seq (.seq (.reg [⟨some 6, .mv (.c (Value.int IntKind.i64 0)), none, none⟩] [1, 5, 6])
  (.block 0 (.loop 0 [1, 5, 6] k_selfstabref34_Heads_L0)))
  (.seq (.reg [⟨some 37, .mv (.t 5), none, none⟩,
    ⟨some 4, .mv (.t 37), none, none⟩] [4])
  (.ret)))))), true⟩

theorem k_selfstabref34_Heads_mf : k_selfstabref34_Heads.mf = m_selfstabref34_Heads := by kernel_rfl

def sh_selfstabref34_Heads_L0 : SH := ⟨[(1, .cell (.arr (.arr (.int .i64)))), (5, .own 0), (6, .cell (.int .i64))], [(false, (.int .i64))]⟩
def s_selfstabref34_Heads_L0 {R : Type} (N : Nat) (c1 : Arr (Arr Int)) (k0 : Int → (List (Int)) → Option R) : Nat → Int → List Int → Option R
  | 0, _, _ => none
  | m + 1, v, l0 =>
    sel (decide (v < (((c1.n : Nat) : Int)))) (
      chk (inr v c1.n) (
      chk (inr 0 (c1.f v.toNat).n) (
      sel (((c1.f v.toNat).f ((0 : Int).toNat)) == 1) (
        chk (inr v l0.length) (
        chk (decide (v.toNat < l0.length)) (
        s_selfstabref34_Heads_L0 N c1 k0 m (IntKind.i64.wrap (v + 1)) (l0.set v.toNat v)))) (
        s_selfstabref34_Heads_L0 N c1 k0 m (IntKind.i64.wrap (v + 1)) l0)))) (
      k0 v l0)

def la_selfstabref34_Heads_L0 {R : Type} (N m : Nat) (y : sh_selfstabref34_Heads_L0.ty) (k : KK R) : Option R :=
  s_selfstabref34_Heads_L0 N y.1.1 (fun o0 o1 => k (.exit 0) ⟨[(1, .ro (.arr (.int .i64)) y.1.1), (5, .own 0), (6, .i .i64 o0), (23, .b false)], [⟨(.int .i64), o1, false⟩]⟩) m y.1.2.2.1 y.2.1
def lp_selfstabref34_Heads {R : Type} (N : Nat) : Nat → KSt → KK R → Option R
  | 0, st, k => sh_selfstabref34_Heads_L0.dec { tmps := kkeep [1, 5, 6] st.tmps, obs := st.obs } fun y => la_selfstabref34_Heads_L0 N N y k
  | _, _, _ => none

def s_selfstabref34_Heads (N : Nat) (g1 : Arr Int) (g2 : Arr (Arr (Int × Int))) (c : Arr (Arr Int)) : Option (Arr Int) :=
  kO? (s_selfstabref34_Fit N g1 g2) (fun r =>
  sel (!r) (
    some ((⟨0, fun _ => (0 : Int)⟩ : Arr Int))) (
    kO? (s_selfstabref34_Vars N) (fun r1 =>
    kO? (s_selfstabref23_Config N g1 g2 c r1) (fun r2 =>
    sel (!r2) (
      some ((⟨0, fun _ => (0 : Int)⟩ : Arr Int))) (
      kO? (s_selfstabref23_Named N g1 g2 c 1) (fun r3 =>
      s_selfstabref34_Heads_L0 N c
        (fun o0 o1 =>
          some (arrL (0 : Int) o1))
        N 0 ((List.range r3.n).map r3.f)))))))

def e_selfstabref34_Heads (N : Nat) : Ent := ⟨10, [], [.agg (.pair (.arr (.int .i64)) (.arr (.arr (.pair (.int .i64) (.int .i64))))), .cell (.arr (.arr (.int .i64)))], .cell (.arr (.int .i64)), fun x => s_selfstabref34_Heads N x.1.1 x.1.2 x.2.1, false⟩

def es_selfstabref34_Heads (N : Nat) : List Ent := [e_selfstabref34_Fit N, e_selfstabref34_Vars N, e_selfstabref23_Config N, e_selfstabref23_Named N]
theorem es_selfstabref34_Heads_ok (N : Nat) : EntsOK prg0 N 4 (es_selfstabref34_Heads N) := ⟨(ok_selfstabref34_Fit N).mono (by decide), (ok_selfstabref34_Vars N).mono (by decide), (ok_selfstabref23_Config N).mono (by decide), (ok_selfstabref23_Named N).mono (by decide), trivial⟩

theorem ok_selfstabref34_Heads_L0 {R : Type} (N d : Nat) (hd : 4 ≤ d) (call : CallF) (hcall : call = evF prg0 N (d + 1)) (hC : CkOK (R := R) (ckOf (es_selfstabref34_Heads N)) call) : LoopOK (R := R) N call [1, 5, 6] k_selfstabref34_Heads_L0.mc (lp_selfstabref34_Heads N 0) :=
  loop_of hC (⟨⟨trivial, ⟨trivial, trivial⟩⟩, ⟨⟨trivial, ⟨trivial, trivial⟩⟩, trivial⟩⟩) (la_selfstabref34_Heads_L0 N) (fun _ _ => rfl) (fun m x k => by kernel_rfl) (fun _ _ => rfl)

theorem ok_selfstabref34_Heads (N : Nat) : EntOK prg0 N 5 (e_selfstabref34_Heads N) :=
  ent_ok (es_selfstabref34_Heads_ok N) (f := k_selfstabref34_Heads) rfl ((prgF_10).trans (congrArg some k_selfstabref34_Heads_mf.symm)) rfl rfl (lp_selfstabref34_Heads N) (fun d hd call hcall hC => ⟨trivial, ⟨⟨trivial, ⟨⟨trivial, trivial⟩, trivial⟩⟩, ⟨trivial, ⟨⟨trivial, ok_selfstabref34_Heads_L0 N d hd call hcall hC⟩, ⟨trivial, trivial⟩⟩⟩⟩⟩) (fun x => by kernel_rfl)

-- selfstab/selfstablaw34.ClusterJudges
def k_selfstablaw34_ClusterJudges : KF := ⟨42, [.tmp 4], (
  .seq (.reg [⟨some 2, .box 2 (.t 0), none, none⟩,
    ⟨some 4, .mv (.c (Value.bool false)), none, none⟩] [1, 2])
  (.seq (.seq (.reg [⟨some 5, .load (some 2) (.t 2), none, none⟩,
    ⟨some 6, .mv (.t 1), none, none⟩,
    ⟨some 7, .call 1 [.t 5, .t 6], none, none⟩] [1, 2, 7])
  (.cond (.t 7) (.seq (.reg [⟨some 8, .call 2 [], none, none⟩,
     ⟨some 4, .mv (.t 8), none, none⟩] [4])
   (.ret))
   (.skip)))
  (.seq (.reg [⟨some 9, .call 2 [], none, none⟩,
    ⟨some 10, .mv (.t 9), none, none⟩,
    ⟨some 11, .load (some 2) (.t 2), some (10, true), none⟩,
    ⟨some 12, .call 3 [.t 11], some (10, true), none⟩,
    ⟨some 13, .load (some 2) (.t 2), some (10, true), none⟩,
    ⟨some 14, .call 4 [.t 13], some (10, true), none⟩,
    ⟨some 15, .eqb false (.t 12) (.t 14), some (10, true), none⟩,
    ⟨some 16, .pick (.t 10) (.t 15) (.c (Value.bool false)), none, none⟩,
    ⟨some 17, .mv (.t 16), none, none⟩,
    ⟨some 18, .load (some 2) (.t 2), some (17, true), none⟩,
    ⟨some 19, .mv (.t 1), some (17, true), none⟩,
    ⟨some 20, .call 5 [.t 18, .t 19], some (17, true), none⟩,
    ⟨some 21, .load (some 2) (.t 2), some (17, true), none⟩,
    ⟨some 22, .mv (.t 1), some (17, true), none⟩,
    ⟨some 23, .call 6 [.t 21, .t 22], some (17, true), none⟩,
    ⟨some 24, .eqb false (.t 20) (.t 23), some (17, true), none⟩,
    ⟨some 25, .pick (.t 17) (.t 24) (.c (Value.bool false)), none, none⟩,
    ⟨some 26, .mv (.t 25), none, none⟩,
    ⟨some 27, .load (some 2) (.t 2), some (26, true), none⟩,
    ⟨some 28, .call 7 [.t 27], some (26, true), none⟩,
    ⟨some 29, .load (some 2) (.t 2), some (26, true), none⟩,
    ⟨some 30, .call 8 [.t 29], some (26, true), none⟩,
    ⟨some 31, .eqn false [0, 1, 1, 0, 0] (.t 28) (.t 30), some (26, true), none⟩,
    ⟨some 32, .pick (.t 26) (.t 31) (.c (Value.bool false)), none, none⟩,
    ⟨some 33, .mv (.t 32), none, none⟩,
    ⟨some 34, .load (some 2) (.t 2), some (33, true), none⟩,
    ⟨some 35, .mv (.t 1), some (33, true), none⟩,
    ⟨some 36, .call 9 [.t 34, .t 35], some (33, true), none⟩,
    ⟨some 37, .load (some 2) (.t 2), some (33, true), none⟩,
    ⟨some 38, .mv (.t 1), some (33, true), none⟩,
    ⟨some 39, .call 10 [.t 37, .t 38], some (33, true), none⟩,
    ⟨some 40, .call 11 [.t 36, .t 39], some (33, true), none⟩,
    ⟨some 41, .pick (.t 33) (.t 40) (.c (Value.bool false)), none, none⟩,
    ⟨some 4, .mv (.t 41), none, none⟩] [4])
  (.ret)))), true⟩

theorem k_selfstablaw34_ClusterJudges_mf : k_selfstablaw34_ClusterJudges.mf = m_selfstablaw34_ClusterJudges := by kernel_rfl

def lp_selfstablaw34_ClusterJudges {R : Type} (N : Nat) : Nat → KSt → KK R → Option R
  | _, _, _ => none

def s_selfstablaw34_ClusterJudges (N : Nat) (g1 : Arr Int) (g2 : Arr (Arr (Int × Int))) (c : Arr (Arr Int)) : Option (Bool) :=
  kO? (s_selfstablaw34_large N g1 g2 c) (fun r =>
  sel (r) (
    kO? (s_selfstablaw34_known N) (fun r1 =>
    some r1)) (
    kO? (s_selfstablaw34_known N) (fun r2 =>
    sel (r2) (
      kO? (s_cluster_Fit N g1 g2) (fun r3 =>
      kO? (s_selfstabref34_Fit N g1 g2) (fun r4 =>
      sel (r3 == r4) (
        kO? (s_cluster_Legit N g1 g2 c) (fun r5 =>
        kO? (s_selfstabref34_Legit N g1 g2 c) (fun r6 =>
        sel (r5 == r6) (
          kO? (s_cluster_Claim N g1 g2) (fun r7 =>
          kO? (s_selfstabref34_Claim N g1 g2) (fun r8 =>
          sel (r7.1 == r8.1 && (r7.2.1 == r8.2.1 && (r7.2.2.1 == r8.2.2.1 && (r7.2.2.2.1 == r8.2.2.2.1 && (r7.2.2.2.2 == r8.2.2.2.2 && true))))) (
            kO? (s_cluster_Heads N g1 g2 c) (fun r9 =>
            kO? (s_selfstabref34_Heads N g1 g2 c) (fun r10 =>
            kO? (s_selfstablaw34_sameInts N r9 r10) (fun r11 =>
            some r11)))) (
            some false)))) (
          some false)))) (
        some false)))) (
      some false))))

def e_selfstablaw34_ClusterJudges (N : Nat) : Ent := ⟨12, [], [.agg (.pair (.arr (.int .i64)) (.arr (.arr (.pair (.int .i64) (.int .i64))))), .cell (.arr (.arr (.int .i64)))], .cell .bool, fun x => s_selfstablaw34_ClusterJudges N x.1.1 x.1.2 x.2.1, false⟩

def es_selfstablaw34_ClusterJudges (N : Nat) : List Ent := [e_selfstablaw34_large N, e_selfstablaw34_known N, e_cluster_Fit N, e_selfstabref34_Fit N, e_cluster_Legit N, e_selfstabref34_Legit N, e_cluster_Claim N, e_selfstabref34_Claim N, e_cluster_Heads N, e_selfstabref34_Heads N, e_selfstablaw34_sameInts N]
theorem es_selfstablaw34_ClusterJudges_ok (N : Nat) : EntsOK prg0 N 11 (es_selfstablaw34_ClusterJudges N) := ⟨(ok_selfstablaw34_large N).mono (by decide), (ok_selfstablaw34_known N).mono (by decide), (ok_cluster_Fit N).mono (by decide), (ok_selfstabref34_Fit N).mono (by decide), (ok_cluster_Legit N).mono (by decide), (ok_selfstabref34_Legit N).mono (by decide), (ok_cluster_Claim N).mono (by decide), (ok_selfstabref34_Claim N).mono (by decide), (ok_cluster_Heads N).mono (by decide), (ok_selfstabref34_Heads N).mono (by decide), (ok_selfstablaw34_sameInts N).mono (by decide), trivial⟩

theorem ok_selfstablaw34_ClusterJudges (N : Nat) : EntOK prg0 N 12 (e_selfstablaw34_ClusterJudges N) :=
  ent_ok (es_selfstablaw34_ClusterJudges_ok N) (f := k_selfstablaw34_ClusterJudges) rfl ((prgF_12).trans (congrArg some k_selfstablaw34_ClusterJudges_mf.symm)) rfl rfl (lp_selfstablaw34_ClusterJudges N) (fun d hd call hcall hC => ⟨trivial, ⟨⟨trivial, ⟨⟨trivial, trivial⟩, trivial⟩⟩, ⟨trivial, trivial⟩⟩⟩) (fun x => by kernel_rfl)

end Sx
