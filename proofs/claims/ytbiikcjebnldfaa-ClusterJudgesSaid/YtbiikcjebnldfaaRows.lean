/-
  No cell of these rows narrows 'for every input' (looked for: loops, veiled, ifaces, maps, wideKeys, modest, calm, conditions, laid).
  DERIVED. THE GIVEN ROWS OF THIS SEAT. 3 by the template 'for every input the law returns true; each argument reads behind the call as it read before'; 0 by the template 'total and deterministic' (their statements: YtbiikcjebnldfaaTotals.lean).
  GIVEN WITH THE SEED: the statements are not yours to turn. If you find one false, say at which input.
  Laid BY PROGRAM, IN A SANDBOX (cutbox-rows.mjs): the forced cells as the released guide's own fill.sh prints them over the translation f0f15e889d8cbb46… (all of the seat's roots in one cut). By AI agents, Wed Nov 11 2026. No macro, syntax, notation, axiom, sorry.
-/
import Derived.Test.YtbiikcjebnldfaaChecked
import GoSem.Claim
import GoSem.ClaimJoined
import GoSem.ClaimMapViews
import Derived.JoinedTies
import Derived.KernelRfl
namespace Go.Proofs.Ytbiikcjebnldfaa
/- THE CELL 'sum', in the pinned program and in every row, IS THE sha256 OF THE DUMP (.gsa) THAT YtbiikcjebnldfaaProg.lean LOADS. Nothing in Lean hashes anything: it is a label: what it is worth is what the hold of that sum in a sandbox is worth. -/
noncomputable def Try.pinned : Pinned := { name := "ytbiikcjebnldfaa", sum := "f0f15e889d8cbb464f1eec3a76ba25607fa86b338cf1120ae415e9eabbd9fbaf", checked := Try.checked }
namespace Rows
def none {H : Type} : Left H := { results := [], args := [] }

/-- 'selfstablaw34.ClusterJudges': WHATEVER THE INPUT: true; the input reads as it did. -/
def clusterJudgesSpec : ChangeSpec := { name := "clusterJudges", fn := fun _ => fun
  | [d1, d2] => { results := [.lit (.bool true)], args := [d1, d2] }
  | _ => none }
def clusterJudgesRow : OpenClaim := { program := "ytbiikcjebnldfaa", sum := "f0f15e889d8cbb464f1eec3a76ba25607fa86b338cf1120ae415e9eabbd9fbaf", func := "selfstab/selfstablaw34.ClusterJudges", spec := "clusterJudges", unfollowed := true, recurses := true, plainKeys := false, apart := false }
def ClusterJudgesSaid : Prop := clusterJudgesRow.holds Try.pinned (OpenSpec.ofChange clusterJudgesSpec)

/-- ITS FALSE NEIGHBOUR: 'it returns false'. Refute it at one input. -/
def clusterJudgesWrong : ChangeSpec := { name := "clusterJudges", fn := fun _ => fun
  | [d1, d2] => { results := [.lit (.bool false)], args := [d1, d2] }
  | _ => none }
def ClusterJudgesWrongFalsely : Prop := clusterJudgesRow.holds Try.pinned (OpenSpec.ofChange clusterJudgesWrong)

/-- 'selfstablaw25.WidestSpans': WHATEVER THE INPUT: true; the input reads as it did. -/
def widestSpansSpec : ChangeSpec := { name := "widestSpans", fn := fun _ => fun
  | [d] => { results := [.lit (.bool true)], args := [d] }
  | _ => none }
def widestSpansRow : OpenClaim := { program := "ytbiikcjebnldfaa", sum := "f0f15e889d8cbb464f1eec3a76ba25607fa86b338cf1120ae415e9eabbd9fbaf", func := "selfstab/selfstablaw25.WidestSpans", spec := "widestSpans", unfollowed := true, recurses := true, plainKeys := false, apart := false }
def WidestSpansSaid : Prop := widestSpansRow.holds Try.pinned (OpenSpec.ofChange widestSpansSpec)

/-- ITS FALSE NEIGHBOUR: 'it returns false'. Refute it at one input. -/
def widestSpansWrong : ChangeSpec := { name := "widestSpans", fn := fun _ => fun
  | [d] => { results := [.lit (.bool false)], args := [d] }
  | _ => none }
def WidestSpansWrongFalsely : Prop := widestSpansRow.holds Try.pinned (OpenSpec.ofChange widestSpansWrong)

/-- 'selfstablaw25.WidestJudges': WHATEVER THE INPUT: true; the input reads as it did. -/
def widestJudgesSpec : ChangeSpec := { name := "widestJudges", fn := fun _ => fun
  | [d1, d2] => { results := [.lit (.bool true)], args := [d1, d2] }
  | _ => none }
def widestJudgesRow : OpenClaim := { program := "ytbiikcjebnldfaa", sum := "f0f15e889d8cbb464f1eec3a76ba25607fa86b338cf1120ae415e9eabbd9fbaf", func := "selfstab/selfstablaw25.WidestJudges", spec := "widestJudges", unfollowed := true, recurses := true, plainKeys := false, apart := false }
def WidestJudgesSaid : Prop := widestJudgesRow.holds Try.pinned (OpenSpec.ofChange widestJudgesSpec)

/-- ITS FALSE NEIGHBOUR: 'it returns false'. Refute it at one input. -/
def widestJudgesWrong : ChangeSpec := { name := "widestJudges", fn := fun _ => fun
  | [d1, d2] => { results := [.lit (.bool false)], args := [d1, d2] }
  | _ => none }
def WidestJudgesWrongFalsely : Prop := widestJudgesRow.holds Try.pinned (OpenSpec.ofChange widestJudgesWrong)

/- THE SECOND FORM. 'bulk': how many values and letters a reading holds, each counted each time it is reached (what is shared counts as often as it is met; a slice's spare places count too). A statement '..UptoSaid' is the law's where the arguments, and the package variables that the reading takes, are together of bulk at most 1048576: NARROWER than '..Said'. Prove '..Said' where nothing that the law and all that it calls make is longer than what came in: it says more and counts as full. Else prove '..UptoSaid'. A law counts once. -/
mutual
def uptoBulk {H : Type} : DataW H → Nat
  | .lit (.string bytes) => bytes.length + 1
  | .lit _ => 1
  | .nil => 1
  | .ptr d => uptoBulk d + 1
  | .slice elems spare => uptoBulkAll elems + uptoBulkAll spare + 1
  | .agg parts => uptoBulkAll parts + 1
  | .iface _ d => uptoBulk d + 1
  | .map entries => uptoBulkEntries entries + 1
  | .held _ => 1
def uptoBulkAll {H : Type} : List (DataW H) → Nat
  | [] => 0
  | d :: r => uptoBulk d + uptoBulkAll r
def uptoBulkEntries {H : Type} : List (Lit × DataW H) → Nat
  | [] => 0
  | x :: r => uptoBulkEntry x + uptoBulkEntries r
def uptoBulkEntry {H : Type} : Lit × DataW H → Nat
  | (.string bytes, d) => bytes.length + uptoBulk d + 1
  | (_, d) => uptoBulk d + 1
 end
def uptoSmall : (H : Type) → List (DataW H) → Bool := fun _ ds => decide (uptoBulkAll ds ≤ 1048576)
def OpenSpec.upto (s : _root_.Go.ChangeSpec) : _root_.Go.OpenSpec := { _root_.Go.OpenSpec.ofChange s with cond := some uptoSmall }

/-- 'selfstablaw34.ClusterJudges', WHERE WHAT IT READS IS OF BULK AT MOST 1048576: true; the input reads as it did. -/
def clusterJudgesUptoRow : OpenClaim := { program := "ytbiikcjebnldfaa", sum := "f0f15e889d8cbb464f1eec3a76ba25607fa86b338cf1120ae415e9eabbd9fbaf", func := "selfstab/selfstablaw34.ClusterJudges", spec := "clusterJudges", unfollowed := true, recurses := true, plainKeys := false, apart := false, narrowed := true }
def ClusterJudgesUptoSaid : Prop := clusterJudgesUptoRow.holds Try.pinned (OpenSpec.upto clusterJudgesSpec)

/-- 'selfstablaw25.WidestSpans', WHERE WHAT IT READS IS OF BULK AT MOST 1048576: true; the input reads as it did. -/
def widestSpansUptoRow : OpenClaim := { program := "ytbiikcjebnldfaa", sum := "f0f15e889d8cbb464f1eec3a76ba25607fa86b338cf1120ae415e9eabbd9fbaf", func := "selfstab/selfstablaw25.WidestSpans", spec := "widestSpans", unfollowed := true, recurses := true, plainKeys := false, apart := false, narrowed := true }
def WidestSpansUptoSaid : Prop := widestSpansUptoRow.holds Try.pinned (OpenSpec.upto widestSpansSpec)

/-- 'selfstablaw25.WidestJudges', WHERE WHAT IT READS IS OF BULK AT MOST 1048576: true; the input reads as it did. -/
def widestJudgesUptoRow : OpenClaim := { program := "ytbiikcjebnldfaa", sum := "f0f15e889d8cbb464f1eec3a76ba25607fa86b338cf1120ae415e9eabbd9fbaf", func := "selfstab/selfstablaw25.WidestJudges", spec := "widestJudges", unfollowed := true, recurses := true, plainKeys := false, apart := false, narrowed := true }
def WidestJudgesUptoSaid : Prop := widestJudgesUptoRow.holds Try.pinned (OpenSpec.upto widestJudgesSpec)

end Rows
end Go.Proofs.Ytbiikcjebnldfaa
