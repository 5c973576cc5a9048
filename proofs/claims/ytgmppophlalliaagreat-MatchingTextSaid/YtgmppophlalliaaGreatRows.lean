/-
  No cell of these rows narrows 'for every input' (looked for: loops, veiled, ifaces, maps, wideKeys, modest, calm, conditions, laid).
  DERIVED. THE GIVEN ROWS OF THIS SEAT. 8 by the template 'for every input the law returns true; each argument reads behind the call as it read before'; 0 by the template 'total and deterministic' (their statements: YtgmppophlalliaaGreatTotals.lean).
  GIVEN WITH THE SEED: the statements are not yours to turn. If you find one false, say at which input.
  Laid BY PROGRAM, IN A SANDBOX (cutbox-rows.mjs): the forced cells as the released guide's own fill.sh prints them over the translation b172cbafbce83ba5… (all of the seat's roots in one cut). By AI agents, Wed Nov 11 2026. No macro, syntax, notation, axiom, sorry.
-/
import Derived.Test.YtgmppophlalliaaGreatChecked
import GoSem.Claim
import GoSem.ClaimJoined
import GoSem.ClaimMapViews
import Derived.JoinedTies
import Derived.KernelRfl
namespace Go.Proofs.YtgmppophlalliaaGreat
/- THE CELL 'sum', in the pinned program and in every row, IS THE sha256 OF THE DUMP (.gsa) THAT YtgmppophlalliaaGreatProg.lean LOADS. Nothing in Lean hashes anything: it is a label: what it is worth is what the hold of that sum in a sandbox is worth. -/
noncomputable def Tryz.pinned : Pinned := { name := "ytgmppophlalliaagreat", sum := "b172cbafbce83ba5ccf583bf7aeee1013c139eb1175193d7dd8cf7088db3711f", checked := Tryz.checked }
namespace Rows
def none {H : Type} : Left H := { results := [], args := [] }

/-- 'selfstablaw34.ClusterText': WHATEVER THE INPUT: true; the input reads as it did. -/
def clusterTextSpec : ChangeSpec := { name := "clusterText", fn := fun _ => fun
  | [d] => { results := [.lit (.bool true)], args := [d] }
  | _ => none }
def clusterTextRow : OpenClaim := { program := "ytgmppophlalliaagreat", sum := "b172cbafbce83ba5ccf583bf7aeee1013c139eb1175193d7dd8cf7088db3711f", func := "selfstab/selfstablaw34.ClusterText", spec := "clusterText", inPlace := ["internal/bytealg.IndexByteString", "internal/bytealg.IndexString"], unfollowed := true, recurses := true, named := ["internal/bytealg.MaxLen"], plainKeys := false, apart := false }
def ClusterTextSaid : Prop := clusterTextRow.holds Tryz.pinned (OpenSpec.ofChange clusterTextSpec)

/-- ITS FALSE NEIGHBOUR: 'it returns false'. Refute it at one input. -/
def clusterTextWrong : ChangeSpec := { name := "clusterText", fn := fun _ => fun
  | [d] => { results := [.lit (.bool false)], args := [d] }
  | _ => none }
def ClusterTextWrongFalsely : Prop := clusterTextRow.holds Tryz.pinned (OpenSpec.ofChange clusterTextWrong)

/-- 'selfstablaw36.ClockText': WHATEVER THE INPUT: true; the input reads as it did. -/
def clockTextSpec : ChangeSpec := { name := "clockText", fn := fun _ => fun
  | [d] => { results := [.lit (.bool true)], args := [d] }
  | _ => none }
def clockTextRow : OpenClaim := { program := "ytgmppophlalliaagreat", sum := "b172cbafbce83ba5ccf583bf7aeee1013c139eb1175193d7dd8cf7088db3711f", func := "selfstab/selfstablaw36.ClockText", spec := "clockText", inPlace := ["internal/bytealg.IndexByteString", "internal/bytealg.IndexString"], unfollowed := true, recurses := true, named := ["internal/bytealg.MaxLen"], plainKeys := false, apart := false }
def ClockTextSaid : Prop := clockTextRow.holds Tryz.pinned (OpenSpec.ofChange clockTextSpec)

/-- ITS FALSE NEIGHBOUR: 'it returns false'. Refute it at one input. -/
def clockTextWrong : ChangeSpec := { name := "clockText", fn := fun _ => fun
  | [d] => { results := [.lit (.bool false)], args := [d] }
  | _ => none }
def ClockTextWrongFalsely : Prop := clockTextRow.holds Tryz.pinned (OpenSpec.ofChange clockTextWrong)

/-- 'selfstablaw36.ClockJudges': WHATEVER THE INPUT: true; the input reads as it did. -/
def clockJudgesSpec : ChangeSpec := { name := "clockJudges", fn := fun _ => fun
  | [d1, d2] => { results := [.lit (.bool true)], args := [d1, d2] }
  | _ => none }
def clockJudgesRow : OpenClaim := { program := "ytgmppophlalliaagreat", sum := "b172cbafbce83ba5ccf583bf7aeee1013c139eb1175193d7dd8cf7088db3711f", func := "selfstab/selfstablaw36.ClockJudges", spec := "clockJudges", inPlace := ["internal/bytealg.IndexByteString", "internal/bytealg.IndexString"], unfollowed := true, recurses := true, named := ["internal/bytealg.MaxLen"], plainKeys := false, apart := false }
def ClockJudgesSaid : Prop := clockJudgesRow.holds Tryz.pinned (OpenSpec.ofChange clockJudgesSpec)

/-- ITS FALSE NEIGHBOUR: 'it returns false'. Refute it at one input. -/
def clockJudgesWrong : ChangeSpec := { name := "clockJudges", fn := fun _ => fun
  | [d1, d2] => { results := [.lit (.bool false)], args := [d1, d2] }
  | _ => none }
def ClockJudgesWrongFalsely : Prop := clockJudgesRow.holds Tryz.pinned (OpenSpec.ofChange clockJudgesWrong)

/-- 'selfstablaw25.WidestText': WHATEVER THE INPUT: true; the input reads as it did. -/
def widestTextSpec : ChangeSpec := { name := "widestText", fn := fun _ => fun
  | [d] => { results := [.lit (.bool true)], args := [d] }
  | _ => none }
def widestTextRow : OpenClaim := { program := "ytgmppophlalliaagreat", sum := "b172cbafbce83ba5ccf583bf7aeee1013c139eb1175193d7dd8cf7088db3711f", func := "selfstab/selfstablaw25.WidestText", spec := "widestText", inPlace := ["internal/bytealg.IndexByteString", "internal/bytealg.IndexString"], unfollowed := true, recurses := true, named := ["internal/bytealg.MaxLen"], plainKeys := false, apart := false }
def WidestTextSaid : Prop := widestTextRow.holds Tryz.pinned (OpenSpec.ofChange widestTextSpec)

/-- ITS FALSE NEIGHBOUR: 'it returns false'. Refute it at one input. -/
def widestTextWrong : ChangeSpec := { name := "widestText", fn := fun _ => fun
  | [d] => { results := [.lit (.bool false)], args := [d] }
  | _ => none }
def WidestTextWrongFalsely : Prop := widestTextRow.holds Tryz.pinned (OpenSpec.ofChange widestTextWrong)

/-- 'selfstablaw35.WaveText': WHATEVER THE INPUT: true; the input reads as it did. -/
def waveTextSpec : ChangeSpec := { name := "waveText", fn := fun _ => fun
  | [d] => { results := [.lit (.bool true)], args := [d] }
  | _ => none }
def waveTextRow : OpenClaim := { program := "ytgmppophlalliaagreat", sum := "b172cbafbce83ba5ccf583bf7aeee1013c139eb1175193d7dd8cf7088db3711f", func := "selfstab/selfstablaw35.WaveText", spec := "waveText", inPlace := ["internal/bytealg.IndexByteString", "internal/bytealg.IndexString"], unfollowed := true, recurses := true, named := ["internal/bytealg.MaxLen"], plainKeys := false, apart := false }
def WaveTextSaid : Prop := waveTextRow.holds Tryz.pinned (OpenSpec.ofChange waveTextSpec)

/-- ITS FALSE NEIGHBOUR: 'it returns false'. Refute it at one input. -/
def waveTextWrong : ChangeSpec := { name := "waveText", fn := fun _ => fun
  | [d] => { results := [.lit (.bool false)], args := [d] }
  | _ => none }
def WaveTextWrongFalsely : Prop := waveTextRow.holds Tryz.pinned (OpenSpec.ofChange waveTextWrong)

/-- 'selfstablaw35.WaveJudges': WHATEVER THE INPUT: true; the input reads as it did. -/
def waveJudgesSpec : ChangeSpec := { name := "waveJudges", fn := fun _ => fun
  | [d1, d2] => { results := [.lit (.bool true)], args := [d1, d2] }
  | _ => none }
def waveJudgesRow : OpenClaim := { program := "ytgmppophlalliaagreat", sum := "b172cbafbce83ba5ccf583bf7aeee1013c139eb1175193d7dd8cf7088db3711f", func := "selfstab/selfstablaw35.WaveJudges", spec := "waveJudges", inPlace := ["internal/bytealg.IndexByteString", "internal/bytealg.IndexString"], unfollowed := true, recurses := true, named := ["internal/bytealg.MaxLen"], plainKeys := false, apart := false }
def WaveJudgesSaid : Prop := waveJudgesRow.holds Tryz.pinned (OpenSpec.ofChange waveJudgesSpec)

/-- ITS FALSE NEIGHBOUR: 'it returns false'. Refute it at one input. -/
def waveJudgesWrong : ChangeSpec := { name := "waveJudges", fn := fun _ => fun
  | [d1, d2] => { results := [.lit (.bool false)], args := [d1, d2] }
  | _ => none }
def WaveJudgesWrongFalsely : Prop := waveJudgesRow.holds Tryz.pinned (OpenSpec.ofChange waveJudgesWrong)

/-- 'selfstablaw30.MatchingText': WHATEVER THE INPUT: true; the input reads as it did. -/
def matchingTextSpec : ChangeSpec := { name := "matchingText", fn := fun _ => fun
  | [d] => { results := [.lit (.bool true)], args := [d] }
  | _ => none }
def matchingTextRow : OpenClaim := { program := "ytgmppophlalliaagreat", sum := "b172cbafbce83ba5ccf583bf7aeee1013c139eb1175193d7dd8cf7088db3711f", func := "selfstab/selfstablaw30.MatchingText", spec := "matchingText", inPlace := ["internal/bytealg.IndexByteString", "internal/bytealg.IndexString"], unfollowed := true, recurses := true, named := ["internal/bytealg.MaxLen"], plainKeys := false, apart := false }
def MatchingTextSaid : Prop := matchingTextRow.holds Tryz.pinned (OpenSpec.ofChange matchingTextSpec)

/-- ITS FALSE NEIGHBOUR: 'it returns false'. Refute it at one input. -/
def matchingTextWrong : ChangeSpec := { name := "matchingText", fn := fun _ => fun
  | [d] => { results := [.lit (.bool false)], args := [d] }
  | _ => none }
def MatchingTextWrongFalsely : Prop := matchingTextRow.holds Tryz.pinned (OpenSpec.ofChange matchingTextWrong)

/-- 'selfstablaw30.MatchingJudges': WHATEVER THE INPUT: true; the input reads as it did. -/
def matchingJudgesSpec : ChangeSpec := { name := "matchingJudges", fn := fun _ => fun
  | [d1, d2] => { results := [.lit (.bool true)], args := [d1, d2] }
  | _ => none }
def matchingJudgesRow : OpenClaim := { program := "ytgmppophlalliaagreat", sum := "b172cbafbce83ba5ccf583bf7aeee1013c139eb1175193d7dd8cf7088db3711f", func := "selfstab/selfstablaw30.MatchingJudges", spec := "matchingJudges", inPlace := ["internal/bytealg.IndexByteString", "internal/bytealg.IndexString"], unfollowed := true, recurses := true, named := ["internal/bytealg.MaxLen"], plainKeys := false, apart := false }
def MatchingJudgesSaid : Prop := matchingJudgesRow.holds Tryz.pinned (OpenSpec.ofChange matchingJudgesSpec)

/-- ITS FALSE NEIGHBOUR: 'it returns false'. Refute it at one input. -/
def matchingJudgesWrong : ChangeSpec := { name := "matchingJudges", fn := fun _ => fun
  | [d1, d2] => { results := [.lit (.bool false)], args := [d1, d2] }
  | _ => none }
def MatchingJudgesWrongFalsely : Prop := matchingJudgesRow.holds Tryz.pinned (OpenSpec.ofChange matchingJudgesWrong)

/- THE SECOND FORM. 'bulk': how many values and letters a reading holds, each counted each time it is reached (what is shared counts as often as it is met; a slice's spare places count too). A statement '..UptoSaid' is the law's where the arguments, and the package variables that the reading takes, are together of bulk at most 1048576: NARROWER than '..Said'. Prove '..Said' where nothing that the law and all that it calls make is longer than what came in: it says more and counts as full. Else prove '..UptoSaid'. A law counts once. -/
mutual
def uptoBulk {H : Type} : DataW H → Nat
  | .lit (.string bytes) => bytes.length + 1
  | .lit _ => 1
  | .nil => 1
  | .ptr d => uptoBulk d + 1
  | .slice elems spare => uptoBulkAll elems + uptoBulkAll spare + 1
  | .agg parts => uptoBulkAll parts + 1
  | .iface _ d => uptoBulk d + 1
  | .map entries => uptoBulkEntries entries + 1
  | .held _ => 1
def uptoBulkAll {H : Type} : List (DataW H) → Nat
  | [] => 0
  | d :: r => uptoBulk d + uptoBulkAll r
def uptoBulkEntries {H : Type} : List (Lit × DataW H) → Nat
  | [] => 0
  | x :: r => uptoBulkEntry x + uptoBulkEntries r
def uptoBulkEntry {H : Type} : Lit × DataW H → Nat
  | (.string bytes, d) => bytes.length + uptoBulk d + 1
  | (_, d) => uptoBulk d + 1
 end
def uptoSmall : (H : Type) → List (DataW H) → Bool := fun _ ds => decide (uptoBulkAll ds ≤ 1048576)
def OpenSpec.upto (s : _root_.Go.ChangeSpec) : _root_.Go.OpenSpec := { _root_.Go.OpenSpec.ofChange s with cond := some uptoSmall }

/-- 'selfstablaw34.ClusterText', WHERE WHAT IT READS IS OF BULK AT MOST 1048576: true; the input reads as it did. -/
def clusterTextUptoRow : OpenClaim := { program := "ytgmppophlalliaagreat", sum := "b172cbafbce83ba5ccf583bf7aeee1013c139eb1175193d7dd8cf7088db3711f", func := "selfstab/selfstablaw34.ClusterText", spec := "clusterText", inPlace := ["internal/bytealg.IndexByteString", "internal/bytealg.IndexString"], unfollowed := true, recurses := true, named := ["internal/bytealg.MaxLen"], plainKeys := false, apart := false, narrowed := true }
def ClusterTextUptoSaid : Prop := clusterTextUptoRow.holds Tryz.pinned (OpenSpec.upto clusterTextSpec)

/-- 'selfstablaw36.ClockText', WHERE WHAT IT READS IS OF BULK AT MOST 1048576: true; the input reads as it did. -/
def clockTextUptoRow : OpenClaim := { program := "ytgmppophlalliaagreat", sum := "b172cbafbce83ba5ccf583bf7aeee1013c139eb1175193d7dd8cf7088db3711f", func := "selfstab/selfstablaw36.ClockText", spec := "clockText", inPlace := ["internal/bytealg.IndexByteString", "internal/bytealg.IndexString"], unfollowed := true, recurses := true, named := ["internal/bytealg.MaxLen"], plainKeys := false, apart := false, narrowed := true }
def ClockTextUptoSaid : Prop := clockTextUptoRow.holds Tryz.pinned (OpenSpec.upto clockTextSpec)

/-- 'selfstablaw36.ClockJudges', WHERE WHAT IT READS IS OF BULK AT MOST 1048576: true; the input reads as it did. -/
def clockJudgesUptoRow : OpenClaim := { program := "ytgmppophlalliaagreat", sum := "b172cbafbce83ba5ccf583bf7aeee1013c139eb1175193d7dd8cf7088db3711f", func := "selfstab/selfstablaw36.ClockJudges", spec := "clockJudges", inPlace := ["internal/bytealg.IndexByteString", "internal/bytealg.IndexString"], unfollowed := true, recurses := true, named := ["internal/bytealg.MaxLen"], plainKeys := false, apart := false, narrowed := true }
def ClockJudgesUptoSaid : Prop := clockJudgesUptoRow.holds Tryz.pinned (OpenSpec.upto clockJudgesSpec)

/-- 'selfstablaw25.WidestText', WHERE WHAT IT READS IS OF BULK AT MOST 1048576: true; the input reads as it did. -/
def widestTextUptoRow : OpenClaim := { program := "ytgmppophlalliaagreat", sum := "b172cbafbce83ba5ccf583bf7aeee1013c139eb1175193d7dd8cf7088db3711f", func := "selfstab/selfstablaw25.WidestText", spec := "widestText", inPlace := ["internal/bytealg.IndexByteString", "internal/bytealg.IndexString"], unfollowed := true, recurses := true, named := ["internal/bytealg.MaxLen"], plainKeys := false, apart := false, narrowed := true }
def WidestTextUptoSaid : Prop := widestTextUptoRow.holds Tryz.pinned (OpenSpec.upto widestTextSpec)

/-- 'selfstablaw35.WaveText', WHERE WHAT IT READS IS OF BULK AT MOST 1048576: true; the input reads as it did. -/
def waveTextUptoRow : OpenClaim := { program := "ytgmppophlalliaagreat", sum := "b172cbafbce83ba5ccf583bf7aeee1013c139eb1175193d7dd8cf7088db3711f", func := "selfstab/selfstablaw35.WaveText", spec := "waveText", inPlace := ["internal/bytealg.IndexByteString", "internal/bytealg.IndexString"], unfollowed := true, recurses := true, named := ["internal/bytealg.MaxLen"], plainKeys := false, apart := false, narrowed := true }
def WaveTextUptoSaid : Prop := waveTextUptoRow.holds Tryz.pinned (OpenSpec.upto waveTextSpec)

/-- 'selfstablaw35.WaveJudges', WHERE WHAT IT READS IS OF BULK AT MOST 1048576: true; the input reads as it did. -/
def waveJudgesUptoRow : OpenClaim := { program := "ytgmppophlalliaagreat", sum := "b172cbafbce83ba5ccf583bf7aeee1013c139eb1175193d7dd8cf7088db3711f", func := "selfstab/selfstablaw35.WaveJudges", spec := "waveJudges", inPlace := ["internal/bytealg.IndexByteString", "internal/bytealg.IndexString"], unfollowed := true, recurses := true, named := ["internal/bytealg.MaxLen"], plainKeys := false, apart := false, narrowed := true }
def WaveJudgesUptoSaid : Prop := waveJudgesUptoRow.holds Tryz.pinned (OpenSpec.upto waveJudgesSpec)

/-- 'selfstablaw30.MatchingText', WHERE WHAT IT READS IS OF BULK AT MOST 1048576: true; the input reads as it did. -/
def matchingTextUptoRow : OpenClaim := { program := "ytgmppophlalliaagreat", sum := "b172cbafbce83ba5ccf583bf7aeee1013c139eb1175193d7dd8cf7088db3711f", func := "selfstab/selfstablaw30.MatchingText", spec := "matchingText", inPlace := ["internal/bytealg.IndexByteString", "internal/bytealg.IndexString"], unfollowed := true, recurses := true, named := ["internal/bytealg.MaxLen"], plainKeys := false, apart := false, narrowed := true }
def MatchingTextUptoSaid : Prop := matchingTextUptoRow.holds Tryz.pinned (OpenSpec.upto matchingTextSpec)

/-- 'selfstablaw30.MatchingJudges', WHERE WHAT IT READS IS OF BULK AT MOST 1048576: true; the input reads as it did. -/
def matchingJudgesUptoRow : OpenClaim := { program := "ytgmppophlalliaagreat", sum := "b172cbafbce83ba5ccf583bf7aeee1013c139eb1175193d7dd8cf7088db3711f", func := "selfstab/selfstablaw30.MatchingJudges", spec := "matchingJudges", inPlace := ["internal/bytealg.IndexByteString", "internal/bytealg.IndexString"], unfollowed := true, recurses := true, named := ["internal/bytealg.MaxLen"], plainKeys := false, apart := false, narrowed := true }
def MatchingJudgesUptoSaid : Prop := matchingJudgesUptoRow.holds Tryz.pinned (OpenSpec.upto matchingJudgesSpec)

end Rows
end Go.Proofs.YtgmppophlalliaaGreat
