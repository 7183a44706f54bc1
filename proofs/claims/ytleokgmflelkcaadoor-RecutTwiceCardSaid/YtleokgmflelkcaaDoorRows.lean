/-
  NARROWER THAN 'FOR EVERY INPUT', by the rows' own cells (each row's printed sentence says how): RecutCuts: laid · RecutAsks: laid · RecutJoins: laid · RecutBack: laid · RecutTwice: laid · RecutFew: laid · RecutRefuses: laid · RecutKeeps: laid.
  DERIVED. THE GIVEN ROWS OF THIS SEAT. 8 by the template 'for every input the law returns true; each argument reads behind the call as it read before'; 0 by the template 'total and deterministic' (their statements: YtleokgmflelkcaaDoorTotals.lean).
  GIVEN WITH THE SEED: the statements are not yours to turn. If you find one false, say at which input.
  Laid BY PROGRAM, IN A SANDBOX (cutbox-rows.mjs): the forced cells as the released guide's own fill.sh prints them over the translation f5a05a002e9c6975… (all of the seat's roots in one cut). By AI agents, Wed Nov 11 2026. No macro, syntax, notation, axiom, sorry.
-/
import Derived.Test.YtleokgmflelkcaaDoorChecked
import GoSem.Claim
import GoSem.ClaimJoined
import GoSem.ClaimMapViews
import Derived.JoinedTies
import Derived.KernelRfl
namespace Go.Proofs.YtleokgmflelkcaaDoor
/- THE CELL 'sum', in the pinned program and in every row, IS THE sha256 OF THE DUMP (.gsa) THAT YtleokgmflelkcaaDoorProg.lean LOADS. Nothing in Lean hashes anything: it is a label: what it is worth is what the hold of that sum in a sandbox is worth. -/
noncomputable def Tryd.pinned : Pinned := { name := "ytleokgmflelkcaadoor", sum := "f5a05a002e9c6975a14e5191d77a1b62f6d5f5eca3a892dac29e53b1987a7d15", checked := Tryd.checked }
namespace Rows
def none {H : Type} : Left H := { results := [], args := [] }

/- WHAT THE LISTED PACKAGE-LEVEL VARIABLES READ AS WHEN THE CALL BEGINS. Each datum BY PROGRAM (the guide's laid-datum.mjs) off the statement by which the dump's own 'gosem.cut.vars' lays the variable. In a bare row this is a premise. The card (YtleokgmflelkcaaDoorCards.lean) ties it to the program's text. -/
def laid_mosaic_opts_shapes {H : Type} : DataW H := .agg [.lit (.int .i64 1), .lit (.int .i64 2)]

/-- 'mosaiclaw11.RecutCuts': WHATEVER THE INPUT: true; the input reads as it did. -/
def recutCutsSpec : ChangeSpec := { name := "recutCuts", fn := fun _ => fun
  | [d1, d2] => { results := [.lit (.bool true)], args := [d1, d2] }
  | _ => none }
def recutCutsRow : OpenClaim := { program := "ytleokgmflelkcaadoor", sum := "f5a05a002e9c6975a14e5191d77a1b62f6d5f5eca3a892dac29e53b1987a7d15", func := "mosaic/mosaiclaw11.RecutCuts", spec := "recutCuts", unfollowed := true, recurses := true, named := ["mosaic/opts.shapes"], apart := false, laid := [("mosaic/opts.shapes", laid_mosaic_opts_shapes)] }
def RecutCutsSaid : Prop := recutCutsRow.holds Tryd.pinned (OpenSpec.ofChange recutCutsSpec)

/-- ITS FALSE NEIGHBOUR: 'it returns false'. Refute it at one input. -/
def recutCutsWrong : ChangeSpec := { name := "recutCuts", fn := fun _ => fun
  | [d1, d2] => { results := [.lit (.bool false)], args := [d1, d2] }
  | _ => none }
def RecutCutsWrongFalsely : Prop := recutCutsRow.holds Tryd.pinned (OpenSpec.ofChange recutCutsWrong)

/-- 'mosaiclaw11.RecutAsks': WHATEVER THE INPUT: true; the input reads as it did. -/
def recutAsksSpec : ChangeSpec := { name := "recutAsks", fn := fun _ => fun
  | [d1, d2, d3] => { results := [.lit (.bool true)], args := [d1, d2, d3] }
  | _ => none }
def recutAsksRow : OpenClaim := { program := "ytleokgmflelkcaadoor", sum := "f5a05a002e9c6975a14e5191d77a1b62f6d5f5eca3a892dac29e53b1987a7d15", func := "mosaic/mosaiclaw11.RecutAsks", spec := "recutAsks", unfollowed := true, recurses := true, named := ["mosaic/opts.shapes"], apart := false, laid := [("mosaic/opts.shapes", laid_mosaic_opts_shapes)] }
def RecutAsksSaid : Prop := recutAsksRow.holds Tryd.pinned (OpenSpec.ofChange recutAsksSpec)

/-- ITS FALSE NEIGHBOUR: 'it returns false'. Refute it at one input. -/
def recutAsksWrong : ChangeSpec := { name := "recutAsks", fn := fun _ => fun
  | [d1, d2, d3] => { results := [.lit (.bool false)], args := [d1, d2, d3] }
  | _ => none }
def RecutAsksWrongFalsely : Prop := recutAsksRow.holds Tryd.pinned (OpenSpec.ofChange recutAsksWrong)

/-- 'mosaiclaw11.RecutJoins': WHATEVER THE INPUT: true; the input reads as it did. -/
def recutJoinsSpec : ChangeSpec := { name := "recutJoins", fn := fun _ => fun
  | [d] => { results := [.lit (.bool true)], args := [d] }
  | _ => none }
def recutJoinsRow : OpenClaim := { program := "ytleokgmflelkcaadoor", sum := "f5a05a002e9c6975a14e5191d77a1b62f6d5f5eca3a892dac29e53b1987a7d15", func := "mosaic/mosaiclaw11.RecutJoins", spec := "recutJoins", unfollowed := true, recurses := true, named := ["mosaic/opts.shapes"], apart := false, laid := [("mosaic/opts.shapes", laid_mosaic_opts_shapes)] }
def RecutJoinsSaid : Prop := recutJoinsRow.holds Tryd.pinned (OpenSpec.ofChange recutJoinsSpec)

/-- ITS FALSE NEIGHBOUR: 'it returns false'. Refute it at one input. -/
def recutJoinsWrong : ChangeSpec := { name := "recutJoins", fn := fun _ => fun
  | [d] => { results := [.lit (.bool false)], args := [d] }
  | _ => none }
def RecutJoinsWrongFalsely : Prop := recutJoinsRow.holds Tryd.pinned (OpenSpec.ofChange recutJoinsWrong)

/-- 'mosaiclaw11.RecutBack': WHATEVER THE INPUT: true; the input reads as it did. -/
def recutBackSpec : ChangeSpec := { name := "recutBack", fn := fun _ => fun
  | [d1, d2, d3, d4] => { results := [.lit (.bool true)], args := [d1, d2, d3, d4] }
  | _ => none }
def recutBackRow : OpenClaim := { program := "ytleokgmflelkcaadoor", sum := "f5a05a002e9c6975a14e5191d77a1b62f6d5f5eca3a892dac29e53b1987a7d15", func := "mosaic/mosaiclaw11.RecutBack", spec := "recutBack", unfollowed := true, recurses := true, named := ["mosaic/opts.shapes"], apart := false, laid := [("mosaic/opts.shapes", laid_mosaic_opts_shapes)] }
def RecutBackSaid : Prop := recutBackRow.holds Tryd.pinned (OpenSpec.ofChange recutBackSpec)

/-- ITS FALSE NEIGHBOUR: 'it returns false'. Refute it at one input. -/
def recutBackWrong : ChangeSpec := { name := "recutBack", fn := fun _ => fun
  | [d1, d2, d3, d4] => { results := [.lit (.bool false)], args := [d1, d2, d3, d4] }
  | _ => none }
def RecutBackWrongFalsely : Prop := recutBackRow.holds Tryd.pinned (OpenSpec.ofChange recutBackWrong)

/-- 'mosaiclaw11.RecutTwice': WHATEVER THE INPUT: true; the input reads as it did. -/
def recutTwiceSpec : ChangeSpec := { name := "recutTwice", fn := fun _ => fun
  | [d1, d2, d3] => { results := [.lit (.bool true)], args := [d1, d2, d3] }
  | _ => none }
def recutTwiceRow : OpenClaim := { program := "ytleokgmflelkcaadoor", sum := "f5a05a002e9c6975a14e5191d77a1b62f6d5f5eca3a892dac29e53b1987a7d15", func := "mosaic/mosaiclaw11.RecutTwice", spec := "recutTwice", unfollowed := true, recurses := true, named := ["mosaic/opts.shapes"], apart := false, laid := [("mosaic/opts.shapes", laid_mosaic_opts_shapes)] }
def RecutTwiceSaid : Prop := recutTwiceRow.holds Tryd.pinned (OpenSpec.ofChange recutTwiceSpec)

/-- ITS FALSE NEIGHBOUR: 'it returns false'. Refute it at one input. -/
def recutTwiceWrong : ChangeSpec := { name := "recutTwice", fn := fun _ => fun
  | [d1, d2, d3] => { results := [.lit (.bool false)], args := [d1, d2, d3] }
  | _ => none }
def RecutTwiceWrongFalsely : Prop := recutTwiceRow.holds Tryd.pinned (OpenSpec.ofChange recutTwiceWrong)

/-- 'mosaiclaw11.RecutFew': WHATEVER THE INPUT: true; the input reads as it did. -/
def recutFewSpec : ChangeSpec := { name := "recutFew", fn := fun _ => fun
  | [d1, d2, d3] => { results := [.lit (.bool true)], args := [d1, d2, d3] }
  | _ => none }
def recutFewRow : OpenClaim := { program := "ytleokgmflelkcaadoor", sum := "f5a05a002e9c6975a14e5191d77a1b62f6d5f5eca3a892dac29e53b1987a7d15", func := "mosaic/mosaiclaw11.RecutFew", spec := "recutFew", unfollowed := true, recurses := true, named := ["mosaic/opts.shapes"], apart := false, laid := [("mosaic/opts.shapes", laid_mosaic_opts_shapes)] }
def RecutFewSaid : Prop := recutFewRow.holds Tryd.pinned (OpenSpec.ofChange recutFewSpec)

/-- ITS FALSE NEIGHBOUR: 'it returns false'. Refute it at one input. -/
def recutFewWrong : ChangeSpec := { name := "recutFew", fn := fun _ => fun
  | [d1, d2, d3] => { results := [.lit (.bool false)], args := [d1, d2, d3] }
  | _ => none }
def RecutFewWrongFalsely : Prop := recutFewRow.holds Tryd.pinned (OpenSpec.ofChange recutFewWrong)

/-- 'mosaiclaw11.RecutRefuses': WHATEVER THE INPUT: true; the input reads as it did. -/
def recutRefusesSpec : ChangeSpec := { name := "recutRefuses", fn := fun _ => fun
  | [d1, d2, d3] => { results := [.lit (.bool true)], args := [d1, d2, d3] }
  | _ => none }
def recutRefusesRow : OpenClaim := { program := "ytleokgmflelkcaadoor", sum := "f5a05a002e9c6975a14e5191d77a1b62f6d5f5eca3a892dac29e53b1987a7d15", func := "mosaic/mosaiclaw11.RecutRefuses", spec := "recutRefuses", unfollowed := true, recurses := true, named := ["mosaic/opts.shapes"], apart := false, laid := [("mosaic/opts.shapes", laid_mosaic_opts_shapes)] }
def RecutRefusesSaid : Prop := recutRefusesRow.holds Tryd.pinned (OpenSpec.ofChange recutRefusesSpec)

/-- ITS FALSE NEIGHBOUR: 'it returns false'. Refute it at one input. -/
def recutRefusesWrong : ChangeSpec := { name := "recutRefuses", fn := fun _ => fun
  | [d1, d2, d3] => { results := [.lit (.bool false)], args := [d1, d2, d3] }
  | _ => none }
def RecutRefusesWrongFalsely : Prop := recutRefusesRow.holds Tryd.pinned (OpenSpec.ofChange recutRefusesWrong)

/-- 'mosaiclaw11.RecutKeeps': WHATEVER THE INPUT: true; the input reads as it did. -/
def recutKeepsSpec : ChangeSpec := { name := "recutKeeps", fn := fun _ => fun
  | [d1, d2, d3] => { results := [.lit (.bool true)], args := [d1, d2, d3] }
  | _ => none }
def recutKeepsRow : OpenClaim := { program := "ytleokgmflelkcaadoor", sum := "f5a05a002e9c6975a14e5191d77a1b62f6d5f5eca3a892dac29e53b1987a7d15", func := "mosaic/mosaiclaw11.RecutKeeps", spec := "recutKeeps", unfollowed := true, recurses := true, named := ["mosaic/opts.shapes"], apart := false, laid := [("mosaic/opts.shapes", laid_mosaic_opts_shapes)] }
def RecutKeepsSaid : Prop := recutKeepsRow.holds Tryd.pinned (OpenSpec.ofChange recutKeepsSpec)

/-- ITS FALSE NEIGHBOUR: 'it returns false'. Refute it at one input. -/
def recutKeepsWrong : ChangeSpec := { name := "recutKeeps", fn := fun _ => fun
  | [d1, d2, d3] => { results := [.lit (.bool false)], args := [d1, d2, d3] }
  | _ => none }
def RecutKeepsWrongFalsely : Prop := recutKeepsRow.holds Tryd.pinned (OpenSpec.ofChange recutKeepsWrong)

/- THE SECOND FORM. 'bulk': how many values and letters a reading holds, each counted each time it is reached (what is shared counts as often as it is met; a slice's spare places count too). A statement '..UptoSaid' is the law's where the arguments, and the package variables that the reading takes, are together of bulk at most 1048576: NARROWER than '..Said'. Prove '..Said' where nothing that the law and all that it calls make is longer than what came in: it says more and counts as full. Else prove '..UptoSaid'. A law counts once. -/
mutual
def uptoBulk {H : Type} : DataW H → Nat
  | .lit (.string bytes) => bytes.length + 1
  | .lit _ => 1
  | .nil => 1
  | .ptr d => uptoBulk d + 1
  | .slice elems spare => uptoBulkAll elems + uptoBulkAll spare + 1
  | .agg parts => uptoBulkAll parts + 1
  | .iface _ d => uptoBulk d + 1
  | .map entries => uptoBulkEntries entries + 1
  | .held _ => 1
def uptoBulkAll {H : Type} : List (DataW H) → Nat
  | [] => 0
  | d :: r => uptoBulk d + uptoBulkAll r
def uptoBulkEntries {H : Type} : List (Lit × DataW H) → Nat
  | [] => 0
  | x :: r => uptoBulkEntry x + uptoBulkEntries r
def uptoBulkEntry {H : Type} : Lit × DataW H → Nat
  | (.string bytes, d) => bytes.length + uptoBulk d + 1
  | (_, d) => uptoBulk d + 1
 end
def uptoSmall : (H : Type) → List (DataW H) → Bool := fun _ ds => decide (uptoBulkAll ds ≤ 1048576)
def OpenSpec.upto (s : _root_.Go.ChangeSpec) : _root_.Go.OpenSpec := { _root_.Go.OpenSpec.ofChange s with cond := some uptoSmall }

/-- 'mosaiclaw11.RecutCuts', WHERE WHAT IT READS IS OF BULK AT MOST 1048576: true; the input reads as it did. -/
def recutCutsUptoRow : OpenClaim := { program := "ytleokgmflelkcaadoor", sum := "f5a05a002e9c6975a14e5191d77a1b62f6d5f5eca3a892dac29e53b1987a7d15", func := "mosaic/mosaiclaw11.RecutCuts", spec := "recutCuts", unfollowed := true, recurses := true, named := ["mosaic/opts.shapes"], apart := false, laid := [("mosaic/opts.shapes", laid_mosaic_opts_shapes)], narrowed := true }
def RecutCutsUptoSaid : Prop := recutCutsUptoRow.holds Tryd.pinned (OpenSpec.upto recutCutsSpec)

/-- 'mosaiclaw11.RecutAsks', WHERE WHAT IT READS IS OF BULK AT MOST 1048576: true; the input reads as it did. -/
def recutAsksUptoRow : OpenClaim := { program := "ytleokgmflelkcaadoor", sum := "f5a05a002e9c6975a14e5191d77a1b62f6d5f5eca3a892dac29e53b1987a7d15", func := "mosaic/mosaiclaw11.RecutAsks", spec := "recutAsks", unfollowed := true, recurses := true, named := ["mosaic/opts.shapes"], apart := false, laid := [("mosaic/opts.shapes", laid_mosaic_opts_shapes)], narrowed := true }
def RecutAsksUptoSaid : Prop := recutAsksUptoRow.holds Tryd.pinned (OpenSpec.upto recutAsksSpec)

/-- 'mosaiclaw11.RecutJoins', WHERE WHAT IT READS IS OF BULK AT MOST 1048576: true; the input reads as it did. -/
def recutJoinsUptoRow : OpenClaim := { program := "ytleokgmflelkcaadoor", sum := "f5a05a002e9c6975a14e5191d77a1b62f6d5f5eca3a892dac29e53b1987a7d15", func := "mosaic/mosaiclaw11.RecutJoins", spec := "recutJoins", unfollowed := true, recurses := true, named := ["mosaic/opts.shapes"], apart := false, laid := [("mosaic/opts.shapes", laid_mosaic_opts_shapes)], narrowed := true }
def RecutJoinsUptoSaid : Prop := recutJoinsUptoRow.holds Tryd.pinned (OpenSpec.upto recutJoinsSpec)

/-- 'mosaiclaw11.RecutBack', WHERE WHAT IT READS IS OF BULK AT MOST 1048576: true; the input reads as it did. -/
def recutBackUptoRow : OpenClaim := { program := "ytleokgmflelkcaadoor", sum := "f5a05a002e9c6975a14e5191d77a1b62f6d5f5eca3a892dac29e53b1987a7d15", func := "mosaic/mosaiclaw11.RecutBack", spec := "recutBack", unfollowed := true, recurses := true, named := ["mosaic/opts.shapes"], apart := false, laid := [("mosaic/opts.shapes", laid_mosaic_opts_shapes)], narrowed := true }
def RecutBackUptoSaid : Prop := recutBackUptoRow.holds Tryd.pinned (OpenSpec.upto recutBackSpec)

/-- 'mosaiclaw11.RecutTwice', WHERE WHAT IT READS IS OF BULK AT MOST 1048576: true; the input reads as it did. -/
def recutTwiceUptoRow : OpenClaim := { program := "ytleokgmflelkcaadoor", sum := "f5a05a002e9c6975a14e5191d77a1b62f6d5f5eca3a892dac29e53b1987a7d15", func := "mosaic/mosaiclaw11.RecutTwice", spec := "recutTwice", unfollowed := true, recurses := true, named := ["mosaic/opts.shapes"], apart := false, laid := [("mosaic/opts.shapes", laid_mosaic_opts_shapes)], narrowed := true }
def RecutTwiceUptoSaid : Prop := recutTwiceUptoRow.holds Tryd.pinned (OpenSpec.upto recutTwiceSpec)

/-- 'mosaiclaw11.RecutFew', WHERE WHAT IT READS IS OF BULK AT MOST 1048576: true; the input reads as it did. -/
def recutFewUptoRow : OpenClaim := { program := "ytleokgmflelkcaadoor", sum := "f5a05a002e9c6975a14e5191d77a1b62f6d5f5eca3a892dac29e53b1987a7d15", func := "mosaic/mosaiclaw11.RecutFew", spec := "recutFew", unfollowed := true, recurses := true, named := ["mosaic/opts.shapes"], apart := false, laid := [("mosaic/opts.shapes", laid_mosaic_opts_shapes)], narrowed := true }
def RecutFewUptoSaid : Prop := recutFewUptoRow.holds Tryd.pinned (OpenSpec.upto recutFewSpec)

/-- 'mosaiclaw11.RecutRefuses', WHERE WHAT IT READS IS OF BULK AT MOST 1048576: true; the input reads as it did. -/
def recutRefusesUptoRow : OpenClaim := { program := "ytleokgmflelkcaadoor", sum := "f5a05a002e9c6975a14e5191d77a1b62f6d5f5eca3a892dac29e53b1987a7d15", func := "mosaic/mosaiclaw11.RecutRefuses", spec := "recutRefuses", unfollowed := true, recurses := true, named := ["mosaic/opts.shapes"], apart := false, laid := [("mosaic/opts.shapes", laid_mosaic_opts_shapes)], narrowed := true }
def RecutRefusesUptoSaid : Prop := recutRefusesUptoRow.holds Tryd.pinned (OpenSpec.upto recutRefusesSpec)

/-- 'mosaiclaw11.RecutKeeps', WHERE WHAT IT READS IS OF BULK AT MOST 1048576: true; the input reads as it did. -/
def recutKeepsUptoRow : OpenClaim := { program := "ytleokgmflelkcaadoor", sum := "f5a05a002e9c6975a14e5191d77a1b62f6d5f5eca3a892dac29e53b1987a7d15", func := "mosaic/mosaiclaw11.RecutKeeps", spec := "recutKeeps", unfollowed := true, recurses := true, named := ["mosaic/opts.shapes"], apart := false, laid := [("mosaic/opts.shapes", laid_mosaic_opts_shapes)], narrowed := true }
def RecutKeepsUptoSaid : Prop := recutKeepsUptoRow.holds Tryd.pinned (OpenSpec.upto recutKeepsSpec)

end Rows
end Go.Proofs.YtleokgmflelkcaaDoor
