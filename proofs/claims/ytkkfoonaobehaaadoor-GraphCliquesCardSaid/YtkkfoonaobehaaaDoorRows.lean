/-
  NARROWER THAN 'FOR EVERY INPUT', by the rows' own cells (each row's printed sentence says how): GraphMake: laid · GraphCliques: laid · GraphTree: laid · GraphIntersection: laid · GraphMaximal: laid · GraphExtension: laid · GraphComponents: laid · GraphSearch: laid · GraphRaw: laid.
  DERIVED. THE GIVEN ROWS OF THIS SEAT. 9 by the template 'for every input the law returns true; each argument reads behind the call as it read before'; 0 by the template 'total and deterministic' (their statements: YtkkfoonaobehaaaDoorTotals.lean).
  GIVEN WITH THE SEED: the statements are not yours to turn. If you find one false, say at which input.
  Laid BY PROGRAM, IN A SANDBOX (cutbox-rows.mjs): the forced cells as the released guide's own fill.sh prints them over the translation 664340ec7af5d88a… (all of the seat's roots in one cut). By AI agents, Wed Nov 11 2026. No macro, syntax, notation, axiom, sorry.
-/
import Derived.Test.YtkkfoonaobehaaaDoorChecked
import GoSem.Claim
import GoSem.ClaimJoined
import GoSem.ClaimMapViews
import Derived.JoinedTies
import Derived.KernelRfl
namespace Go.Proofs.YtkkfoonaobehaaaDoor
/- THE CELL 'sum', in the pinned program and in every row, IS THE sha256 OF THE DUMP (.gsa) THAT YtkkfoonaobehaaaDoorProg.lean LOADS. Nothing in Lean hashes anything: it is a label: what it is worth is what the hold of that sum in a sandbox is worth. -/
noncomputable def Tryd.pinned : Pinned := { name := "ytkkfoonaobehaaadoor", sum := "664340ec7af5d88a65f091ff8845371e6d09e77217cbeb4d4ea959371a6c6302", checked := Tryd.checked }
namespace Rows
def none {H : Type} : Left H := { results := [], args := [] }

/- WHAT THE LISTED PACKAGE-LEVEL VARIABLES READ AS WHEN THE CALL BEGINS. Each datum BY PROGRAM (the guide's laid-datum.mjs) off the statement by which the dump's own 'gosem.cut.vars' lays the variable. In a bare row this is a premise. The card (YtkkfoonaobehaaaDoorCards.lean) ties it to the program's text. -/
def laid_math_bits_deBruijn64tab {H : Type} : DataW H := .agg [.lit (.int .u8 0), .lit (.int .u8 1), .lit (.int .u8 56), .lit (.int .u8 2), .lit (.int .u8 57), .lit (.int .u8 49), .lit (.int .u8 28), .lit (.int .u8 3), .lit (.int .u8 61), .lit (.int .u8 58), .lit (.int .u8 42), .lit (.int .u8 50), .lit (.int .u8 38), .lit (.int .u8 29), .lit (.int .u8 17), .lit (.int .u8 4), .lit (.int .u8 62), .lit (.int .u8 47), .lit (.int .u8 59), .lit (.int .u8 36), .lit (.int .u8 45), .lit (.int .u8 43), .lit (.int .u8 51), .lit (.int .u8 22), .lit (.int .u8 53), .lit (.int .u8 39), .lit (.int .u8 33), .lit (.int .u8 30), .lit (.int .u8 24), .lit (.int .u8 18), .lit (.int .u8 12), .lit (.int .u8 5), .lit (.int .u8 63), .lit (.int .u8 55), .lit (.int .u8 48), .lit (.int .u8 27), .lit (.int .u8 60), .lit (.int .u8 41), .lit (.int .u8 37), .lit (.int .u8 16), .lit (.int .u8 46), .lit (.int .u8 35), .lit (.int .u8 44), .lit (.int .u8 21), .lit (.int .u8 52), .lit (.int .u8 32), .lit (.int .u8 23), .lit (.int .u8 11), .lit (.int .u8 54), .lit (.int .u8 26), .lit (.int .u8 40), .lit (.int .u8 15), .lit (.int .u8 34), .lit (.int .u8 20), .lit (.int .u8 31), .lit (.int .u8 10), .lit (.int .u8 25), .lit (.int .u8 14), .lit (.int .u8 19), .lit (.int .u8 9), .lit (.int .u8 13), .lit (.int .u8 8), .lit (.int .u8 7), .lit (.int .u8 6)]

/-- 'sosoptlaw15.GraphMake': WHATEVER THE INPUT: true; the input reads as it did. -/
def graphMakeSpec : ChangeSpec := { name := "graphMake", fn := fun _ => fun
  | [d1, d2] => { results := [.lit (.bool true)], args := [d1, d2] }
  | _ => none }
def graphMakeRow : OpenClaim := { program := "ytkkfoonaobehaaadoor", sum := "664340ec7af5d88a65f091ff8845371e6d09e77217cbeb4d4ea959371a6c6302", func := "sosopt/sosoptlaw15.GraphMake", spec := "graphMake", unfollowed := true, recurses := true, named := ["math/bits.deBruijn64tab"], apart := false, laid := [("math/bits.deBruijn64tab", laid_math_bits_deBruijn64tab)] }
def GraphMakeSaid : Prop := graphMakeRow.holds Tryd.pinned (OpenSpec.ofChange graphMakeSpec)

/-- ITS FALSE NEIGHBOUR: 'it returns false'. Refute it at one input. -/
def graphMakeWrong : ChangeSpec := { name := "graphMake", fn := fun _ => fun
  | [d1, d2] => { results := [.lit (.bool false)], args := [d1, d2] }
  | _ => none }
def GraphMakeWrongFalsely : Prop := graphMakeRow.holds Tryd.pinned (OpenSpec.ofChange graphMakeWrong)

/-- 'sosoptlaw15.GraphCliques': WHATEVER THE INPUT: true; the input reads as it did. -/
def graphCliquesSpec : ChangeSpec := { name := "graphCliques", fn := fun _ => fun
  | [d1, d2, d3] => { results := [.lit (.bool true)], args := [d1, d2, d3] }
  | _ => none }
def graphCliquesRow : OpenClaim := { program := "ytkkfoonaobehaaadoor", sum := "664340ec7af5d88a65f091ff8845371e6d09e77217cbeb4d4ea959371a6c6302", func := "sosopt/sosoptlaw15.GraphCliques", spec := "graphCliques", unfollowed := true, recurses := true, named := ["math/bits.deBruijn64tab"], apart := false, laid := [("math/bits.deBruijn64tab", laid_math_bits_deBruijn64tab)] }
def GraphCliquesSaid : Prop := graphCliquesRow.holds Tryd.pinned (OpenSpec.ofChange graphCliquesSpec)

/-- ITS FALSE NEIGHBOUR: 'it returns false'. Refute it at one input. -/
def graphCliquesWrong : ChangeSpec := { name := "graphCliques", fn := fun _ => fun
  | [d1, d2, d3] => { results := [.lit (.bool false)], args := [d1, d2, d3] }
  | _ => none }
def GraphCliquesWrongFalsely : Prop := graphCliquesRow.holds Tryd.pinned (OpenSpec.ofChange graphCliquesWrong)

/-- 'sosoptlaw15.GraphTree': WHATEVER THE INPUT: true; the input reads as it did. -/
def graphTreeSpec : ChangeSpec := { name := "graphTree", fn := fun _ => fun
  | [d] => { results := [.lit (.bool true)], args := [d] }
  | _ => none }
def graphTreeRow : OpenClaim := { program := "ytkkfoonaobehaaadoor", sum := "664340ec7af5d88a65f091ff8845371e6d09e77217cbeb4d4ea959371a6c6302", func := "sosopt/sosoptlaw15.GraphTree", spec := "graphTree", unfollowed := true, recurses := true, named := ["math/bits.deBruijn64tab"], apart := false, laid := [("math/bits.deBruijn64tab", laid_math_bits_deBruijn64tab)] }
def GraphTreeSaid : Prop := graphTreeRow.holds Tryd.pinned (OpenSpec.ofChange graphTreeSpec)

/-- ITS FALSE NEIGHBOUR: 'it returns false'. Refute it at one input. -/
def graphTreeWrong : ChangeSpec := { name := "graphTree", fn := fun _ => fun
  | [d] => { results := [.lit (.bool false)], args := [d] }
  | _ => none }
def GraphTreeWrongFalsely : Prop := graphTreeRow.holds Tryd.pinned (OpenSpec.ofChange graphTreeWrong)

/-- 'sosoptlaw15.GraphIntersection': WHATEVER THE INPUT: true; the input reads as it did. -/
def graphIntersectionSpec : ChangeSpec := { name := "graphIntersection", fn := fun _ => fun
  | [d1, d2] => { results := [.lit (.bool true)], args := [d1, d2] }
  | _ => none }
def graphIntersectionRow : OpenClaim := { program := "ytkkfoonaobehaaadoor", sum := "664340ec7af5d88a65f091ff8845371e6d09e77217cbeb4d4ea959371a6c6302", func := "sosopt/sosoptlaw15.GraphIntersection", spec := "graphIntersection", unfollowed := true, recurses := true, named := ["math/bits.deBruijn64tab"], apart := false, laid := [("math/bits.deBruijn64tab", laid_math_bits_deBruijn64tab)] }
def GraphIntersectionSaid : Prop := graphIntersectionRow.holds Tryd.pinned (OpenSpec.ofChange graphIntersectionSpec)

/-- ITS FALSE NEIGHBOUR: 'it returns false'. Refute it at one input. -/
def graphIntersectionWrong : ChangeSpec := { name := "graphIntersection", fn := fun _ => fun
  | [d1, d2] => { results := [.lit (.bool false)], args := [d1, d2] }
  | _ => none }
def GraphIntersectionWrongFalsely : Prop := graphIntersectionRow.holds Tryd.pinned (OpenSpec.ofChange graphIntersectionWrong)

/-- 'sosoptlaw15.GraphMaximal': WHATEVER THE INPUT: true; the input reads as it did. -/
def graphMaximalSpec : ChangeSpec := { name := "graphMaximal", fn := fun _ => fun
  | [d1, d2] => { results := [.lit (.bool true)], args := [d1, d2] }
  | _ => none }
def graphMaximalRow : OpenClaim := { program := "ytkkfoonaobehaaadoor", sum := "664340ec7af5d88a65f091ff8845371e6d09e77217cbeb4d4ea959371a6c6302", func := "sosopt/sosoptlaw15.GraphMaximal", spec := "graphMaximal", unfollowed := true, recurses := true, named := ["math/bits.deBruijn64tab"], apart := false, laid := [("math/bits.deBruijn64tab", laid_math_bits_deBruijn64tab)] }
def GraphMaximalSaid : Prop := graphMaximalRow.holds Tryd.pinned (OpenSpec.ofChange graphMaximalSpec)

/-- ITS FALSE NEIGHBOUR: 'it returns false'. Refute it at one input. -/
def graphMaximalWrong : ChangeSpec := { name := "graphMaximal", fn := fun _ => fun
  | [d1, d2] => { results := [.lit (.bool false)], args := [d1, d2] }
  | _ => none }
def GraphMaximalWrongFalsely : Prop := graphMaximalRow.holds Tryd.pinned (OpenSpec.ofChange graphMaximalWrong)

/-- 'sosoptlaw15.GraphExtension': WHATEVER THE INPUT: true; the input reads as it did. -/
def graphExtensionSpec : ChangeSpec := { name := "graphExtension", fn := fun _ => fun
  | [d1, d2] => { results := [.lit (.bool true)], args := [d1, d2] }
  | _ => none }
def graphExtensionRow : OpenClaim := { program := "ytkkfoonaobehaaadoor", sum := "664340ec7af5d88a65f091ff8845371e6d09e77217cbeb4d4ea959371a6c6302", func := "sosopt/sosoptlaw15.GraphExtension", spec := "graphExtension", unfollowed := true, recurses := true, named := ["math/bits.deBruijn64tab"], apart := false, laid := [("math/bits.deBruijn64tab", laid_math_bits_deBruijn64tab)] }
def GraphExtensionSaid : Prop := graphExtensionRow.holds Tryd.pinned (OpenSpec.ofChange graphExtensionSpec)

/-- ITS FALSE NEIGHBOUR: 'it returns false'. Refute it at one input. -/
def graphExtensionWrong : ChangeSpec := { name := "graphExtension", fn := fun _ => fun
  | [d1, d2] => { results := [.lit (.bool false)], args := [d1, d2] }
  | _ => none }
def GraphExtensionWrongFalsely : Prop := graphExtensionRow.holds Tryd.pinned (OpenSpec.ofChange graphExtensionWrong)

/-- 'sosoptlaw15.GraphComponents': WHATEVER THE INPUT: true; the input reads as it did. -/
def graphComponentsSpec : ChangeSpec := { name := "graphComponents", fn := fun _ => fun
  | [d1, d2] => { results := [.lit (.bool true)], args := [d1, d2] }
  | _ => none }
def graphComponentsRow : OpenClaim := { program := "ytkkfoonaobehaaadoor", sum := "664340ec7af5d88a65f091ff8845371e6d09e77217cbeb4d4ea959371a6c6302", func := "sosopt/sosoptlaw15.GraphComponents", spec := "graphComponents", unfollowed := true, recurses := true, named := ["math/bits.deBruijn64tab"], apart := false, laid := [("math/bits.deBruijn64tab", laid_math_bits_deBruijn64tab)] }
def GraphComponentsSaid : Prop := graphComponentsRow.holds Tryd.pinned (OpenSpec.ofChange graphComponentsSpec)

/-- ITS FALSE NEIGHBOUR: 'it returns false'. Refute it at one input. -/
def graphComponentsWrong : ChangeSpec := { name := "graphComponents", fn := fun _ => fun
  | [d1, d2] => { results := [.lit (.bool false)], args := [d1, d2] }
  | _ => none }
def GraphComponentsWrongFalsely : Prop := graphComponentsRow.holds Tryd.pinned (OpenSpec.ofChange graphComponentsWrong)

/-- 'sosoptlaw15.GraphSearch': WHATEVER THE INPUT: true; the input reads as it did. -/
def graphSearchSpec : ChangeSpec := { name := "graphSearch", fn := fun _ => fun
  | [d1, d2] => { results := [.lit (.bool true)], args := [d1, d2] }
  | _ => none }
def graphSearchRow : OpenClaim := { program := "ytkkfoonaobehaaadoor", sum := "664340ec7af5d88a65f091ff8845371e6d09e77217cbeb4d4ea959371a6c6302", func := "sosopt/sosoptlaw15.GraphSearch", spec := "graphSearch", unfollowed := true, recurses := true, named := ["math/bits.deBruijn64tab"], apart := false, laid := [("math/bits.deBruijn64tab", laid_math_bits_deBruijn64tab)] }
def GraphSearchSaid : Prop := graphSearchRow.holds Tryd.pinned (OpenSpec.ofChange graphSearchSpec)

/-- ITS FALSE NEIGHBOUR: 'it returns false'. Refute it at one input. -/
def graphSearchWrong : ChangeSpec := { name := "graphSearch", fn := fun _ => fun
  | [d1, d2] => { results := [.lit (.bool false)], args := [d1, d2] }
  | _ => none }
def GraphSearchWrongFalsely : Prop := graphSearchRow.holds Tryd.pinned (OpenSpec.ofChange graphSearchWrong)

/-- 'sosoptlaw15.GraphRaw': WHATEVER THE INPUT: true; the input reads as it did. -/
def graphRawSpec : ChangeSpec := { name := "graphRaw", fn := fun _ => fun
  | [d1, d2, d3] => { results := [.lit (.bool true)], args := [d1, d2, d3] }
  | _ => none }
def graphRawRow : OpenClaim := { program := "ytkkfoonaobehaaadoor", sum := "664340ec7af5d88a65f091ff8845371e6d09e77217cbeb4d4ea959371a6c6302", func := "sosopt/sosoptlaw15.GraphRaw", spec := "graphRaw", unfollowed := true, recurses := true, named := ["math/bits.deBruijn64tab"], apart := false, laid := [("math/bits.deBruijn64tab", laid_math_bits_deBruijn64tab)] }
def GraphRawSaid : Prop := graphRawRow.holds Tryd.pinned (OpenSpec.ofChange graphRawSpec)

/-- ITS FALSE NEIGHBOUR: 'it returns false'. Refute it at one input. -/
def graphRawWrong : ChangeSpec := { name := "graphRaw", fn := fun _ => fun
  | [d1, d2, d3] => { results := [.lit (.bool false)], args := [d1, d2, d3] }
  | _ => none }
def GraphRawWrongFalsely : Prop := graphRawRow.holds Tryd.pinned (OpenSpec.ofChange graphRawWrong)

/- THE SECOND FORM. 'bulk': how many values and letters a reading holds, each counted each time it is reached (what is shared counts as often as it is met; a slice's spare places count too). A statement '..UptoSaid' is the law's where the arguments, and the package variables that the reading takes, are together of bulk at most 1048576: NARROWER than '..Said'. Prove '..Said' where nothing that the law and all that it calls make is longer than what came in: it says more and counts as full. Else prove '..UptoSaid'. A law counts once. -/
mutual
def uptoBulk {H : Type} : DataW H → Nat
  | .lit (.string bytes) => bytes.length + 1
  | .lit _ => 1
  | .nil => 1
  | .ptr d => uptoBulk d + 1
  | .slice elems spare => uptoBulkAll elems + uptoBulkAll spare + 1
  | .agg parts => uptoBulkAll parts + 1
  | .iface _ d => uptoBulk d + 1
  | .map entries => uptoBulkEntries entries + 1
  | .held _ => 1
def uptoBulkAll {H : Type} : List (DataW H) → Nat
  | [] => 0
  | d :: r => uptoBulk d + uptoBulkAll r
def uptoBulkEntries {H : Type} : List (Lit × DataW H) → Nat
  | [] => 0
  | x :: r => uptoBulkEntry x + uptoBulkEntries r
def uptoBulkEntry {H : Type} : Lit × DataW H → Nat
  | (.string bytes, d) => bytes.length + uptoBulk d + 1
  | (_, d) => uptoBulk d + 1
 end
def uptoSmall : (H : Type) → List (DataW H) → Bool := fun _ ds => decide (uptoBulkAll ds ≤ 1048576)
def OpenSpec.upto (s : _root_.Go.ChangeSpec) : _root_.Go.OpenSpec := { _root_.Go.OpenSpec.ofChange s with cond := some uptoSmall }

/-- 'sosoptlaw15.GraphMake', WHERE WHAT IT READS IS OF BULK AT MOST 1048576: true; the input reads as it did. -/
def graphMakeUptoRow : OpenClaim := { program := "ytkkfoonaobehaaadoor", sum := "664340ec7af5d88a65f091ff8845371e6d09e77217cbeb4d4ea959371a6c6302", func := "sosopt/sosoptlaw15.GraphMake", spec := "graphMake", unfollowed := true, recurses := true, named := ["math/bits.deBruijn64tab"], apart := false, laid := [("math/bits.deBruijn64tab", laid_math_bits_deBruijn64tab)], narrowed := true }
def GraphMakeUptoSaid : Prop := graphMakeUptoRow.holds Tryd.pinned (OpenSpec.upto graphMakeSpec)

/-- 'sosoptlaw15.GraphCliques', WHERE WHAT IT READS IS OF BULK AT MOST 1048576: true; the input reads as it did. -/
def graphCliquesUptoRow : OpenClaim := { program := "ytkkfoonaobehaaadoor", sum := "664340ec7af5d88a65f091ff8845371e6d09e77217cbeb4d4ea959371a6c6302", func := "sosopt/sosoptlaw15.GraphCliques", spec := "graphCliques", unfollowed := true, recurses := true, named := ["math/bits.deBruijn64tab"], apart := false, laid := [("math/bits.deBruijn64tab", laid_math_bits_deBruijn64tab)], narrowed := true }
def GraphCliquesUptoSaid : Prop := graphCliquesUptoRow.holds Tryd.pinned (OpenSpec.upto graphCliquesSpec)

/-- 'sosoptlaw15.GraphTree', WHERE WHAT IT READS IS OF BULK AT MOST 1048576: true; the input reads as it did. -/
def graphTreeUptoRow : OpenClaim := { program := "ytkkfoonaobehaaadoor", sum := "664340ec7af5d88a65f091ff8845371e6d09e77217cbeb4d4ea959371a6c6302", func := "sosopt/sosoptlaw15.GraphTree", spec := "graphTree", unfollowed := true, recurses := true, named := ["math/bits.deBruijn64tab"], apart := false, laid := [("math/bits.deBruijn64tab", laid_math_bits_deBruijn64tab)], narrowed := true }
def GraphTreeUptoSaid : Prop := graphTreeUptoRow.holds Tryd.pinned (OpenSpec.upto graphTreeSpec)

/-- 'sosoptlaw15.GraphIntersection', WHERE WHAT IT READS IS OF BULK AT MOST 1048576: true; the input reads as it did. -/
def graphIntersectionUptoRow : OpenClaim := { program := "ytkkfoonaobehaaadoor", sum := "664340ec7af5d88a65f091ff8845371e6d09e77217cbeb4d4ea959371a6c6302", func := "sosopt/sosoptlaw15.GraphIntersection", spec := "graphIntersection", unfollowed := true, recurses := true, named := ["math/bits.deBruijn64tab"], apart := false, laid := [("math/bits.deBruijn64tab", laid_math_bits_deBruijn64tab)], narrowed := true }
def GraphIntersectionUptoSaid : Prop := graphIntersectionUptoRow.holds Tryd.pinned (OpenSpec.upto graphIntersectionSpec)

/-- 'sosoptlaw15.GraphMaximal', WHERE WHAT IT READS IS OF BULK AT MOST 1048576: true; the input reads as it did. -/
def graphMaximalUptoRow : OpenClaim := { program := "ytkkfoonaobehaaadoor", sum := "664340ec7af5d88a65f091ff8845371e6d09e77217cbeb4d4ea959371a6c6302", func := "sosopt/sosoptlaw15.GraphMaximal", spec := "graphMaximal", unfollowed := true, recurses := true, named := ["math/bits.deBruijn64tab"], apart := false, laid := [("math/bits.deBruijn64tab", laid_math_bits_deBruijn64tab)], narrowed := true }
def GraphMaximalUptoSaid : Prop := graphMaximalUptoRow.holds Tryd.pinned (OpenSpec.upto graphMaximalSpec)

/-- 'sosoptlaw15.GraphExtension', WHERE WHAT IT READS IS OF BULK AT MOST 1048576: true; the input reads as it did. -/
def graphExtensionUptoRow : OpenClaim := { program := "ytkkfoonaobehaaadoor", sum := "664340ec7af5d88a65f091ff8845371e6d09e77217cbeb4d4ea959371a6c6302", func := "sosopt/sosoptlaw15.GraphExtension", spec := "graphExtension", unfollowed := true, recurses := true, named := ["math/bits.deBruijn64tab"], apart := false, laid := [("math/bits.deBruijn64tab", laid_math_bits_deBruijn64tab)], narrowed := true }
def GraphExtensionUptoSaid : Prop := graphExtensionUptoRow.holds Tryd.pinned (OpenSpec.upto graphExtensionSpec)

/-- 'sosoptlaw15.GraphComponents', WHERE WHAT IT READS IS OF BULK AT MOST 1048576: true; the input reads as it did. -/
def graphComponentsUptoRow : OpenClaim := { program := "ytkkfoonaobehaaadoor", sum := "664340ec7af5d88a65f091ff8845371e6d09e77217cbeb4d4ea959371a6c6302", func := "sosopt/sosoptlaw15.GraphComponents", spec := "graphComponents", unfollowed := true, recurses := true, named := ["math/bits.deBruijn64tab"], apart := false, laid := [("math/bits.deBruijn64tab", laid_math_bits_deBruijn64tab)], narrowed := true }
def GraphComponentsUptoSaid : Prop := graphComponentsUptoRow.holds Tryd.pinned (OpenSpec.upto graphComponentsSpec)

/-- 'sosoptlaw15.GraphSearch', WHERE WHAT IT READS IS OF BULK AT MOST 1048576: true; the input reads as it did. -/
def graphSearchUptoRow : OpenClaim := { program := "ytkkfoonaobehaaadoor", sum := "664340ec7af5d88a65f091ff8845371e6d09e77217cbeb4d4ea959371a6c6302", func := "sosopt/sosoptlaw15.GraphSearch", spec := "graphSearch", unfollowed := true, recurses := true, named := ["math/bits.deBruijn64tab"], apart := false, laid := [("math/bits.deBruijn64tab", laid_math_bits_deBruijn64tab)], narrowed := true }
def GraphSearchUptoSaid : Prop := graphSearchUptoRow.holds Tryd.pinned (OpenSpec.upto graphSearchSpec)

/-- 'sosoptlaw15.GraphRaw', WHERE WHAT IT READS IS OF BULK AT MOST 1048576: true; the input reads as it did. -/
def graphRawUptoRow : OpenClaim := { program := "ytkkfoonaobehaaadoor", sum := "664340ec7af5d88a65f091ff8845371e6d09e77217cbeb4d4ea959371a6c6302", func := "sosopt/sosoptlaw15.GraphRaw", spec := "graphRaw", unfollowed := true, recurses := true, named := ["math/bits.deBruijn64tab"], apart := false, laid := [("math/bits.deBruijn64tab", laid_math_bits_deBruijn64tab)], narrowed := true }
def GraphRawUptoSaid : Prop := graphRawUptoRow.holds Tryd.pinned (OpenSpec.upto graphRawSpec)

end Rows
end Go.Proofs.YtkkfoonaobehaaaDoor
