/-
  NARROWER THAN 'FOR EVERY INPUT', by the rows' own cells (each row's printed sentence says how): AboveSays: loops · AboveOrder: loops · AboveWith: loops · TurnPairs: loops · AboveSorts: loops · TurnOne: loops · FillRules: loops · FillGround: loops · FillSays: loops.
  DERIVED. THE GIVEN ROWS OF THIS SEAT. 11 by the template 'for every input the law returns true; each argument reads behind the call as it read before'; 0 by the template 'total and deterministic' (their statements: YtpokiglgjmcdoaaTotals.lean).
  GIVEN WITH THE SEED: the statements are not yours to turn. If you find one false, say at which input.
  Laid BY PROGRAM, IN A SANDBOX (cutbox-rows.mjs): the forced cells as the released guide's own fill.sh prints them over the translation ff861914aedde9b6… (all of the seat's roots in one cut). By AI agents, Wed Nov 11 2026. No macro, syntax, notation, axiom, sorry.
-/
import Derived.Test.YtpokiglgjmcdoaaChecked
import GoSem.Claim
import GoSem.ClaimJoined
import GoSem.ClaimMapViews
import Derived.JoinedTies
import Derived.KernelRfl
namespace Go.Proofs.Ytpokiglgjmcdoaa
/- THE CELL 'sum', in the pinned program and in every row, IS THE sha256 OF THE DUMP (.gsa) THAT YtpokiglgjmcdoaaProg.lean LOADS. Nothing in Lean hashes anything: it is a label: what it is worth is what the hold of that sum in a sandbox is worth. -/
noncomputable def Try.pinned : Pinned := { name := "ytpokiglgjmcdoaa", sum := "ff861914aedde9b65b84f23333318191e269fb102b5d910899ffb82810f60d54", checked := Try.checked }
namespace Rows
def none {H : Type} : Left H := { results := [], args := [] }

/-- 'umpiragelaw7.AboveSays': WHATEVER THE INPUT: true; the input reads as it did. -/
def aboveSaysSpec : ChangeSpec := { name := "aboveSays", fn := fun _ => fun
  | [d1, d2] => { results := [.lit (.bool true)], args := [d1, d2] }
  | _ => none }
def aboveSaysRow : OpenClaim := { program := "ytpokiglgjmcdoaa", sum := "ff861914aedde9b65b84f23333318191e269fb102b5d910899ffb82810f60d54", func := "umpirage/umpiragelaw7.AboveSays", spec := "aboveSays", unfollowed := true, recurses := true, loops := true, plainKeys := false, apart := false }
def AboveSaysSaid : Prop := aboveSaysRow.holds Try.pinned (OpenSpec.ofChange aboveSaysSpec)

/-- ITS FALSE NEIGHBOUR: 'it returns false'. Refute it at one input. -/
def aboveSaysWrong : ChangeSpec := { name := "aboveSays", fn := fun _ => fun
  | [d1, d2] => { results := [.lit (.bool false)], args := [d1, d2] }
  | _ => none }
def AboveSaysWrongFalsely : Prop := aboveSaysRow.holds Try.pinned (OpenSpec.ofChange aboveSaysWrong)

/-- 'umpiragelaw7.AboveOrder': WHATEVER THE INPUT: true; the input reads as it did. -/
def aboveOrderSpec : ChangeSpec := { name := "aboveOrder", fn := fun _ => fun
  | [d1, d2, d3, d4] => { results := [.lit (.bool true)], args := [d1, d2, d3, d4] }
  | _ => none }
def aboveOrderRow : OpenClaim := { program := "ytpokiglgjmcdoaa", sum := "ff861914aedde9b65b84f23333318191e269fb102b5d910899ffb82810f60d54", func := "umpirage/umpiragelaw7.AboveOrder", spec := "aboveOrder", unfollowed := true, recurses := true, loops := true, plainKeys := false, apart := false }
def AboveOrderSaid : Prop := aboveOrderRow.holds Try.pinned (OpenSpec.ofChange aboveOrderSpec)

/-- ITS FALSE NEIGHBOUR: 'it returns false'. Refute it at one input. -/
def aboveOrderWrong : ChangeSpec := { name := "aboveOrder", fn := fun _ => fun
  | [d1, d2, d3, d4] => { results := [.lit (.bool false)], args := [d1, d2, d3, d4] }
  | _ => none }
def AboveOrderWrongFalsely : Prop := aboveOrderRow.holds Try.pinned (OpenSpec.ofChange aboveOrderWrong)

/-- 'umpiragetop.TopDiagrams': WHATEVER THE INPUT: true; the input reads as it did. -/
def topDiagramsSpec : ChangeSpec := { name := "topDiagrams", fn := fun _ => fun
  | [d1, d2] => { results := [.lit (.bool true)], args := [d1, d2] }
  | _ => none }
def topDiagramsRow : OpenClaim := { program := "ytpokiglgjmcdoaa", sum := "ff861914aedde9b65b84f23333318191e269fb102b5d910899ffb82810f60d54", func := "umpirage/umpiragetop.TopDiagrams", spec := "topDiagrams", unfollowed := true, recurses := true, plainKeys := false, apart := false }
def TopDiagramsSaid : Prop := topDiagramsRow.holds Try.pinned (OpenSpec.ofChange topDiagramsSpec)

/-- ITS FALSE NEIGHBOUR: 'it returns false'. Refute it at one input. -/
def topDiagramsWrong : ChangeSpec := { name := "topDiagrams", fn := fun _ => fun
  | [d1, d2] => { results := [.lit (.bool false)], args := [d1, d2] }
  | _ => none }
def TopDiagramsWrongFalsely : Prop := topDiagramsRow.holds Try.pinned (OpenSpec.ofChange topDiagramsWrong)

/-- 'umpiragetop.TopWishes': WHATEVER THE INPUT: true; the input reads as it did. -/
def topWishesSpec : ChangeSpec := { name := "topWishes", fn := fun _ => fun
  | [d1, d2, d3] => { results := [.lit (.bool true)], args := [d1, d2, d3] }
  | _ => none }
def topWishesRow : OpenClaim := { program := "ytpokiglgjmcdoaa", sum := "ff861914aedde9b65b84f23333318191e269fb102b5d910899ffb82810f60d54", func := "umpirage/umpiragetop.TopWishes", spec := "topWishes", unfollowed := true, recurses := true, plainKeys := false, apart := false }
def TopWishesSaid : Prop := topWishesRow.holds Try.pinned (OpenSpec.ofChange topWishesSpec)

/-- ITS FALSE NEIGHBOUR: 'it returns false'. Refute it at one input. -/
def topWishesWrong : ChangeSpec := { name := "topWishes", fn := fun _ => fun
  | [d1, d2, d3] => { results := [.lit (.bool false)], args := [d1, d2, d3] }
  | _ => none }
def TopWishesWrongFalsely : Prop := topWishesRow.holds Try.pinned (OpenSpec.ofChange topWishesWrong)

/-- 'umpiragelaw7.AboveWith': WHATEVER THE INPUT: true; the input reads as it did. -/
def aboveWithSpec : ChangeSpec := { name := "aboveWith", fn := fun _ => fun
  | [d1, d2, d3, d4, d5] => { results := [.lit (.bool true)], args := [d1, d2, d3, d4, d5] }
  | _ => none }
def aboveWithRow : OpenClaim := { program := "ytpokiglgjmcdoaa", sum := "ff861914aedde9b65b84f23333318191e269fb102b5d910899ffb82810f60d54", func := "umpirage/umpiragelaw7.AboveWith", spec := "aboveWith", unfollowed := true, recurses := true, loops := true, plainKeys := false, apart := false }
def AboveWithSaid : Prop := aboveWithRow.holds Try.pinned (OpenSpec.ofChange aboveWithSpec)

/-- ITS FALSE NEIGHBOUR: 'it returns false'. Refute it at one input. -/
def aboveWithWrong : ChangeSpec := { name := "aboveWith", fn := fun _ => fun
  | [d1, d2, d3, d4, d5] => { results := [.lit (.bool false)], args := [d1, d2, d3, d4, d5] }
  | _ => none }
def AboveWithWrongFalsely : Prop := aboveWithRow.holds Try.pinned (OpenSpec.ofChange aboveWithWrong)

/-- 'umpiragelaw7.TurnPairs': WHATEVER THE INPUT: true; the input reads as it did. -/
def turnPairsSpec : ChangeSpec := { name := "turnPairs", fn := fun _ => fun
  | [d] => { results := [.lit (.bool true)], args := [d] }
  | _ => none }
def turnPairsRow : OpenClaim := { program := "ytpokiglgjmcdoaa", sum := "ff861914aedde9b65b84f23333318191e269fb102b5d910899ffb82810f60d54", func := "umpirage/umpiragelaw7.TurnPairs", spec := "turnPairs", unfollowed := true, recurses := true, loops := true, plainKeys := false, apart := false }
def TurnPairsSaid : Prop := turnPairsRow.holds Try.pinned (OpenSpec.ofChange turnPairsSpec)

/-- ITS FALSE NEIGHBOUR: 'it returns false'. Refute it at one input. -/
def turnPairsWrong : ChangeSpec := { name := "turnPairs", fn := fun _ => fun
  | [d] => { results := [.lit (.bool false)], args := [d] }
  | _ => none }
def TurnPairsWrongFalsely : Prop := turnPairsRow.holds Try.pinned (OpenSpec.ofChange turnPairsWrong)

/-- 'umpiragelaw7.AboveSorts': WHATEVER THE INPUT: true; the input reads as it did. -/
def aboveSortsSpec : ChangeSpec := { name := "aboveSorts", fn := fun _ => fun
  | [d] => { results := [.lit (.bool true)], args := [d] }
  | _ => none }
def aboveSortsRow : OpenClaim := { program := "ytpokiglgjmcdoaa", sum := "ff861914aedde9b65b84f23333318191e269fb102b5d910899ffb82810f60d54", func := "umpirage/umpiragelaw7.AboveSorts", spec := "aboveSorts", unfollowed := true, recurses := true, loops := true, plainKeys := false, apart := false }
def AboveSortsSaid : Prop := aboveSortsRow.holds Try.pinned (OpenSpec.ofChange aboveSortsSpec)

/-- ITS FALSE NEIGHBOUR: 'it returns false'. Refute it at one input. -/
def aboveSortsWrong : ChangeSpec := { name := "aboveSorts", fn := fun _ => fun
  | [d] => { results := [.lit (.bool false)], args := [d] }
  | _ => none }
def AboveSortsWrongFalsely : Prop := aboveSortsRow.holds Try.pinned (OpenSpec.ofChange aboveSortsWrong)

/-- 'umpiragelaw7.TurnOne': WHATEVER THE INPUT: true; the input reads as it did. -/
def turnOneSpec : ChangeSpec := { name := "turnOne", fn := fun _ => fun
  | [d1, d2] => { results := [.lit (.bool true)], args := [d1, d2] }
  | _ => none }
def turnOneRow : OpenClaim := { program := "ytpokiglgjmcdoaa", sum := "ff861914aedde9b65b84f23333318191e269fb102b5d910899ffb82810f60d54", func := "umpirage/umpiragelaw7.TurnOne", spec := "turnOne", unfollowed := true, recurses := true, loops := true, plainKeys := false, apart := false }
def TurnOneSaid : Prop := turnOneRow.holds Try.pinned (OpenSpec.ofChange turnOneSpec)

/-- ITS FALSE NEIGHBOUR: 'it returns false'. Refute it at one input. -/
def turnOneWrong : ChangeSpec := { name := "turnOne", fn := fun _ => fun
  | [d1, d2] => { results := [.lit (.bool false)], args := [d1, d2] }
  | _ => none }
def TurnOneWrongFalsely : Prop := turnOneRow.holds Try.pinned (OpenSpec.ofChange turnOneWrong)

/-- 'umpiragelaw7.FillRules': WHATEVER THE INPUT: true; the input reads as it did. -/
def fillRulesSpec : ChangeSpec := { name := "fillRules", fn := fun _ => fun
  | [d1, d2] => { results := [.lit (.bool true)], args := [d1, d2] }
  | _ => none }
def fillRulesRow : OpenClaim := { program := "ytpokiglgjmcdoaa", sum := "ff861914aedde9b65b84f23333318191e269fb102b5d910899ffb82810f60d54", func := "umpirage/umpiragelaw7.FillRules", spec := "fillRules", unfollowed := true, recurses := true, loops := true, plainKeys := false, apart := false }
def FillRulesSaid : Prop := fillRulesRow.holds Try.pinned (OpenSpec.ofChange fillRulesSpec)

/-- ITS FALSE NEIGHBOUR: 'it returns false'. Refute it at one input. -/
def fillRulesWrong : ChangeSpec := { name := "fillRules", fn := fun _ => fun
  | [d1, d2] => { results := [.lit (.bool false)], args := [d1, d2] }
  | _ => none }
def FillRulesWrongFalsely : Prop := fillRulesRow.holds Try.pinned (OpenSpec.ofChange fillRulesWrong)

/-- 'umpiragelaw7.FillGround': WHATEVER THE INPUT: true; the input reads as it did. -/
def fillGroundSpec : ChangeSpec := { name := "fillGround", fn := fun _ => fun
  | [d1, d2, d3] => { results := [.lit (.bool true)], args := [d1, d2, d3] }
  | _ => none }
def fillGroundRow : OpenClaim := { program := "ytpokiglgjmcdoaa", sum := "ff861914aedde9b65b84f23333318191e269fb102b5d910899ffb82810f60d54", func := "umpirage/umpiragelaw7.FillGround", spec := "fillGround", unfollowed := true, recurses := true, loops := true, plainKeys := false, apart := false }
def FillGroundSaid : Prop := fillGroundRow.holds Try.pinned (OpenSpec.ofChange fillGroundSpec)

/-- ITS FALSE NEIGHBOUR: 'it returns false'. Refute it at one input. -/
def fillGroundWrong : ChangeSpec := { name := "fillGround", fn := fun _ => fun
  | [d1, d2, d3] => { results := [.lit (.bool false)], args := [d1, d2, d3] }
  | _ => none }
def FillGroundWrongFalsely : Prop := fillGroundRow.holds Try.pinned (OpenSpec.ofChange fillGroundWrong)

/-- 'umpiragelaw7.FillSays': WHATEVER THE INPUT: true; the input reads as it did. -/
def fillSaysSpec : ChangeSpec := { name := "fillSays", fn := fun _ => fun
  | [d1, d2, d3, d4] => { results := [.lit (.bool true)], args := [d1, d2, d3, d4] }
  | _ => none }
def fillSaysRow : OpenClaim := { program := "ytpokiglgjmcdoaa", sum := "ff861914aedde9b65b84f23333318191e269fb102b5d910899ffb82810f60d54", func := "umpirage/umpiragelaw7.FillSays", spec := "fillSays", unfollowed := true, recurses := true, loops := true, plainKeys := false, apart := false }
def FillSaysSaid : Prop := fillSaysRow.holds Try.pinned (OpenSpec.ofChange fillSaysSpec)

/-- ITS FALSE NEIGHBOUR: 'it returns false'. Refute it at one input. -/
def fillSaysWrong : ChangeSpec := { name := "fillSays", fn := fun _ => fun
  | [d1, d2, d3, d4] => { results := [.lit (.bool false)], args := [d1, d2, d3, d4] }
  | _ => none }
def FillSaysWrongFalsely : Prop := fillSaysRow.holds Try.pinned (OpenSpec.ofChange fillSaysWrong)

/- THE SECOND FORM. 'bulk': how many values and letters a reading holds, each counted each time it is reached (what is shared counts as often as it is met; a slice's spare places count too). A statement '..UptoSaid' is the law's where the arguments, and the package variables that the reading takes, are together of bulk at most 1048576: NARROWER than '..Said'. Prove '..Said' where nothing that the law and all that it calls make is longer than what came in: it says more and counts as full. Else prove '..UptoSaid'. A law counts once. -/
mutual
def uptoBulk {H : Type} : DataW H → Nat
  | .lit (.string bytes) => bytes.length + 1
  | .lit _ => 1
  | .nil => 1
  | .ptr d => uptoBulk d + 1
  | .slice elems spare => uptoBulkAll elems + uptoBulkAll spare + 1
  | .agg parts => uptoBulkAll parts + 1
  | .iface _ d => uptoBulk d + 1
  | .map entries => uptoBulkEntries entries + 1
  | .held _ => 1
def uptoBulkAll {H : Type} : List (DataW H) → Nat
  | [] => 0
  | d :: r => uptoBulk d + uptoBulkAll r
def uptoBulkEntries {H : Type} : List (Lit × DataW H) → Nat
  | [] => 0
  | x :: r => uptoBulkEntry x + uptoBulkEntries r
def uptoBulkEntry {H : Type} : Lit × DataW H → Nat
  | (.string bytes, d) => bytes.length + uptoBulk d + 1
  | (_, d) => uptoBulk d + 1
 end
def uptoSmall : (H : Type) → List (DataW H) → Bool := fun _ ds => decide (uptoBulkAll ds ≤ 1048576)
def OpenSpec.upto (s : _root_.Go.ChangeSpec) : _root_.Go.OpenSpec := { _root_.Go.OpenSpec.ofChange s with cond := some uptoSmall }

/-- 'umpiragelaw7.AboveSays', WHERE WHAT IT READS IS OF BULK AT MOST 1048576: true; the input reads as it did. -/
def aboveSaysUptoRow : OpenClaim := { program := "ytpokiglgjmcdoaa", sum := "ff861914aedde9b65b84f23333318191e269fb102b5d910899ffb82810f60d54", func := "umpirage/umpiragelaw7.AboveSays", spec := "aboveSays", unfollowed := true, recurses := true, loops := true, plainKeys := false, apart := false, narrowed := true }
def AboveSaysUptoSaid : Prop := aboveSaysUptoRow.holds Try.pinned (OpenSpec.upto aboveSaysSpec)

/-- 'umpiragelaw7.AboveOrder', WHERE WHAT IT READS IS OF BULK AT MOST 1048576: true; the input reads as it did. -/
def aboveOrderUptoRow : OpenClaim := { program := "ytpokiglgjmcdoaa", sum := "ff861914aedde9b65b84f23333318191e269fb102b5d910899ffb82810f60d54", func := "umpirage/umpiragelaw7.AboveOrder", spec := "aboveOrder", unfollowed := true, recurses := true, loops := true, plainKeys := false, apart := false, narrowed := true }
def AboveOrderUptoSaid : Prop := aboveOrderUptoRow.holds Try.pinned (OpenSpec.upto aboveOrderSpec)

/-- 'umpiragetop.TopDiagrams', WHERE WHAT IT READS IS OF BULK AT MOST 1048576: true; the input reads as it did. -/
def topDiagramsUptoRow : OpenClaim := { program := "ytpokiglgjmcdoaa", sum := "ff861914aedde9b65b84f23333318191e269fb102b5d910899ffb82810f60d54", func := "umpirage/umpiragetop.TopDiagrams", spec := "topDiagrams", unfollowed := true, recurses := true, plainKeys := false, apart := false, narrowed := true }
def TopDiagramsUptoSaid : Prop := topDiagramsUptoRow.holds Try.pinned (OpenSpec.upto topDiagramsSpec)

/-- 'umpiragetop.TopWishes', WHERE WHAT IT READS IS OF BULK AT MOST 1048576: true; the input reads as it did. -/
def topWishesUptoRow : OpenClaim := { program := "ytpokiglgjmcdoaa", sum := "ff861914aedde9b65b84f23333318191e269fb102b5d910899ffb82810f60d54", func := "umpirage/umpiragetop.TopWishes", spec := "topWishes", unfollowed := true, recurses := true, plainKeys := false, apart := false, narrowed := true }
def TopWishesUptoSaid : Prop := topWishesUptoRow.holds Try.pinned (OpenSpec.upto topWishesSpec)

/-- 'umpiragelaw7.AboveWith', WHERE WHAT IT READS IS OF BULK AT MOST 1048576: true; the input reads as it did. -/
def aboveWithUptoRow : OpenClaim := { program := "ytpokiglgjmcdoaa", sum := "ff861914aedde9b65b84f23333318191e269fb102b5d910899ffb82810f60d54", func := "umpirage/umpiragelaw7.AboveWith", spec := "aboveWith", unfollowed := true, recurses := true, loops := true, plainKeys := false, apart := false, narrowed := true }
def AboveWithUptoSaid : Prop := aboveWithUptoRow.holds Try.pinned (OpenSpec.upto aboveWithSpec)

/-- 'umpiragelaw7.TurnPairs', WHERE WHAT IT READS IS OF BULK AT MOST 1048576: true; the input reads as it did. -/
def turnPairsUptoRow : OpenClaim := { program := "ytpokiglgjmcdoaa", sum := "ff861914aedde9b65b84f23333318191e269fb102b5d910899ffb82810f60d54", func := "umpirage/umpiragelaw7.TurnPairs", spec := "turnPairs", unfollowed := true, recurses := true, loops := true, plainKeys := false, apart := false, narrowed := true }
def TurnPairsUptoSaid : Prop := turnPairsUptoRow.holds Try.pinned (OpenSpec.upto turnPairsSpec)

/-- 'umpiragelaw7.AboveSorts', WHERE WHAT IT READS IS OF BULK AT MOST 1048576: true; the input reads as it did. -/
def aboveSortsUptoRow : OpenClaim := { program := "ytpokiglgjmcdoaa", sum := "ff861914aedde9b65b84f23333318191e269fb102b5d910899ffb82810f60d54", func := "umpirage/umpiragelaw7.AboveSorts", spec := "aboveSorts", unfollowed := true, recurses := true, loops := true, plainKeys := false, apart := false, narrowed := true }
def AboveSortsUptoSaid : Prop := aboveSortsUptoRow.holds Try.pinned (OpenSpec.upto aboveSortsSpec)

/-- 'umpiragelaw7.TurnOne', WHERE WHAT IT READS IS OF BULK AT MOST 1048576: true; the input reads as it did. -/
def turnOneUptoRow : OpenClaim := { program := "ytpokiglgjmcdoaa", sum := "ff861914aedde9b65b84f23333318191e269fb102b5d910899ffb82810f60d54", func := "umpirage/umpiragelaw7.TurnOne", spec := "turnOne", unfollowed := true, recurses := true, loops := true, plainKeys := false, apart := false, narrowed := true }
def TurnOneUptoSaid : Prop := turnOneUptoRow.holds Try.pinned (OpenSpec.upto turnOneSpec)

/-- 'umpiragelaw7.FillRules', WHERE WHAT IT READS IS OF BULK AT MOST 1048576: true; the input reads as it did. -/
def fillRulesUptoRow : OpenClaim := { program := "ytpokiglgjmcdoaa", sum := "ff861914aedde9b65b84f23333318191e269fb102b5d910899ffb82810f60d54", func := "umpirage/umpiragelaw7.FillRules", spec := "fillRules", unfollowed := true, recurses := true, loops := true, plainKeys := false, apart := false, narrowed := true }
def FillRulesUptoSaid : Prop := fillRulesUptoRow.holds Try.pinned (OpenSpec.upto fillRulesSpec)

/-- 'umpiragelaw7.FillGround', WHERE WHAT IT READS IS OF BULK AT MOST 1048576: true; the input reads as it did. -/
def fillGroundUptoRow : OpenClaim := { program := "ytpokiglgjmcdoaa", sum := "ff861914aedde9b65b84f23333318191e269fb102b5d910899ffb82810f60d54", func := "umpirage/umpiragelaw7.FillGround", spec := "fillGround", unfollowed := true, recurses := true, loops := true, plainKeys := false, apart := false, narrowed := true }
def FillGroundUptoSaid : Prop := fillGroundUptoRow.holds Try.pinned (OpenSpec.upto fillGroundSpec)

/-- 'umpiragelaw7.FillSays', WHERE WHAT IT READS IS OF BULK AT MOST 1048576: true; the input reads as it did. -/
def fillSaysUptoRow : OpenClaim := { program := "ytpokiglgjmcdoaa", sum := "ff861914aedde9b65b84f23333318191e269fb102b5d910899ffb82810f60d54", func := "umpirage/umpiragelaw7.FillSays", spec := "fillSays", unfollowed := true, recurses := true, loops := true, plainKeys := false, apart := false, narrowed := true }
def FillSaysUptoSaid : Prop := fillSaysUptoRow.holds Try.pinned (OpenSpec.upto fillSaysSpec)

end Rows
end Go.Proofs.Ytpokiglgjmcdoaa
