/-
  No cell of these rows narrows 'for every input' (looked for: loops, veiled, ifaces, maps, wideKeys, modest, calm, conditions, laid).
  DERIVED. THE GIVEN ROWS OF THIS SEAT. 25 by the template 'for every input the law returns true; each argument reads behind the call as it read before'; 0 by the template 'total and deterministic' (their statements: YtgcfcemgeppkmaaTotals.lean).
  GIVEN WITH THE SEED: the statements are not yours to turn. If you find one false, say at which input.
  Laid BY PROGRAM, IN A SANDBOX (cutbox-rows.mjs): the forced cells as the released guide's own fill.sh prints them over the translation 58edef48f07694eb… (all of the seat's roots in one cut). By AI agents, Wed Nov 11 2026. No macro, syntax, notation, axiom, sorry.
-/
import Derived.Test.YtgcfcemgeppkmaaChecked
import GoSem.Claim
import GoSem.ClaimJoined
import GoSem.ClaimMapViews
import Derived.JoinedTies
import Derived.KernelRfl
namespace Go.Proofs.Ytgcfcemgeppkmaa
/- THE CELL 'sum', in the pinned program and in every row, IS THE sha256 OF THE DUMP (.gsa) THAT YtgcfcemgeppkmaaProg.lean LOADS. Nothing in Lean hashes anything: it is a label: what it is worth is what the hold of that sum in a sandbox is worth. -/
noncomputable def Try.pinned : Pinned := { name := "ytgcfcemgeppkmaa", sum := "58edef48f07694eb641b1e16049e94de87927779906cd735024066eca1dc1934", checked := Try.checked }
namespace Rows
def none {H : Type} : Left H := { results := [], args := [] }

/-- 'herdsmanlaw8.SeedsSorts': WHATEVER THE INPUT: true; the input reads as it did. -/
def seedsSortsSpec : ChangeSpec := { name := "seedsSorts", fn := fun _ => fun
  | [d1, d2] => { results := [.lit (.bool true)], args := [d1, d2] }
  | _ => none }
def seedsSortsRow : OpenClaim := { program := "ytgcfcemgeppkmaa", sum := "58edef48f07694eb641b1e16049e94de87927779906cd735024066eca1dc1934", func := "herdsman/herdsmanlaw8.SeedsSorts", spec := "seedsSorts", unfollowed := true, recurses := true, plainKeys := false, apart := false }
def SeedsSortsSaid : Prop := seedsSortsRow.holds Try.pinned (OpenSpec.ofChange seedsSortsSpec)

/-- ITS FALSE NEIGHBOUR: 'it returns false'. Refute it at one input. -/
def seedsSortsWrong : ChangeSpec := { name := "seedsSorts", fn := fun _ => fun
  | [d1, d2] => { results := [.lit (.bool false)], args := [d1, d2] }
  | _ => none }
def SeedsSortsWrongFalsely : Prop := seedsSortsRow.holds Try.pinned (OpenSpec.ofChange seedsSortsWrong)

/-- 'herdsmanlaw8.SeedsBest': WHATEVER THE INPUT: true; the input reads as it did. -/
def seedsBestSpec : ChangeSpec := { name := "seedsBest", fn := fun _ => fun
  | [d1, d2, d3, d4] => { results := [.lit (.bool true)], args := [d1, d2, d3, d4] }
  | _ => none }
def seedsBestRow : OpenClaim := { program := "ytgcfcemgeppkmaa", sum := "58edef48f07694eb641b1e16049e94de87927779906cd735024066eca1dc1934", func := "herdsman/herdsmanlaw8.SeedsBest", spec := "seedsBest", unfollowed := true, recurses := true, plainKeys := false, apart := false }
def SeedsBestSaid : Prop := seedsBestRow.holds Try.pinned (OpenSpec.ofChange seedsBestSpec)

/-- ITS FALSE NEIGHBOUR: 'it returns false'. Refute it at one input. -/
def seedsBestWrong : ChangeSpec := { name := "seedsBest", fn := fun _ => fun
  | [d1, d2, d3, d4] => { results := [.lit (.bool false)], args := [d1, d2, d3, d4] }
  | _ => none }
def SeedsBestWrongFalsely : Prop := seedsBestRow.holds Try.pinned (OpenSpec.ofChange seedsBestWrong)

/-- 'herdsmanlaw8.SeedsTwice': WHATEVER THE INPUT: true; the input reads as it did. -/
def seedsTwiceSpec : ChangeSpec := { name := "seedsTwice", fn := fun _ => fun
  | [d1, d2] => { results := [.lit (.bool true)], args := [d1, d2] }
  | _ => none }
def seedsTwiceRow : OpenClaim := { program := "ytgcfcemgeppkmaa", sum := "58edef48f07694eb641b1e16049e94de87927779906cd735024066eca1dc1934", func := "herdsman/herdsmanlaw8.SeedsTwice", spec := "seedsTwice", unfollowed := true, recurses := true, plainKeys := false, apart := false }
def SeedsTwiceSaid : Prop := seedsTwiceRow.holds Try.pinned (OpenSpec.ofChange seedsTwiceSpec)

/-- ITS FALSE NEIGHBOUR: 'it returns false'. Refute it at one input. -/
def seedsTwiceWrong : ChangeSpec := { name := "seedsTwice", fn := fun _ => fun
  | [d1, d2] => { results := [.lit (.bool false)], args := [d1, d2] }
  | _ => none }
def SeedsTwiceWrongFalsely : Prop := seedsTwiceRow.holds Try.pinned (OpenSpec.ofChange seedsTwiceWrong)

/-- 'herdsmanlaw8.SeedsSame': WHATEVER THE INPUT: true; the input reads as it did. -/
def seedsSameSpec : ChangeSpec := { name := "seedsSame", fn := fun _ => fun
  | [d1, d2, d3, d4, d5] => { results := [.lit (.bool true)], args := [d1, d2, d3, d4, d5] }
  | _ => none }
def seedsSameRow : OpenClaim := { program := "ytgcfcemgeppkmaa", sum := "58edef48f07694eb641b1e16049e94de87927779906cd735024066eca1dc1934", func := "herdsman/herdsmanlaw8.SeedsSame", spec := "seedsSame", unfollowed := true, recurses := true, plainKeys := false, apart := false }
def SeedsSameSaid : Prop := seedsSameRow.holds Try.pinned (OpenSpec.ofChange seedsSameSpec)

/-- ITS FALSE NEIGHBOUR: 'it returns false'. Refute it at one input. -/
def seedsSameWrong : ChangeSpec := { name := "seedsSame", fn := fun _ => fun
  | [d1, d2, d3, d4, d5] => { results := [.lit (.bool false)], args := [d1, d2, d3, d4, d5] }
  | _ => none }
def SeedsSameWrongFalsely : Prop := seedsSameRow.holds Try.pinned (OpenSpec.ofChange seedsSameWrong)

/-- 'herdsmanlaw8.SeedsAsks': WHATEVER THE INPUT: true; the input reads as it did. -/
def seedsAsksSpec : ChangeSpec := { name := "seedsAsks", fn := fun _ => fun
  | [d1, d2, d3, d4, d5, d6, d7, d8] => { results := [.lit (.bool true)], args := [d1, d2, d3, d4, d5, d6, d7, d8] }
  | _ => none }
def seedsAsksRow : OpenClaim := { program := "ytgcfcemgeppkmaa", sum := "58edef48f07694eb641b1e16049e94de87927779906cd735024066eca1dc1934", func := "herdsman/herdsmanlaw8.SeedsAsks", spec := "seedsAsks", unfollowed := true, recurses := true, plainKeys := false, apart := false }
def SeedsAsksSaid : Prop := seedsAsksRow.holds Try.pinned (OpenSpec.ofChange seedsAsksSpec)

/-- ITS FALSE NEIGHBOUR: 'it returns false'. Refute it at one input. -/
def seedsAsksWrong : ChangeSpec := { name := "seedsAsks", fn := fun _ => fun
  | [d1, d2, d3, d4, d5, d6, d7, d8] => { results := [.lit (.bool false)], args := [d1, d2, d3, d4, d5, d6, d7, d8] }
  | _ => none }
def SeedsAsksWrongFalsely : Prop := seedsAsksRow.holds Try.pinned (OpenSpec.ofChange seedsAsksWrong)

/-- 'herdsmanlaw9.SpreadFixed': WHATEVER THE INPUT: true; the input reads as it did. -/
def spreadFixedSpec : ChangeSpec := { name := "spreadFixed", fn := fun _ => fun
  | [d1, d2, d3, d4] => { results := [.lit (.bool true)], args := [d1, d2, d3, d4] }
  | _ => none }
def spreadFixedRow : OpenClaim := { program := "ytgcfcemgeppkmaa", sum := "58edef48f07694eb641b1e16049e94de87927779906cd735024066eca1dc1934", func := "herdsman/herdsmanlaw9.SpreadFixed", spec := "spreadFixed", unfollowed := true, recurses := true, plainKeys := false, apart := false }
def SpreadFixedSaid : Prop := spreadFixedRow.holds Try.pinned (OpenSpec.ofChange spreadFixedSpec)

/-- ITS FALSE NEIGHBOUR: 'it returns false'. Refute it at one input. -/
def spreadFixedWrong : ChangeSpec := { name := "spreadFixed", fn := fun _ => fun
  | [d1, d2, d3, d4] => { results := [.lit (.bool false)], args := [d1, d2, d3, d4] }
  | _ => none }
def SpreadFixedWrongFalsely : Prop := spreadFixedRow.holds Try.pinned (OpenSpec.ofChange spreadFixedWrong)

/-- 'herdsmanlaw9.SpreadParts': WHATEVER THE INPUT: true; the input reads as it did. -/
def spreadPartsSpec : ChangeSpec := { name := "spreadParts", fn := fun _ => fun
  | [d1, d2, d3, d4, d5] => { results := [.lit (.bool true)], args := [d1, d2, d3, d4, d5] }
  | _ => none }
def spreadPartsRow : OpenClaim := { program := "ytgcfcemgeppkmaa", sum := "58edef48f07694eb641b1e16049e94de87927779906cd735024066eca1dc1934", func := "herdsman/herdsmanlaw9.SpreadParts", spec := "spreadParts", unfollowed := true, recurses := true, plainKeys := false, apart := false }
def SpreadPartsSaid : Prop := spreadPartsRow.holds Try.pinned (OpenSpec.ofChange spreadPartsSpec)

/-- ITS FALSE NEIGHBOUR: 'it returns false'. Refute it at one input. -/
def spreadPartsWrong : ChangeSpec := { name := "spreadParts", fn := fun _ => fun
  | [d1, d2, d3, d4, d5] => { results := [.lit (.bool false)], args := [d1, d2, d3, d4, d5] }
  | _ => none }
def SpreadPartsWrongFalsely : Prop := spreadPartsRow.holds Try.pinned (OpenSpec.ofChange spreadPartsWrong)

/-- 'herdsmanlaw9.SpreadLater': WHATEVER THE INPUT: true; the input reads as it did. -/
def spreadLaterSpec : ChangeSpec := { name := "spreadLater", fn := fun _ => fun
  | [d1, d2, d3, d4, d5] => { results := [.lit (.bool true)], args := [d1, d2, d3, d4, d5] }
  | _ => none }
def spreadLaterRow : OpenClaim := { program := "ytgcfcemgeppkmaa", sum := "58edef48f07694eb641b1e16049e94de87927779906cd735024066eca1dc1934", func := "herdsman/herdsmanlaw9.SpreadLater", spec := "spreadLater", unfollowed := true, recurses := true, plainKeys := false, apart := false }
def SpreadLaterSaid : Prop := spreadLaterRow.holds Try.pinned (OpenSpec.ofChange spreadLaterSpec)

/-- ITS FALSE NEIGHBOUR: 'it returns false'. Refute it at one input. -/
def spreadLaterWrong : ChangeSpec := { name := "spreadLater", fn := fun _ => fun
  | [d1, d2, d3, d4, d5] => { results := [.lit (.bool false)], args := [d1, d2, d3, d4, d5] }
  | _ => none }
def SpreadLaterWrongFalsely : Prop := spreadLaterRow.holds Try.pinned (OpenSpec.ofChange spreadLaterWrong)

/-- 'herdsmanlaw9.SpreadWays': WHATEVER THE INPUT: true; the input reads as it did. -/
def spreadWaysSpec : ChangeSpec := { name := "spreadWays", fn := fun _ => fun
  | [d1, d2, d3, d4, d5, d6] => { results := [.lit (.bool true)], args := [d1, d2, d3, d4, d5, d6] }
  | _ => none }
def spreadWaysRow : OpenClaim := { program := "ytgcfcemgeppkmaa", sum := "58edef48f07694eb641b1e16049e94de87927779906cd735024066eca1dc1934", func := "herdsman/herdsmanlaw9.SpreadWays", spec := "spreadWays", unfollowed := true, recurses := true, plainKeys := false, apart := false }
def SpreadWaysSaid : Prop := spreadWaysRow.holds Try.pinned (OpenSpec.ofChange spreadWaysSpec)

/-- ITS FALSE NEIGHBOUR: 'it returns false'. Refute it at one input. -/
def spreadWaysWrong : ChangeSpec := { name := "spreadWays", fn := fun _ => fun
  | [d1, d2, d3, d4, d5, d6] => { results := [.lit (.bool false)], args := [d1, d2, d3, d4, d5, d6] }
  | _ => none }
def SpreadWaysWrongFalsely : Prop := spreadWaysRow.holds Try.pinned (OpenSpec.ofChange spreadWaysWrong)

/-- 'herdsmanlaw12.TableAsks': WHATEVER THE INPUT: true; the input reads as it did. -/
def tableAsksSpec : ChangeSpec := { name := "tableAsks", fn := fun _ => fun
  | [d1, d2, d3, d4, d5] => { results := [.lit (.bool true)], args := [d1, d2, d3, d4, d5] }
  | _ => none }
def tableAsksRow : OpenClaim := { program := "ytgcfcemgeppkmaa", sum := "58edef48f07694eb641b1e16049e94de87927779906cd735024066eca1dc1934", func := "herdsman/herdsmanlaw12.TableAsks", spec := "tableAsks", unfollowed := true, recurses := true, plainKeys := false, apart := false }
def TableAsksSaid : Prop := tableAsksRow.holds Try.pinned (OpenSpec.ofChange tableAsksSpec)

/-- ITS FALSE NEIGHBOUR: 'it returns false'. Refute it at one input. -/
def tableAsksWrong : ChangeSpec := { name := "tableAsks", fn := fun _ => fun
  | [d1, d2, d3, d4, d5] => { results := [.lit (.bool false)], args := [d1, d2, d3, d4, d5] }
  | _ => none }
def TableAsksWrongFalsely : Prop := tableAsksRow.holds Try.pinned (OpenSpec.ofChange tableAsksWrong)

/-- 'herdsmanlaw12.TableTo': WHATEVER THE INPUT: true; the input reads as it did. -/
def tableToSpec : ChangeSpec := { name := "tableTo", fn := fun _ => fun
  | [d1, d2, d3, d4, d5] => { results := [.lit (.bool true)], args := [d1, d2, d3, d4, d5] }
  | _ => none }
def tableToRow : OpenClaim := { program := "ytgcfcemgeppkmaa", sum := "58edef48f07694eb641b1e16049e94de87927779906cd735024066eca1dc1934", func := "herdsman/herdsmanlaw12.TableTo", spec := "tableTo", unfollowed := true, recurses := true, plainKeys := false, apart := false }
def TableToSaid : Prop := tableToRow.holds Try.pinned (OpenSpec.ofChange tableToSpec)

/-- ITS FALSE NEIGHBOUR: 'it returns false'. Refute it at one input. -/
def tableToWrong : ChangeSpec := { name := "tableTo", fn := fun _ => fun
  | [d1, d2, d3, d4, d5] => { results := [.lit (.bool false)], args := [d1, d2, d3, d4, d5] }
  | _ => none }
def TableToWrongFalsely : Prop := tableToRow.holds Try.pinned (OpenSpec.ofChange tableToWrong)

/-- 'herdsmanlaw12.TableOver': WHATEVER THE INPUT: true; the input reads as it did. -/
def tableOverSpec : ChangeSpec := { name := "tableOver", fn := fun _ => fun
  | [d1, d2, d3, d4] => { results := [.lit (.bool true)], args := [d1, d2, d3, d4] }
  | _ => none }
def tableOverRow : OpenClaim := { program := "ytgcfcemgeppkmaa", sum := "58edef48f07694eb641b1e16049e94de87927779906cd735024066eca1dc1934", func := "herdsman/herdsmanlaw12.TableOver", spec := "tableOver", unfollowed := true, recurses := true, plainKeys := false, apart := false }
def TableOverSaid : Prop := tableOverRow.holds Try.pinned (OpenSpec.ofChange tableOverSpec)

/-- ITS FALSE NEIGHBOUR: 'it returns false'. Refute it at one input. -/
def tableOverWrong : ChangeSpec := { name := "tableOver", fn := fun _ => fun
  | [d1, d2, d3, d4] => { results := [.lit (.bool false)], args := [d1, d2, d3, d4] }
  | _ => none }
def TableOverWrongFalsely : Prop := tableOverRow.holds Try.pinned (OpenSpec.ofChange tableOverWrong)

/-- 'herdsmanlaw12.TableBack': WHATEVER THE INPUT: true; the input reads as it did. -/
def tableBackSpec : ChangeSpec := { name := "tableBack", fn := fun _ => fun
  | [d1, d2, d3, d4] => { results := [.lit (.bool true)], args := [d1, d2, d3, d4] }
  | _ => none }
def tableBackRow : OpenClaim := { program := "ytgcfcemgeppkmaa", sum := "58edef48f07694eb641b1e16049e94de87927779906cd735024066eca1dc1934", func := "herdsman/herdsmanlaw12.TableBack", spec := "tableBack", unfollowed := true, recurses := true, plainKeys := false, apart := false }
def TableBackSaid : Prop := tableBackRow.holds Try.pinned (OpenSpec.ofChange tableBackSpec)

/-- ITS FALSE NEIGHBOUR: 'it returns false'. Refute it at one input. -/
def tableBackWrong : ChangeSpec := { name := "tableBack", fn := fun _ => fun
  | [d1, d2, d3, d4] => { results := [.lit (.bool false)], args := [d1, d2, d3, d4] }
  | _ => none }
def TableBackWrongFalsely : Prop := tableBackRow.holds Try.pinned (OpenSpec.ofChange tableBackWrong)

/-- 'herdsmanlaw12.TableColumns': WHATEVER THE INPUT: true; the input reads as it did. -/
def tableColumnsSpec : ChangeSpec := { name := "tableColumns", fn := fun _ => fun
  | [d1, d2, d3, d4, d5] => { results := [.lit (.bool true)], args := [d1, d2, d3, d4, d5] }
  | _ => none }
def tableColumnsRow : OpenClaim := { program := "ytgcfcemgeppkmaa", sum := "58edef48f07694eb641b1e16049e94de87927779906cd735024066eca1dc1934", func := "herdsman/herdsmanlaw12.TableColumns", spec := "tableColumns", unfollowed := true, recurses := true, plainKeys := false, apart := false }
def TableColumnsSaid : Prop := tableColumnsRow.holds Try.pinned (OpenSpec.ofChange tableColumnsSpec)

/-- ITS FALSE NEIGHBOUR: 'it returns false'. Refute it at one input. -/
def tableColumnsWrong : ChangeSpec := { name := "tableColumns", fn := fun _ => fun
  | [d1, d2, d3, d4, d5] => { results := [.lit (.bool false)], args := [d1, d2, d3, d4, d5] }
  | _ => none }
def TableColumnsWrongFalsely : Prop := tableColumnsRow.holds Try.pinned (OpenSpec.ofChange tableColumnsWrong)

/-- 'herdsmanlaw10.FieldAsks': WHATEVER THE INPUT: true; the input reads as it did. -/
def fieldAsksSpec : ChangeSpec := { name := "fieldAsks", fn := fun _ => fun
  | [d1, d2, d3, d4, d5, d6] => { results := [.lit (.bool true)], args := [d1, d2, d3, d4, d5, d6] }
  | _ => none }
def fieldAsksRow : OpenClaim := { program := "ytgcfcemgeppkmaa", sum := "58edef48f07694eb641b1e16049e94de87927779906cd735024066eca1dc1934", func := "herdsman/herdsmanlaw10.FieldAsks", spec := "fieldAsks", unfollowed := true, recurses := true, plainKeys := false, apart := false }
def FieldAsksSaid : Prop := fieldAsksRow.holds Try.pinned (OpenSpec.ofChange fieldAsksSpec)

/-- ITS FALSE NEIGHBOUR: 'it returns false'. Refute it at one input. -/
def fieldAsksWrong : ChangeSpec := { name := "fieldAsks", fn := fun _ => fun
  | [d1, d2, d3, d4, d5, d6] => { results := [.lit (.bool false)], args := [d1, d2, d3, d4, d5, d6] }
  | _ => none }
def FieldAsksWrongFalsely : Prop := fieldAsksRow.holds Try.pinned (OpenSpec.ofChange fieldAsksWrong)

/-- 'herdsmanlaw10.FieldLeads': WHATEVER THE INPUT: true; the input reads as it did. -/
def fieldLeadsSpec : ChangeSpec := { name := "fieldLeads", fn := fun _ => fun
  | [d1, d2, d3, d4] => { results := [.lit (.bool true)], args := [d1, d2, d3, d4] }
  | _ => none }
def fieldLeadsRow : OpenClaim := { program := "ytgcfcemgeppkmaa", sum := "58edef48f07694eb641b1e16049e94de87927779906cd735024066eca1dc1934", func := "herdsman/herdsmanlaw10.FieldLeads", spec := "fieldLeads", unfollowed := true, recurses := true, plainKeys := false, apart := false }
def FieldLeadsSaid : Prop := fieldLeadsRow.holds Try.pinned (OpenSpec.ofChange fieldLeadsSpec)

/-- ITS FALSE NEIGHBOUR: 'it returns false'. Refute it at one input. -/
def fieldLeadsWrong : ChangeSpec := { name := "fieldLeads", fn := fun _ => fun
  | [d1, d2, d3, d4] => { results := [.lit (.bool false)], args := [d1, d2, d3, d4] }
  | _ => none }
def FieldLeadsWrongFalsely : Prop := fieldLeadsRow.holds Try.pinned (OpenSpec.ofChange fieldLeadsWrong)

/-- 'herdsmanlaw10.FieldFirst': WHATEVER THE INPUT: true; the input reads as it did. -/
def fieldFirstSpec : ChangeSpec := { name := "fieldFirst", fn := fun _ => fun
  | [d1, d2, d3, d4, d5] => { results := [.lit (.bool true)], args := [d1, d2, d3, d4, d5] }
  | _ => none }
def fieldFirstRow : OpenClaim := { program := "ytgcfcemgeppkmaa", sum := "58edef48f07694eb641b1e16049e94de87927779906cd735024066eca1dc1934", func := "herdsman/herdsmanlaw10.FieldFirst", spec := "fieldFirst", unfollowed := true, recurses := true, plainKeys := false, apart := false }
def FieldFirstSaid : Prop := fieldFirstRow.holds Try.pinned (OpenSpec.ofChange fieldFirstSpec)

/-- ITS FALSE NEIGHBOUR: 'it returns false'. Refute it at one input. -/
def fieldFirstWrong : ChangeSpec := { name := "fieldFirst", fn := fun _ => fun
  | [d1, d2, d3, d4, d5] => { results := [.lit (.bool false)], args := [d1, d2, d3, d4, d5] }
  | _ => none }
def FieldFirstWrongFalsely : Prop := fieldFirstRow.holds Try.pinned (OpenSpec.ofChange fieldFirstWrong)

/-- 'herdsmanlaw10.WalkAsks': WHATEVER THE INPUT: true; the input reads as it did. -/
def walkAsksSpec : ChangeSpec := { name := "walkAsks", fn := fun _ => fun
  | [d1, d2, d3, d4, d5, d6] => { results := [.lit (.bool true)], args := [d1, d2, d3, d4, d5, d6] }
  | _ => none }
def walkAsksRow : OpenClaim := { program := "ytgcfcemgeppkmaa", sum := "58edef48f07694eb641b1e16049e94de87927779906cd735024066eca1dc1934", func := "herdsman/herdsmanlaw10.WalkAsks", spec := "walkAsks", unfollowed := true, recurses := true, plainKeys := false, apart := false }
def WalkAsksSaid : Prop := walkAsksRow.holds Try.pinned (OpenSpec.ofChange walkAsksSpec)

/-- ITS FALSE NEIGHBOUR: 'it returns false'. Refute it at one input. -/
def walkAsksWrong : ChangeSpec := { name := "walkAsks", fn := fun _ => fun
  | [d1, d2, d3, d4, d5, d6] => { results := [.lit (.bool false)], args := [d1, d2, d3, d4, d5, d6] }
  | _ => none }
def WalkAsksWrongFalsely : Prop := walkAsksRow.holds Try.pinned (OpenSpec.ofChange walkAsksWrong)

/-- 'herdsmanlaw10.WalkEnds': WHATEVER THE INPUT: true; the input reads as it did. -/
def walkEndsSpec : ChangeSpec := { name := "walkEnds", fn := fun _ => fun
  | [d1, d2, d3, d4, d5] => { results := [.lit (.bool true)], args := [d1, d2, d3, d4, d5] }
  | _ => none }
def walkEndsRow : OpenClaim := { program := "ytgcfcemgeppkmaa", sum := "58edef48f07694eb641b1e16049e94de87927779906cd735024066eca1dc1934", func := "herdsman/herdsmanlaw10.WalkEnds", spec := "walkEnds", unfollowed := true, recurses := true, plainKeys := false, apart := false }
def WalkEndsSaid : Prop := walkEndsRow.holds Try.pinned (OpenSpec.ofChange walkEndsSpec)

/-- ITS FALSE NEIGHBOUR: 'it returns false'. Refute it at one input. -/
def walkEndsWrong : ChangeSpec := { name := "walkEnds", fn := fun _ => fun
  | [d1, d2, d3, d4, d5] => { results := [.lit (.bool false)], args := [d1, d2, d3, d4, d5] }
  | _ => none }
def WalkEndsWrongFalsely : Prop := walkEndsRow.holds Try.pinned (OpenSpec.ofChange walkEndsWrong)

/-- 'herdsmanlaw9.SpreadAsks': WHATEVER THE INPUT: true; the input reads as it did. -/
def spreadAsksSpec : ChangeSpec := { name := "spreadAsks", fn := fun _ => fun
  | [d1, d2, d3, d4, d5, d6] => { results := [.lit (.bool true)], args := [d1, d2, d3, d4, d5, d6] }
  | _ => none }
def spreadAsksRow : OpenClaim := { program := "ytgcfcemgeppkmaa", sum := "58edef48f07694eb641b1e16049e94de87927779906cd735024066eca1dc1934", func := "herdsman/herdsmanlaw9.SpreadAsks", spec := "spreadAsks", unfollowed := true, recurses := true, plainKeys := false, apart := false }
def SpreadAsksSaid : Prop := spreadAsksRow.holds Try.pinned (OpenSpec.ofChange spreadAsksSpec)

/-- ITS FALSE NEIGHBOUR: 'it returns false'. Refute it at one input. -/
def spreadAsksWrong : ChangeSpec := { name := "spreadAsks", fn := fun _ => fun
  | [d1, d2, d3, d4, d5, d6] => { results := [.lit (.bool false)], args := [d1, d2, d3, d4, d5, d6] }
  | _ => none }
def SpreadAsksWrongFalsely : Prop := spreadAsksRow.holds Try.pinned (OpenSpec.ofChange spreadAsksWrong)

/-- 'herdsmanlaw19.ShelfRight': WHATEVER THE INPUT: true; the input reads as it did. -/
def shelfRightSpec : ChangeSpec := { name := "shelfRight", fn := fun _ => fun
  | [d1, d2, d3] => { results := [.lit (.bool true)], args := [d1, d2, d3] }
  | _ => none }
def shelfRightRow : OpenClaim := { program := "ytgcfcemgeppkmaa", sum := "58edef48f07694eb641b1e16049e94de87927779906cd735024066eca1dc1934", func := "herdsman/herdsmanlaw19.ShelfRight", spec := "shelfRight", unfollowed := true, recurses := true, plainKeys := false, apart := false }
def ShelfRightSaid : Prop := shelfRightRow.holds Try.pinned (OpenSpec.ofChange shelfRightSpec)

/-- ITS FALSE NEIGHBOUR: 'it returns false'. Refute it at one input. -/
def shelfRightWrong : ChangeSpec := { name := "shelfRight", fn := fun _ => fun
  | [d1, d2, d3] => { results := [.lit (.bool false)], args := [d1, d2, d3] }
  | _ => none }
def ShelfRightWrongFalsely : Prop := shelfRightRow.holds Try.pinned (OpenSpec.ofChange shelfRightWrong)

/-- 'herdsmanlaw19.ShelfOwn': WHATEVER THE INPUT: true; the input reads as it did. -/
def shelfOwnSpec : ChangeSpec := { name := "shelfOwn", fn := fun _ => fun
  | [d1, d2, d3, d4] => { results := [.lit (.bool true)], args := [d1, d2, d3, d4] }
  | _ => none }
def shelfOwnRow : OpenClaim := { program := "ytgcfcemgeppkmaa", sum := "58edef48f07694eb641b1e16049e94de87927779906cd735024066eca1dc1934", func := "herdsman/herdsmanlaw19.ShelfOwn", spec := "shelfOwn", unfollowed := true, recurses := true, plainKeys := false, apart := false }
def ShelfOwnSaid : Prop := shelfOwnRow.holds Try.pinned (OpenSpec.ofChange shelfOwnSpec)

/-- ITS FALSE NEIGHBOUR: 'it returns false'. Refute it at one input. -/
def shelfOwnWrong : ChangeSpec := { name := "shelfOwn", fn := fun _ => fun
  | [d1, d2, d3, d4] => { results := [.lit (.bool false)], args := [d1, d2, d3, d4] }
  | _ => none }
def ShelfOwnWrongFalsely : Prop := shelfOwnRow.holds Try.pinned (OpenSpec.ofChange shelfOwnWrong)

/-- 'herdsmanlaw19.ShelfPlays': WHATEVER THE INPUT: true; the input reads as it did. -/
def shelfPlaysSpec : ChangeSpec := { name := "shelfPlays", fn := fun _ => fun
  | [d1, d2, d3] => { results := [.lit (.bool true)], args := [d1, d2, d3] }
  | _ => none }
def shelfPlaysRow : OpenClaim := { program := "ytgcfcemgeppkmaa", sum := "58edef48f07694eb641b1e16049e94de87927779906cd735024066eca1dc1934", func := "herdsman/herdsmanlaw19.ShelfPlays", spec := "shelfPlays", unfollowed := true, recurses := true, plainKeys := false, apart := false }
def ShelfPlaysSaid : Prop := shelfPlaysRow.holds Try.pinned (OpenSpec.ofChange shelfPlaysSpec)

/-- ITS FALSE NEIGHBOUR: 'it returns false'. Refute it at one input. -/
def shelfPlaysWrong : ChangeSpec := { name := "shelfPlays", fn := fun _ => fun
  | [d1, d2, d3] => { results := [.lit (.bool false)], args := [d1, d2, d3] }
  | _ => none }
def ShelfPlaysWrongFalsely : Prop := shelfPlaysRow.holds Try.pinned (OpenSpec.ofChange shelfPlaysWrong)

/-- 'herdsmanlaw19.ShelfCounts': WHATEVER THE INPUT: true; the input reads as it did. -/
def shelfCountsSpec : ChangeSpec := { name := "shelfCounts", fn := fun _ => fun
  | [d1, d2, d3] => { results := [.lit (.bool true)], args := [d1, d2, d3] }
  | _ => none }
def shelfCountsRow : OpenClaim := { program := "ytgcfcemgeppkmaa", sum := "58edef48f07694eb641b1e16049e94de87927779906cd735024066eca1dc1934", func := "herdsman/herdsmanlaw19.ShelfCounts", spec := "shelfCounts", unfollowed := true, recurses := true, plainKeys := false, apart := false }
def ShelfCountsSaid : Prop := shelfCountsRow.holds Try.pinned (OpenSpec.ofChange shelfCountsSpec)

/-- ITS FALSE NEIGHBOUR: 'it returns false'. Refute it at one input. -/
def shelfCountsWrong : ChangeSpec := { name := "shelfCounts", fn := fun _ => fun
  | [d1, d2, d3] => { results := [.lit (.bool false)], args := [d1, d2, d3] }
  | _ => none }
def ShelfCountsWrongFalsely : Prop := shelfCountsRow.holds Try.pinned (OpenSpec.ofChange shelfCountsWrong)

/-- 'herdsmanlaw19.ShelfNone': WHATEVER THE INPUT: true; the input reads as it did. -/
def shelfNoneSpec : ChangeSpec := { name := "shelfNone", fn := fun _ => fun
  | [d1, d2, d3, d4, d5, d6] => { results := [.lit (.bool true)], args := [d1, d2, d3, d4, d5, d6] }
  | _ => none }
def shelfNoneRow : OpenClaim := { program := "ytgcfcemgeppkmaa", sum := "58edef48f07694eb641b1e16049e94de87927779906cd735024066eca1dc1934", func := "herdsman/herdsmanlaw19.ShelfNone", spec := "shelfNone", unfollowed := true, recurses := true, plainKeys := false, apart := false }
def ShelfNoneSaid : Prop := shelfNoneRow.holds Try.pinned (OpenSpec.ofChange shelfNoneSpec)

/-- ITS FALSE NEIGHBOUR: 'it returns false'. Refute it at one input. -/
def shelfNoneWrong : ChangeSpec := { name := "shelfNone", fn := fun _ => fun
  | [d1, d2, d3, d4, d5, d6] => { results := [.lit (.bool false)], args := [d1, d2, d3, d4, d5, d6] }
  | _ => none }
def ShelfNoneWrongFalsely : Prop := shelfNoneRow.holds Try.pinned (OpenSpec.ofChange shelfNoneWrong)

/- THE SECOND FORM. 'bulk': how many values and letters a reading holds, each counted each time it is reached (what is shared counts as often as it is met; a slice's spare places count too). A statement '..UptoSaid' is the law's where the arguments, and the package variables that the reading takes, are together of bulk at most 1048576: NARROWER than '..Said'. Prove '..Said' where nothing that the law and all that it calls make is longer than what came in: it says more and counts as full. Else prove '..UptoSaid'. A law counts once. -/
mutual
def uptoBulk {H : Type} : DataW H → Nat
  | .lit (.string bytes) => bytes.length + 1
  | .lit _ => 1
  | .nil => 1
  | .ptr d => uptoBulk d + 1
  | .slice elems spare => uptoBulkAll elems + uptoBulkAll spare + 1
  | .agg parts => uptoBulkAll parts + 1
  | .iface _ d => uptoBulk d + 1
  | .map entries => uptoBulkEntries entries + 1
  | .held _ => 1
def uptoBulkAll {H : Type} : List (DataW H) → Nat
  | [] => 0
  | d :: r => uptoBulk d + uptoBulkAll r
def uptoBulkEntries {H : Type} : List (Lit × DataW H) → Nat
  | [] => 0
  | x :: r => uptoBulkEntry x + uptoBulkEntries r
def uptoBulkEntry {H : Type} : Lit × DataW H → Nat
  | (.string bytes, d) => bytes.length + uptoBulk d + 1
  | (_, d) => uptoBulk d + 1
 end
def uptoSmall : (H : Type) → List (DataW H) → Bool := fun _ ds => decide (uptoBulkAll ds ≤ 1048576)
def OpenSpec.upto (s : _root_.Go.ChangeSpec) : _root_.Go.OpenSpec := { _root_.Go.OpenSpec.ofChange s with cond := some uptoSmall }

/-- 'herdsmanlaw8.SeedsSorts', WHERE WHAT IT READS IS OF BULK AT MOST 1048576: true; the input reads as it did. -/
def seedsSortsUptoRow : OpenClaim := { program := "ytgcfcemgeppkmaa", sum := "58edef48f07694eb641b1e16049e94de87927779906cd735024066eca1dc1934", func := "herdsman/herdsmanlaw8.SeedsSorts", spec := "seedsSorts", unfollowed := true, recurses := true, plainKeys := false, apart := false, narrowed := true }
def SeedsSortsUptoSaid : Prop := seedsSortsUptoRow.holds Try.pinned (OpenSpec.upto seedsSortsSpec)

/-- 'herdsmanlaw8.SeedsBest', WHERE WHAT IT READS IS OF BULK AT MOST 1048576: true; the input reads as it did. -/
def seedsBestUptoRow : OpenClaim := { program := "ytgcfcemgeppkmaa", sum := "58edef48f07694eb641b1e16049e94de87927779906cd735024066eca1dc1934", func := "herdsman/herdsmanlaw8.SeedsBest", spec := "seedsBest", unfollowed := true, recurses := true, plainKeys := false, apart := false, narrowed := true }
def SeedsBestUptoSaid : Prop := seedsBestUptoRow.holds Try.pinned (OpenSpec.upto seedsBestSpec)

/-- 'herdsmanlaw8.SeedsTwice', WHERE WHAT IT READS IS OF BULK AT MOST 1048576: true; the input reads as it did. -/
def seedsTwiceUptoRow : OpenClaim := { program := "ytgcfcemgeppkmaa", sum := "58edef48f07694eb641b1e16049e94de87927779906cd735024066eca1dc1934", func := "herdsman/herdsmanlaw8.SeedsTwice", spec := "seedsTwice", unfollowed := true, recurses := true, plainKeys := false, apart := false, narrowed := true }
def SeedsTwiceUptoSaid : Prop := seedsTwiceUptoRow.holds Try.pinned (OpenSpec.upto seedsTwiceSpec)

/-- 'herdsmanlaw8.SeedsSame', WHERE WHAT IT READS IS OF BULK AT MOST 1048576: true; the input reads as it did. -/
def seedsSameUptoRow : OpenClaim := { program := "ytgcfcemgeppkmaa", sum := "58edef48f07694eb641b1e16049e94de87927779906cd735024066eca1dc1934", func := "herdsman/herdsmanlaw8.SeedsSame", spec := "seedsSame", unfollowed := true, recurses := true, plainKeys := false, apart := false, narrowed := true }
def SeedsSameUptoSaid : Prop := seedsSameUptoRow.holds Try.pinned (OpenSpec.upto seedsSameSpec)

/-- 'herdsmanlaw8.SeedsAsks', WHERE WHAT IT READS IS OF BULK AT MOST 1048576: true; the input reads as it did. -/
def seedsAsksUptoRow : OpenClaim := { program := "ytgcfcemgeppkmaa", sum := "58edef48f07694eb641b1e16049e94de87927779906cd735024066eca1dc1934", func := "herdsman/herdsmanlaw8.SeedsAsks", spec := "seedsAsks", unfollowed := true, recurses := true, plainKeys := false, apart := false, narrowed := true }
def SeedsAsksUptoSaid : Prop := seedsAsksUptoRow.holds Try.pinned (OpenSpec.upto seedsAsksSpec)

/-- 'herdsmanlaw9.SpreadFixed', WHERE WHAT IT READS IS OF BULK AT MOST 1048576: true; the input reads as it did. -/
def spreadFixedUptoRow : OpenClaim := { program := "ytgcfcemgeppkmaa", sum := "58edef48f07694eb641b1e16049e94de87927779906cd735024066eca1dc1934", func := "herdsman/herdsmanlaw9.SpreadFixed", spec := "spreadFixed", unfollowed := true, recurses := true, plainKeys := false, apart := false, narrowed := true }
def SpreadFixedUptoSaid : Prop := spreadFixedUptoRow.holds Try.pinned (OpenSpec.upto spreadFixedSpec)

/-- 'herdsmanlaw9.SpreadParts', WHERE WHAT IT READS IS OF BULK AT MOST 1048576: true; the input reads as it did. -/
def spreadPartsUptoRow : OpenClaim := { program := "ytgcfcemgeppkmaa", sum := "58edef48f07694eb641b1e16049e94de87927779906cd735024066eca1dc1934", func := "herdsman/herdsmanlaw9.SpreadParts", spec := "spreadParts", unfollowed := true, recurses := true, plainKeys := false, apart := false, narrowed := true }
def SpreadPartsUptoSaid : Prop := spreadPartsUptoRow.holds Try.pinned (OpenSpec.upto spreadPartsSpec)

/-- 'herdsmanlaw9.SpreadLater', WHERE WHAT IT READS IS OF BULK AT MOST 1048576: true; the input reads as it did. -/
def spreadLaterUptoRow : OpenClaim := { program := "ytgcfcemgeppkmaa", sum := "58edef48f07694eb641b1e16049e94de87927779906cd735024066eca1dc1934", func := "herdsman/herdsmanlaw9.SpreadLater", spec := "spreadLater", unfollowed := true, recurses := true, plainKeys := false, apart := false, narrowed := true }
def SpreadLaterUptoSaid : Prop := spreadLaterUptoRow.holds Try.pinned (OpenSpec.upto spreadLaterSpec)

/-- 'herdsmanlaw9.SpreadWays', WHERE WHAT IT READS IS OF BULK AT MOST 1048576: true; the input reads as it did. -/
def spreadWaysUptoRow : OpenClaim := { program := "ytgcfcemgeppkmaa", sum := "58edef48f07694eb641b1e16049e94de87927779906cd735024066eca1dc1934", func := "herdsman/herdsmanlaw9.SpreadWays", spec := "spreadWays", unfollowed := true, recurses := true, plainKeys := false, apart := false, narrowed := true }
def SpreadWaysUptoSaid : Prop := spreadWaysUptoRow.holds Try.pinned (OpenSpec.upto spreadWaysSpec)

/-- 'herdsmanlaw12.TableAsks', WHERE WHAT IT READS IS OF BULK AT MOST 1048576: true; the input reads as it did. -/
def tableAsksUptoRow : OpenClaim := { program := "ytgcfcemgeppkmaa", sum := "58edef48f07694eb641b1e16049e94de87927779906cd735024066eca1dc1934", func := "herdsman/herdsmanlaw12.TableAsks", spec := "tableAsks", unfollowed := true, recurses := true, plainKeys := false, apart := false, narrowed := true }
def TableAsksUptoSaid : Prop := tableAsksUptoRow.holds Try.pinned (OpenSpec.upto tableAsksSpec)

/-- 'herdsmanlaw12.TableTo', WHERE WHAT IT READS IS OF BULK AT MOST 1048576: true; the input reads as it did. -/
def tableToUptoRow : OpenClaim := { program := "ytgcfcemgeppkmaa", sum := "58edef48f07694eb641b1e16049e94de87927779906cd735024066eca1dc1934", func := "herdsman/herdsmanlaw12.TableTo", spec := "tableTo", unfollowed := true, recurses := true, plainKeys := false, apart := false, narrowed := true }
def TableToUptoSaid : Prop := tableToUptoRow.holds Try.pinned (OpenSpec.upto tableToSpec)

/-- 'herdsmanlaw12.TableOver', WHERE WHAT IT READS IS OF BULK AT MOST 1048576: true; the input reads as it did. -/
def tableOverUptoRow : OpenClaim := { program := "ytgcfcemgeppkmaa", sum := "58edef48f07694eb641b1e16049e94de87927779906cd735024066eca1dc1934", func := "herdsman/herdsmanlaw12.TableOver", spec := "tableOver", unfollowed := true, recurses := true, plainKeys := false, apart := false, narrowed := true }
def TableOverUptoSaid : Prop := tableOverUptoRow.holds Try.pinned (OpenSpec.upto tableOverSpec)

/-- 'herdsmanlaw12.TableBack', WHERE WHAT IT READS IS OF BULK AT MOST 1048576: true; the input reads as it did. -/
def tableBackUptoRow : OpenClaim := { program := "ytgcfcemgeppkmaa", sum := "58edef48f07694eb641b1e16049e94de87927779906cd735024066eca1dc1934", func := "herdsman/herdsmanlaw12.TableBack", spec := "tableBack", unfollowed := true, recurses := true, plainKeys := false, apart := false, narrowed := true }
def TableBackUptoSaid : Prop := tableBackUptoRow.holds Try.pinned (OpenSpec.upto tableBackSpec)

/-- 'herdsmanlaw12.TableColumns', WHERE WHAT IT READS IS OF BULK AT MOST 1048576: true; the input reads as it did. -/
def tableColumnsUptoRow : OpenClaim := { program := "ytgcfcemgeppkmaa", sum := "58edef48f07694eb641b1e16049e94de87927779906cd735024066eca1dc1934", func := "herdsman/herdsmanlaw12.TableColumns", spec := "tableColumns", unfollowed := true, recurses := true, plainKeys := false, apart := false, narrowed := true }
def TableColumnsUptoSaid : Prop := tableColumnsUptoRow.holds Try.pinned (OpenSpec.upto tableColumnsSpec)

/-- 'herdsmanlaw10.FieldAsks', WHERE WHAT IT READS IS OF BULK AT MOST 1048576: true; the input reads as it did. -/
def fieldAsksUptoRow : OpenClaim := { program := "ytgcfcemgeppkmaa", sum := "58edef48f07694eb641b1e16049e94de87927779906cd735024066eca1dc1934", func := "herdsman/herdsmanlaw10.FieldAsks", spec := "fieldAsks", unfollowed := true, recurses := true, plainKeys := false, apart := false, narrowed := true }
def FieldAsksUptoSaid : Prop := fieldAsksUptoRow.holds Try.pinned (OpenSpec.upto fieldAsksSpec)

/-- 'herdsmanlaw10.FieldLeads', WHERE WHAT IT READS IS OF BULK AT MOST 1048576: true; the input reads as it did. -/
def fieldLeadsUptoRow : OpenClaim := { program := "ytgcfcemgeppkmaa", sum := "58edef48f07694eb641b1e16049e94de87927779906cd735024066eca1dc1934", func := "herdsman/herdsmanlaw10.FieldLeads", spec := "fieldLeads", unfollowed := true, recurses := true, plainKeys := false, apart := false, narrowed := true }
def FieldLeadsUptoSaid : Prop := fieldLeadsUptoRow.holds Try.pinned (OpenSpec.upto fieldLeadsSpec)

/-- 'herdsmanlaw10.FieldFirst', WHERE WHAT IT READS IS OF BULK AT MOST 1048576: true; the input reads as it did. -/
def fieldFirstUptoRow : OpenClaim := { program := "ytgcfcemgeppkmaa", sum := "58edef48f07694eb641b1e16049e94de87927779906cd735024066eca1dc1934", func := "herdsman/herdsmanlaw10.FieldFirst", spec := "fieldFirst", unfollowed := true, recurses := true, plainKeys := false, apart := false, narrowed := true }
def FieldFirstUptoSaid : Prop := fieldFirstUptoRow.holds Try.pinned (OpenSpec.upto fieldFirstSpec)

/-- 'herdsmanlaw10.WalkAsks', WHERE WHAT IT READS IS OF BULK AT MOST 1048576: true; the input reads as it did. -/
def walkAsksUptoRow : OpenClaim := { program := "ytgcfcemgeppkmaa", sum := "58edef48f07694eb641b1e16049e94de87927779906cd735024066eca1dc1934", func := "herdsman/herdsmanlaw10.WalkAsks", spec := "walkAsks", unfollowed := true, recurses := true, plainKeys := false, apart := false, narrowed := true }
def WalkAsksUptoSaid : Prop := walkAsksUptoRow.holds Try.pinned (OpenSpec.upto walkAsksSpec)

/-- 'herdsmanlaw10.WalkEnds', WHERE WHAT IT READS IS OF BULK AT MOST 1048576: true; the input reads as it did. -/
def walkEndsUptoRow : OpenClaim := { program := "ytgcfcemgeppkmaa", sum := "58edef48f07694eb641b1e16049e94de87927779906cd735024066eca1dc1934", func := "herdsman/herdsmanlaw10.WalkEnds", spec := "walkEnds", unfollowed := true, recurses := true, plainKeys := false, apart := false, narrowed := true }
def WalkEndsUptoSaid : Prop := walkEndsUptoRow.holds Try.pinned (OpenSpec.upto walkEndsSpec)

/-- 'herdsmanlaw9.SpreadAsks', WHERE WHAT IT READS IS OF BULK AT MOST 1048576: true; the input reads as it did. -/
def spreadAsksUptoRow : OpenClaim := { program := "ytgcfcemgeppkmaa", sum := "58edef48f07694eb641b1e16049e94de87927779906cd735024066eca1dc1934", func := "herdsman/herdsmanlaw9.SpreadAsks", spec := "spreadAsks", unfollowed := true, recurses := true, plainKeys := false, apart := false, narrowed := true }
def SpreadAsksUptoSaid : Prop := spreadAsksUptoRow.holds Try.pinned (OpenSpec.upto spreadAsksSpec)

/-- 'herdsmanlaw19.ShelfRight', WHERE WHAT IT READS IS OF BULK AT MOST 1048576: true; the input reads as it did. -/
def shelfRightUptoRow : OpenClaim := { program := "ytgcfcemgeppkmaa", sum := "58edef48f07694eb641b1e16049e94de87927779906cd735024066eca1dc1934", func := "herdsman/herdsmanlaw19.ShelfRight", spec := "shelfRight", unfollowed := true, recurses := true, plainKeys := false, apart := false, narrowed := true }
def ShelfRightUptoSaid : Prop := shelfRightUptoRow.holds Try.pinned (OpenSpec.upto shelfRightSpec)

/-- 'herdsmanlaw19.ShelfOwn', WHERE WHAT IT READS IS OF BULK AT MOST 1048576: true; the input reads as it did. -/
def shelfOwnUptoRow : OpenClaim := { program := "ytgcfcemgeppkmaa", sum := "58edef48f07694eb641b1e16049e94de87927779906cd735024066eca1dc1934", func := "herdsman/herdsmanlaw19.ShelfOwn", spec := "shelfOwn", unfollowed := true, recurses := true, plainKeys := false, apart := false, narrowed := true }
def ShelfOwnUptoSaid : Prop := shelfOwnUptoRow.holds Try.pinned (OpenSpec.upto shelfOwnSpec)

/-- 'herdsmanlaw19.ShelfPlays', WHERE WHAT IT READS IS OF BULK AT MOST 1048576: true; the input reads as it did. -/
def shelfPlaysUptoRow : OpenClaim := { program := "ytgcfcemgeppkmaa", sum := "58edef48f07694eb641b1e16049e94de87927779906cd735024066eca1dc1934", func := "herdsman/herdsmanlaw19.ShelfPlays", spec := "shelfPlays", unfollowed := true, recurses := true, plainKeys := false, apart := false, narrowed := true }
def ShelfPlaysUptoSaid : Prop := shelfPlaysUptoRow.holds Try.pinned (OpenSpec.upto shelfPlaysSpec)

/-- 'herdsmanlaw19.ShelfCounts', WHERE WHAT IT READS IS OF BULK AT MOST 1048576: true; the input reads as it did. -/
def shelfCountsUptoRow : OpenClaim := { program := "ytgcfcemgeppkmaa", sum := "58edef48f07694eb641b1e16049e94de87927779906cd735024066eca1dc1934", func := "herdsman/herdsmanlaw19.ShelfCounts", spec := "shelfCounts", unfollowed := true, recurses := true, plainKeys := false, apart := false, narrowed := true }
def ShelfCountsUptoSaid : Prop := shelfCountsUptoRow.holds Try.pinned (OpenSpec.upto shelfCountsSpec)

/-- 'herdsmanlaw19.ShelfNone', WHERE WHAT IT READS IS OF BULK AT MOST 1048576: true; the input reads as it did. -/
def shelfNoneUptoRow : OpenClaim := { program := "ytgcfcemgeppkmaa", sum := "58edef48f07694eb641b1e16049e94de87927779906cd735024066eca1dc1934", func := "herdsman/herdsmanlaw19.ShelfNone", spec := "shelfNone", unfollowed := true, recurses := true, plainKeys := false, apart := false, narrowed := true }
def ShelfNoneUptoSaid : Prop := shelfNoneUptoRow.holds Try.pinned (OpenSpec.upto shelfNoneSpec)

end Rows
end Go.Proofs.Ytgcfcemgeppkmaa
