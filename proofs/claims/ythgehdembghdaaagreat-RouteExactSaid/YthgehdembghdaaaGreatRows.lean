/-
  No cell of these rows narrows 'for every input' (looked for: loops, veiled, ifaces, maps, wideKeys, modest, calm, conditions, laid).
  DERIVED. THE GIVEN ROWS OF THIS SEAT. 14 by the template 'for every input the law returns true; each argument reads behind the call as it read before'; 0 by the template 'total and deterministic' (their statements: YthgehdembghdaaaGreatTotals.lean).
  GIVEN WITH THE SEED: the statements are not yours to turn. If you find one false, say at which input.
  Laid BY PROGRAM, IN A SANDBOX (cutbox-rows.mjs): the forced cells as the released guide's own fill.sh prints them over the translation a2b98beab5de2064… (all of the seat's roots in one cut). By AI agents, Wed Nov 11 2026. No macro, syntax, notation, axiom, sorry.
-/
import Derived.Test.YthgehdembghdaaaGreatChecked
import GoSem.Claim
import GoSem.ClaimJoined
import GoSem.ClaimMapViews
import Derived.JoinedTies
import Derived.KernelRfl
namespace Go.Proofs.YthgehdembghdaaaGreat
/- THE CELL 'sum', in the pinned program and in every row, IS THE sha256 OF THE DUMP (.gsa) THAT YthgehdembghdaaaGreatProg.lean LOADS. Nothing in Lean hashes anything: it is a label: what it is worth is what the hold of that sum in a sandbox is worth. -/
noncomputable def Tryz.pinned : Pinned := { name := "ythgehdembghdaaagreat", sum := "a2b98beab5de2064f23c540ca3c005701affafa0a61810dcf50bc4386218e515", checked := Tryz.checked }
namespace Rows
def none {H : Type} : Left H := { results := [], args := [] }

/-- 'herdsmanlaw14.MeshDirty': WHATEVER THE INPUT: true; the input reads as it did. -/
def meshDirtySpec : ChangeSpec := { name := "meshDirty", fn := fun _ => fun
  | [d1, d2, d3, d4, d5] => { results := [.lit (.bool true)], args := [d1, d2, d3, d4, d5] }
  | _ => none }
def meshDirtyRow : OpenClaim := { program := "ythgehdembghdaaagreat", sum := "a2b98beab5de2064f23c540ca3c005701affafa0a61810dcf50bc4386218e515", func := "herdsman/herdsmanlaw14.MeshDirty", spec := "meshDirty", unfollowed := true, recurses := true, apart := false }
def MeshDirtySaid : Prop := meshDirtyRow.holds Tryz.pinned (OpenSpec.ofChange meshDirtySpec)

/-- ITS FALSE NEIGHBOUR: 'it returns false'. Refute it at one input. -/
def meshDirtyWrong : ChangeSpec := { name := "meshDirty", fn := fun _ => fun
  | [d1, d2, d3, d4, d5] => { results := [.lit (.bool false)], args := [d1, d2, d3, d4, d5] }
  | _ => none }
def MeshDirtyWrongFalsely : Prop := meshDirtyRow.holds Tryz.pinned (OpenSpec.ofChange meshDirtyWrong)

/-- 'herdsmanlaw14.MeshKeeps': WHATEVER THE INPUT: true; the input reads as it did. -/
def meshKeepsSpec : ChangeSpec := { name := "meshKeeps", fn := fun _ => fun
  | [d1, d2, d3, d4, d5, d6, d7] => { results := [.lit (.bool true)], args := [d1, d2, d3, d4, d5, d6, d7] }
  | _ => none }
def meshKeepsRow : OpenClaim := { program := "ythgehdembghdaaagreat", sum := "a2b98beab5de2064f23c540ca3c005701affafa0a61810dcf50bc4386218e515", func := "herdsman/herdsmanlaw14.MeshKeeps", spec := "meshKeeps", unfollowed := true, recurses := true, apart := false }
def MeshKeepsSaid : Prop := meshKeepsRow.holds Tryz.pinned (OpenSpec.ofChange meshKeepsSpec)

/-- ITS FALSE NEIGHBOUR: 'it returns false'. Refute it at one input. -/
def meshKeepsWrong : ChangeSpec := { name := "meshKeeps", fn := fun _ => fun
  | [d1, d2, d3, d4, d5, d6, d7] => { results := [.lit (.bool false)], args := [d1, d2, d3, d4, d5, d6, d7] }
  | _ => none }
def MeshKeepsWrongFalsely : Prop := meshKeepsRow.holds Tryz.pinned (OpenSpec.ofChange meshKeepsWrong)

/-- 'herdsmanlaw14.MeshWays': WHATEVER THE INPUT: true; the input reads as it did. -/
def meshWaysSpec : ChangeSpec := { name := "meshWays", fn := fun _ => fun
  | [d1, d2, d3, d4] => { results := [.lit (.bool true)], args := [d1, d2, d3, d4] }
  | _ => none }
def meshWaysRow : OpenClaim := { program := "ythgehdembghdaaagreat", sum := "a2b98beab5de2064f23c540ca3c005701affafa0a61810dcf50bc4386218e515", func := "herdsman/herdsmanlaw14.MeshWays", spec := "meshWays", unfollowed := true, recurses := true, apart := false }
def MeshWaysSaid : Prop := meshWaysRow.holds Tryz.pinned (OpenSpec.ofChange meshWaysSpec)

/-- ITS FALSE NEIGHBOUR: 'it returns false'. Refute it at one input. -/
def meshWaysWrong : ChangeSpec := { name := "meshWays", fn := fun _ => fun
  | [d1, d2, d3, d4] => { results := [.lit (.bool false)], args := [d1, d2, d3, d4] }
  | _ => none }
def MeshWaysWrongFalsely : Prop := meshWaysRow.holds Tryz.pinned (OpenSpec.ofChange meshWaysWrong)

/-- 'herdsmanlaw14.MeshBuilds': WHATEVER THE INPUT: true; the input reads as it did. -/
def meshBuildsSpec : ChangeSpec := { name := "meshBuilds", fn := fun _ => fun
  | [d1, d2, d3, d4, d5, d6, d7] => { results := [.lit (.bool true)], args := [d1, d2, d3, d4, d5, d6, d7] }
  | _ => none }
def meshBuildsRow : OpenClaim := { program := "ythgehdembghdaaagreat", sum := "a2b98beab5de2064f23c540ca3c005701affafa0a61810dcf50bc4386218e515", func := "herdsman/herdsmanlaw14.MeshBuilds", spec := "meshBuilds", unfollowed := true, recurses := true, apart := false }
def MeshBuildsSaid : Prop := meshBuildsRow.holds Tryz.pinned (OpenSpec.ofChange meshBuildsSpec)

/-- ITS FALSE NEIGHBOUR: 'it returns false'. Refute it at one input. -/
def meshBuildsWrong : ChangeSpec := { name := "meshBuilds", fn := fun _ => fun
  | [d1, d2, d3, d4, d5, d6, d7] => { results := [.lit (.bool false)], args := [d1, d2, d3, d4, d5, d6, d7] }
  | _ => none }
def MeshBuildsWrongFalsely : Prop := meshBuildsRow.holds Tryz.pinned (OpenSpec.ofChange meshBuildsWrong)

/-- 'herdsmanlaw14.MeshNone': WHATEVER THE INPUT: true; the input reads as it did. -/
def meshNoneSpec : ChangeSpec := { name := "meshNone", fn := fun _ => fun
  | [d1, d2] => { results := [.lit (.bool true)], args := [d1, d2] }
  | _ => none }
def meshNoneRow : OpenClaim := { program := "ythgehdembghdaaagreat", sum := "a2b98beab5de2064f23c540ca3c005701affafa0a61810dcf50bc4386218e515", func := "herdsman/herdsmanlaw14.MeshNone", spec := "meshNone", unfollowed := true, recurses := true, apart := false }
def MeshNoneSaid : Prop := meshNoneRow.holds Tryz.pinned (OpenSpec.ofChange meshNoneSpec)

/-- ITS FALSE NEIGHBOUR: 'it returns false'. Refute it at one input. -/
def meshNoneWrong : ChangeSpec := { name := "meshNone", fn := fun _ => fun
  | [d1, d2] => { results := [.lit (.bool false)], args := [d1, d2] }
  | _ => none }
def MeshNoneWrongFalsely : Prop := meshNoneRow.holds Tryz.pinned (OpenSpec.ofChange meshNoneWrong)

/-- 'herdsmanlaw15.RouteEdges': WHATEVER THE INPUT: true; the input reads as it did. -/
def routeEdgesSpec : ChangeSpec := { name := "routeEdges", fn := fun _ => fun
  | [d1, d2, d3, d4, d5] => { results := [.lit (.bool true)], args := [d1, d2, d3, d4, d5] }
  | _ => none }
def routeEdgesRow : OpenClaim := { program := "ythgehdembghdaaagreat", sum := "a2b98beab5de2064f23c540ca3c005701affafa0a61810dcf50bc4386218e515", func := "herdsman/herdsmanlaw15.RouteEdges", spec := "routeEdges", unfollowed := true, recurses := true, apart := false }
def RouteEdgesSaid : Prop := routeEdgesRow.holds Tryz.pinned (OpenSpec.ofChange routeEdgesSpec)

/-- ITS FALSE NEIGHBOUR: 'it returns false'. Refute it at one input. -/
def routeEdgesWrong : ChangeSpec := { name := "routeEdges", fn := fun _ => fun
  | [d1, d2, d3, d4, d5] => { results := [.lit (.bool false)], args := [d1, d2, d3, d4, d5] }
  | _ => none }
def RouteEdgesWrongFalsely : Prop := routeEdgesRow.holds Tryz.pinned (OpenSpec.ofChange routeEdgesWrong)

/-- 'herdsmanlaw15.RouteNone': WHATEVER THE INPUT: true; the input reads as it did. -/
def routeNoneSpec : ChangeSpec := { name := "routeNone", fn := fun _ => fun
  | [d1, d2] => { results := [.lit (.bool true)], args := [d1, d2] }
  | _ => none }
def routeNoneRow : OpenClaim := { program := "ythgehdembghdaaagreat", sum := "a2b98beab5de2064f23c540ca3c005701affafa0a61810dcf50bc4386218e515", func := "herdsman/herdsmanlaw15.RouteNone", spec := "routeNone", unfollowed := true, recurses := true, apart := false }
def RouteNoneSaid : Prop := routeNoneRow.holds Tryz.pinned (OpenSpec.ofChange routeNoneSpec)

/-- ITS FALSE NEIGHBOUR: 'it returns false'. Refute it at one input. -/
def routeNoneWrong : ChangeSpec := { name := "routeNone", fn := fun _ => fun
  | [d1, d2] => { results := [.lit (.bool false)], args := [d1, d2] }
  | _ => none }
def RouteNoneWrongFalsely : Prop := routeNoneRow.holds Tryz.pinned (OpenSpec.ofChange routeNoneWrong)

/-- 'herdsmanlaw15.RouteExact': WHATEVER THE INPUT: true; the input reads as it did. -/
def routeExactSpec : ChangeSpec := { name := "routeExact", fn := fun _ => fun
  | [d1, d2, d3, d4, d5] => { results := [.lit (.bool true)], args := [d1, d2, d3, d4, d5] }
  | _ => none }
def routeExactRow : OpenClaim := { program := "ythgehdembghdaaagreat", sum := "a2b98beab5de2064f23c540ca3c005701affafa0a61810dcf50bc4386218e515", func := "herdsman/herdsmanlaw15.RouteExact", spec := "routeExact", unfollowed := true, recurses := true, apart := false }
def RouteExactSaid : Prop := routeExactRow.holds Tryz.pinned (OpenSpec.ofChange routeExactSpec)

/-- ITS FALSE NEIGHBOUR: 'it returns false'. Refute it at one input. -/
def routeExactWrong : ChangeSpec := { name := "routeExact", fn := fun _ => fun
  | [d1, d2, d3, d4, d5] => { results := [.lit (.bool false)], args := [d1, d2, d3, d4, d5] }
  | _ => none }
def RouteExactWrongFalsely : Prop := routeExactRow.holds Tryz.pinned (OpenSpec.ofChange routeExactWrong)

/-- 'herdsmanlaw15.RouteElder': WHATEVER THE INPUT: true; the input reads as it did. -/
def routeElderSpec : ChangeSpec := { name := "routeElder", fn := fun _ => fun
  | [d1, d2, d3, d4, d5, d6] => { results := [.lit (.bool true)], args := [d1, d2, d3, d4, d5, d6] }
  | _ => none }
def routeElderRow : OpenClaim := { program := "ythgehdembghdaaagreat", sum := "a2b98beab5de2064f23c540ca3c005701affafa0a61810dcf50bc4386218e515", func := "herdsman/herdsmanlaw15.RouteElder", spec := "routeElder", unfollowed := true, recurses := true, apart := false }
def RouteElderSaid : Prop := routeElderRow.holds Tryz.pinned (OpenSpec.ofChange routeElderSpec)

/-- ITS FALSE NEIGHBOUR: 'it returns false'. Refute it at one input. -/
def routeElderWrong : ChangeSpec := { name := "routeElder", fn := fun _ => fun
  | [d1, d2, d3, d4, d5, d6] => { results := [.lit (.bool false)], args := [d1, d2, d3, d4, d5, d6] }
  | _ => none }
def RouteElderWrongFalsely : Prop := routeElderRow.holds Tryz.pinned (OpenSpec.ofChange routeElderWrong)

/-- 'herdsmanlaw15.RouteKept': WHATEVER THE INPUT: true; the input reads as it did. -/
def routeKeptSpec : ChangeSpec := { name := "routeKept", fn := fun _ => fun
  | [d1, d2, d3, d4] => { results := [.lit (.bool true)], args := [d1, d2, d3, d4] }
  | _ => none }
def routeKeptRow : OpenClaim := { program := "ythgehdembghdaaagreat", sum := "a2b98beab5de2064f23c540ca3c005701affafa0a61810dcf50bc4386218e515", func := "herdsman/herdsmanlaw15.RouteKept", spec := "routeKept", unfollowed := true, recurses := true, apart := false }
def RouteKeptSaid : Prop := routeKeptRow.holds Tryz.pinned (OpenSpec.ofChange routeKeptSpec)

/-- ITS FALSE NEIGHBOUR: 'it returns false'. Refute it at one input. -/
def routeKeptWrong : ChangeSpec := { name := "routeKept", fn := fun _ => fun
  | [d1, d2, d3, d4] => { results := [.lit (.bool false)], args := [d1, d2, d3, d4] }
  | _ => none }
def RouteKeptWrongFalsely : Prop := routeKeptRow.holds Tryz.pinned (OpenSpec.ofChange routeKeptWrong)

/-- 'herdsmanlaw16.InjectAsks': WHATEVER THE INPUT: true; the input reads as it did. -/
def injectAsksSpec : ChangeSpec := { name := "injectAsks", fn := fun _ => fun
  | [d1, d2, d3, d4, d5, d6] => { results := [.lit (.bool true)], args := [d1, d2, d3, d4, d5, d6] }
  | _ => none }
def injectAsksRow : OpenClaim := { program := "ythgehdembghdaaagreat", sum := "a2b98beab5de2064f23c540ca3c005701affafa0a61810dcf50bc4386218e515", func := "herdsman/herdsmanlaw16.InjectAsks", spec := "injectAsks", unfollowed := true, recurses := true, apart := false }
def InjectAsksSaid : Prop := injectAsksRow.holds Tryz.pinned (OpenSpec.ofChange injectAsksSpec)

/-- ITS FALSE NEIGHBOUR: 'it returns false'. Refute it at one input. -/
def injectAsksWrong : ChangeSpec := { name := "injectAsks", fn := fun _ => fun
  | [d1, d2, d3, d4, d5, d6] => { results := [.lit (.bool false)], args := [d1, d2, d3, d4, d5, d6] }
  | _ => none }
def InjectAsksWrongFalsely : Prop := injectAsksRow.holds Tryz.pinned (OpenSpec.ofChange injectAsksWrong)

/-- 'herdsmanlaw16.InjectSides': WHATEVER THE INPUT: true; the input reads as it did. -/
def injectSidesSpec : ChangeSpec := { name := "injectSides", fn := fun _ => fun
  | [d1, d2, d3, d4, d5] => { results := [.lit (.bool true)], args := [d1, d2, d3, d4, d5] }
  | _ => none }
def injectSidesRow : OpenClaim := { program := "ythgehdembghdaaagreat", sum := "a2b98beab5de2064f23c540ca3c005701affafa0a61810dcf50bc4386218e515", func := "herdsman/herdsmanlaw16.InjectSides", spec := "injectSides", unfollowed := true, recurses := true, apart := false }
def InjectSidesSaid : Prop := injectSidesRow.holds Tryz.pinned (OpenSpec.ofChange injectSidesSpec)

/-- ITS FALSE NEIGHBOUR: 'it returns false'. Refute it at one input. -/
def injectSidesWrong : ChangeSpec := { name := "injectSides", fn := fun _ => fun
  | [d1, d2, d3, d4, d5] => { results := [.lit (.bool false)], args := [d1, d2, d3, d4, d5] }
  | _ => none }
def InjectSidesWrongFalsely : Prop := injectSidesRow.holds Tryz.pinned (OpenSpec.ofChange injectSidesWrong)

/-- 'herdsmanlaw16.InjectElder': WHATEVER THE INPUT: true; the input reads as it did. -/
def injectElderSpec : ChangeSpec := { name := "injectElder", fn := fun _ => fun
  | [d1, d2, d3, d4, d5, d6] => { results := [.lit (.bool true)], args := [d1, d2, d3, d4, d5, d6] }
  | _ => none }
def injectElderRow : OpenClaim := { program := "ythgehdembghdaaagreat", sum := "a2b98beab5de2064f23c540ca3c005701affafa0a61810dcf50bc4386218e515", func := "herdsman/herdsmanlaw16.InjectElder", spec := "injectElder", unfollowed := true, recurses := true, apart := false }
def InjectElderSaid : Prop := injectElderRow.holds Tryz.pinned (OpenSpec.ofChange injectElderSpec)

/-- ITS FALSE NEIGHBOUR: 'it returns false'. Refute it at one input. -/
def injectElderWrong : ChangeSpec := { name := "injectElder", fn := fun _ => fun
  | [d1, d2, d3, d4, d5, d6] => { results := [.lit (.bool false)], args := [d1, d2, d3, d4, d5, d6] }
  | _ => none }
def InjectElderWrongFalsely : Prop := injectElderRow.holds Tryz.pinned (OpenSpec.ofChange injectElderWrong)

/-- 'herdsmanlaw16.InjectFields': WHATEVER THE INPUT: true; the input reads as it did. -/
def injectFieldsSpec : ChangeSpec := { name := "injectFields", fn := fun _ => fun
  | [d1, d2, d3, d4, d5] => { results := [.lit (.bool true)], args := [d1, d2, d3, d4, d5] }
  | _ => none }
def injectFieldsRow : OpenClaim := { program := "ythgehdembghdaaagreat", sum := "a2b98beab5de2064f23c540ca3c005701affafa0a61810dcf50bc4386218e515", func := "herdsman/herdsmanlaw16.InjectFields", spec := "injectFields", unfollowed := true, recurses := true, apart := false }
def InjectFieldsSaid : Prop := injectFieldsRow.holds Tryz.pinned (OpenSpec.ofChange injectFieldsSpec)

/-- ITS FALSE NEIGHBOUR: 'it returns false'. Refute it at one input. -/
def injectFieldsWrong : ChangeSpec := { name := "injectFields", fn := fun _ => fun
  | [d1, d2, d3, d4, d5] => { results := [.lit (.bool false)], args := [d1, d2, d3, d4, d5] }
  | _ => none }
def InjectFieldsWrongFalsely : Prop := injectFieldsRow.holds Tryz.pinned (OpenSpec.ofChange injectFieldsWrong)

/- THE SECOND FORM. 'bulk': how many values and letters a reading holds, each counted each time it is reached (what is shared counts as often as it is met; a slice's spare places count too). A statement '..UptoSaid' is the law's where the arguments, and the package variables that the reading takes, are together of bulk at most 1048576: NARROWER than '..Said'. Prove '..Said' where nothing that the law and all that it calls make is longer than what came in: it says more and counts as full. Else prove '..UptoSaid'. A law counts once. -/
mutual
def uptoBulk {H : Type} : DataW H → Nat
  | .lit (.string bytes) => bytes.length + 1
  | .lit _ => 1
  | .nil => 1
  | .ptr d => uptoBulk d + 1
  | .slice elems spare => uptoBulkAll elems + uptoBulkAll spare + 1
  | .agg parts => uptoBulkAll parts + 1
  | .iface _ d => uptoBulk d + 1
  | .map entries => uptoBulkEntries entries + 1
  | .held _ => 1
def uptoBulkAll {H : Type} : List (DataW H) → Nat
  | [] => 0
  | d :: r => uptoBulk d + uptoBulkAll r
def uptoBulkEntries {H : Type} : List (Lit × DataW H) → Nat
  | [] => 0
  | x :: r => uptoBulkEntry x + uptoBulkEntries r
def uptoBulkEntry {H : Type} : Lit × DataW H → Nat
  | (.string bytes, d) => bytes.length + uptoBulk d + 1
  | (_, d) => uptoBulk d + 1
 end
def uptoSmall : (H : Type) → List (DataW H) → Bool := fun _ ds => decide (uptoBulkAll ds ≤ 1048576)
def OpenSpec.upto (s : _root_.Go.ChangeSpec) : _root_.Go.OpenSpec := { _root_.Go.OpenSpec.ofChange s with cond := some uptoSmall }

/-- 'herdsmanlaw14.MeshDirty', WHERE WHAT IT READS IS OF BULK AT MOST 1048576: true; the input reads as it did. -/
def meshDirtyUptoRow : OpenClaim := { program := "ythgehdembghdaaagreat", sum := "a2b98beab5de2064f23c540ca3c005701affafa0a61810dcf50bc4386218e515", func := "herdsman/herdsmanlaw14.MeshDirty", spec := "meshDirty", unfollowed := true, recurses := true, apart := false, narrowed := true }
def MeshDirtyUptoSaid : Prop := meshDirtyUptoRow.holds Tryz.pinned (OpenSpec.upto meshDirtySpec)

/-- 'herdsmanlaw14.MeshKeeps', WHERE WHAT IT READS IS OF BULK AT MOST 1048576: true; the input reads as it did. -/
def meshKeepsUptoRow : OpenClaim := { program := "ythgehdembghdaaagreat", sum := "a2b98beab5de2064f23c540ca3c005701affafa0a61810dcf50bc4386218e515", func := "herdsman/herdsmanlaw14.MeshKeeps", spec := "meshKeeps", unfollowed := true, recurses := true, apart := false, narrowed := true }
def MeshKeepsUptoSaid : Prop := meshKeepsUptoRow.holds Tryz.pinned (OpenSpec.upto meshKeepsSpec)

/-- 'herdsmanlaw14.MeshWays', WHERE WHAT IT READS IS OF BULK AT MOST 1048576: true; the input reads as it did. -/
def meshWaysUptoRow : OpenClaim := { program := "ythgehdembghdaaagreat", sum := "a2b98beab5de2064f23c540ca3c005701affafa0a61810dcf50bc4386218e515", func := "herdsman/herdsmanlaw14.MeshWays", spec := "meshWays", unfollowed := true, recurses := true, apart := false, narrowed := true }
def MeshWaysUptoSaid : Prop := meshWaysUptoRow.holds Tryz.pinned (OpenSpec.upto meshWaysSpec)

/-- 'herdsmanlaw14.MeshBuilds', WHERE WHAT IT READS IS OF BULK AT MOST 1048576: true; the input reads as it did. -/
def meshBuildsUptoRow : OpenClaim := { program := "ythgehdembghdaaagreat", sum := "a2b98beab5de2064f23c540ca3c005701affafa0a61810dcf50bc4386218e515", func := "herdsman/herdsmanlaw14.MeshBuilds", spec := "meshBuilds", unfollowed := true, recurses := true, apart := false, narrowed := true }
def MeshBuildsUptoSaid : Prop := meshBuildsUptoRow.holds Tryz.pinned (OpenSpec.upto meshBuildsSpec)

/-- 'herdsmanlaw14.MeshNone', WHERE WHAT IT READS IS OF BULK AT MOST 1048576: true; the input reads as it did. -/
def meshNoneUptoRow : OpenClaim := { program := "ythgehdembghdaaagreat", sum := "a2b98beab5de2064f23c540ca3c005701affafa0a61810dcf50bc4386218e515", func := "herdsman/herdsmanlaw14.MeshNone", spec := "meshNone", unfollowed := true, recurses := true, apart := false, narrowed := true }
def MeshNoneUptoSaid : Prop := meshNoneUptoRow.holds Tryz.pinned (OpenSpec.upto meshNoneSpec)

/-- 'herdsmanlaw15.RouteEdges', WHERE WHAT IT READS IS OF BULK AT MOST 1048576: true; the input reads as it did. -/
def routeEdgesUptoRow : OpenClaim := { program := "ythgehdembghdaaagreat", sum := "a2b98beab5de2064f23c540ca3c005701affafa0a61810dcf50bc4386218e515", func := "herdsman/herdsmanlaw15.RouteEdges", spec := "routeEdges", unfollowed := true, recurses := true, apart := false, narrowed := true }
def RouteEdgesUptoSaid : Prop := routeEdgesUptoRow.holds Tryz.pinned (OpenSpec.upto routeEdgesSpec)

/-- 'herdsmanlaw15.RouteNone', WHERE WHAT IT READS IS OF BULK AT MOST 1048576: true; the input reads as it did. -/
def routeNoneUptoRow : OpenClaim := { program := "ythgehdembghdaaagreat", sum := "a2b98beab5de2064f23c540ca3c005701affafa0a61810dcf50bc4386218e515", func := "herdsman/herdsmanlaw15.RouteNone", spec := "routeNone", unfollowed := true, recurses := true, apart := false, narrowed := true }
def RouteNoneUptoSaid : Prop := routeNoneUptoRow.holds Tryz.pinned (OpenSpec.upto routeNoneSpec)

/-- 'herdsmanlaw15.RouteExact', WHERE WHAT IT READS IS OF BULK AT MOST 1048576: true; the input reads as it did. -/
def routeExactUptoRow : OpenClaim := { program := "ythgehdembghdaaagreat", sum := "a2b98beab5de2064f23c540ca3c005701affafa0a61810dcf50bc4386218e515", func := "herdsman/herdsmanlaw15.RouteExact", spec := "routeExact", unfollowed := true, recurses := true, apart := false, narrowed := true }
def RouteExactUptoSaid : Prop := routeExactUptoRow.holds Tryz.pinned (OpenSpec.upto routeExactSpec)

/-- 'herdsmanlaw15.RouteElder', WHERE WHAT IT READS IS OF BULK AT MOST 1048576: true; the input reads as it did. -/
def routeElderUptoRow : OpenClaim := { program := "ythgehdembghdaaagreat", sum := "a2b98beab5de2064f23c540ca3c005701affafa0a61810dcf50bc4386218e515", func := "herdsman/herdsmanlaw15.RouteElder", spec := "routeElder", unfollowed := true, recurses := true, apart := false, narrowed := true }
def RouteElderUptoSaid : Prop := routeElderUptoRow.holds Tryz.pinned (OpenSpec.upto routeElderSpec)

/-- 'herdsmanlaw15.RouteKept', WHERE WHAT IT READS IS OF BULK AT MOST 1048576: true; the input reads as it did. -/
def routeKeptUptoRow : OpenClaim := { program := "ythgehdembghdaaagreat", sum := "a2b98beab5de2064f23c540ca3c005701affafa0a61810dcf50bc4386218e515", func := "herdsman/herdsmanlaw15.RouteKept", spec := "routeKept", unfollowed := true, recurses := true, apart := false, narrowed := true }
def RouteKeptUptoSaid : Prop := routeKeptUptoRow.holds Tryz.pinned (OpenSpec.upto routeKeptSpec)

/-- 'herdsmanlaw16.InjectAsks', WHERE WHAT IT READS IS OF BULK AT MOST 1048576: true; the input reads as it did. -/
def injectAsksUptoRow : OpenClaim := { program := "ythgehdembghdaaagreat", sum := "a2b98beab5de2064f23c540ca3c005701affafa0a61810dcf50bc4386218e515", func := "herdsman/herdsmanlaw16.InjectAsks", spec := "injectAsks", unfollowed := true, recurses := true, apart := false, narrowed := true }
def InjectAsksUptoSaid : Prop := injectAsksUptoRow.holds Tryz.pinned (OpenSpec.upto injectAsksSpec)

/-- 'herdsmanlaw16.InjectSides', WHERE WHAT IT READS IS OF BULK AT MOST 1048576: true; the input reads as it did. -/
def injectSidesUptoRow : OpenClaim := { program := "ythgehdembghdaaagreat", sum := "a2b98beab5de2064f23c540ca3c005701affafa0a61810dcf50bc4386218e515", func := "herdsman/herdsmanlaw16.InjectSides", spec := "injectSides", unfollowed := true, recurses := true, apart := false, narrowed := true }
def InjectSidesUptoSaid : Prop := injectSidesUptoRow.holds Tryz.pinned (OpenSpec.upto injectSidesSpec)

/-- 'herdsmanlaw16.InjectElder', WHERE WHAT IT READS IS OF BULK AT MOST 1048576: true; the input reads as it did. -/
def injectElderUptoRow : OpenClaim := { program := "ythgehdembghdaaagreat", sum := "a2b98beab5de2064f23c540ca3c005701affafa0a61810dcf50bc4386218e515", func := "herdsman/herdsmanlaw16.InjectElder", spec := "injectElder", unfollowed := true, recurses := true, apart := false, narrowed := true }
def InjectElderUptoSaid : Prop := injectElderUptoRow.holds Tryz.pinned (OpenSpec.upto injectElderSpec)

/-- 'herdsmanlaw16.InjectFields', WHERE WHAT IT READS IS OF BULK AT MOST 1048576: true; the input reads as it did. -/
def injectFieldsUptoRow : OpenClaim := { program := "ythgehdembghdaaagreat", sum := "a2b98beab5de2064f23c540ca3c005701affafa0a61810dcf50bc4386218e515", func := "herdsman/herdsmanlaw16.InjectFields", spec := "injectFields", unfollowed := true, recurses := true, apart := false, narrowed := true }
def InjectFieldsUptoSaid : Prop := injectFieldsUptoRow.holds Tryz.pinned (OpenSpec.upto injectFieldsSpec)

end Rows
end Go.Proofs.YthgehdembghdaaaGreat
