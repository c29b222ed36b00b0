/-
  Proved: the statement MeshKeeps of herdsmanlaw14 (till it is rebuilt, a sector's nodes and distances stay as they were, whatever was edited; behind it they are those of the map now) holds of the given program; no conditions beyond the row's own.
-/
import Derived.Test.YthgehdembghdaaaGreatRows
import Derived.WalkKit
import Derived.ProofKit
import Derived.OpenShut
import Derived.ShutString
import Derived.ChangeOld
import Derived.Below
import Derived.SizedLaws
import Derived.Lib.SmallJoins
import Derived.Test.YthgehdembghdaaaGreatWSized
import Derived.Test.YthgehdembghdaaaGreatPx0
import Derived.Test.YthgehdembghdaaaGreatXBase
import Derived.Deep.Slices
import Derived.Deep.Strs
import Derived.Deep.Fields
import Derived.Deep.Grids
import Derived.Test.YthgehdembghdaaaGreatXMeshKeeps
namespace Go.Proofs.YthgehdembghdaaaGreat.P
open Go Go.Deep Go.RowKit Go.ChangeShapes Go.WideShapes Go.Proofs.YthgehdembghdaaaGreatW.PrintWords Go.Proofs.YthgehdembghdaaaGreatW.PrintLast Go.Proofs.YthgehdembghdaaaGreatW.PrintMore
set_option linter.unusedVariables false
set_option linter.unusedSimpArgs false
end Go.Proofs.YthgehdembghdaaaGreat.P
namespace Go.Proofs.YthgehdembghdaaaGreat.P
open Go Go.Deep Go.RowKit Go.ChangeShapes Go.WideShapes Go.Proofs.YthgehdembghdaaaGreatW.PrintWords Go.Proofs.YthgehdembghdaaaGreatW.PrintLast Go.Proofs.YthgehdembghdaaaGreatW.PrintMore
set_option linter.unusedVariables false
theorem open_nums {H : Type} {enc : TypeId × Value → H} {w : World} {base : Nat} {held : Bool} {t e : TypeId} {k : IntKind} {fuel : Nat} {cs : List Value} {x : DataW H × List MemPlace} (ht : Tryz.prog.underlying t = some (.slice e)) (he : Tryz.prog.underlying e = some (.int k)) (hc : Tryz.prog.cellsOf e = 1)
  (h : DataW.trod enc Tryz.prog w base (fun _ => true) held fuel t cs = some x) : ∃ (a : Option Addr) (cap : Nat) (l : List Int), cs = [.slice a l.length cap] ∧ Kd.C (Kd.int k) w a l.length l ∧ l.length ≤ cap ∧ l.length ≤ maxLen ∧ ∀ x ∈ l, (Lit.int k x).wf = true := by
 have key : ∀ (a : Option Addr) (len cap : Nat) (zs : List Int), ((a = none ∧ len = 0 ∧ cap = 0 ∧ zs = []) ∨ ∃ x, a = some x ∧ len ≤ cap ∧ cap ≤ maxLen ∧ zs.length = cap ∧ (∀ i, i < zs.length → w.cell? (x.add i) = some (.int k (zs.getD i 0))) ∧ ∀ n ∈ zs, (Lit.int k n).wf = true) →
   ∃ l : List Int, len = l.length ∧ Kd.C (Kd.int k) w a l.length l ∧ l.length ≤ cap ∧ l.length ≤ maxLen ∧ ∀ x ∈ l, (Lit.int k x).wf = true := by
  intro a len cap zs hz
  obtain ⟨l, e, hr, hm, hw, hl⟩ := ReadsInt.ofRowC hz
  exact ⟨l, e, Kd.C_of_reads (d := (0 : Int)) (h1 := fun _ => rfl) hr, hl, hm, hw⟩
 rcases Go.ChangeShapes.open_ints ht he hc h with ⟨hcs, _⟩ | ⟨x, l, c, zs, hcs, _, hl, hm, hz, _, hcell, hwz⟩
 ·obtain ⟨l, e, r⟩ := key none 0 0 [] (.inl ⟨rfl, rfl, rfl, rfl⟩)
  exact ⟨none, 0, l, by rw [hcs, e], r⟩
 ·obtain ⟨ys, e, r⟩ := key (some x) l c zs (.inr ⟨_, rfl, hl, hm, by simpa using hz, hcell, hwz⟩)
  exact ⟨some x, c, ys, by rw [hcs, e], r⟩
set_option maxRecDepth 100000 in
theorem open_slice_nums {H : Type} {enc : TypeId × Value → H} {w : World} {base b0 : Nat} {r : Reach} {held : Bool} {v : Value} {d : DataW H} {p : List MemPlace} {t e : TypeId} {k : IntKind} (ht : Tryz.prog.underlying t = some (.slice e)) (he : Tryz.prog.underlying e = some (.int k)) (hc : Tryz.prog.cellsOf e = 1) (hv : Value.okWide Tryz.prog w r b0 t v) (h : DataW.Trod enc Tryz.prog w base (fun _ => true) held t v d p) :
  ∃ (a : Option Addr) (cap : Nat) (l : List Int), v = .slice a l.length cap ∧ Kd.C (Kd.int k) w a l.length l ∧ l.length ≤ cap ∧ l.length ≤ maxLen ∧ ∀ x ∈ l, (Lit.int k x).wf = true := by
 obtain ⟨A, len, cap, rfl⟩ := okWide_slice ht hv
 obtain ⟨fuel, hf⟩ := h
 obtain ⟨a, cap', l, e2, hr, hl, hm, hw⟩ := open_nums ht he hc hf
 obtain ⟨rfl, rfl, rfl⟩ : A = a ∧ len = l.length ∧ cap = cap' := by simpa [Value.cells] using e2
 exact ⟨A, cap, l, rfl, hr, hl, hm, hw⟩
end Go.Proofs.YthgehdembghdaaaGreat.P
namespace Go.Proofs.YthgehdembghdaaaGreat.P
open Go Go.Deep Go.RowKit Go.ChangeShapes Go.WideShapes Go.Proofs.YthgehdembghdaaaGreatW.PrintWords Go.Proofs.YthgehdembghdaaaGreatW.PrintLast Go.Proofs.YthgehdembghdaaaGreatW.PrintMore
set_option linter.unusedVariables false
set_option linter.unusedSimpArgs false
theorem open_lays {H : Type} {enc : TypeId × Value → H} {w : World} {base : Nat} {spare : Nat → Bool} {held : Bool} {a : Option Addr} {len cap : Nat} {d : DataW H} {ps : List MemPlace} {ts : List TypeId} {ds : List (DataW H)} {j : Nat}
  (hsz : (DataW.weightsEach Tryz.prog ts ds).all (· ≤ reachBytes) = true) (ht : ts[j]? = some 23) (hd : ds[j]? = some d)
  (h : DataW.Trod enc Tryz.prog w base spare held 23 (.slice a len cap) d ps) : ∃ xs : List S53, xs.length = len ∧ Kd.C k53 w a xs.length xs ∧ xs.length ≤ cap ∧ xs.length * 16 ≤ 140737488351232 ∧ ∀ x, x ∈ xs → (Lit.int .i64 x.f0).wf = true ∧ (Lit.int .i64 x.f1).wf = true := by
 obtain ⟨fuel, hf⟩ := h
 have hu := Tryz.underlying23
 rcases open_slice hu hf with ⟨hcs, _⟩ | ⟨ad, l, c, m, n, D, Pl, hcs, hb, hl, hm, hmm, hx, hi⟩
 ·simp [Value.cells] at hcs
  obtain ⟨rfl, rfl, rfl⟩ := hcs
  exact ⟨[], rfl, Kd.C_nil _ _, Nat.le_refl _, by simp, fun x hx => by simp at hx⟩
 ·simp [Value.cells] at hcs
  obtain ⟨rfl, rfl, rfl⟩ := hcs
  have hlm : len ≤ m := by rw [hmm]; split <;> omega
  have c3 : Tryz.prog.cellsOf 35 = 2 := by kernel_rfl
  have c1 : Tryz.prog.cellsOf 3 = 1 := by kernel_rfl
  have each : ∀ i, i < len → ∃ x : S53, ((Lit.int .i64 x.f0).wf = true ∧ (Lit.int .i64 x.f1).wf = true) ∧ ∀ j u, ([.int .i64 x.f0, .int .i64 x.f1] : List Value)[j]? = some u → w.cell? (ad.add (i * 2 + j)) = some u := by
   intro i hil
   obtain ⟨cs', hc, ht'⟩ := hi i (by omega)
   rw [c3] at hc
   obtain ⟨_, hcl, hat⟩ := World.cells?_some hc
   obtain ⟨v0, v1, rfl⟩ : ∃ v0 v1, cs' = [v0, v1] := by
    match cs', hcl with
    | [v0, v1], _ => exact ⟨v0, v1, rfl⟩
   obtain ⟨y0, y1, n', _, _, h0, h1⟩ := Go.ChangeShapes.trod_struct2 Tryz.underlying35 ht'
   rw [c1] at h0 h1
   obtain ⟨i0, e0, _, w0⟩ := DataW.trod_int Tryz.underlying3 (show DataW.trod enc Tryz.prog w base spare held n' 3 [v0] = some y0 from h0)
   obtain ⟨i1, e1, _, w1⟩ := DataW.trod_int Tryz.underlying3 (show DataW.trod enc Tryz.prog w base spare held n' 3 [v1] = some y1 from h1)
   obtain rfl : v0 = .int .i64 i0 := by simpa using e0
   obtain rfl : v1 = .int .i64 i1 := by simpa using e1
   refine ⟨⟨i0, i1⟩, ⟨w0, w1⟩, fun j u hj => ?_⟩
   have hj2 : j < 2 := by
    have := (List.getElem?_eq_some_iff.1 hj).1
    simpa using this
   have := hat j hj2
   rw [← Go.Deep.add_add, this]
   exact hj
  let f : Nat → S53 := fun i => if h : i < len then Classical.choose (each i h) else z53
  have hfs : ∀ i, i < len → ((Lit.int .i64 (f i).f0).wf = true ∧ (Lit.int .i64 (f i).f1).wf = true) ∧ ∀ j u, ([.int .i64 (f i).f0, .int .i64 (f i).f1] : List Value)[j]? = some u → w.cell? (ad.add (i * 2 + j)) = some u := by
   intro i hil
   have := Classical.choose_spec (each i hil)
   simp only [f, dif_pos hil]
   exact this
  have hlen : ((List.range len).map f).length = len := by simp
  refine ⟨(List.range len).map f, hlen, ?_, by rw [hlen]; exact hl, ?_, fun x hx => ?_⟩
  ·rw [hlen]
   refine ⟨by simp, by unfold maxLen at hm; omega, fun h0 => ⟨ad, rfl, fun i p hp => ?_⟩⟩
   obtain ⟨hil, rfl⟩ : i < len ∧ f i = p := by
    have h1 := (List.getElem?_eq_some_iff.1 hp).1
    rw [hlen] at h1
    rw [List.getElem?_map, List.getElem?_range h1] at hp
    exact ⟨h1, by simpa using hp⟩
   exact ⟨_, rfl, k53_mk w (f i), fun j u hj => (hfs i hil).2 j u hj⟩
  ·obtain ⟨hx, _⟩ := Prod.mk.inj hx
   subst hx
   have z := sized_slice hsz ht hd hu
   have hb16 : Tryz.prog.bytesOf 35 = 16 := by kernel_rfl
   have hrb : reachBytes = 140737488351232 := by decide
   rw [hb16, hrb] at z
   simp only [List.length_map, List.length_range] at z ⊢
   omega
  ·obtain ⟨i, hi', rfl⟩ := List.mem_map.1 hx
   exact (hfs i (List.mem_range.1 hi')).1
end Go.Proofs.YthgehdembghdaaaGreat.P
namespace Go.Proofs.YthgehdembghdaaaGreat.P
open Go.RowKit Go.Proofs.YthgehdembghdaaaGreatW.PrintWords Go.Proofs.YthgehdembghdaaaGreatW.PrintLast Go.Proofs.YthgehdembghdaaaGreatW.PrintMore
set_option linter.unusedVariables false
noncomputable def meshKeepsH.f (n : Nat) (a0 a1 : Int) (l2 : List Int) (l3 : List S53) (a4 a5 a6 : Int) : Option Bool := open Classical in if l2.length ≤ 140737488355328 ∧ ∀ x ∈ l2, 0 ≤ x ∧ x ≤ 255 then some true else none
theorem meshKeepsH.calls (n : Nat) (a0 a1 : Int) (A2 : Option Addr) (c2 : Nat) (l2 : List Int) (A3 : Option Addr) (c3 : Nat) (l3 : List S53) (a4 a5 a6 : Int) (r : Bool) (w : World) (hr2 : Kd.C (Kd.int .u8) w A2 l2.length l2) (hc2 : l2.length ≤ c2) (hr3 : Kd.C k53 w A3 l3.length l3) (hc3 : l3.length ≤ c3) (h : meshKeepsH.f n a0 a1 l2 l3 a4 a5 a6 = some r) :
  Calls Tryz.prog 4 #[.int .i64 a0, .int .i64 a1, .slice A2 l2.length c2, .slice A3 l3.length c3, .int .i64 a4, .int .i64 a5, .int .i64 a6] w fun e w' => e = .returned (.bool r) ∧ Below w.heap.size w w' := by
 unfold meshKeepsH.f at h
 split at h
 ·rename_i q
  obtain rfl : true = r := by injection h
  exact meshKeeps_calls a0 a1 A2 c2 l2 A3 c3 l3 a4 a5 a6 w hr2 hc2 q.2 q.1 hr3
 ·cases h
end Go.Proofs.YthgehdembghdaaaGreat.P
namespace Go.Proofs.YthgehdembghdaaaGreat.Start
open Go
/-- The start-up word, in four parts. -/
def l1 : List Char := ([104, 97, 114, 110, 101, 115, 115] : List Nat).map Char.ofNat
def l2 : List Char := ([98, 57, 54, 100, 48, 56, 54, 55, 51, 97, 48, 52, 48, 99, 52, 55, 54, 54, 100, 98, 52, 101, 56, 50, 99, 52, 50, 54, 50, 49, 49, 56, 102, 52, 101, 55, 102, 97, 50, 50, 49, 55, 98, 51, 97, 52, 51, 100, 51, 52, 49, 48, 48, 100, 101, 51, 49, 56, 99, 56, 52, 50, 56, 100] : List Nat).map Char.ofNat
def l3 : List Char := ([99, 117, 116] : List Nat).map Char.ofNat
def l4 : List Char := ([97, 116, 32, 104, 101, 114, 100, 115, 109, 97, 110, 47, 104, 101, 114, 100, 115, 109, 97, 110, 108, 97, 119, 49, 52, 46, 77, 101, 115, 104, 68, 105, 114, 116, 121, 32, 104, 101, 114, 100, 115, 109, 97, 110, 47, 104, 101, 114, 100, 115, 109, 97, 110, 108, 97, 119, 49, 52, 46, 77, 101, 115, 104, 75, 101, 101, 112, 115, 32, 104, 101, 114, 100, 115, 109, 97, 110, 47, 104, 101, 114, 100, 115, 109, 97, 110, 108, 97, 119, 49, 52, 46, 77, 101, 115, 104, 87, 97, 121, 115, 32, 104, 101, 114, 100, 115, 109, 97, 110, 47, 104, 101, 114, 100, 115, 109, 97, 110, 108, 97, 119, 49, 52, 46, 77, 101, 115, 104, 66, 117, 105, 108, 100, 115, 32, 104, 101, 114, 100, 115, 109, 97, 110, 47, 104, 101, 114, 100, 115, 109, 97, 110, 108, 97, 119, 49, 52, 46, 77, 101, 115, 104, 78, 111, 110, 101, 32, 104, 101, 114, 100, 115, 109, 97, 110, 47, 104, 101, 114, 100, 115, 109, 97, 110, 108, 97, 119, 49, 53, 46, 82, 111, 117, 116, 101, 69, 100, 103, 101, 115, 32, 104, 101, 114, 100, 115, 109, 97, 110, 47, 104, 101, 114, 100, 115, 109, 97, 110, 108, 97, 119, 49, 53, 46, 82, 111, 117, 116, 101, 78, 111, 110, 101, 32, 104, 101, 114, 100, 115, 109, 97, 110, 47, 104, 101, 114, 100, 115, 109, 97, 110, 108, 97, 119, 49, 53, 46, 82, 111, 117, 116, 101, 69, 120, 97, 99, 116, 32, 104, 101, 114, 100, 115, 109, 97, 110, 47, 104, 101, 114, 100, 115, 109, 97, 110, 108, 97, 119, 49, 53, 46, 82, 111, 117, 116, 101, 69, 108, 100, 101, 114, 32, 104, 101, 114, 100, 115, 109, 97, 110, 47, 104, 101, 114, 100, 115, 109, 97, 110, 108, 97, 119, 49, 53, 46, 82, 111, 117, 116, 101, 75, 101, 112, 116, 32, 104, 101, 114, 100, 115, 109, 97, 110, 47, 104, 101, 114, 100, 115, 109, 97, 110, 108, 97, 119, 49, 54, 46, 73, 110, 106, 101, 99, 116, 65, 115, 107, 115, 32, 104, 101, 114, 100, 115, 109, 97, 110, 47, 104, 101, 114, 100, 115, 109, 97, 110, 108, 97, 119, 49, 54, 46, 73, 110, 106, 101, 99, 116, 83, 105, 100, 101, 115, 32, 104, 101, 114, 100, 115, 109, 97, 110, 47, 104, 101, 114, 100, 115, 109, 97, 110, 108, 97, 119, 49, 54, 46, 73, 110, 106, 101, 99, 116, 69, 108, 100, 101, 114, 32, 104, 101, 114, 100, 115, 109, 97, 110, 47, 104, 101, 114, 100, 115, 109, 97, 110, 108, 97, 119, 49, 54, 46, 73, 110, 106, 101, 99, 116, 70, 105, 101, 108, 100, 115] : List Nat).map Char.ofNat
abbrev sp : Char := Char.ofNat 32
theorem ws_app (w r : List Char) (h : ∀ c ∈ w, c ≠ sp) : wordsSigns (w ++ sp :: r) = w :: wordsSigns r := by
  induction w with
  | nil => rfl
  | cons c w ih =>
    have hc : c ≠ sp := h c (by simp)
    have hw := ih (fun x hx => h x (by simp [hx]))
    rw [List.cons_append, wordsSigns.eq_3 c _ (fun h => hc h), hw]
theorem start : Tryz.prog.initOrder = String.ofList (l1 ++ sp :: (l2 ++ sp :: (l3 ++ sp :: l4))) := by kernel_rfl
theorem words : wordsSigns Tryz.prog.initOrder.toList = l1 :: l2 :: l3 :: wordsSigns l4 := by
  rw [start, String.toList_ofList, ws_app _ _ (by decide), ws_app _ _ (by decide), ws_app _ _ (by decide)]
theorem lifts_of (P : Program) (X : List (List Char)) (h : wordsSigns P.initOrder.toList = l1 :: l2 :: l3 :: X) : P.headLifts = [] := by
  unfold Program.headLifts
  rw [h]
  kernel_rfl
theorem final_of (P : Program) (X : List (List Char)) (h : wordsSigns P.initOrder.toList = l1 :: l2 :: l3 :: X) : P.liftsFinal = false := by
  unfold Program.liftsFinal
  rw [h, lifts_of P X h]
  kernel_rfl
theorem make_of (P : Program) (X : List (List Char)) (h : wordsSigns P.initOrder.toList = l1 :: l2 :: l3 :: X) : P.make = some .cut := by
  unfold Program.make
  rw [h, lifts_of P X h]
  kernel_rfl
theorem may_of (P : Program) (X : List (List Char)) (h : wordsSigns P.initOrder.toList = l1 :: l2 :: l3 :: X) (h1 : P.laysLater = false) (h2 : P.bearsReflect = false) (h3 : P.doorRows = []) : P.mayEnter = true := by
  unfold Program.mayEnter
  rw [h, h1, h2]
  unfold Program.doorFits
  rw [h3]
  kernel_rfl
theorem refl : Tryz.prog.bearsReflect = false := by kernel_rfl
theorem later : Tryz.prog.laysLater = false := by kernel_rfl
theorem door : Tryz.prog.doorRows = [] := by kernel_rfl
theorem keysNot : Tryz.prog.plainKeys = true := by kernel_rfl
end Go.Proofs.YthgehdembghdaaaGreat.Start
namespace Go.Proofs.YthgehdembghdaaaGreat.Pure
open Go.RowKit Go.Proofs.YthgehdembghdaaaGreat.P Go.Proofs.YthgehdembghdaaaGreatW.PrintWords Go.Proofs.YthgehdembghdaaaGreatW.PrintLast Go.Proofs.YthgehdembghdaaaGreatW.PrintMore
set_option linter.unusedVariables false in
theorem MeshKeeps (a0 a1 : Int) (l2 : List Int) (l3 : List P.S53) (a4 a5 a6 : Int) (hm : l2.length * 1 ≤ 140737488351232) (hb : ∀ x ∈ l2, (Lit.int .u8 x).wf = true) : ∃ n, meshKeepsH.f n a0 a1 l2 l3 a4 a5 a6 = some true :=
  ⟨0, if_pos ⟨by omega, u8_wf hb⟩⟩
end Go.Proofs.YthgehdembghdaaaGreat.Pure
namespace Go.Proofs.YthgehdembghdaaaGreat.meshKeeps
open Go.ChangeShapes Go.WideShapes Go.ChangeAt Go.RowKit
open Go.ChangeMaps (open_string shut_string)
set_option linter.unusedVariables false
theorem own : ownKnob Tryz.prog.godebug = none := by kernel_rfl
theorem laidOut : laidOutB Tryz.prog = true := by kernel_rfl
set_option maxRecDepth 100000 in
theorem lifted (os : Os) (started : os.Started) (H : Type) (enc : TypeId × Value → H) :
    ReturnsInHanded {} Tryz.checked os 4 .any (Rows.meshKeepsSpec.pre6 enc Tryz.prog Tryz.f4 Rows.meshKeepsRow.domain false) (Rows.meshKeepsSpec.post enc Tryz.prog Tryz.f4 false true false false) := by
  refine returnsInHanded_of_change_sized (C := Tryz.checked) own started (by kernel_rfl) Tryz.func4
    (ChangeSpec.witness6 (enc := enc) (C := Tryz.checked) false ⟨#[], #[.int .i64 0, .int .i64 0, .slice none 0 0, .slice none 0 0, .int .i64 0, .int .i64 0, .int .i64 0], []⟩ 8 (by kernel_rfl) (by kernel_rfl) (by kernel_rfl) (by kernel_rfl)) ?_
  intro W base args ds gs before hval0 hW hcnd hsz0 _
  have hsz : (DataW.weightsEach Tryz.prog (Tryz.f4.params.toList ++ Rows.meshKeepsSpec.plain.varTypes Tryz.prog) (ds ++ gs)).all (· ≤ reachBytes) = true := hsz0
  have hval : ∀ (j : Nat) t v, Tryz.f4.params[j]? = some t → args[j]? = some v → Value.okWide Tryz.prog W .any base t v := hval0
  have hW' := hW
  obtain ⟨p, q, hA0, hV, rfl, hfz, hnd⟩ := hW
  have hA : DataW.TrodAll enc Tryz.prog W 0 (fun _ => true) true Tryz.f4.params.toList args.toList ds p := hA0
  rw [Tryz.params4] at hA hval hsz
  obtain ⟨v0, vs0, d0, ds0, p0, q0, hargs, rfl, rfl, h0, r0⟩ := trodAll_cons hA
  obtain ⟨v1, vs1, d1, ds1, p1, q1, rfl, rfl, rfl, h1, r1⟩ := trodAll_cons r0
  obtain ⟨v2, vs2, d2, ds2, p2, q2, rfl, rfl, rfl, h2, r2⟩ := trodAll_cons r1
  obtain ⟨v3, vs3, d3, ds3, p3, q3, rfl, rfl, rfl, h3, r3⟩ := trodAll_cons r2
  obtain ⟨v4, vs4, d4, ds4, p4, q4, rfl, rfl, rfl, h4, r4⟩ := trodAll_cons r3
  obtain ⟨v5, vs5, d5, ds5, p5, q5, rfl, rfl, rfl, h5, r5⟩ := trodAll_cons r4
  obtain ⟨v6, vs6, d6, ds6, p6, q6, rfl, rfl, rfl, h6, r6⟩ := trodAll_cons r5
  obtain ⟨rfl, rfl, rfl⟩ := trodAll_nil r6
  obtain rfl : args = #[v0, v1, v2, v3, v4, v5, v6] := by cases args; simp_all
  obtain ⟨rfl, rfl⟩ := trodVars_none hV
  obtain ⟨a0, rfl, rfl, rfl, w0⟩ := open_int Tryz.underlying3 (hval 0 3 v0 rfl rfl) h0
  obtain ⟨a1, rfl, rfl, rfl, w1⟩ := open_int Tryz.underlying3 (hval 1 3 v1 rfl rfl) h1
  have k2 := h2
  have lt2 : ∀ x ∈ p2, x.block < W.heap.size := by obtain ⟨m, hm⟩ := k2; exact DataW.trod_lt m _ _ _ hm
  obtain ⟨aa2, len2, cc2, rfl⟩ := okWide_slice Tryz.underlying22 (hval 2 22 v2 rfl rfl)
  have y2 : len2 * 1 ≤ 140737488351232 := Go.Proofs.YthgehdembghdaaaGreatW.PrintWords.sized_ints hsz (j := 2) (t := 22) rfl rfl Tryz.underlying22 Tryz.underlying5 (by kernel_rfl) (by kernel_rfl) h2
  obtain ⟨a2, cap2, l2, he2, hr2, hc2, hm2, hb2⟩ := P.open_slice_nums Tryz.underlying22 Tryz.underlying5 (by kernel_rfl) (hval 2 22 _ rfl rfl) h2
  obtain ⟨rfl, rfl, rfl⟩ : a2 = aa2 ∧ l2.length = len2 ∧ cap2 = cc2 := by injection he2 with e1_ e2_ e3_; exact ⟨e1_.symm, e2_.symm, e3_.symm⟩
  obtain ⟨a3, len3, cap3, rfl⟩ := okWide_slice Tryz.underlying23 (hval 3 23 v3 rfl rfl)
  have k3 := h3
  have lt3 : ∀ x ∈ p3, x.block < W.heap.size := by obtain ⟨m, hm⟩ := k3; exact DataW.trod_lt m _ _ _ hm
  obtain ⟨l3, rfl, hr3, hc3, _, _⟩ := P.open_lays hsz (j := 3) rfl rfl h3
  obtain ⟨a4, rfl, rfl, rfl, w4⟩ := open_int Tryz.underlying3 (hval 4 3 v4 rfl rfl) h4
  obtain ⟨a5, rfl, rfl, rfl, w5⟩ := open_int Tryz.underlying3 (hval 5 3 v5 rfl rfl) h5
  obtain ⟨a6, rfl, rfl, rfl, w6⟩ := open_int Tryz.underlying3 (hval 6 3 v6 rfl rfl) h6
  clear hA0 hval0 hsz0 hsz
  obtain ⟨k, hk⟩ := Pure.MeshKeeps a0 a1 l2 l3 a4 a5 a6 y2 hb2
  refine (P.meshKeepsH.calls k a0 a1 a2 cap2 l2 a3 cap3 l3 a4 a5 a6 true W hr2 hc2 hr3 hc3 hk).mono fun e W' ⟨he, bel⟩ => ?_
  subst he
  exact ⟨_, rfl, _, _, _, [], _, [], hW', trodAll_mk1 (shut_bool Tryz.underlying4 _), (trodAll_cons_mk (shut_int Tryz.underlying3 w0) (trodAll_cons_mk (shut_int Tryz.underlying3 w1) (trodAll_cons_mk (Below.trod laidOut (by kernel_rfl) (of_decide_eq_true (by kernel_rfl)) k2 bel lt2) (trodAll_cons_mk (Below.trod laidOut (by kernel_rfl) (of_decide_eq_true (by kernel_rfl)) k3 bel lt3) (trodAll_cons_mk (shut_int Tryz.underlying3 w4) (trodAll_cons_mk (shut_int Tryz.underlying3 w5) (trodAll_cons_mk (shut_int Tryz.underlying3 w6) trodAll_mk0))))))), rfl, bel.frame _, fun h => by cases h⟩
theorem joined : joinedFacts Tryz.prog 4 Tryz.f4 Rows.meshKeepsSpec Rows.meshKeepsRow = true := by
  unfold joinedFacts
  rw [Start.keysNot, Start.may_of _ _ Start.words Start.later Start.refl Start.door, Start.final_of _ _ Start.words, Start.make_of _ _ Start.words]
  kernel_rfl
theorem over : Rows.meshKeepsRow.holds Tryz.pinned (OpenSpec.ofChange Rows.meshKeepsSpec) :=
  OpenClaim.holds_of_wide 4 Tryz.f4 rfl rfl rfl rfl rfl rfl rfl ⟨rfl, rfl, rfl, rfl, rfl⟩ rfl rfl rfl rfl rfl (by kernel_rfl) Tryz.func4 joined
    (of_decide_eq_true (by kernel_rfl)) (by unfold Func.isWrapper; first | (rw [if_pos (by decide +kernel)]; kernel_rfl) | (rw [if_neg (by decide +kernel)]; exact ⟨rfl, rfl⟩))
    (fun os started H enc _ => lifted os started H enc)
theorem proved : Rows.MeshKeepsSaid := over
#print axioms proved
end Go.Proofs.YthgehdembghdaaaGreat.meshKeeps
namespace Go.Proofs.YthgehdembghdaaaGreat
/-- The row, under a short name, for the claim. -/
theorem meshKeeps_holds : Rows.MeshKeepsSaid := meshKeeps.proved
end Go.Proofs.YthgehdembghdaaaGreat
