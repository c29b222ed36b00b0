/-
  Proved: the statement SeedsBest of herdsmanlaw8 (the least one of two lists is the least of both; sorted it is the same) holds of the given program; no conditions beyond the row's own.
-/
import Derived.Test.YtgcfcemgeppkmaaRows
import Derived.Test.YtgcfcemgeppkmaaPx26
import Derived.Test.YtgcfcemgeppkmaaXRow8
import Derived.WalkKit
import Derived.ProofKit
import Derived.OpenShut
import Derived.ShutString
import Derived.ChangeOld
import Derived.Below
import Derived.SizedLaws
import Derived.Lib.SmallJoins
import Derived.Test.YtgcfcemgeppkmaaWSized
import Derived.Test.YtgcfcemgeppkmaaXLaw8
namespace Go.Proofs.Ytgcfcemgeppkmaa.Start
open Go
/-- The start-up word, in four parts. -/
def l1 : List Char := ([104, 97, 114, 110, 101, 115, 115] : List Nat).map Char.ofNat
def l2 : List Char := ([52, 55, 99, 100, 100, 51, 100, 98, 52, 49, 49, 57, 97, 51, 100, 53, 57, 55, 57, 57, 55, 56, 50, 99, 97, 99, 56, 101, 52, 52, 101, 52, 49, 54, 97, 51, 101, 49, 100, 98, 98, 99, 102, 52, 50, 102, 52, 97, 54, 102, 101, 51, 55, 52, 53, 56, 98, 98, 100, 57, 49, 101, 99, 49] : List Nat).map Char.ofNat
def l3 : List Char := ([99, 117, 116] : List Nat).map Char.ofNat
def l4 : List Char := ([97, 116, 32, 104, 101, 114, 100, 115, 109, 97, 110, 47, 104, 101, 114, 100, 115, 109, 97, 110, 108, 97, 119, 56, 46, 83, 101, 101, 100, 115, 83, 111, 114, 116, 115, 32, 104, 101, 114, 100, 115, 109, 97, 110, 47, 104, 101, 114, 100, 115, 109, 97, 110, 108, 97, 119, 56, 46, 83, 101, 101, 100, 115, 66, 101, 115, 116, 32, 104, 101, 114, 100, 115, 109, 97, 110, 47, 104, 101, 114, 100, 115, 109, 97, 110, 108, 97, 119, 56, 46, 83, 101, 101, 100, 115, 84, 119, 105, 99, 101, 32, 104, 101, 114, 100, 115, 109, 97, 110, 47, 104, 101, 114, 100, 115, 109, 97, 110, 108, 97, 119, 56, 46, 83, 101, 101, 100, 115, 83, 97, 109, 101, 32, 104, 101, 114, 100, 115, 109, 97, 110, 47, 104, 101, 114, 100, 115, 109, 97, 110, 108, 97, 119, 56, 46, 83, 101, 101, 100, 115, 65, 115, 107, 115, 32, 104, 101, 114, 100, 115, 109, 97, 110, 47, 104, 101, 114, 100, 115, 109, 97, 110, 108, 97, 119, 57, 46, 83, 112, 114, 101, 97, 100, 70, 105, 120, 101, 100, 32, 104, 101, 114, 100, 115, 109, 97, 110, 47, 104, 101, 114, 100, 115, 109, 97, 110, 108, 97, 119, 57, 46, 83, 112, 114, 101, 97, 100, 80, 97, 114, 116, 115, 32, 104, 101, 114, 100, 115, 109, 97, 110, 47, 104, 101, 114, 100, 115, 109, 97, 110, 108, 97, 119, 57, 46, 83, 112, 114, 101, 97, 100, 76, 97, 116, 101, 114, 32, 104, 101, 114, 100, 115, 109, 97, 110, 47, 104, 101, 114, 100, 115, 109, 97, 110, 108, 97, 119, 57, 46, 83, 112, 114, 101, 97, 100, 87, 97, 121, 115, 32, 104, 101, 114, 100, 115, 109, 97, 110, 47, 104, 101, 114, 100, 115, 109, 97, 110, 108, 97, 119, 49, 50, 46, 84, 97, 98, 108, 101, 65, 115, 107, 115, 32, 104, 101, 114, 100, 115, 109, 97, 110, 47, 104, 101, 114, 100, 115, 109, 97, 110, 108, 97, 119, 49, 50, 46, 84, 97, 98, 108, 101, 84, 111, 32, 104, 101, 114, 100, 115, 109, 97, 110, 47, 104, 101, 114, 100, 115, 109, 97, 110, 108, 97, 119, 49, 50, 46, 84, 97, 98, 108, 101, 79, 118, 101, 114, 32, 104, 101, 114, 100, 115, 109, 97, 110, 47, 104, 101, 114, 100, 115, 109, 97, 110, 108, 97, 119, 49, 50, 46, 84, 97, 98, 108, 101, 66, 97, 99, 107, 32, 104, 101, 114, 100, 115, 109, 97, 110, 47, 104, 101, 114, 100, 115, 109, 97, 110, 108, 97, 119, 49, 50, 46, 84, 97, 98, 108, 101, 67, 111, 108, 117, 109, 110, 115, 32, 104, 101, 114, 100, 115, 109, 97, 110, 47, 104, 101, 114, 100, 115, 109, 97, 110, 108, 97, 119, 49, 48, 46, 70, 105, 101, 108, 100, 65, 115, 107, 115, 32, 104, 101, 114, 100, 115, 109, 97, 110, 47, 104, 101, 114, 100, 115, 109, 97, 110, 108, 97, 119, 49, 48, 46, 70, 105, 101, 108, 100, 76, 101, 97, 100, 115, 32, 104, 101, 114, 100, 115, 109, 97, 110, 47, 104, 101, 114, 100, 115, 109, 97, 110, 108, 97, 119, 49, 48, 46, 70, 105, 101, 108, 100, 70, 105, 114, 115, 116, 32, 104, 101, 114, 100, 115, 109, 97, 110, 47, 104, 101, 114, 100, 115, 109, 97, 110, 108, 97, 119, 49, 48, 46, 87, 97, 108, 107, 65, 115, 107, 115, 32, 104, 101, 114, 100, 115, 109, 97, 110, 47, 104, 101, 114, 100, 115, 109, 97, 110, 108, 97, 119, 49, 48, 46, 87, 97, 108, 107, 69, 110, 100, 115, 32, 104, 101, 114, 100, 115, 109, 97, 110, 47, 104, 101, 114, 100, 115, 109, 97, 110, 108, 97, 119, 57, 46, 83, 112, 114, 101, 97, 100, 65, 115, 107, 115, 32, 104, 101, 114, 100, 115, 109, 97, 110, 47, 104, 101, 114, 100, 115, 109, 97, 110, 108, 97, 119, 49, 57, 46, 83, 104, 101, 108, 102, 82, 105, 103, 104, 116, 32, 104, 101, 114, 100, 115, 109, 97, 110, 47, 104, 101, 114, 100, 115, 109, 97, 110, 108, 97, 119, 49, 57, 46, 83, 104, 101, 108, 102, 79, 119, 110, 32, 104, 101, 114, 100, 115, 109, 97, 110, 47, 104, 101, 114, 100, 115, 109, 97, 110, 108, 97, 119, 49, 57, 46, 83, 104, 101, 108, 102, 80, 108, 97, 121, 115, 32, 104, 101, 114, 100, 115, 109, 97, 110, 47, 104, 101, 114, 100, 115, 109, 97, 110, 108, 97, 119, 49, 57, 46, 83, 104, 101, 108, 102, 67, 111, 117, 110, 116, 115, 32, 104, 101, 114, 100, 115, 109, 97, 110, 47, 104, 101, 114, 100, 115, 109, 97, 110, 108, 97, 119, 49, 57, 46, 83, 104, 101, 108, 102, 78, 111, 110, 101] : List Nat).map Char.ofNat
abbrev sp : Char := Char.ofNat 32
theorem ws_app (w r : List Char) (h : ∀ c ∈ w, c ≠ sp) : wordsSigns (w ++ sp :: r) = w :: wordsSigns r := by
  induction w with
  | nil => rfl
  | cons c w ih =>
    have hc : c ≠ sp := h c (by simp)
    have hw := ih (fun x hx => h x (by simp [hx]))
    rw [List.cons_append, wordsSigns.eq_3 c _ (fun h => hc h), hw]
theorem start : Try.prog.initOrder = String.ofList (l1 ++ sp :: (l2 ++ sp :: (l3 ++ sp :: l4))) := by kernel_rfl
theorem words : wordsSigns Try.prog.initOrder.toList = l1 :: l2 :: l3 :: wordsSigns l4 := by
  rw [start, String.toList_ofList, ws_app _ _ (by decide), ws_app _ _ (by decide), ws_app _ _ (by decide)]
theorem lifts_of (P : Program) (X : List (List Char)) (h : wordsSigns P.initOrder.toList = l1 :: l2 :: l3 :: X) : P.headLifts = [] := by
  unfold Program.headLifts
  rw [h]
  kernel_rfl
theorem final_of (P : Program) (X : List (List Char)) (h : wordsSigns P.initOrder.toList = l1 :: l2 :: l3 :: X) : P.liftsFinal = false := by
  unfold Program.liftsFinal
  rw [h, lifts_of P X h]
  kernel_rfl
theorem make_of (P : Program) (X : List (List Char)) (h : wordsSigns P.initOrder.toList = l1 :: l2 :: l3 :: X) : P.make = some .cut := by
  unfold Program.make
  rw [h, lifts_of P X h]
  kernel_rfl
theorem may_of (P : Program) (X : List (List Char)) (h : wordsSigns P.initOrder.toList = l1 :: l2 :: l3 :: X) (h1 : P.laysLater = false) (h2 : P.bearsReflect = false) (h3 : P.doorRows = []) : P.mayEnter = true := by
  unfold Program.mayEnter
  rw [h, h1, h2]
  unfold Program.doorFits
  rw [h3]
  kernel_rfl
theorem refl : Try.prog.bearsReflect = false := by kernel_rfl
theorem later : Try.prog.laysLater = false := by kernel_rfl
theorem door : Try.prog.doorRows = [] := by kernel_rfl
theorem keysNot : Try.prog.plainKeys = false := by
  unfold Program.plainKeys
  rw [List.all_eq_false]
  exact ⟨148, List.mem_range.2 (of_decide_eq_true (by kernel_rfl)), Bool.eq_false_iff.1 (by kernel_rfl)⟩
end Go.Proofs.Ytgcfcemgeppkmaa.Start
namespace Go.Proofs.Ytgcfcemgeppkmaa.Pure
open Go.RowKit Go.Proofs.Ytgcfcemgeppkmaa.P Go.Proofs.YtgcfcemgeppkmaaW.PrintWords Go.Proofs.YtgcfcemgeppkmaaW.PrintLast Go.Proofs.YtgcfcemgeppkmaaW.PrintMore

theorem sortU_len8 (l : List Seed) : (sortU l).length ≤ l.length := by
  have hi : ∀ (x : Seed) (l : List Seed), (insS x l).length ≤ l.length + 1 := by
    intro x l
    induction l with
    | nil => simp [insS]
    | cons y r ih => unfold insS; split <;> (try split) <;> simp <;> omega
  have : ∀ (l acc : List Seed), (l.foldl (fun acc x => insS x acc) acc).length ≤ acc.length + l.length := by
    intro l
    induction l with
    | nil => intro acc; simp
    | cons x r ih => intro acc; have := ih (insS x acc); have := hi x acc; simp only [List.foldl_cons, List.length_cons]; omega
  simpa [sortU] using this l []
theorem SeedsBest (l0 l1 : List Seed) (a2 a3 : Int) : ∃ k, herdsmanlaw8_SeedsBest.f k l0 l1 a2 a3 = some true := by
  have hx : (l0.take (min l0.length 60)).length ≤ 60 := by rw [List.length_take]; omega
  have hy : (l1.take (min l1.length 60)).length ≤ 60 := by rw [List.length_take]; omega
  obtain ⟨x, ex⟩ : ∃ x, x = l0.take (min l0.length 60) := ⟨_, rfl⟩
  obtain ⟨y, ey⟩ : ∃ y, y = l1.take (min l1.length 60) := ⟨_, rfl⟩
  rw [← ex] at hx
  rw [← ey] at hy
  have key : ∀ (all : List Seed) (c s : Int), all.length ≤ 120 → ∀ (d j k : Nat) (b : Int × Bool), j + d = all.length → d * 2 + 300 < k → ((all.drop j).foldl (bestStep8 c s) b).1 = bestS8 all c s → herdsmanlaw8_SeedsBest.l0 k c s all b.1 b.2 (j : Int) = some true := by
    intro all c s hal d
    induction d with
    | zero =>
      intro j k b hj hk hb
      obtain ⟨k, rfl⟩ : ∃ m, k = m + 1 := ⟨k - 1, by omega⟩
      have hsl := sortU_len8 all
      rw [List.drop_eq_nil_of_le (by omega)] at hb
      have hb' : b.1 = bestS8 all c s := hb
      have e1 : seeds_Best.f k all c s = some (bestS8 all c s) := best_l08 all c s (by omega) all.length 0 k (1099511627776, false) (by omega) (by omega)
      have e2 : seeds_Best.f k (sortU all) c s = some (bestS8 all c s) := by
        rw [best_congr8 (fun x => (mem_sortU all x).symm) c s]
        exact best_l08 (sortU all) c s (by omega) (sortU all).length 0 k (1099511627776, false) (by omega) (by omega)
      rw [herdsmanlaw8_SeedsBest.l0, if_neg (by omega), told8_some k (by omega), Option.bind_some, if_pos rfl, e1, Option.bind_some, if_pos hb'.symm, sort_some8 all (by omega), Option.bind_some, e2, Option.bind_some, hb']
      simp
    | succ d ih =>
      intro j k b hj hk hb
      obtain ⟨k, rfl⟩ : ∃ m, k = m + 1 + 1 := ⟨k - 2, by omega⟩
      have hjl : j < all.length := by omega
      rw [List.drop_eq_getElem_cons hjl, List.foldl_cons] at hb
      have hno : bestStep8 c s b all[j] = b → herdsmanlaw8_SeedsBest.j3 (k + 1) c s all b.1 b.2 (j : Int) false = some true := by
        intro e
        rw [e] at hb
        rw [herdsmanlaw8_SeedsBest.j3, if_neg (by simp), w64 (n := (j : Int) + 1) (by omega) (by omega)]
        exact ih (j + 1) k b (by omega) (by omega) hb
      have hyes : bestStep8 c s b all[j] = (all[j].f2, true) → herdsmanlaw8_SeedsBest.j3 (k + 1) c s all b.1 b.2 (j : Int) true = some true := by
        intro e
        rw [e] at hb
        rw [herdsmanlaw8_SeedsBest.j3, if_pos rfl, if_pos (by omega), if_pos (by omega), rdT_get8 all hjl, w64 (n := (j : Int) + 1) (by omega) (by omega)]
        exact ih (j + 1) k (all[j].f2, true) (by omega) (by omega) hb
      rw [herdsmanlaw8_SeedsBest.l0, if_pos (by omega), if_pos (by omega), rdT_get8 all hjl]
      by_cases h0 : all[j].f0 = c
      · rw [if_pos h0]
        by_cases h1 : all[j].f1 = s
        · rw [if_pos h1]
          by_cases hb2 : b.2 = true
          · rw [if_pos hb2]
            by_cases h2 : all[j].f2 < b.1
            · rw [decide_eq_true h2]
              exact hyes (by unfold bestStep8; rw [if_pos ⟨h0, h1, .inr h2⟩])
            · rw [decide_eq_false h2]
              exact hno (by unfold bestStep8; rw [if_neg (by rintro ⟨_, _, h | h⟩; rw [hb2] at h; simp at h; exact h2 h)])
          · rw [if_neg hb2]
            exact hyes (by unfold bestStep8; rw [if_pos ⟨h0, h1, .inl (by simpa using hb2)⟩])
        · rw [if_neg h1]
          exact hno (by unfold bestStep8; rw [if_neg (by rintro ⟨_, h, _⟩; exact h1 h)])
      · rw [if_neg h0]
        exact hno (by unfold bestStep8; rw [if_neg (by rintro ⟨h, _⟩; exact h0 h)])
  have hj1 : ∀ (c s : Int) (k : Nat), 700 ≤ k → herdsmanlaw8_SeedsBest.j1 (k + 1) c s x y = some true := by
    intro c s k hk
    have hlen : ([] ++ x ++ y : List Seed).length ≤ 120 := by simp; omega
    rw [herdsmanlaw8_SeedsBest.j1, Option.bind_some, if_pos (by simp; omega), Option.bind_some, if_pos (by simp; omega)]
    exact key ([] ++ x ++ y) c s hlen ([] ++ x ++ y).length 0 k (1099511627776, false) (by omega) (by omega) rfl
  have hj0 : ∀ (b : Bool), (b = true → 0 < x.length) → herdsmanlaw8_SeedsBest.j0 2000 a2 a3 x y b = some true := by
    intro b hb
    rw [herdsmanlaw8_SeedsBest.j0]
    cases b with
    | true => rw [if_pos rfl, if_pos (by have := hb rfl; omega)]; exact hj1 _ _ 1998 (by omega)
    | false => rw [if_neg (by simp)]; exact hj1 _ _ 1998 (by omega)
  refine ⟨2000, ?_⟩
  unfold herdsmanlaw8_SeedsBest.f
  rw [few8_some, Option.bind_some, few8_some, Option.bind_some, ← ex, ← ey]
  split
  · exact hj0 _ (fun _ => by omega)
  · exact hj0 _ (fun h => by simp at h)
end Go.Proofs.Ytgcfcemgeppkmaa.Pure
namespace Go.Proofs.Ytgcfcemgeppkmaa.seedsBest
open Go.ChangeShapes Go.WideShapes Go.ChangeAt Go.RowKit
open Go.ChangeMaps (open_string shut_string)
set_option linter.unusedVariables false
theorem own : ownKnob Try.prog.godebug = none := by kernel_rfl
theorem laidOut : laidOutB Try.prog = true := by kernel_rfl
set_option maxRecDepth 100000 in
theorem lifted (os : Os) (started : os.Started) (H : Type) (enc : TypeId × Value → H) :
    ReturnsInHanded {} Try.checked os 4 .any (Rows.seedsBestSpec.pre6 enc Try.prog Try.f4 Rows.seedsBestRow.domain false) (Rows.seedsBestSpec.post enc Try.prog Try.f4 false true false false) := by
  refine returnsInHanded_of_change_sized (C := Try.checked) own started (by kernel_rfl) Try.func4
    (ChangeSpec.witness6 (enc := enc) (C := Try.checked) false ⟨#[], #[.slice none 0 0, .slice none 0 0, .int .i64 0, .int .i64 0], []⟩ 8 (by kernel_rfl) (by kernel_rfl) (by kernel_rfl) (by kernel_rfl)) ?_
  intro W base args ds gs before hval0 hW hcnd hsz0 _
  have hsz : (DataW.weightsEach Try.prog (Try.f4.params.toList ++ Rows.seedsBestSpec.plain.varTypes Try.prog) (ds ++ gs)).all (· ≤ reachBytes) = true := hsz0
  have hval : ∀ (j : Nat) t v, Try.f4.params[j]? = some t → args[j]? = some v → Value.okWide Try.prog W .any base t v := hval0
  have hW' := hW
  obtain ⟨p, q, hA0, hV, rfl, hfz, hnd⟩ := hW
  have hA : DataW.TrodAll enc Try.prog W 0 (fun _ => true) true Try.f4.params.toList args.toList ds p := hA0
  rw [Try.params4] at hA hval hsz
  obtain ⟨v0, vs0, d0, ds0, p0, q0, hargs, rfl, rfl, h0, r0⟩ := trodAll_cons hA
  obtain ⟨v1, vs1, d1, ds1, p1, q1, rfl, rfl, rfl, h1, r1⟩ := trodAll_cons r0
  obtain ⟨v2, vs2, d2, ds2, p2, q2, rfl, rfl, rfl, h2, r2⟩ := trodAll_cons r1
  obtain ⟨v3, vs3, d3, ds3, p3, q3, rfl, rfl, rfl, h3, r3⟩ := trodAll_cons r2
  obtain ⟨rfl, rfl, rfl⟩ := trodAll_nil r3
  obtain rfl : args = #[v0, v1, v2, v3] := by cases args; simp_all
  obtain ⟨rfl, rfl⟩ := trodVars_none hV
  obtain ⟨a0, len0, cap0, rfl⟩ := okWide_slice Try.underlying22 (hval 0 22 v0 rfl rfl)
  have k0 := h0
  have lt0 : ∀ x ∈ p0, x.block < W.heap.size := by obtain ⟨m, hm⟩ := k0; exact DataW.trod_lt m _ _ _ hm
  obtain ⟨l0, rfl, hr0, hc0, y0, _⟩ := P.open_seeds hsz (j := 0) rfl rfl h0
  obtain ⟨a1, len1, cap1, rfl⟩ := okWide_slice Try.underlying22 (hval 1 22 v1 rfl rfl)
  have k1 := h1
  have lt1 : ∀ x ∈ p1, x.block < W.heap.size := by obtain ⟨m, hm⟩ := k1; exact DataW.trod_lt m _ _ _ hm
  obtain ⟨l1, rfl, hr1, hc1, y1, _⟩ := P.open_seeds hsz (j := 1) rfl rfl h1
  obtain ⟨a2, rfl, rfl, rfl, w2⟩ := open_int Try.underlying3 (hval 2 3 v2 rfl rfl) h2
  obtain ⟨a3, rfl, rfl, rfl, w3⟩ := open_int Try.underlying3 (hval 3 3 v3 rfl rfl) h3
  clear hA0 hval0 hsz0 hsz
  obtain ⟨k, hk⟩ := Pure.SeedsBest l0 l1 a2 a3
  refine (P.herdsmanlaw8_SeedsBest.calls k a0 cap0 l0 a1 cap1 l1 a2 a3 true W hr0 hc0 hr1 hc1 hk).mono fun e W' ⟨he, bel⟩ => ?_
  subst he
  exact ⟨_, rfl, _, _, _, [], _, [], hW', trodAll_mk1 (shut_bool Try.underlying4 _), (trodAll_cons_mk (Below.trod laidOut (by kernel_rfl) (of_decide_eq_true (by kernel_rfl)) k0 bel lt0) (trodAll_cons_mk (Below.trod laidOut (by kernel_rfl) (of_decide_eq_true (by kernel_rfl)) k1 bel lt1) (trodAll_cons_mk (shut_int Try.underlying3 w2) (trodAll_cons_mk (shut_int Try.underlying3 w3) trodAll_mk0)))), rfl, bel.frame _, fun h => by cases h⟩
theorem joined : joinedFacts Try.prog 4 Try.f4 Rows.seedsBestSpec Rows.seedsBestRow = true := by
  unfold joinedFacts
  rw [Start.keysNot, Start.may_of _ _ Start.words Start.later Start.refl Start.door, Start.final_of _ _ Start.words, Start.make_of _ _ Start.words]
  kernel_rfl
theorem over : Rows.seedsBestRow.holds Try.pinned (OpenSpec.ofChange Rows.seedsBestSpec) :=
  OpenClaim.holds_of_wide 4 Try.f4 rfl rfl rfl rfl rfl rfl rfl ⟨rfl, rfl, rfl, rfl, rfl⟩ rfl rfl rfl rfl rfl (by kernel_rfl) Try.func4 joined
    (of_decide_eq_true (by kernel_rfl)) (by unfold Func.isWrapper; first | (rw [if_pos (by decide +kernel)]; kernel_rfl) | (rw [if_neg (by decide +kernel)]; exact ⟨rfl, rfl⟩))
    (fun os started H enc _ => lifted os started H enc)
theorem proved : Rows.SeedsBestSaid := over
#print axioms proved
end Go.Proofs.Ytgcfcemgeppkmaa.seedsBest
namespace Go.Proofs.Ytgcfcemgeppkmaa
/-- The row, under a short name, for the claim. -/
theorem seedsBest_holds : Rows.SeedsBestSaid := seedsBest.proved
end Go.Proofs.Ytgcfcemgeppkmaa
