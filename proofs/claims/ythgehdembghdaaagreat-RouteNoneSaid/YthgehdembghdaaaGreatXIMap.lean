/-
 A map from numbers to numbers, in memory.
-/
import Derived.Test.YthgehdembghdaaaGreatXWith1
import Derived.Test.YthgehdembghdaaaGreatXLruKeys
namespace Go.Proofs.YthgehdembghdaaaGreat.P
open Go.RowKit Go.Proofs.YthgehdembghdaaaGreatW.PrintWords Go.Proofs.YthgehdembghdaaaGreatW.PrintLast Go.Proofs.YthgehdembghdaaaGreatW.PrintMore
set_option linter.unusedVariables false
set_option linter.unusedSimpArgs false
variable {w w' : World} {mb n : Nat} {M : Int → Option Int}
theorem iiLaw : Go.Maps.Keyed Tryz.prog 3 := Go.Maps.int_keyed Tryz.underlying3
theorem iiKey {c : Int} (h : W64 c) : keyOf Tryz.prog 3 (Value.int .i64 c) = some (Lit.int .i64 c) := Go.Maps.keyOf_int_mk Tryz.underlying3 (wf64 h)
theorem zeroI (w : World) : (zeroValue 3).run Tryz.prog w = .ok (.int .i64 0) w := by kernel_rfl
abbrev OwnII (w : World) (mb n : Nat) (D : DataW Unit) : Prop := w.ownsMap Tryz.prog 3 (plainElem Tryz.prog 3) mb n D
def MapV (w : World) (mb n : Nat) (M : Int → Option Int) : Prop := ∃ D : DataW Unit, OwnII w mb n D ∧ ∀ c, W64 c → (M c = none → Maps.has D (.int .i64 c) = false) ∧ ∀ d, M c = some d → Maps.has D (.int .i64 c) = true ∧ D.atKey (.int .i64 c) (.lit (.int .i64 0)) = .lit (.int .i64 d)
theorem MapV.made (w : World) : MapV (w.alloc (.map #[] 0)) w.heap.size 0 (fun _ => none) :=
 ⟨.map [], World.ownsMap_made _ _ _ _, fun c hc => ⟨fun _ => by simp [Maps.has], fun d q => by cases q⟩⟩
theorem MapV.heap (h : MapV w mb n M) (hh : w'.heap[mb]? = w.heap[mb]?) : MapV w' mb n M := by
 obtain ⟨D, ⟨es, clock, h1, h2⟩, h3⟩ := h
 exact ⟨D, ⟨es, clock, hh.trans h1, h2⟩, h3⟩
theorem MapV.blk (h : MapV w mb n M) : ∃ es clock, w.heap[mb]? = some (.map es clock) := by
 obtain ⟨D, ⟨es, clock, h1, h2⟩, h3⟩ := h
 exact ⟨es, clock, h1⟩
theorem MapV.lt (h : MapV w mb n M) : mb < w.heap.size := by
 obtain ⟨es, clock, h1⟩ := h.blk
 exact blk_lt h1
theorem MapV.congr {M' : Int → Option Int} (h : MapV w mb n M) (e : ∀ c, M c = M' c) : MapV w mb n M' := by
 obtain ⟨D, h1, h2⟩ := h
 exact ⟨D, h1, fun c hc => by rw [← e c]; exact h2 c hc⟩
theorem MapV.look (h : MapV w mb n M) {c : Int} (hc : W64 c) : ∀ q, (Instr.lookup 150 (.map (some mb)) (.int .i64 c) true).run Tryz.prog (w.drewN q) = .ok (.tuple #[.int .i64 ((M c).getD 0), .bool (M c).isSome]) (w.drewN q) := by
 intro q
 obtain ⟨D, ho, h3⟩ := MapV.heap h (w' := w.drewN q) (by rw [drewN_heap'])
 obtain ⟨v, ps, hr, hv⟩ := ho.look_ok iiLaw Tryz.underlying150 (zeroI _) (plainElem_int Tryz.underlying3 (by decide)) (iiKey hc)
 obtain ⟨d, rfl, hd, _⟩ := plainElem_int_inv Tryz.underlying3 hv
 have hd' := congrArg Prod.fst hd
 obtain ⟨k1, k2⟩ := h3 c hc
 rw [hr]
 cases hm : M c with
 | none =>
  have e := k1 hm
  rw [e]
  rw [show (D.atKey (.int .i64 c) (.lit (.int .i64 0)) = .lit (.int .i64 0)) from Maps.atKey_of_not_has e _] at hd'
  have : d = 0 := by simpa [eq_comm] using hd'
  rw [this]
  rfl
 | some d0 =>
  obtain ⟨e1, e2⟩ := k2 d0 hm
  rw [e1]
  rw [show (D.atKey (.int .i64 c) (.lit (.int .i64 0)) = .lit (.int .i64 d0)) from e2] at hd'
  have : d = d0 := by simpa [eq_comm] using hd'
  rw [this]
  rfl
theorem MapV.store (h : MapV w mb n M) (hn : n < 1000000000) {c d : Int} (hc : W64 c) (hd : W64 d) : ∃ w', (Instr.mapUpdate 150 (.map (some mb)) (.int .i64 c) (.int .i64 d)).run Tryz.prog w = .ok () w' ∧ MapV w' mb (n + 1) (learn M c d) ∧ w.grownBy w' (some mb) := by
 obtain ⟨D, ho, h3⟩ := h
 obtain ⟨w', hr, ho', ht⟩ := World.ownsMap.store ho iiLaw Tryz.underlying150 (by unfold maxLen; omega) (iiKey hc) (plainElem_int Tryz.underlying3 (wf64 hd))
 refine ⟨w', hr, ⟨_, ho', fun v hv => ?_⟩, ht.grown⟩
 unfold learn
 by_cases e : v = c
 ·subst e
  rw [if_pos rfl]
  refine ⟨fun q => (by cases q), fun d' q => ?_⟩
  injection q with q
  subst q
  exact ⟨Maps.has_put_same ho.isMap (iiLaw.key (iiKey hc)) _, Maps.atKey_put_same ho.isMap (iiLaw.key (iiKey hc)) _ _⟩
 ·rw [if_neg e]
  have hne : Lit.int .i64 v ≠ .int .i64 c := fun q => e (by injection q)
  rw [Maps.has_put_other hne, Maps.atKey_put_other hne]
  exact h3 v hv
end Go.Proofs.YthgehdembghdaaaGreat.P
