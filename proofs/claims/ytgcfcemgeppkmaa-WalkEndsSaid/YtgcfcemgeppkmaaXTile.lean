/-
  PLAIN: a tile as a graph; its distances.
-/
import Derived.Test.YtgcfcemgeppkmaaXMayP
import Derived.Test.YtgcfcemgeppkmaaXDist
namespace Go.Proofs.Ytgcfcemgeppkmaa.P
open Go.RowKit Go.Proofs.YtgcfcemgeppkmaaW.PrintWords Go.Proofs.YtgcfcemgeppkmaaW.PrintLast Go.Proofs.YtgcfcemgeppkmaaW.PrintMore
open Go.Proofs.Ytgcfcemgeppkmaa.Dist
set_option linter.unusedVariables false
set_option linter.unusedSimpArgs false

abbrev INF : Int := 1099511627776
/-- j is beside i. -/
def AdjT (W i j : Int) : Prop := j = i - W ∨ (j = i + 1 ∧ i % W < W - 1) ∨ j = i + W ∨ (j = i - 1 ∧ 0 < i % W)
/-- The tile as a graph, with what seeds say. -/
def grT (W : Int) (C : List Int) (l : List Seed) : Gr where
  n := C.length
  adj i j := AdjT W i j
  opn i := rd C i ≠ 255
  c i := rd C i
  src i k := ∃ x, x ∈ l ∧ x.f0 = (i : Int) ∧ x.f2 = k
  inf := INF
/-- The list is the distances. -/
def DistL (W : Int) (C : List Int) (l : List Seed) (d : List Int) : Prop := d.length = C.length ∧ (grT W C l).IsDist (fun i => rd d i)
open Classical in
noncomputable def distOf (W : Int) (C : List Int) (l : List Seed) : List Int := if h : ∃ d, DistL W C l d then Classical.choose h else []
open Classical in
/-- As the printed functions take it. -/
noncomputable def spreadF (W H : Int) (C : List Int) (l : List Seed) : Option (List Int × Int) := if SeedsOk W H C l then (if (∀ x ∈ C, 0 ≤ x ∧ x ≤ 255) ∧ l.length < 5864062014805 then some (distOf W C l, 0) else none) else some ([], 1)

theorem costs_pos {W H : Int} {C : List Int} (hb : ∀ x ∈ C, 0 ≤ x ∧ x ≤ 255) (h : TileOk W H C) (l : List Seed) : ∀ j, j < (grT W C l).n → (grT W C l).opn j → 1 ≤ (grT W C l).c j ∧ (grT W C l).c j ≤ 254 := by
  intro j hj ho
  have hj' : j < C.length := hj
  have h1 := hb (C[j]) (List.getElem_mem _)
  have h2 : C[j] ≠ 0 := fun e => h.2.2.2.2.2 (e ▸ List.getElem_mem _)
  have h3 : rd C (j : Int) ≠ 255 := ho
  rw [rd_get C hj'] at h3
  show 1 ≤ rd C (j : Int) ∧ rd C (j : Int) ≤ 254
  rw [rd_get C hj']
  omega
theorem distL_unique {W H : Int} {C : List Int} (hb : ∀ x ∈ C, 0 ≤ x ∧ x ≤ 255) (ht : TileOk W H C) {l : List Seed} {d d' : List Int} (h : DistL W C l d) (h' : DistL W C l d') : d = d' := by
  apply List.ext_getElem (by rw [h.1, h'.1])
  intro i h1 h2
  have := Gr.unique (fun j hj ho => (costs_pos hb ht l j hj ho).1) h.2 h'.2 i (by show i < C.length; rw [← h.1]; exact h1)
  simp only [rd_get d h1, rd_get d' h2] at this
  exact this
theorem distOf_eq {W H : Int} {C : List Int} (hb : ∀ x ∈ C, 0 ≤ x ∧ x ≤ 255) (ht : TileOk W H C) {l : List Seed} {d : List Int} (h : DistL W C l d) : distOf W C l = d := by
  have hex : ∃ d, DistL W C l d := ⟨d, h⟩
  unfold distOf
  rw [dif_pos hex]
  exact distL_unique hb ht (Classical.choose_spec hex) h
/-- There are distances. -/
theorem distOf_spec {W H : Int} {C : List Int} (hb : ∀ x ∈ C, 0 ≤ x ∧ x ≤ 255) {l : List Seed} (ht : SeedsOk W H C l) : DistL W C l (distOf W C l) := by
  have hex : ∃ d, DistL W C l d := by
    let s : Nat → Int := fun i => l.foldl (fun m x => if x.f0 = (i : Int) then min m x.f2 else m) INF
    have hf : ∀ (i : Nat) (l : List Seed) (m : Int), (∀ x, x ∈ l → 0 ≤ x.f2) → 0 ≤ m → (0 ≤ l.foldl (fun m x => if x.f0 = (i : Int) then min m x.f2 else m) m) ∧ l.foldl (fun m x => if x.f0 = (i : Int) then min m x.f2 else m) m ≤ m ∧ (∀ x, x ∈ l → x.f0 = (i : Int) → l.foldl (fun m x => if x.f0 = (i : Int) then min m x.f2 else m) m ≤ x.f2) ∧ (l.foldl (fun m x => if x.f0 = (i : Int) then min m x.f2 else m) m = m ∨ ∃ x, x ∈ l ∧ x.f0 = (i : Int) ∧ x.f2 = l.foldl (fun m x => if x.f0 = (i : Int) then min m x.f2 else m) m) := by
      intro i l
      induction l with
      | nil => intro m _ hm; exact ⟨hm, Int.le_refl _, fun x hx => by simp at hx, .inl rfl⟩
      | cons y r ih =>
        intro m hp hm
        have hy := hp y (by simp)
        rw [List.foldl_cons]
        by_cases e : y.f0 = (i : Int)
        · rw [if_pos e]
          obtain ⟨a1, a2, a3, a4⟩ := ih (min m y.f2) (fun x hx => hp x (by simp [hx])) (by omega)
          refine ⟨a1, by omega, fun x hx hxi => ?_, ?_⟩
          · rcases List.mem_cons.1 hx with rfl | hx
            · omega
            · exact a3 x hx hxi
          · rcases a4 with a4 | ⟨x, hx, hxi, he⟩
            · rcases Int.le_total m y.f2 with h | h
              · exact .inl (by rw [a4]; omega)
              · exact .inr ⟨y, by simp, e, by rw [a4]; omega⟩
            · exact .inr ⟨x, by simp [hx], hxi, he⟩
        · rw [if_neg e]
          obtain ⟨a1, a2, a3, a4⟩ := ih m (fun x hx => hp x (by simp [hx])) hm
          refine ⟨a1, a2, fun x hx hxi => ?_, ?_⟩
          · rcases List.mem_cons.1 hx with rfl | hx
            · exact absurd hxi e
            · exact a3 x hx hxi
          · rcases a4 with a4 | ⟨x, hx, hxi, he⟩
            · exact .inl a4
            · exact .inr ⟨x, by simp [hx], hxi, he⟩
    have hk : ∀ x, x ∈ l → 0 ≤ x.f2 := fun x hx => (ht.2 x hx).2.2.2.1
    obtain ⟨D, hD⟩ := Gr.exists_dist (g := grT W C l) (fun j hj ho => (costs_pos hb ht.1 l j hj ho).1) (by show (0 : Int) ≤ INF; decide) s (fun i _ => (hf i l INF hk (by decide)).1)
      (fun i k _ ⟨x, hx, hxi, he⟩ => by rw [← he]; exact (hf i l INF hk (by decide)).2.2.1 x hx hxi)
      (fun i _ => by
        rcases (hf i l INF hk (by decide)).2.2.2 with h | ⟨x, hx, hxi, he⟩
        · exact .inl (Int.le_of_eq h.symm)
        · exact .inr ⟨x, hx, hxi, he⟩)
    refine ⟨(List.range C.length).map D, by simp, ?_⟩
    have e : ∀ i, i < C.length → rd ((List.range C.length).map D) (i : Int) = D i := by
      intro i hi
      rw [rd_get _ (by simpa using hi)]
      simp
    refine ⟨fun i hi => ?_, fun i hi => ?_⟩
    · obtain ⟨h1, h2⟩ := hD.1 i hi
      simp only [e i hi]
      exact ⟨h1, fun ho => ⟨(h2 ho).1, fun j hj ha hoj => by simp only [e j hj]; exact (h2 ho).2 j hj ha hoj⟩⟩
    · obtain ⟨h1, h2⟩ := hD.2 i hi
      simp only [e i hi]
      refine ⟨h1, ?_⟩
      rcases h2 with h2 | ⟨ho, h2 | ⟨j, hj, ha, hoj, h2⟩⟩
      · exact .inl h2
      · exact .inr ⟨ho, .inl h2⟩
      · exact .inr ⟨ho, .inr ⟨j, hj, ha, hoj, by simp only [e j hj]; exact h2⟩⟩
  unfold distOf
  rw [dif_pos hex]
  exact Classical.choose_spec hex
end Go.Proofs.Ytgcfcemgeppkmaa.P
