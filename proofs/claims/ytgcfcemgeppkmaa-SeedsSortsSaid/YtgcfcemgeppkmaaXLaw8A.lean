/-
  PLAIN: what the laws of layer 8 begin with.
-/
import Derived.Test.YtgcfcemgeppkmaaXSort
import Derived.Test.YtgcfcemgeppkmaaPx6
import Derived.Test.YtgcfcemgeppkmaaPx2
import Derived.Test.YtgcfcemgeppkmaaPx7
namespace Go.Proofs.Ytgcfcemgeppkmaa.P
open Go.RowKit Go.Proofs.YtgcfcemgeppkmaaW.PrintWords Go.Proofs.YtgcfcemgeppkmaaW.PrintLast Go.Proofs.YtgcfcemgeppkmaaW.PrintMore
set_option linter.unusedVariables false
set_option linter.unusedSimpArgs false

theorem rdT_get8 (xs : List Seed) {i : Nat} (h : i < xs.length) : rd_T25 xs (i : Int) = xs[i] := by
  unfold rd_T25
  rw [Int.toNat_natCast, List.getD_eq_getElem?_getD, List.getElem?_eq_getElem h]
  rfl
/-- One seed more, for the least key at a side of a cell. -/
def bestStep8 (i s : Int) (b : Int × Bool) (x : Seed) : Int × Bool := if x.f0 = i ∧ x.f1 = s ∧ (b.2 = false ∨ x.f2 < b.1) then (x.f2, true) else b
def bestS8 (l : List Seed) (i s : Int) : Int := (l.foldl (bestStep8 i s) (1099511627776, false)).1
theorem best_inv8 (i s : Int) (l : List Seed) : ∀ (seen : List Seed) (b : Int × Bool), (b.2 = false → b.1 = 1099511627776 ∧ ∀ x, x ∈ seen → ¬ (x.f0 = i ∧ x.f1 = s)) → (b.2 = true → (∃ x, x ∈ seen ∧ x.f0 = i ∧ x.f1 = s ∧ x.f2 = b.1) ∧ ∀ x, x ∈ seen → x.f0 = i → x.f1 = s → b.1 ≤ x.f2) →
    ((l.foldl (bestStep8 i s) b).2 = false → (l.foldl (bestStep8 i s) b).1 = 1099511627776 ∧ ∀ x, x ∈ seen ++ l → ¬ (x.f0 = i ∧ x.f1 = s)) ∧ ((l.foldl (bestStep8 i s) b).2 = true → (∃ x, x ∈ seen ++ l ∧ x.f0 = i ∧ x.f1 = s ∧ x.f2 = (l.foldl (bestStep8 i s) b).1) ∧ ∀ x, x ∈ seen ++ l → x.f0 = i → x.f1 = s → (l.foldl (bestStep8 i s) b).1 ≤ x.f2) := by
  induction l with
  | nil => intro seen b h1 h2; rw [List.append_nil]; exact ⟨h1, h2⟩
  | cons y r ih =>
    intro seen b h1 h2
    rw [List.foldl_cons]
    have hs : seen ++ y :: r = (seen ++ [y]) ++ r := by simp
    rw [hs]
    refine ih (seen ++ [y]) (bestStep8 i s b y) (fun hf => ?_) (fun ht => ?_)
    · unfold bestStep8 at hf ⊢
      split at hf
      · exact absurd hf (by simp)
      · rename_i hc
        rw [if_neg hc]
        obtain ⟨e, hn⟩ := h1 hf
        refine ⟨e, fun x hx => ?_⟩
        rcases List.mem_append.1 hx with hx | hx
        · exact hn x hx
        · rw [List.mem_singleton.1 hx]
          exact fun hm => hc ⟨hm.1, hm.2, .inl hf⟩
    · unfold bestStep8 at ht ⊢
      split at ht
      · rename_i hc
        rw [if_pos hc]
        refine ⟨⟨y, by simp, hc.1, hc.2.1, rfl⟩, fun x hx h0 h1' => ?_⟩
        rcases List.mem_append.1 hx with hx | hx
        · rcases hc.2.2 with hf | hlt
          · exact absurd ⟨h0, h1'⟩ ((h1 hf).2 x hx)
          · cases hb : b.2 with
            | false => exact absurd ⟨h0, h1'⟩ ((h1 hb).2 x hx)
            | true => exact Int.le_trans (Int.le_of_lt hlt) ((h2 hb).2 x hx h0 h1')
        · rw [List.mem_singleton.1 hx]; exact Int.le_refl _
      · rename_i hc
        rw [if_neg hc]
        obtain ⟨⟨x, hx, e0, e1, e2⟩, hn⟩ := h2 ht
        refine ⟨⟨x, by simp [hx], e0, e1, e2⟩, fun z hz h0 h1' => ?_⟩
        rcases List.mem_append.1 hz with hz | hz
        · exact hn z hz h0 h1'
        · rw [List.mem_singleton.1 hz] at h0 h1' ⊢
          rcases Int.lt_or_le y.f2 b.1 with h | h
          · exact absurd ⟨h0, h1', .inr h⟩ hc
          · exact h
theorem best_spec8 (l : List Seed) (i s : Int) : ((bestS8 l i s = 1099511627776 ∧ ∀ x, x ∈ l → ¬ (x.f0 = i ∧ x.f1 = s)) ∨ ∃ x, x ∈ l ∧ x.f0 = i ∧ x.f1 = s ∧ x.f2 = bestS8 l i s) ∧ ∀ x, x ∈ l → x.f0 = i → x.f1 = s → bestS8 l i s ≤ x.f2 := by
  have h := best_inv8 i s l [] (1099511627776, false) (fun _ => ⟨rfl, fun x hx => by simp at hx⟩) (fun h => by simp at h)
  rw [List.nil_append] at h
  unfold bestS8
  cases hb : (l.foldl (bestStep8 i s) (1099511627776, false)).2 with
  | false =>
    obtain ⟨e, hn⟩ := h.1 hb
    exact ⟨.inl ⟨e, hn⟩, fun x hx h0 h1 => absurd ⟨h0, h1⟩ (hn x hx)⟩
  | true => exact ⟨.inr (h.2 hb).1, (h.2 hb).2⟩

theorem best_l08 (l : List Seed) (i s : Int) (hl : l.length ≤ 1000000) : ∀ (d j k : Nat) (b : Int × Bool), j + d = l.length → d < k → seeds_Best.l0 k i s b.1 b.2 l (l.length : Int) (j : Int) = some ((l.drop j).foldl (bestStep8 i s) b).1 := by
  intro d
  induction d with
  | zero =>
    intro j k b hj hk
    obtain ⟨k, rfl⟩ : ∃ m, k = m + 1 := ⟨k - 1, by omega⟩
    rw [seeds_Best.l0, if_neg (by omega), List.drop_eq_nil_of_le (by omega)]
    rfl
  | succ d ih =>
    intro j k b hj hk
    obtain ⟨k, rfl⟩ : ∃ m, k = m + 1 := ⟨k - 1, by omega⟩
    have hjl : j < l.length := by omega
    have hn := fun b => ih (j + 1) k b (by omega) (by omega)
    rw [seeds_Best.l0, if_pos (by omega), if_pos (by omega), if_pos (by omega), rdT_get8 l hjl, w64 (n := (j : Int) + 1) (by omega) (by omega), List.drop_eq_getElem_cons hjl, List.foldl_cons]
    generalize l[j] = x
    by_cases h0 : x.f0 = i
    · rw [if_pos h0]
      by_cases h1 : x.f1 = s
      · rw [if_pos h1]
        by_cases hb : b.2 = true
        · rw [if_pos hb]
          by_cases h2 : x.f2 < b.1
          · rw [if_pos h2, show bestStep8 i s b x = (x.f2, true) by unfold bestStep8; rw [if_pos ⟨h0, h1, .inr h2⟩]]
            exact hn (x.f2, true)
          · rw [if_neg h2, show bestStep8 i s b x = b by unfold bestStep8; rw [if_neg (by rintro ⟨_, _, h | h⟩; rw [hb] at h; simp at h; exact h2 h)]]
            exact hn b
        · rw [if_neg hb, show bestStep8 i s b x = (x.f2, true) by unfold bestStep8; rw [if_pos ⟨h0, h1, .inl (by simpa using hb)⟩]]
          exact hn (x.f2, true)
      · rw [if_neg h1, show bestStep8 i s b x = b by unfold bestStep8; rw [if_neg (by rintro ⟨_, h, _⟩; exact h1 h)]]
        exact hn b
    · rw [if_neg h0, show bestStep8 i s b x = b by unfold bestStep8; rw [if_neg (by rintro ⟨h, _⟩; exact h0 h)]]
      exact hn b
theorem best_some8 (l : List Seed) (i s : Int) (hl : l.length ≤ 1000000) : seeds_Best.f (l.length + 1) l i s = some (bestS8 l i s) := by
  have := best_l08 l i s hl l.length 0 (l.length + 1) (1099511627776, false) (by omega) (by omega)
  exact this


theorem best_congr8 {l l' : List Seed} (h : ∀ x, x ∈ l ↔ x ∈ l') (i s : Int) : bestS8 l i s = bestS8 l' i s := by
  obtain ⟨ha, hle⟩ := best_spec8 l i s
  obtain ⟨ha', hle'⟩ := best_spec8 l' i s
  rcases ha with ⟨e, hn⟩ | ⟨x, hx, e0, e1, e2⟩
  · rcases ha' with ⟨e', _⟩ | ⟨y, hy, e0, e1, _⟩
    · rw [e, e']
    · exact absurd ⟨e0, e1⟩ (hn y ((h y).2 hy))
  · have h1 := hle' x ((h x).1 hx) e0 e1
    rcases ha' with ⟨_, hn⟩ | ⟨y, hy, f0, f1, f2⟩
    · exact absurd ⟨e0, e1⟩ (hn x ((h x).1 hx))
    · have h2 := hle y ((h y).2 hy) f0 f1
      omega
theorem few8_some (l : List Seed) : herdsmanlaw8_few.f l = some (l.take (min l.length 60)) := by
  have hl : (l.take (min l.length 60)).length ≤ 60 := by rw [List.length_take]; omega
  unfold herdsmanlaw8_few.f mn
  rw [Option.bind_some]
  split
  · rw [if_pos (by omega), if_pos (by omega), Option.bind_some, show ((60 : Int)).toNat = min l.length 60 by omega, List.nil_append, if_pos (by simp only [List.length_nil]; omega)]
  · rw [if_pos (by omega), if_pos (by omega), Option.bind_some, show ((l.length : Int)).toNat = min l.length 60 by omega, List.nil_append, if_pos (by simp only [List.length_nil]; omega)]
theorem sort_some8 (l : List Seed) (hl : l.length ≤ 1000000) : seeds_Sort.f l = some (sortU l) := by
  show seedsSortF l = _
  unfold seedsSortF
  rw [if_pos (by omega)]
theorem told8_some (k : Nat) (hk : 3 < k) : herdsmanlaw8_told.f k = some true := by
  have hs : sortU [⟨3, 1, 9⟩, ⟨3, 1, 7⟩] = [⟨3, 1, 7⟩, ⟨3, 1, 9⟩] := by rfl
  have hb : ∀ i s, ∀ k, 3 < k → seeds_Best.f k [⟨3, 1, 9⟩, ⟨3, 1, 7⟩] i s = some (bestS8 [⟨3, 1, 9⟩, ⟨3, 1, 7⟩] i s) := fun i s k hk => best_l08 _ i s (by simp) 2 0 k (1099511627776, false) rfl (by omega)
  unfold herdsmanlaw8_told.f
  rw [Option.bind_some, sort_some8 _ (by simp), Option.bind_some, hb 3 1 k hk, Option.bind_some, if_pos (by rfl), hb 3 3 k hk, Option.bind_some, if_pos (by rfl), hs, if_pos (by rfl), if_pos (by decide)]
  rfl
theorem beq_not (x y : Seed) : (!(x.f0 == y.f0) || (!(x.f1 == y.f1) || (!(x.f2 == y.f2)))) = !decide (x = y) := by
  rw [← seed_beq]
  cases x.f0 == y.f0 <;> cases x.f1 == y.f1 <;> cases x.f2 == y.f2 <;> rfl
theorem ref_l0 (a b : List Seed) (hl : a.length = b.length) (hb : a.length ≤ 1000000) : ∀ (d i k : Nat), i + d = a.length → d < k → herdsmanref7_SameSeeds.l0 k a b (i : Int) = some (decide (a.drop i = b.drop i)) := by
  intro d
  induction d with
  | zero =>
    intro i k hi hk
    obtain ⟨k, rfl⟩ : ∃ m, k = m + 1 := ⟨k - 1, by omega⟩
    rw [herdsmanref7_SameSeeds.l0, if_neg (by omega), List.drop_eq_nil_of_le (by omega), List.drop_eq_nil_of_le (by omega)]
    simp
  | succ d ih =>
    intro i k hi hk
    obtain ⟨k, rfl⟩ : ∃ m, k = m + 1 := ⟨k - 1, by omega⟩
    have h1 : i < a.length := by omega
    have h2 : i < b.length := by omega
    have hn := ih (i + 1) k (by omega) (by omega)
    rw [herdsmanref7_SameSeeds.l0, if_pos (by omega), if_pos (by omega), if_pos (by omega), rdT_get8 a h1, rdT_get8 b h2, beq_not, w64 (n := (i : Int) + 1) (by omega) (by omega), List.drop_eq_getElem_cons h1, List.drop_eq_getElem_cons h2]
    by_cases e : a[i] = b[i]
    · rw [if_neg (by simp [e])]
      refine hn.trans (congrArg some (decide_eq_decide.2 ?_))
      rw [e]
      exact ⟨fun h => by rw [h], fun h => (List.cons.inj h).2⟩
    · rw [if_pos (by simp [e])]
      exact congrArg some (decide_eq_false (fun h => e (List.cons.inj h).1)).symm
theorem refSame_some (a b : List Seed) (ha : a.length ≤ 1000000) (k : Nat) (hk : a.length < k) : herdsmanref7_SameSeeds.f k a b = some (decide (a = b)) := by
  unfold herdsmanref7_SameSeeds.f
  by_cases hl : a.length = b.length
  · rw [if_pos (by omega)]
    have := ref_l0 a b hl ha a.length 0 k (by omega) hk
    simpa using this
  · rw [if_neg (by omega)]
    exact congrArg some (decide_eq_false (fun h => hl (by rw [h]))).symm
end Go.Proofs.Ytgcfcemgeppkmaa.P
