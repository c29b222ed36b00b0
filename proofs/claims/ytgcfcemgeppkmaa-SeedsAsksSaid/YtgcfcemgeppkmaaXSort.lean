/-
  seeds.Sort: a new row of the seeds in order, each once.
-/
import Derived.Test.YtgcfcemgeppkmaaXCompact
import Derived.Test.YtgcfcemgeppkmaaXLay
namespace Go.Proofs.Ytgcfcemgeppkmaa.P
open Go.RowKit Go.Proofs.YtgcfcemgeppkmaaW.PrintWords Go.Proofs.YtgcfcemgeppkmaaW.PrintLast Go.Proofs.YtgcfcemgeppkmaaW.PrintMore
open Go.Lib
set_option linter.unusedVariables false
set_option linter.unusedSimpArgs false

/-- The order of seeds: by key, by cell, by side. -/
def ltS (a b : Seed) : Bool := decide (a.f2 < b.f2 ∨ a.f2 = b.f2 ∧ (a.f0 < b.f0 ∨ a.f0 = b.f0 ∧ a.f1 < b.f1))
theorem seed_ext {a b : Seed} (h0 : a.f0 = b.f0) (h1 : a.f1 = b.f1) (h2 : a.f2 = b.f2) : a = b := by cases a; cases b; simp_all
theorem ltS_ord (a b : Seed) : ltOf ordS a b = ltS a b := by
  unfold ltOf ltS ordS orI cmpI
  rw [decide_eq_decide]
  split <;> split <;> omega
theorem ltS_swo : Go.Sort.SWO (ltOf ordS) where
  irrefl x := by rw [ltS_ord]; simp [ltS]
  trans x y z h1 h2 := by rw [ltS_ord] at *; simp only [ltS, decide_eq_true_eq] at *; omega
  ntrans x y z h1 h2 := by rw [ltS_ord] at *; simp only [ltS, decide_eq_false_iff_not] at *; omega
theorem ltS_total (x y : Seed) (h1 : ltOf ordS x y = false) (h2 : ltOf ordS y x = false) : x = y := by
  rw [ltS_ord] at *
  simp only [ltS, decide_eq_false_iff_not] at *
  exact seed_ext (by omega) (by omega) (by omega)

/-- A seed laid in its place; one that is there already isn't laid twice. -/
def insS (x : Seed) : List Seed → List Seed
  | [] => [x]
  | y :: r => if ltS y x = true then y :: insS x r else if y = x then y :: r else x :: y :: r
def sortU (l : List Seed) : List Seed := l.foldl (fun acc x => insS x acc) []
def Rises (l : List Seed) : Prop := l.Pairwise (fun a b => ltS a b = true)
theorem ltS_trans {a b c : Seed} (h1 : ltS a b = true) (h2 : ltS b c = true) : ltS a c = true := by simp only [ltS, decide_eq_true_eq] at *; omega
theorem ltS_irrefl (a : Seed) : ltS a a = false := by simp [ltS]
theorem ltS_or (a b : Seed) : ltS a b = true ∨ a = b ∨ ltS b a = true := by
  by_cases h1 : ltS a b = true
  · exact .inl h1
  · by_cases h2 : ltS b a = true
    · exact .inr (.inr h2)
    · exact .inr (.inl (ltS_total a b (by rw [ltS_ord]; simpa using h1) (by rw [ltS_ord]; simpa using h2)))
theorem mem_insS (x z : Seed) (l : List Seed) : z ∈ insS x l ↔ z = x ∨ z ∈ l := by
  induction l with
  | nil => simp [insS]
  | cons y r ih =>
    unfold insS
    split
    · simp only [List.mem_cons, ih]
      constructor
      · rintro (h | h | h) <;> simp [h]
      · rintro (h | h | h) <;> simp [h]
    · split
      · rename_i h
        subst h
        simp
      · simp
theorem rises_insS (x : Seed) (l : List Seed) (h : Rises l) : Rises (insS x l) := by
  induction l with
  | nil => simp [insS, Rises]
  | cons y r ih =>
    unfold Rises at h ih ⊢
    rw [List.pairwise_cons] at h
    unfold insS
    split
    · rename_i hlt
      rw [List.pairwise_cons]
      refine ⟨fun z hz => ?_, ih h.2⟩
      rcases (mem_insS x z r).1 hz with rfl | hz
      · exact hlt
      · exact h.1 z hz
    · rename_i hlt
      split
      · rw [List.pairwise_cons]; exact h
      · rename_i hne
        have hxy : ltS x y = true := by
          rcases ltS_or x y with h1 | h1 | h1
          · exact h1
          · exact absurd h1.symm hne
          · exact absurd h1 hlt
        rw [List.pairwise_cons]
        refine ⟨fun z hz => ?_, List.pairwise_cons.2 h⟩
        rcases List.mem_cons.1 hz with rfl | hz
        · exact hxy
        · exact ltS_trans hxy (h.1 z hz)
theorem sortU_fold (l acc : List Seed) (h : Rises acc) : Rises (l.foldl (fun acc x => insS x acc) acc) ∧ ∀ z, z ∈ l.foldl (fun acc x => insS x acc) acc ↔ z ∈ acc ∨ z ∈ l := by
  induction l generalizing acc with
  | nil => exact ⟨h, fun z => by simp⟩
  | cons x r ih =>
    obtain ⟨h1, h2⟩ := ih (insS x acc) (rises_insS x acc h)
    refine ⟨h1, fun z => ?_⟩
    rw [List.foldl_cons, h2 z, mem_insS, List.mem_cons]
    constructor
    · rintro ((h | h) | h) <;> simp [h]
    · rintro (h | h | h) <;> simp [h]
theorem rises_sortU (l : List Seed) : Rises (sortU l) := (sortU_fold l [] List.Pairwise.nil).1
theorem mem_sortU (l : List Seed) (z : Seed) : z ∈ sortU l ↔ z ∈ l := by rw [sortU, (sortU_fold l [] List.Pairwise.nil).2 z]; simp
/-- Two rising lists of the same seeds are one. -/
theorem rises_unique {a b : List Seed} (ha : Rises a) (hb : Rises b) (h : ∀ z, z ∈ a ↔ z ∈ b) : a = b := by
  induction a generalizing b with
  | nil =>
    cases b with
    | nil => rfl
    | cons y r => exact absurd ((h y).2 (by simp)) (by simp)
  | cons x r ih =>
    cases b with
    | nil => exact absurd ((h x).1 (by simp)) (by simp)
    | cons y s =>
      unfold Rises at ha hb ih
      rw [List.pairwise_cons] at ha hb
      have hxy : x = y := by
        rcases List.mem_cons.1 ((h x).1 (by simp)) with e | e
        · exact e
        · rcases List.mem_cons.1 ((h y).2 (by simp)) with e' | e'
          · exact e'.symm
          · have h1 := hb.1 x e
            have h2 := ha.1 y e'
            have := ltS_trans h1 h2
            rw [ltS_irrefl] at this
            exact absurd this (by simp)
      subst hxy
      refine congrArg (x :: ·) (ih ha.2 hb.2 (fun z => ?_))
      have hz := h z
      simp only [List.mem_cons] at hz
      constructor
      · intro hr
        rcases hz.1 (.inr hr) with e | e
        · subst e; have := ha.1 z hr; rw [ltS_irrefl] at this; exact absurd this (by simp)
        · exact e
      · intro hr
        rcases hz.2 (.inr hr) with e | e
        · subst e; have := hb.1 z hr; rw [ltS_irrefl] at this; exact absurd this (by simp)
        · exact e

/-- What is sorted, and compacted: each once, rising. -/
theorem compact_sorted (l : List Seed) (d : Array Seed) (hs : ∀ i j, i < j → j < d.size → ltS d[j]! d[i]! = false) (hm : ∀ z, z ∈ d.toList ↔ z ∈ l) : compactUpTo d d.size = sortU l := by
  have key : ∀ m, m ≤ d.size → Rises (compactUpTo d m) ∧ (∀ z, z ∈ compactUpTo d m ↔ ∃ j, j < m ∧ d[j]! = z) := by
    intro m
    induction m with
    | zero => intro _; exact ⟨by simp [compactUpTo, Rises], fun z => by simp [compactUpTo]⟩
    | succ m ih =>
      intro hm
      obtain ⟨h1, h2⟩ := ih (by omega)
      rw [compactUpTo_succ]
      by_cases hk : keeps d m = true
      · rw [if_pos hk]
        have hlt : ∀ j, j < m → ltS d[j]! d[m]! = true := by
          intro j hj
          have hne : d[m]! ≠ d[m - 1]! := by
            unfold keeps at hk
            rw [decide_eq_true_eq] at hk
            rcases hk with hk | hk
            · omega
            · exact hk
          have h3 : ltS d[m - 1]! d[m]! = true := by
            rcases ltS_or d[m - 1]! d[m]! with h | h | h
            · exact h
            · exact absurd h.symm hne
            · rw [hs (m - 1) m (by omega) (by omega)] at h; exact absurd h (by simp)
          by_cases e : j = m - 1
          · subst e; exact h3
          · rcases ltS_or d[j]! d[m - 1]! with h | h | h
            · exact ltS_trans h h3
            · rw [h]; exact h3
            · rw [hs j (m - 1) (by omega) (by omega)] at h; exact absurd h (by simp)
        refine ⟨?_, fun z => ?_⟩
        · unfold Rises
          rw [List.pairwise_append]
          refine ⟨h1, by simp, fun a ha b hb => ?_⟩
          rw [List.mem_singleton] at hb
          subst hb
          obtain ⟨j, hj, rfl⟩ := (h2 a).1 ha
          exact hlt j hj
        · rw [List.mem_append, List.mem_singleton, h2 z]
          constructor
          · rintro (⟨j, hj, e⟩ | e)
            · exact ⟨j, by omega, e⟩
            · exact ⟨m, by omega, e.symm⟩
          · rintro ⟨j, hj, e⟩
            by_cases h : j = m
            · subst h; exact .inr e.symm
            · exact .inl ⟨j, by omega, e⟩
      · rw [if_neg hk, List.append_nil]
        refine ⟨h1, fun z => ?_⟩
        have h0 : ¬ m = 0 ∧ d[m]! = d[m - 1]! := by
          unfold keeps at hk
          rw [decide_eq_true_eq] at hk
          constructor
          · intro h; exact hk (.inl h)
          · by_cases h : d[m]! = d[m - 1]!
            · exact h
            · exact absurd (.inr h) hk
        rw [h2 z]
        constructor
        · rintro ⟨j, hj, e⟩; exact ⟨j, by omega, e⟩
        · rintro ⟨j, hj, e⟩
          by_cases h : j = m
          · subst h; exact ⟨j - 1, by omega, by rw [← h0.2]; exact e⟩
          · exact ⟨j, by omega, e⟩
  obtain ⟨h1, h2⟩ := key d.size (Nat.le_refl _)
  refine rises_unique h1 (rises_sortU l) (fun z => ?_)
  rw [h2 z, mem_sortU, ← hm z]
  constructor
  · rintro ⟨j, hj, rfl⟩
    rw [getElem!_pos d j hj]
    exact Array.getElem_mem_toList hj
  · intro hz
    obtain ⟨j, hj, e⟩ := List.getElem_of_mem hz
    exact ⟨j, by simpa using hj, by rw [getElem!_pos d j (by simpa using hj)]; simpa using e⟩

/-- As the printed functions take it: below a bound that no row of seeds reaches. -/
def seedsSortF (l : List Seed) : Option (List Seed) := if l.length < 5864062014805 then some (sortU l) else none

/-! ### A row of seeds, told by kinds, and as a block -/
theorem reps_flat {R : Seed → List Value → Prop} (hR : ∀ p cs, R p cs → cs = encS p) : ∀ (l : List Seed) (cs : List Value), Reps R 3 l cs → cs = l.flatMap encS := by
  intro l
  induction l with
  | nil =>
    intro cs h
    have := h.1
    simp at this
    simp [this]
  | cons x r ih =>
    intro cs h
    have h0 := hR _ _ (h.2 0 x rfl)
    rw [Nat.zero_mul, List.drop_zero] at h0
    have h1 : Reps R 3 r (cs.drop 3) := by
      refine ⟨by have := h.1; simp at this ⊢; omega, fun j p hj => ?_⟩
      have := h.2 (j + 1) p (by simpa using hj)
      rwa [show (j + 1) * 3 = 3 + j * 3 by omega, ← List.drop_drop] at this
    rw [List.flatMap_cons, ← ih _ h1, ← h0, List.take_append_drop]
theorem flat_reps {R : Seed → List Value → Prop} (hR : ∀ p, R p (encS p)) : ∀ l : List Seed, Reps R 3 l (l.flatMap encS) := by
  intro l
  induction l with
  | nil => exact Reps.none _ _
  | cons x r ih =>
    refine ⟨by have := ih.1; simp [encS] at this ⊢; omega, fun j p hj => ?_⟩
    rcases j with _ | j
    · have : x = p := by simpa using hj
      subst this
      rw [Nat.zero_mul, List.drop_zero, List.flatMap_cons, show List.take 3 (encS x ++ List.flatMap encS r) = encS x by rw [← encS_len x, List.take_left]]
      exact hR x
    · have := ih.2 j p (by simpa using hj)
      rw [List.flatMap_cons, show (j + 1) * 3 = 3 + j * 3 by omega, ← List.drop_drop, show List.drop 3 (encS x ++ List.flatMap encS r) = List.flatMap encS r by rw [← encS_len x, List.drop_left]]
      exact this
theorem R_rowS {w : World} {base : Nat} {ok : Nat → Prop} {v : Value} {l : List Seed} (h : Kd.R k25 25 w base ok v l) :
    (v = .slice none 0 0 ∧ l = []) ∨ ∃ B cap, v = .slice (some ⟨B, 0, none⟩) l.length cap ∧ base ≤ B ∧ cap ≤ maxLen ∧ SeedRow B cap l.toArray w := by
  obtain ⟨_, inner, ho, hr⟩ := h
  exact ownsRow_RowIn encS_len ho (reps_flat (fun p cs h => k25_openM h) l inner hr)
theorem rowS_R {w : World} {base B cap : Nat} {l : List Seed} (h : SeedRow B cap l.toArray w) (hb : base ≤ B) (hc : cap ≤ maxLen) : Kd.R k25 25 w base (fun _ => True) (.slice (some ⟨B, 0, none⟩) l.length cap) l :=
  ⟨fun _ _ => trivial, _, RowIn_ownsRow encS_len h hb hc, flat_reps (fun p => k25_mkM _ _ _ p) l⟩

theorem compact_none (A : Option Addr) (c : Nat) (w : World) : Calls Try.prog 76 #[.slice A 0 c] w fun e w' => e = .returned (.slice A 0 c) ∧ w' = w := by
  go_enter Try.func76, Try.ntmps76
  go_wp2
  go_ret
  exact ⟨rfl, rfl⟩
theorem sort_none (A : Option Addr) (c : Nat) (fv : Value) (w : World) : Calls Try.prog 74 #[.slice A 0 c, fv] w fun e w' => e = .returned (.tuple #[]) ∧ w' = w :=
  AnyF.slices_SortFunc_none Try.sortSeed A c fv w
theorem sort_row (B cap : Nat) (l : List Seed) (w : World) (h : SeedRow B cap l.toArray w) (hl : l.length < 4611686018427387904) :
    Calls Try.prog 74 #[.slice (some ⟨B, 0, none⟩) l.length cap, .func (.func 75) #[] #[]] w fun e w' =>
      e = .returned (.tuple #[]) ∧ ∃ d : Array Seed, d.size = l.length ∧ (∀ i j, i < j → j < d.size → ltS d[j]! d[i]! = false) ∧ (∀ z, z ∈ d.toList ↔ z ∈ l) ∧ SeedRow B cap d w' ∧ w.grownBy w' (some B) := by
  have eg : ∀ args w, (callFunc 75 args).run Try.prog w = .ok (.enter 75 args) w := enters_of Try.func75 (by kernel_rfl) rfl
  have hz : l.toArray.size = l.length := by simp
  have hc := AnyQ.slices_SortFunc Try.sortSeed 3 (fun w => by kernel_rfl) (fun w => by kernel_rfl) encS encS_len (fun x v hv => by simp [encS] at hv; rcases hv with rfl | rfl | rfl <;> rfl) ordS ltS_swo 75 #[] B 0 cap l.toArray w eg (fun m os dk _ x y => order_calls x y _) (RowIn.holds encS_len h) (RowIn.lt h) (by rw [hz]; exact hl)
  rw [hz] at hc
  refine hc.mono ?_
  rintro e w' ⟨rfl, d, n, os, hp, hs, rfl⟩
  have hsz : d.size = l.length := by rw [hp.1, hz]
  refine ⟨rfl, d, hsz, fun i j hij hj => ?_, fun z => ?_, RowIn.sorted encS_len h n d (by rw [hsz, hz]) os, sortWorld_grown n d os (RowIn.lt h)⟩
  · rw [← ltS_ord]
    exact hs i j (Nat.zero_le _) hij (by rw [← hsz]; exact hj)
  · have hperm := hp.2.2
    have e1 : d.extract 0 l.length = d := by rw [← hsz]; simp
    have e2 : l.toArray.extract 0 l.length = l.toArray := by rw [← hz]; simp
    rw [e1, e2] at hperm
    exact hperm.mem_iff

set_option maxHeartbeats 1000000 in
theorem seedsSort_calls (A0 : Option Addr) (c0 : Nat) (l0 : List Seed) (r : List Seed) (w : World) (hr0 : Kd.C k25 w A0 l0.length l0) (hc0 : l0.length ≤ c0) (h : seedsSortF l0 = some r) :
    Calls Try.prog 29 #[.slice A0 l0.length c0] w fun e w' => ∃ v0_ : Value, e = .returned (v0_) ∧ Kd.R k25 25 w' w.heap.size (fun _ => True) v0_ r ∧ Below w.heap.size w w' := by
  unfold seedsSortF at h
  by_cases hl : l0.length < 5864062014805
  · rw [if_pos hl] at h
    obtain rfl := Option.some.inj h
    clear h
    have hclone : Calls Try.prog 73 #[.slice A0 l0.length c0] w fun e w' => ∃ v, e = .returned v ∧ Kd.R k25 25 w' w.heap.size (fun _ => True) v l0 ∧ Below w.heap.size w w' := by
      cases A0 with
      | none =>
        obtain rfl := C_none hr0
        exact (clone_nil _ _ w).mono fun _ _ ⟨he, hw⟩ => ⟨_, he, Kd.R_nil _ _ _ _ _, by rw [hw]; exact Below.refl _ _⟩
      | some ad => exact clone_some ad c0 l0 w hr0 hl
    have HL := Aside0.mk hl
    clear hr0 hc0 hl
    go_enter Try.func29, Try.ntmps29
    go_wp2_with fail
    refine hclone.mono ?_
    rintro e w1 ⟨v, rfl, hR, hB⟩
    clear hclone
    rcases R_rowS hR with ⟨rfl, rfl⟩ | ⟨B, cap, rfl, hBb, hcap, hrow⟩
    · clear hR
      have HB := Aside0.mk hB
      clear hB
      go_wp2_with (first | (go_at_call 74; refine (sort_none _ _ _ _).mono ?_; rintro e w2 ⟨rfl, rfl⟩) | (go_at_call 76; refine (compact_none _ _ _).mono ?_; rintro e w2 ⟨rfl, rfl⟩))
      go_ret
      exact ⟨_, rfl, Kd.R_nil _ _ _ _ _, HB.out⟩
    · clear hR
      have HB := Aside0.mk hB
      have HBb := Aside0.mk hBb
      have HC := Aside0.mk hcap
      have HS := Aside0.mk (sort_row B cap l0 w1 hrow (by have := HL.out; omega))
      clear hB hBb hcap hrow
      go_wp2_with fail
      refine HS.out.mono ?_
      rintro e w2 ⟨rfl, d, hd, hs, hm, hrow, hg⟩
      have HP := Aside0.mk (compact_sorted l0 d hs hm)
      have hcc := compact_calls B cap d w2 hrow (by have := HC.out; unfold maxLen at this; omega)
      rw [hd, ← hd, HP.out] at hcc
      have HQ := Aside0.mk hcc
      have HG := Aside0.mk hg
      have HD := Aside0.mk hd
      clear hs hm hrow hg hcc HS
      rw [← hd]
      clear hd
      go_wp2_with fail
      refine HQ.out.mono ?_
      rintro e w3 ⟨rfl, hrow3, hg3⟩
      have HR3 := Aside0.mk hrow3
      have HG3 := Aside0.mk hg3
      clear hrow3 hg3
      go_wp2
      go_ret
      refine ⟨_, rfl, rowS_R HR3.out HBb.out HC.out, ?_⟩
      exact HB.out.grown (grownBy_trans HG.out HG3.out) (HB.out.size) (fun k hk => by
        have : B = k := by simpa using hk
        rw [← this]; exact HBb.out)
  · rw [if_neg hl] at h
    exact absurd h (by simp)
end Go.Proofs.Ytgcfcemgeppkmaa.P
