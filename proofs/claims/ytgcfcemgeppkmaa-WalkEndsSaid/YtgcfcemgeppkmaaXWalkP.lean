/-
  PLAIN: where a way by directions leads.
-/
import Derived.Test.YtgcfcemgeppkmaaXEnvF
namespace Go.Proofs.Ytgcfcemgeppkmaa.P
open Go.RowKit Go.Proofs.YtgcfcemgeppkmaaW.PrintWords Go.Proofs.YtgcfcemgeppkmaaW.PrintLast Go.Proofs.YtgcfcemgeppkmaaW.PrintMore
open Go.Proofs.Ytgcfcemgeppkmaa.Dist
set_option linter.unusedVariables false
set_option linter.unusedSimpArgs false

theorem add_noneW (b o p : Nat) : (⟨b, o, none⟩ : Addr).add p = ⟨b, o + p, none⟩ := by unfold Addr.add; split <;> simp_all
/-- One step nearer. -/
def StepW (C D : List Int) (a b : Int) : Prop := ∃ a' b' : Nat, a = a' ∧ b = b' ∧ a' < C.length ∧ b' < C.length ∧ rd D b < rd D a ∧ rd D a = rd D b + rd C b
/-- Where it ends. -/
def FinW (C D E : List Int) (s : List Seed) (z : Int) : Prop := ∃ z' : Nat, z = z' ∧ z' < C.length ∧ rd E z ≠ 5 ∧ bestS s z (rd E z) = rd D z
theorem rd_cons (c : Int) (L : List Int) (k : Nat) : rd (c :: L) ((k + 1 : Nat) : Int) = rd L (k : Int) := by
  unfold rd
  rw [Int.toNat_natCast, Int.toNat_natCast]
  rfl
theorem goS_way {W H : Int} {C : List Int} (hb : ∀ x ∈ C, 0 ≤ x ∧ x ≤ 255) {s : List Seed} (hs : SeedsOk W H C s) {D E : List Int} (hD : D = distOf W C s) (hE : E = dirsOf W H C s) : ∀ (m c : Nat), c < C.length → rd D c ≠ INF → countLt (fun i => rd D (i : Int)) (rd D c) C.length ≤ m →
    0 < (goS W H E m c).length ∧ rd (goS W H E m c) 0 = c ∧ (∀ k : Nat, k + 1 < (goS W H E m c).length → StepW C D (rd (goS W H E m c) (k : Int)) (rd (goS W H E m c) ((k + 1 : Nat) : Int))) ∧ FinW C D E s (rd (goS W H E m c) (((goS W H E m c).length - 1 : Nat) : Int)) := by
  have hstep : ∀ c : Nat, c < C.length → rd D c ≠ INF → (0 ≤ nearS W H c (rd E c) → ∃ j : Nat, nearS W H c (rd E c) = (j : Int) ∧ StepW C D c j) ∧ (¬ 0 ≤ nearS W H c (rd E c) → FinW C D E s c) := by
    intro c hc hf
    have hEc : rd E (c : Int) = dirS W H C s (distOf W C s) c := by rw [hE]; exact dirs_at W H C s hc
    have hspec := dir_spec hb hs hc (d := rd E (c : Int)) hEc.symm
    rw [← hD] at hspec
    rcases hspec with ⟨_, h⟩ | ⟨_, h4, hbe⟩ | ⟨_, hsd, _, hby, _⟩
    · exact absurd h hf
    · refine ⟨fun h => ?_, fun _ => ⟨c, rfl, hc, by rw [h4]; omega, by rw [h4]; exact hbe⟩⟩
      rw [h4, nearS_out (.inr (.inr (by omega)))] at h
      omega
    · rcases hby with ⟨ho, hbe⟩ | ⟨ho, hw, hsum⟩
      · refine ⟨fun h => ?_, fun _ => ⟨c, rfl, hc, by omega, hbe⟩⟩
        rw [nearS_out (.inl ho)] at h
        omega
      · obtain ⟨t1, t2, t3, t4, t5, t6⟩ := hs.1
        obtain ⟨b0, b1, _⟩ := nb_in ⟨t1, t2⟩ ⟨t3, t4⟩ t5 (show (0 : Int) ≤ (c : Int) by omega) (by omega) hsd ho
        obtain ⟨j, hj⟩ : ∃ j : Nat, nbS W c (rd E c) = (j : Int) := ⟨(nbS W c (rd E c)).toNat, by omega⟩
        rw [hj] at b0 b1 hw hsum
        have hjl : j < C.length := by omega
        have hp := (costs_pos hb hs.1 s j hjl hw).1
        have hp' : 1 ≤ rd C (j : Int) := hp
        refine ⟨fun _ => ⟨j, by rw [nearS_in hsd ho, hj], c, j, rfl, rfl, hc, hjl, by omega, by omega⟩, fun h => ?_⟩
        rw [nearS_in hsd ho, hj] at h
        omega
  intro m
  induction m with
  | zero =>
    intro c hc hf hm
    obtain ⟨h1, h2⟩ := hstep c hc hf
    by_cases hn : 0 ≤ nearS W H c (rd E c)
    · obtain ⟨j, hj, a', b', ea, eb, ha, hbl, hlt, _⟩ := h1 hn
      have e1 : c = a' := by omega
      have e2 : j = b' := by omega
      subst e1
      subst e2
      have := countLt_lt (fun i => rd D (i : Int)) hlt C.length hbl rfl
      omega
    · refine ⟨by simp [goS], rfl, fun k hk => by simp [goS] at hk, ?_⟩
      exact h2 hn
  | succ m ih =>
    intro c hc hf hm
    obtain ⟨h1, h2⟩ := hstep c hc hf
    by_cases hn : 0 ≤ nearS W H c (rd E c)
    · obtain ⟨j, hj, hst⟩ := h1 hn
      obtain ⟨a', b', ea, eb, ha, hbl, hlt, hsum⟩ := id hst
      have e1 : c = a' := by omega
      have e2 : j = b' := by omega
      subst e1
      subst e2
      have hcl := countLt_lt (fun i => rd D (i : Int)) hlt C.length hbl rfl
      have hfj : rd D (j : Int) ≠ INF := by
        have := dist_range hb hs hc
        rw [← hD] at this
        omega
      obtain ⟨i1, i2, i3, i4⟩ := ih j hbl hfj (by omega)
      rw [goS_on hn, hj]
      refine ⟨by simp, rfl, fun k hk => ?_, ?_⟩
      · cases k with
        | zero =>
          rw [rd_cons]
          rw [show ((0 : Nat) : Int) = 0 from rfl, i2]
          exact hst
        | succ k =>
          rw [rd_cons, rd_cons]
          exact i3 k (by simp at hk; omega)
      · rw [List.length_cons, Nat.add_sub_cancel]
        obtain ⟨n, hn'⟩ : ∃ n, (goS W H E m (j : Int)).length = n + 1 := ⟨(goS W H E m (j : Int)).length - 1, by omega⟩
        rw [hn', rd_cons]
        rw [hn', Nat.add_sub_cancel] at i4
        exact i4
    · rw [goS_stop hn]
      exact ⟨by simp, rfl, fun k hk => by simp at hk, h2 hn⟩
theorem goS_len (W H : Int) (E : List Int) : ∀ (m : Nat) (c : Int), (goS W H E m c).length ≤ m + 1 := by
  intro m
  induction m with
  | zero => intro c; simp [goS]
  | succ m ih =>
    intro c
    unfold goS
    split
    · have := ih (nearS W H c (rd E c)); simp; omega
    · simp
theorem lastS_rd (l : List Int) (h : 0 < l.length) : lastS l = rd l ((l.length - 1 : Nat) : Int) := by
  unfold lastS
  rw [rd_get l (by omega), List.getLastD_eq_getLast?, List.getLast?_eq_getElem?, List.getElem?_eq_getElem (by omega)]
  rfl
end Go.Proofs.Ytgcfcemgeppkmaa.P
