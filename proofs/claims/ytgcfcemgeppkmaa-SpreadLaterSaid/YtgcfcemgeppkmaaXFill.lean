/-
  sweeper.fill: the ring is told all seeds that it can take.
-/
import Derived.Test.YtgcfcemgeppkmaaXSw
import Derived.StillTailTactics
import Derived.Deep.RegionHeld3
namespace Go.Proofs.Ytgcfcemgeppkmaa.P
open Go.RowKit Go.Proofs.YtgcfcemgeppkmaaW.PrintWords Go.Proofs.YtgcfcemgeppkmaaW.PrintLast Go.Proofs.YtgcfcemgeppkmaaW.PrintMore
open Go.Proofs.Ytgcfcemgeppkmaa.Dist
set_option linter.unusedVariables false
set_option linter.unusedSimpArgs false

def todoT (l : List Seed) (i : Nat) (k : Int) : Prop := ∃ x, x ∈ l ∧ x.f0 = (i : Int) ∧ x.f2 = k
abbrev KX : Int := 1073741824
abbrev MX : Int := 254
/-- What may still be told: in order, of cells. -/
structure TodoOk (N : Nat) (a : Int) (l : List Seed) : Prop where
  sorted : l.Pairwise (fun x y => x.f2 ≤ y.f2)
  ok : ∀ x, x ∈ l → a ≤ x.f2 ∧ x.f2 ≤ KX ∧ 0 ≤ x.f0 ∧ x.f0 < (N : Int)
theorem TodoOk.tail {N : Nat} {a : Int} {x : Seed} {l : List Seed} (h : TodoOk N a (x :: l)) : TodoOk N a l := ⟨(List.pairwise_cons.1 h.sorted).2, fun y hy => h.ok y (List.mem_cons_of_mem _ hy)⟩
theorem TodoOk.jump {N : Nat} {a : Int} {x : Seed} {l : List Seed} (h : TodoOk N a (x :: l)) : TodoOk N x.f2 (x :: l) := ⟨h.sorted, fun y hy => by
  have h1 := h.ok y hy
  rcases List.mem_cons.1 hy with rfl | hy
  · exact ⟨Int.le_refl _, h1.2⟩
  · exact ⟨(List.pairwise_cons.1 h.sorted).1 y hy, h1.2⟩⟩

variable {w w' : World} {s G gd base : Nat} {W H : Int} {AT : Option Addr} {cT : Nat} {C : List Int} {AS : Option Addr} {cS : Nat} {todo : List Seed} {cd : Nat} {d : List Int} {a : Int} {n P : Nat} {B : Nat → List Int}

theorem SwM.seedAt {x : Seed} {r : List Seed} (h : SwM w s G gd base W H AT cT C AS cS (x :: r) cd d a n P B) : ∃ ad, AS = some ad ∧ w.cell? ad = some (.int .i64 x.f0) ∧ w.cell? ⟨ad.block, ad.off + 1, none⟩ = some (.int .i64 x.f1) ∧ w.cell? ⟨ad.block, ad.off + 2, none⟩ = some (.int .i64 x.f2) := by
  have := at_T25 h.seeds 0 (by omega) (by simp)
  simpa [rd_T25, Addr.add_zero'] using this

/-- What a call of fill may change. -/
abbrev FillS (s G base : Nat) : Nat → Prop := fun k => k = s ∨ k = G ∨ base ≤ k

/-- The list goes on by one. -/
theorem SwM.next {x : Seed} {r : List Seed} (h : SwM w s G gd base W H AT cT C AS cS (x :: r) cd d a n P B) : SwM (w.setCell ⟨s, 4, none⟩ (.slice (if cS = 1 then AS else AS.map (·.add 3)) r.length (cS - 1))) s G gd base W H AT cT C (if cS = 1 then AS else AS.map (·.add 3)) (cS - 1) r cd d a n P B := by
  have hc : Chg (fun k => k = s) w (w.setCell ⟨s, 4, none⟩ (.slice (if cS = 1 then AS else AS.map (·.add 3)) r.length (cS - 1))) := (Chg.refl (fun k => k = s) w).set_ (p := ⟨s, 4, none⟩) (.inl rfl) _
  have hsc := h.seedsC
  have hd := Kd.C_drop h.seeds (m := 1) (c := cS) (by simp) hsc
  have hA : ∀ ad, (if cS = 1 then AS else AS.map (·.add 3)) = some ad → ∃ ad0, AS = some ad0 ∧ ad.block = ad0.block := by
    intro ad he
    split at he
    · exact ⟨ad, he, rfl⟩
    · cases hAS : AS with
      | none => rw [hAS] at he; exact absurd he (by simp)
      | some ad0 =>
        rw [hAS] at he
        have : ad0.add 3 = ad := by simpa using he
        exact ⟨ad0, rfl, by rw [← this]; cases ad0; simp only [Addr.add]; split <;> rfl⟩
  have hsB : ∀ ad, (if cS = 1 then AS else AS.map (·.add 3)) = some ad → ad.block ≠ G ∧ ad.block ≠ s ∧ ad.block ≠ gd ∧ ad.block < base := by
    intro ad he
    obtain ⟨ad0, e1, e2⟩ := hA ad he
    rw [e2]
    exact h.seedsB ad0 e1 (by simp)
  refine ⟨set_blk h.blk 4 _, flat_int h.tile hc (fun ad e h0 => (h.tileB ad e h0).2.1), h.tileB, ?_, fun ad e _ => hsB ad e, by simp at hsc; omega, RowIn.heap h.dist (hc.block gd (RowIn.lt h.dist) h.gs), h.dlen, h.ring.chg hc (fun k hk => by rw [hk]; exact ⟨h.sG, h.sB⟩), h.sG, h.gs, h.gG, h.sB, h.gB⟩
  have hd2 : Kd.C k25 w (if cS = 1 then AS else AS.map (·.add 3)) r.length r := hd
  exact flat_seed hd2 hc (fun ad e h0 => (hsB ad e).2.1)

/-- Where nothing waits: the key of the first seed. -/
structure FillI (g : Gr) (N : Nat) (todo_ : List Seed) (d : List Int) (a : Int) (n P : Nat) (B : Nat → List Int) : Prop where
  inv : Inv g KX MX (todoT todo_) a (memR a B) (fun i => rd d i)
  todo : TodoOk N a todo_
  items : itemsOk N B
  room : P + List.length todo_ + 1100 ≤ 17592186044416

theorem todoT_cons (x : Seed) (r : List Seed) (i0 : Nat) (h0 : x.f0 = (i0 : Int)) : todoT (x :: r) i0 x.f2 ∧ (∀ i k, todoT (x :: r) i k → todoT r i k ∨ (i = i0 ∧ k = x.f2)) ∧ ∀ i k, todoT r i k → todoT (x :: r) i k := by
  refine ⟨⟨x, by simp, h0, rfl⟩, ?_, ?_⟩
  · rintro i k ⟨y, hy, e1, e2⟩
    rcases List.mem_cons.1 hy with rfl | hy
    · exact .inr ⟨by omega, e2.symm⟩
    · exact .inl ⟨y, hy, e1, e2⟩
  · rintro i k ⟨y, hy, e⟩
    exact ⟨y, List.mem_cons_of_mem _ hy, e⟩

set_option maxRecDepth 100000 in
set_option maxHeartbeats 4000000 in
theorem fill_calls (g : Gr) (hsrc : ∀ i k, g.src i k → i < g.n ∧ g.opn i ∧ k ≤ KX) (h : SwM w s G gd base W H AT cT C AS cS todo cd d a n P B) (hI : FillI g C.length todo d a n P B) :
    Calls Try.prog 112 #[.pointer (some ⟨s, 0, none⟩)] w fun e w' => e = .returned (.tuple #[]) ∧ ∃ a' n' P' B' AS' cS' todo', SwM w' s G gd base W H AT cT C AS' cS' todo' cd d a' n' P' B' ∧ Chg (FillS s G base) w w' ∧
      FillI g C.length todo' d a' n' P' B' ∧ n' + todo'.length = n + todo.length ∧ P' + todo'.length = P + todo.length ∧ (n' = 0 → todo' = []) ∧ ∀ x, x ∈ todo' → a' + 256 ≤ x.f2 := by
  have ha0 := h.ring.a0
  obtain ⟨c0, c1, c2, c3, c4, c5⟩ := h.cells
  have HM := Aside0.mk h
  have HI := Aside0.mk hI
  have HS := Aside0.mk hsrc
  have hlen := len_calls G base a n P B w h.ring
  have HL := Aside0.mk hlen
  clear h hI hsrc hlen
  have hn63 : n < 4611686018427387904 := by have := HI.out.room; have := HM.out.ring.n_le; omega
  cases todo with
  | nil =>
    have z0 : (([] : List Seed).length : Int) = 0 := rfl
    rw [show ([] : List Seed).length = 0 from rfl] at c4
    go_enter Try.func112, Try.ntmps112
    go_wp2
    go_loopg [] 0 (fun gg wr => ∃ q, wr = w.drewN q)
    case atStart => exact ⟨0, rfl⟩
    case round =>
      obtain ⟨q, rfl⟩ := hrel
      go_wp2_with fail
      go_quiet (fail)
      go_wp2
      go_end0
      rw [World.drewN_drewN]
      exact ⟨rfl, a, n, P, B, AS, cS, [], HM.out.drawn ⟨⟨_, rfl⟩⟩, Chg.of_below ((⟨⟨_, rfl⟩⟩ : Drawn0 w (w.drewN (q + nq))).below) _, HI.out, rfl, rfl, fun _ => rfl, fun x hx => by simp at hx⟩
  | cons x r =>
    have hlen1 : (x :: r).length = r.length + 1 := rfl
    rw [hlen1] at c4
    obtain ⟨ad, hAS, s0, s1, s2⟩ := HM.out.seedAt
    have HAS := Aside0.mk hAS
    rw [hAS] at c4
    have hpos : (0 : Int) < ((r.length + 1 : Nat) : Int) := by omega
    have hpos2 : decide ((0 : Int) < ((r.length + 1 : Nat) : Int)) = true := decide_eq_true hpos
    clear hAS
    go_enter Try.func112, Try.ntmps112
    go_upto_if 15 with (go_at_call 113; refine HL.out.mono ?_; rintro e w' ⟨rfl, rfl⟩)
    go_cut [] (fun wc => ∃ a1, Aside0 (SwM wc s G gd base W H AT cT C AS cS (x :: r) cd d a1 n P B) ∧ Aside0 (Chg (FillS s G base) w' wc) ∧ Aside0 (FillI g C.length (x :: r) d a1 n P B) ∧ Aside0 (n = 0 → x.f2 < a1 + 256))
    case first =>
      by_cases hn0 : n = 0
      · have hz : ((n : Int) == 0) = true := by rw [beq_iff_eq]; omega
        have hJ := Jump_calls G base a P B x.f2 w'.drew (by have := HM.out.ring; rw [hn0] at this; exact this.drawn ⟨⟨1, rfl⟩⟩) (HI.out.todo.ok x (by simp)).1 (by have := (HI.out.todo.ok x (by simp)).2.1; unfold KX at this; omega)
        have HJ := Aside0.mk hJ
        have HN := Aside0.mk hn0
        clear hJ hn0
        go_wp2_with fail
        have k3 : w'.drew.cell? ⟨s, 3, none⟩ = some (.pointer (some ⟨G, 0, none⟩)) := c3
        have k4 : w'.drew.cell? ⟨s, 4, none⟩ = some (.slice (some ad) (r.length + 1) cS) := c4
        have k5 : w'.drew.cell? ⟨ad.block, ad.off + 2, none⟩ = some (.int .i64 x.f2) := s2
        clear c0 c1 c2 c3 c4 c5 s0 s1 s2
        refine wp_region_still_tail 11 (by kernel_rfl) (by kernel_rfl) ?_
        simp only [List.take_succ_cons, List.take_zero, List.drop_succ_cons, List.drop_zero]
        change wpStill _ _ w'.drew _ _ _
        repeat still_step
        refine wpStill_nil ?_
        change wpList _ _ _ _ _ w'.drew
        go_wp2_with (go_at_call 137; refine HJ.out.mono ?_; rintro e w2 ⟨rfl, hr, hc⟩)
        go_meet
        have hn0 := HN.out
        subst hn0
        exact ⟨x.f2, ⟨HM.out.ringStep hr ⟨hc.os, hc.tape, hc.output, hc.size, hc.block⟩⟩, ⟨(⟨hc.os, hc.tape, hc.output, hc.size, hc.block⟩ : Chg (RingS G base) w' w2).mono (fun k hk => .inr hk)⟩, ⟨⟨HI.out.inv.jump (fun k i => mem_none (by have := HM.out.ring.n_eq; omega) k i) (fun k i => mem_none (by have := HM.out.ring.n_eq; omega) k i) (HI.out.todo.ok x (by simp)).1, HI.out.todo.jump, HI.out.items, HI.out.room⟩⟩, ⟨fun _ => by omega⟩⟩
      · have hz : ((n : Int) == 0) = false := by rw [beq_eq_false_iff_ne]; omega
        have HN := Aside0.mk hn0
        clear hn0
        go_wp2
        go_meet
        exact ⟨a, HM, ⟨Chg.refl _ _⟩, HI, ⟨fun h => absurd h HN.out⟩⟩
    case rest =>
      obtain ⟨a1, HM1, HC1, HI1, HZ1⟩ := hcut
      go_wp2_with fail
      go_loopg [] (r.length + 1) (fun gg wr => ∃ (a2 : Int) (n2 P2 : Nat) (B2 : Nat → List Int) (AS2 : Option Addr) (cS2 : Nat) (td : List Seed), td.length ≤ gg ∧ Aside0 (SwM wr s G gd base W H AT cT C AS2 cS2 td cd d a2 n2 P2 B2) ∧ Aside0 (Chg (FillS s G base) w' wr) ∧ Aside0 (FillI g C.length td d a2 n2 P2 B2) ∧ Aside0 (n2 + td.length = n + (x :: r).length) ∧ Aside0 (P2 + td.length = P + (x :: r).length) ∧ Aside0 (n2 = 0 → ∀ y t, td = y :: t → y.f2 < a2 + 256))
      case atStart => exact ⟨a1, n, P, B, AS, cS, x :: r, Nat.le_refl _, HM1, HC1, HI1, ⟨rfl⟩, ⟨rfl⟩, ⟨fun h y t e => by injection e with e1 e2; rw [← e1]; exact HZ1.out h⟩⟩
      case round =>
        obtain ⟨a2, n2, P2, B2, AS2, cS2, td, hgg, HM2, HC2, HI2, HN2, HP2, HZ2⟩ := hrel
        clear c0 c1 c2 c3 c4 c5 s0 s1 s2 hpos hpos2 hlen1
        obtain ⟨c0, c1, c2, c3, c4, c5⟩ := HM2.out.cells
        cases td with
        | nil =>
          have z0 : (([] : List Seed).length : Int) = 0 := rfl
          rw [show ([] : List Seed).length = 0 from rfl] at c4
          clear z0
          go_wp2_with fail
          go_quiet (fail)
          go_wp2
          go_end0
          exact ⟨rfl, a2, n2, P2, B2, AS2, cS2, [], HM2.out.drawn ⟨⟨_, rfl⟩⟩, HC2.out.then_ (Chg.of_below ((⟨⟨_, rfl⟩⟩ : Drawn0 wr (wr.drewN nq)).below) (fun _ => False)) (fun _ h => h.elim), HI2.out, HN2.out, HP2.out, fun _ => rfl, fun x hx => by simp at hx⟩
        | cons y t =>
          have hlen1 : (y :: t).length = t.length + 1 := rfl
          rw [hlen1] at c4 hgg
          obtain ⟨ad2, hAS2, s0, s1, s2⟩ := HM2.out.seedAt
          have HAS2 := Aside0.mk hAS2
          rw [hAS2] at c4
          have hpos : (0 : Int) < ((t.length + 1 : Nat) : Int) := by omega
          have hpos2 : decide ((0 : Int) < ((t.length + 1 : Nat) : Int)) = true := decide_eq_true hpos
          have hy := HI2.out.todo.ok y (by simp)
          have hy2 : y.f2 ≤ 4611686018427387904 := by have := hy.2.1; unfold KX at this; omega
          have HY := Aside0.mk hy
          clear hAS2 hlen1 hy
          by_cases hnear : y.f2 - a2 < 256
          · have hroom := HI2.out.room
            rw [List.length_cons] at hroom
            obtain ⟨i0, hi0⟩ : ∃ i0 : Nat, y.f0 = (i0 : Int) := ⟨y.f0.toNat, by have := HY.out.2.2.1; omega⟩
            have hP := Put_yes G base a2 n2 P2 B2 y.f2 y.f0 wr.drew (HM2.out.ring.drawn ⟨⟨1, rfl⟩⟩) HY.out.1 hy2 hnear (by omega)
            have HP := Aside0.mk hP
            have k3 : wr.drew.cell? ⟨s, 3, none⟩ = some (.pointer (some ⟨G, 0, none⟩)) := c3
            have k4 : wr.drew.cell? ⟨s, 4, none⟩ = some (.slice (some ad2) (t.length + 1) cS2) := c4
            have k5 : wr.drew.cell? ⟨ad2.block, ad2.off + 2, none⟩ = some (.int .i64 y.f2) := s2
            have k6 : wr.drew.cell? ad2 = some (.int .i64 y.f0) := s0
            have HI0 := Aside0.mk hi0
            clear hP c0 c1 c2 c3 c4 c5 s0 s1 s2 hi0
            go_wp2_with fail
            refine wp_region_still_tail 25 (by kernel_rfl) (by kernel_rfl) ?_
            simp only [List.take_succ_cons, List.take_zero, List.drop_succ_cons, List.drop_zero]
            change wpStill _ _ wr.drew _ _ _
            repeat still_step
            refine wpStill_nil ?_
            change wpList _ _ _ _ _ wr.drew
            go_wp2_with (go_at_call 138; refine HP.out.mono ?_; rintro e w2 ⟨rfl, hr, hc⟩; have hM3 := HM2.out.ringStep hr ⟨hc.os, hc.tape, hc.output, hc.size, hc.block⟩; have HC3 := Aside0.mk ((⟨hc.os, hc.tape, hc.output, hc.size, hc.block⟩ : Chg (RingS G base) wr w2).mono (fun k (hk : RingS G base k) => (.inr hk : FillS s G base k))); obtain ⟨m0, m1, m2, m3, m4, m5⟩ := hM3.cells; rw [HAS2.out] at m4; have mf := free_blk hM3.blk 4; have HM3 := Aside0.mk hM3; clear hr hc hM3)
            all_goals
              go_roundg t.length
              case measure => omega
              case rel =>
                have hnext := HM3.out.next
                rw [HAS2.out] at hnext
                have hfin : ∀ (A3 : Option Addr) (c3 : Nat) (wz : World), SwM wz s G gd base W H AT cT C A3 c3 t cd d a2 (n2 + 1) (P2 + 1) (updB B2 (y.f2 % 256).toNat (B2 (y.f2 % 256).toNat ++ [y.f0])) → Chg (fun k => k = s) w2 wz → ∃ (a3 : Int) (n3 P3 : Nat) (B3 : Nat → List Int) (AS3 : Option Addr) (cS3 : Nat) (td : List Seed), td.length ≤ t.length ∧ Aside0 (SwM wz s G gd base W H AT cT C AS3 cS3 td cd d a3 n3 P3 B3) ∧ Aside0 (Chg (FillS s G base) w' wz) ∧ Aside0 (FillI g C.length td d a3 n3 P3 B3) ∧ Aside0 (n3 + td.length = n + (x :: r).length) ∧ Aside0 (P3 + td.length = P + (x :: r).length) ∧ Aside0 (n3 = 0 → ∀ y t, td = y :: t → y.f2 < a3 + 256) := by
                  intro A3 c3 wz hz hcz
                  obtain ⟨q1, q2, q3⟩ := todoT_cons y t i0 HI0.out
                  have hcc := HC3.out
                  refine ⟨a2, n2 + 1, P2 + 1, _, A3, c3, t, Nat.le_refl _, ⟨hz⟩, ⟨(HC2.out.trans hcc).trans (hcz.mono (fun k hk => .inl hk))⟩, ⟨⟨?_, HI2.out.todo.tail, HI2.out.items.put _ HY.out.2.2.1 HY.out.2.2.2, by omega⟩⟩, ⟨?_⟩, ⟨?_⟩, ⟨fun h => by omega⟩⟩
                  · refine HI2.out.inv.fill (by decide) HS.out q1 HY.out.1 q2 q3 (fun k i => ?_)
                    rw [HI0.out]
                    exact mem_put HY.out.1 (by omega) k i
                  · have := HN2.out; rw [List.length_cons] at this; omega
                  · have := HP2.out; rw [List.length_cons] at this; omega
                rcases Nat.decEq cS2 1 with hc1 | hc1
                · rw [if_neg hc1] at hnext
                  first
                    | exact absurd (by assumption) hc1
                    | refine hfin (some ⟨ad2.block, ad2.off + 3, none⟩) (cS2 - 1) _ ?_ ((Chg.refl (fun k => k = s) w2).set_ (p := ⟨s, 4, none⟩) (.inl rfl) _)
                      exact hnext
                · rw [if_pos hc1] at hnext
                  first
                    | exact absurd hc1 (by assumption)
                    | have e0 : cS2 - 1 = 0 := by omega
                      rw [e0] at hnext
                      refine hfin (some ad2) 0 _ ?_ ((Chg.refl (fun k => k = s) w2).set_ (p := ⟨s, 4, none⟩) (.inl rfl) _)
                      exact hnext
          · have hP := fun q => Put_no G base a2 n2 P2 B2 y.f2 y.f0 (wr.drewN q) (HM2.out.ring.drawn ⟨⟨q, rfl⟩⟩) HY.out.1 hy2 (by omega)
            have HP := Aside0.mk hP
            clear hP
            go_wp2_with fail
            go_quiet ((go_at_call 138; refine (HP.out _).mono ?_; rintro e w1 ⟨rfl, rfl⟩; exact ⟨rfl, _, rfl⟩))
            go_wp2
            go_end0
            refine ⟨rfl, a2, n2, P2, B2, AS2, cS2, y :: t, HM2.out.drawn ⟨⟨_, rfl⟩⟩, HC2.out.then_ (Chg.of_below ((⟨⟨_, rfl⟩⟩ : Drawn0 wr (wr.drewN nq)).below) (fun _ => False)) (fun _ h => h.elim), HI2.out, HN2.out, HP2.out, fun h => ?_, fun z hz => ?_⟩
            · have := HZ2.out h y t rfl
              omega
            · rcases List.mem_cons.1 hz with rfl | hz
              · omega
              · have := (List.pairwise_cons.1 HI2.out.todo.sorted).1 z hz
                omega
end Go.Proofs.Ytgcfcemgeppkmaa.P
