/-
  sweeper.fill: the ring is told all seeds that it can take. sweeper.run: the distances are the least ones.
-/
import Derived.Test.YtgcfcemgeppkmaaXSw
import Derived.StillTailTactics
import Derived.Deep.RegionHeld3
namespace Go.Proofs.Ytgcfcemgeppkmaa.P
open Go.RowKit Go.Proofs.YtgcfcemgeppkmaaW.PrintWords Go.Proofs.YtgcfcemgeppkmaaW.PrintLast Go.Proofs.YtgcfcemgeppkmaaW.PrintMore
open Go.Proofs.Ytgcfcemgeppkmaa.Dist
set_option linter.unusedVariables false
set_option linter.unusedSimpArgs false

def todoT (l : List Seed) (i : Nat) (k : Int) : Prop := ∃ x, x ∈ l ∧ x.f0 = (i : Int) ∧ x.f2 = k
abbrev KX : Int := 1073741824
abbrev MX : Int := 254
/-- What may still be told: in order, of cells. -/
structure TodoOk (N : Nat) (a : Int) (l : List Seed) : Prop where
  sorted : l.Pairwise (fun x y => x.f2 ≤ y.f2)
  ok : ∀ x, x ∈ l → a ≤ x.f2 ∧ x.f2 ≤ KX ∧ 0 ≤ x.f0 ∧ x.f0 < (N : Int)
theorem TodoOk.tail {N : Nat} {a : Int} {x : Seed} {l : List Seed} (h : TodoOk N a (x :: l)) : TodoOk N a l := ⟨(List.pairwise_cons.1 h.sorted).2, fun y hy => h.ok y (List.mem_cons_of_mem _ hy)⟩
theorem TodoOk.jump {N : Nat} {a : Int} {x : Seed} {l : List Seed} (h : TodoOk N a (x :: l)) : TodoOk N x.f2 (x :: l) := ⟨h.sorted, fun y hy => by
  have h1 := h.ok y hy
  rcases List.mem_cons.1 hy with rfl | hy
  · exact ⟨Int.le_refl _, h1.2⟩
  · exact ⟨(List.pairwise_cons.1 h.sorted).1 y hy, h1.2⟩⟩

variable {w w' : World} {s G gd base : Nat} {W H : Int} {AT : Option Addr} {cT : Nat} {C : List Int} {AS : Option Addr} {cS : Nat} {todo : List Seed} {cd : Nat} {d : List Int} {a : Int} {n P : Nat} {B : Nat → List Int}

theorem SwM.seedAt {x : Seed} {r : List Seed} (h : SwM w s G gd base W H AT cT C AS cS (x :: r) cd d a n P B) : ∃ ad, AS = some ad ∧ w.cell? ad = some (.int .i64 x.f0) ∧ w.cell? ⟨ad.block, ad.off + 1, none⟩ = some (.int .i64 x.f1) ∧ w.cell? ⟨ad.block, ad.off + 2, none⟩ = some (.int .i64 x.f2) := by
  have := at_T25 h.seeds 0 (by omega) (by simp)
  simpa [rd_T25, Addr.add_zero'] using this

/-- What a call of fill may change. -/
abbrev FillS (s G base : Nat) : Nat → Prop := fun k => k = s ∨ k = G ∨ base ≤ k

/-- The list goes on by one. -/
theorem SwM.next {x : Seed} {r : List Seed} (h : SwM w s G gd base W H AT cT C AS cS (x :: r) cd d a n P B) : SwM (w.setCell ⟨s, 4, none⟩ (.slice (if cS = 1 then AS else AS.map (·.add 3)) r.length (cS - 1))) s G gd base W H AT cT C (if cS = 1 then AS else AS.map (·.add 3)) (cS - 1) r cd d a n P B := by
  have hc : Chg (fun k => k = s) w (w.setCell ⟨s, 4, none⟩ (.slice (if cS = 1 then AS else AS.map (·.add 3)) r.length (cS - 1))) := (Chg.refl (fun k => k = s) w).set_ (p := ⟨s, 4, none⟩) (.inl rfl) _
  have hsc := h.seedsC
  have hd := Kd.C_drop h.seeds (m := 1) (c := cS) (by simp) hsc
  have hA : ∀ ad, (if cS = 1 then AS else AS.map (·.add 3)) = some ad → ∃ ad0, AS = some ad0 ∧ ad.block = ad0.block := by
    intro ad he
    split at he
    · exact ⟨ad, he, rfl⟩
    · cases hAS : AS with
      | none => rw [hAS] at he; exact absurd he (by simp)
      | some ad0 =>
        rw [hAS] at he
        have : ad0.add 3 = ad := by simpa using he
        exact ⟨ad0, rfl, by rw [← this]; cases ad0; simp only [Addr.add]; split <;> rfl⟩
  have hsB : ∀ ad, (if cS = 1 then AS else AS.map (·.add 3)) = some ad → ad.block ≠ G ∧ ad.block ≠ s ∧ ad.block ≠ gd ∧ ad.block < base := by
    intro ad he
    obtain ⟨ad0, e1, e2⟩ := hA ad he
    rw [e2]
    exact h.seedsB ad0 e1 (by simp)
  refine ⟨set_blk h.blk 4 _, flat_int h.tile hc (fun ad e h0 => (h.tileB ad e h0).2.1), h.tileB, ?_, fun ad e _ => hsB ad e, by simp at hsc; omega, RowIn.heap h.dist (hc.block gd (RowIn.lt h.dist) h.gs), h.dlen, h.ring.chg hc (fun k hk => by rw [hk]; exact ⟨h.sG, h.sB⟩), h.sG, h.gs, h.gG, h.sB, h.gB⟩
  have hd2 : Kd.C k25 w (if cS = 1 then AS else AS.map (·.add 3)) r.length r := hd
  exact flat_seed hd2 hc (fun ad e h0 => (hsB ad e).2.1)

/-- Where nothing waits: the key of the first seed. -/
structure FillI (g : Gr) (N : Nat) (todo_ : List Seed) (d : List Int) (a : Int) (n P : Nat) (B : Nat → List Int) : Prop where
  inv : Inv g KX MX (todoT todo_) a (memR a B) (fun i => rd d i)
  todo : TodoOk N a todo_
  items : itemsOk N B
  room : P + List.length todo_ + 1100 ≤ 17592186044416

theorem todoT_cons (x : Seed) (r : List Seed) (i0 : Nat) (h0 : x.f0 = (i0 : Int)) : todoT (x :: r) i0 x.f2 ∧ (∀ i k, todoT (x :: r) i k → todoT r i k ∨ (i = i0 ∧ k = x.f2)) ∧ ∀ i k, todoT r i k → todoT (x :: r) i k := by
  refine ⟨⟨x, by simp, h0, rfl⟩, ?_, ?_⟩
  · rintro i k ⟨y, hy, e1, e2⟩
    rcases List.mem_cons.1 hy with rfl | hy
    · exact .inr ⟨by omega, e2.symm⟩
    · exact .inl ⟨y, hy, e1, e2⟩
  · rintro i k ⟨y, hy, e⟩
    exact ⟨y, List.mem_cons_of_mem _ hy, e⟩

set_option maxRecDepth 100000 in
set_option maxHeartbeats 4000000 in
theorem fill_calls (g : Gr) (hsrc : ∀ i k, g.src i k → i < g.n ∧ g.opn i ∧ k ≤ KX) (h : SwM w s G gd base W H AT cT C AS cS todo cd d a n P B) (hI : FillI g C.length todo d a n P B) :
    Calls Try.prog 112 #[.pointer (some ⟨s, 0, none⟩)] w fun e w' => e = .returned (.tuple #[]) ∧ ∃ a' n' P' B' AS' cS' todo', SwM w' s G gd base W H AT cT C AS' cS' todo' cd d a' n' P' B' ∧ Chg (FillS s G base) w w' ∧
      FillI g C.length todo' d a' n' P' B' ∧ n' + todo'.length = n + todo.length ∧ P' + todo'.length = P + todo.length ∧ (n' = 0 → todo' = []) ∧ ∀ x, x ∈ todo' → a' + 256 ≤ x.f2 := by
  have ha0 := h.ring.a0
  obtain ⟨c0, c1, c2, c3, c4, c5⟩ := h.cells
  have HM := Aside0.mk h
  have HI := Aside0.mk hI
  have HS := Aside0.mk hsrc
  have hlen := len_calls G base a n P B w h.ring
  have HL := Aside0.mk hlen
  clear h hI hsrc hlen
  have hn63 : n < 4611686018427387904 := by have := HI.out.room; have := HM.out.ring.n_le; omega
  cases todo with
  | nil =>
    have z0 : (([] : List Seed).length : Int) = 0 := rfl
    rw [show ([] : List Seed).length = 0 from rfl] at c4
    go_enter Try.func112, Try.ntmps112
    go_wp2
    go_loopg [] 0 (fun gg wr => ∃ q, wr = w.drewN q)
    case atStart => exact ⟨0, rfl⟩
    case round =>
      obtain ⟨q, rfl⟩ := hrel
      go_wp2_with fail
      go_quiet (fail)
      go_wp2
      go_end0
      rw [World.drewN_drewN]
      exact ⟨rfl, a, n, P, B, AS, cS, [], HM.out.drawn ⟨⟨_, rfl⟩⟩, Chg.of_below ((⟨⟨_, rfl⟩⟩ : Drawn0 w (w.drewN (q + nq))).below) _, HI.out, rfl, rfl, fun _ => rfl, fun x hx => by simp at hx⟩
  | cons x r =>
    have hlen1 : (x :: r).length = r.length + 1 := rfl
    rw [hlen1] at c4
    obtain ⟨ad, hAS, s0, s1, s2⟩ := HM.out.seedAt
    have HAS := Aside0.mk hAS
    rw [hAS] at c4
    have hpos : (0 : Int) < ((r.length + 1 : Nat) : Int) := by omega
    have hpos2 : decide ((0 : Int) < ((r.length + 1 : Nat) : Int)) = true := decide_eq_true hpos
    clear hAS
    go_enter Try.func112, Try.ntmps112
    go_upto_if 15 with (go_at_call 113; refine HL.out.mono ?_; rintro e w' ⟨rfl, rfl⟩)
    go_cut [] (fun wc => ∃ a1, Aside0 (SwM wc s G gd base W H AT cT C AS cS (x :: r) cd d a1 n P B) ∧ Aside0 (Chg (FillS s G base) w' wc) ∧ Aside0 (FillI g C.length (x :: r) d a1 n P B) ∧ Aside0 (n = 0 → x.f2 < a1 + 256))
    case first =>
      by_cases hn0 : n = 0
      · have hz : ((n : Int) == 0) = true := by rw [beq_iff_eq]; omega
        have hJ := Jump_calls G base a P B x.f2 w'.drew (by have := HM.out.ring; rw [hn0] at this; exact this.drawn ⟨⟨1, rfl⟩⟩) (HI.out.todo.ok x (by simp)).1 (by have := (HI.out.todo.ok x (by simp)).2.1; unfold KX at this; omega)
        have HJ := Aside0.mk hJ
        have HN := Aside0.mk hn0
        clear hJ hn0
        go_wp2_with fail
        have k3 : w'.drew.cell? ⟨s, 3, none⟩ = some (.pointer (some ⟨G, 0, none⟩)) := c3
        have k4 : w'.drew.cell? ⟨s, 4, none⟩ = some (.slice (some ad) (r.length + 1) cS) := c4
        have k5 : w'.drew.cell? ⟨ad.block, ad.off + 2, none⟩ = some (.int .i64 x.f2) := s2
        clear c0 c1 c2 c3 c4 c5 s0 s1 s2
        refine wp_region_still_tail 11 (by kernel_rfl) (by kernel_rfl) ?_
        simp only [List.take_succ_cons, List.take_zero, List.drop_succ_cons, List.drop_zero]
        change wpStill _ _ w'.drew _ _ _
        repeat still_step
        refine wpStill_nil ?_
        change wpList _ _ _ _ _ w'.drew
        go_wp2_with (go_at_call 137; refine HJ.out.mono ?_; rintro e w2 ⟨rfl, hr, hc⟩)
        go_meet
        have hn0 := HN.out
        subst hn0
        exact ⟨x.f2, ⟨HM.out.ringStep hr ⟨hc.os, hc.tape, hc.output, hc.size, hc.block⟩⟩, ⟨(⟨hc.os, hc.tape, hc.output, hc.size, hc.block⟩ : Chg (RingS G base) w' w2).mono (fun k hk => .inr hk)⟩, ⟨⟨HI.out.inv.jump (fun k i => mem_none (by have := HM.out.ring.n_eq; omega) k i) (fun k i => mem_none (by have := HM.out.ring.n_eq; omega) k i) (HI.out.todo.ok x (by simp)).1, HI.out.todo.jump, HI.out.items, HI.out.room⟩⟩, ⟨fun _ => by omega⟩⟩
      · have hz : ((n : Int) == 0) = false := by rw [beq_eq_false_iff_ne]; omega
        have HN := Aside0.mk hn0
        clear hn0
        go_wp2
        go_meet
        exact ⟨a, HM, ⟨Chg.refl _ _⟩, HI, ⟨fun h => absurd h HN.out⟩⟩
    case rest =>
      obtain ⟨a1, HM1, HC1, HI1, HZ1⟩ := hcut
      go_wp2_with fail
      go_loopg [] (r.length + 1) (fun gg wr => ∃ (a2 : Int) (n2 P2 : Nat) (B2 : Nat → List Int) (AS2 : Option Addr) (cS2 : Nat) (td : List Seed), td.length ≤ gg ∧ Aside0 (SwM wr s G gd base W H AT cT C AS2 cS2 td cd d a2 n2 P2 B2) ∧ Aside0 (Chg (FillS s G base) w' wr) ∧ Aside0 (FillI g C.length td d a2 n2 P2 B2) ∧ Aside0 (n2 + td.length = n + (x :: r).length) ∧ Aside0 (P2 + td.length = P + (x :: r).length) ∧ Aside0 (n2 = 0 → ∀ y t, td = y :: t → y.f2 < a2 + 256))
      case atStart => exact ⟨a1, n, P, B, AS, cS, x :: r, Nat.le_refl _, HM1, HC1, HI1, ⟨rfl⟩, ⟨rfl⟩, ⟨fun h y t e => by injection e with e1 e2; rw [← e1]; exact HZ1.out h⟩⟩
      case round =>
        obtain ⟨a2, n2, P2, B2, AS2, cS2, td, hgg, HM2, HC2, HI2, HN2, HP2, HZ2⟩ := hrel
        clear c0 c1 c2 c3 c4 c5 s0 s1 s2 hpos hpos2 hlen1
        obtain ⟨c0, c1, c2, c3, c4, c5⟩ := HM2.out.cells
        cases td with
        | nil =>
          have z0 : (([] : List Seed).length : Int) = 0 := rfl
          rw [show ([] : List Seed).length = 0 from rfl] at c4
          clear z0
          go_wp2_with fail
          go_quiet (fail)
          go_wp2
          go_end0
          exact ⟨rfl, a2, n2, P2, B2, AS2, cS2, [], HM2.out.drawn ⟨⟨_, rfl⟩⟩, HC2.out.then_ (Chg.of_below ((⟨⟨_, rfl⟩⟩ : Drawn0 wr (wr.drewN nq)).below) (fun _ => False)) (fun _ h => h.elim), HI2.out, HN2.out, HP2.out, fun _ => rfl, fun x hx => by simp at hx⟩
        | cons y t =>
          have hlen1 : (y :: t).length = t.length + 1 := rfl
          rw [hlen1] at c4 hgg
          obtain ⟨ad2, hAS2, s0, s1, s2⟩ := HM2.out.seedAt
          have HAS2 := Aside0.mk hAS2
          rw [hAS2] at c4
          have hpos : (0 : Int) < ((t.length + 1 : Nat) : Int) := by omega
          have hpos2 : decide ((0 : Int) < ((t.length + 1 : Nat) : Int)) = true := decide_eq_true hpos
          have hy := HI2.out.todo.ok y (by simp)
          have hy2 : y.f2 ≤ 4611686018427387904 := by have := hy.2.1; unfold KX at this; omega
          have HY := Aside0.mk hy
          clear hAS2 hlen1 hy
          by_cases hnear : y.f2 - a2 < 256
          · have hroom := HI2.out.room
            rw [List.length_cons] at hroom
            obtain ⟨i0, hi0⟩ : ∃ i0 : Nat, y.f0 = (i0 : Int) := ⟨y.f0.toNat, by have := HY.out.2.2.1; omega⟩
            have hP := Put_yes G base a2 n2 P2 B2 y.f2 y.f0 wr.drew (HM2.out.ring.drawn ⟨⟨1, rfl⟩⟩) HY.out.1 hy2 hnear (by omega)
            have HP := Aside0.mk hP
            have k3 : wr.drew.cell? ⟨s, 3, none⟩ = some (.pointer (some ⟨G, 0, none⟩)) := c3
            have k4 : wr.drew.cell? ⟨s, 4, none⟩ = some (.slice (some ad2) (t.length + 1) cS2) := c4
            have k5 : wr.drew.cell? ⟨ad2.block, ad2.off + 2, none⟩ = some (.int .i64 y.f2) := s2
            have k6 : wr.drew.cell? ad2 = some (.int .i64 y.f0) := s0
            have HI0 := Aside0.mk hi0
            clear hP c0 c1 c2 c3 c4 c5 s0 s1 s2 hi0
            go_wp2_with fail
            refine wp_region_still_tail 25 (by kernel_rfl) (by kernel_rfl) ?_
            simp only [List.take_succ_cons, List.take_zero, List.drop_succ_cons, List.drop_zero]
            change wpStill _ _ wr.drew _ _ _
            repeat still_step
            refine wpStill_nil ?_
            change wpList _ _ _ _ _ wr.drew
            go_wp2_with (go_at_call 138; refine HP.out.mono ?_; rintro e w2 ⟨rfl, hr, hc⟩; have hM3 := HM2.out.ringStep hr ⟨hc.os, hc.tape, hc.output, hc.size, hc.block⟩; have HC3 := Aside0.mk ((⟨hc.os, hc.tape, hc.output, hc.size, hc.block⟩ : Chg (RingS G base) wr w2).mono (fun k (hk : RingS G base k) => (.inr hk : FillS s G base k))); obtain ⟨m0, m1, m2, m3, m4, m5⟩ := hM3.cells; rw [HAS2.out] at m4; have mf := free_blk hM3.blk 4; have HM3 := Aside0.mk hM3; clear hr hc hM3)
            all_goals
              go_roundg t.length
              case measure => omega
              case rel =>
                have hnext := HM3.out.next
                rw [HAS2.out] at hnext
                have hfin : ∀ (A3 : Option Addr) (c3 : Nat) (wz : World), SwM wz s G gd base W H AT cT C A3 c3 t cd d a2 (n2 + 1) (P2 + 1) (updB B2 (y.f2 % 256).toNat (B2 (y.f2 % 256).toNat ++ [y.f0])) → Chg (fun k => k = s) w2 wz → ∃ (a3 : Int) (n3 P3 : Nat) (B3 : Nat → List Int) (AS3 : Option Addr) (cS3 : Nat) (td : List Seed), td.length ≤ t.length ∧ Aside0 (SwM wz s G gd base W H AT cT C AS3 cS3 td cd d a3 n3 P3 B3) ∧ Aside0 (Chg (FillS s G base) w' wz) ∧ Aside0 (FillI g C.length td d a3 n3 P3 B3) ∧ Aside0 (n3 + td.length = n + (x :: r).length) ∧ Aside0 (P3 + td.length = P + (x :: r).length) ∧ Aside0 (n3 = 0 → ∀ y t, td = y :: t → y.f2 < a3 + 256) := by
                  intro A3 c3 wz hz hcz
                  obtain ⟨q1, q2, q3⟩ := todoT_cons y t i0 HI0.out
                  have hcc := HC3.out
                  refine ⟨a2, n2 + 1, P2 + 1, _, A3, c3, t, Nat.le_refl _, ⟨hz⟩, ⟨(HC2.out.trans hcc).trans (hcz.mono (fun k hk => .inl hk))⟩, ⟨⟨?_, HI2.out.todo.tail, HI2.out.items.put _ HY.out.2.2.1 HY.out.2.2.2, by omega⟩⟩, ⟨?_⟩, ⟨?_⟩, ⟨fun h => by omega⟩⟩
                  · refine HI2.out.inv.fill (by decide) HS.out q1 HY.out.1 q2 q3 (fun k i => ?_)
                    rw [HI0.out]
                    exact mem_put HY.out.1 (by omega) k i
                  · have := HN2.out; rw [List.length_cons] at this; omega
                  · have := HP2.out; rw [List.length_cons] at this; omega
                rcases Nat.decEq cS2 1 with hc1 | hc1
                · rw [if_neg hc1] at hnext
                  first
                    | exact absurd (by assumption) hc1
                    | refine hfin (some ⟨ad2.block, ad2.off + 3, none⟩) (cS2 - 1) _ ?_ ((Chg.refl (fun k => k = s) w2).set_ (p := ⟨s, 4, none⟩) (.inl rfl) _)
                      exact hnext
                · rw [if_pos hc1] at hnext
                  first
                    | exact absurd hc1 (by assumption)
                    | have e0 : cS2 - 1 = 0 := by omega
                      rw [e0] at hnext
                      refine hfin (some ad2) 0 _ ?_ ((Chg.refl (fun k => k = s) w2).set_ (p := ⟨s, 4, none⟩) (.inl rfl) _)
                      exact hnext
          · have hP := fun q => Put_no G base a2 n2 P2 B2 y.f2 y.f0 (wr.drewN q) (HM2.out.ring.drawn ⟨⟨q, rfl⟩⟩) HY.out.1 hy2 (by omega)
            have HP := Aside0.mk hP
            clear hP
            go_wp2_with fail
            go_quiet ((go_at_call 138; refine (HP.out _).mono ?_; rintro e w1 ⟨rfl, rfl⟩; exact ⟨rfl, _, rfl⟩))
            go_wp2
            go_end0
            refine ⟨rfl, a2, n2, P2, B2, AS2, cS2, y :: t, HM2.out.drawn ⟨⟨_, rfl⟩⟩, HC2.out.then_ (Chg.of_below ((⟨⟨_, rfl⟩⟩ : Drawn0 wr (wr.drewN nq)).below) (fun _ => False)) (fun _ h => h.elim), HI2.out, HN2.out, HP2.out, fun h => ?_, fun z hz => ?_⟩
            · have := HZ2.out h y t rfl
              omega
            · rcases List.mem_cons.1 hz with rfl | hz
              · omega
              · have := (List.pairwise_cons.1 HI2.out.todo.sorted).1 z hz
                omega
end Go.Proofs.Ytgcfcemgeppkmaa.P
namespace Go.Proofs.Ytgcfcemgeppkmaa.P
open Go.RowKit Go.Proofs.YtgcfcemgeppkmaaW.PrintWords Go.Proofs.YtgcfcemgeppkmaaW.PrintLast Go.Proofs.YtgcfcemgeppkmaaW.PrintMore
open Go.Proofs.Ytgcfcemgeppkmaa.Dist
set_option linter.unusedVariables false
set_option linter.unusedSimpArgs false

theorem rd_set (d : List Int) (i : Nat) (hi : i < d.length) (k : Int) : (fun j : Nat => rd (d.set i k) (j : Int)) = upd (fun j : Nat => rd d (j : Int)) i k := by
  funext j
  unfold upd
  by_cases h : j = i
  · subst h
    rw [if_pos rfl, rd_get (d.set j k) (by simpa using hi)]
    simp
  · rw [if_neg h]
    by_cases hj : j < d.length
    · show rd (d.set i k) (j : Int) = rd d (j : Int)
      rw [rd_get d hj, rd_get (d.set i k) (by simpa using hj), List.getElem_set_ne (Ne.symm h)]
    · show rd (d.set i k) (j : Int) = rd d (j : Int)
      simp only [rd, List.getD_eq_getElem?_getD]
      rw [List.getElem?_eq_none (l := d.set i k) (by simp; omega), List.getElem?_eq_none (l := d) (by simp; omega)]

variable {w w' : World} {s G gd base : Nat} {W H : Int} {AT : Option Addr} {cT : Nat} {C : List Int} {AS : Option Addr} {cS : Nat} {todo : List Seed} {cd : Nat} {d : List Int} {a : Int} {n P : Nat} {B : Nat → List Int}

theorem SwM.setDist (h : SwM w s G gd base W H AT cT C AS cS todo cd d a n P B) (i : Nat) (hi : i < d.length) (k : Int) : SwM (w.setCell ⟨gd, i, none⟩ (.int .i64 k)) s G gd base W H AT cT C AS cS todo cd (d.set i k) a n P B := by
  have hc : Chg (fun k => k = gd) w (w.setCell ⟨gd, i, none⟩ (.int .i64 k)) := (Chg.refl (fun k => k = gd) w).set_ (p := ⟨gd, i, none⟩) (.inl rfl) _
  refine ⟨?_, flat_int h.tile hc (fun ad e h0 => (h.tileB ad e h0).2.2.1), h.tileB, flat_seed h.seeds hc (fun ad e h0 => (h.seedsB ad e h0).2.2.1), h.seedsB, h.seedsC, ?_, by rw [List.length_set]; exact h.dlen, h.ring.chg hc (fun k hk => by rw [hk]; exact ⟨h.gG, h.gB⟩), h.sG, h.gs, h.gG, h.sB, h.gB⟩
  · rw [List.length_set]; exact hc.blk h.blk (fun e => h.gs e.symm)
  · have := RowIn.store encI_len h.dist (i := i) (by simpa using hi) k
    rw [Nat.mul_one] at this
    simpa [encI, World.setCells] using this

abbrev RunS (s G gd base : Nat) : Nat → Prop := fun k => k = s ∨ k = G ∨ k = gd ∨ base ≤ k

structure RunI (g : Gr) (N : Nat) (todo_ : List Seed) (d : List Int) (a : Int) (n P : Nat) (B : Nat → List Int) : Prop where
  fi : FillI g N todo_ d a n P B
  room : P + todo_.length + 4 * (N - known INF (fun i => rd d i) N) + 1100 ≤ 17592186044416
/-- As fill leaves it. -/
structure RunJ (g : Gr) (N : Nat) (todo_ : List Seed) (d : List Int) (a : Int) (n P : Nat) (B : Nat → List Int) : Prop extends RunI g N todo_ d a n P B where
  empty : n = 0 → todo_ = []
  far : ∀ x, x ∈ todo_ → a + 256 ≤ x.f2

theorem mem_some {a : Int} {B : Nat → List Int} {N : Nat} (ha : 0 ≤ a) (hB : itemsOk N B) (h : 0 < total B 256) : ∃ k i, memR a B k i := by
  obtain ⟨b, hb, hne⟩ := total_pos B 256 h
  obtain ⟨x, r, e⟩ := List.exists_cons_of_ne_nil hne
  have hx := hB b hb x (by rw [e]; simp)
  refine ⟨a + ((b : Int) - a) % 256, x.toNat, by omega, by omega, ?_⟩
  rw [show ((a + ((b : Int) - a) % 256) % 256).toNat = b by omega, e, show (x.toNat : Int) = x by omega]
  simp

section
variable {l : List Seed} {a' : Int}
theorem RunJ.small (hN : C.length ≤ 256) (h : RunJ (grT W C l) C.length todo d a n P B) (ha : 0 ≤ a) (hn : n = total B 256) (h0 : 0 < n) : a ≤ 1099511627776 := by
  obtain ⟨k, i, hm⟩ := mem_some ha h.fi.items (by omega)
  obtain ⟨_, _, h1, h2, _⟩ := h.fi.inv.M_ok k i hm
  have hk := known_le (grT W C l).inf (fun i => rd d i) (grT W C l).n
  have : (grT W C l).n = C.length := rfl
  unfold KX MX at h2
  omega
/-- What Pop takes out is known already. -/
theorem RunJ.old (h : RunJ (grT W C l) C.length todo d a n P B) (ha : 0 ≤ a) {J i0 : Nat} {rest : List Int} (hJ : J < 256) (hE : ∀ i, i < J → B ((a + (i : Int)) % 256).toNat = []) (hH : B ((a + (J : Int)) % 256).toNat = (i0 : Int) :: rest) (hd : rd d i0 ≠ INF) :
    RunI (grT W C l) C.length todo d (a + J) (n - 1) P (updB B ((a + (J : Int)) % 256).toNat rest) := by
  obtain ⟨m1, m2, m3, m4⟩ := mem_pop ha hJ hE hH
  have hit := h.fi.items.pop (b := ((a + (J : Int)) % 256).toNat) (by have := Int.emod_lt_of_pos (a + (J : Int)) (show (0 : Int) < 256 by decide); have := Int.emod_nonneg (a + (J : Int)) (show (256 : Int) ≠ 0 by decide); omega) hH
  exact ⟨⟨h.fi.inv.old m1 hd m2 m3 m4, ⟨h.fi.todo.sorted, fun x hx => by have := h.fi.todo.ok x hx; have := h.far x hx; exact ⟨by omega, by omega, by omega, by omega⟩⟩, hit.2, h.fi.room⟩, h.room⟩
/-- What Pop takes out is new. -/
theorem RunJ.new (hN : C.length ≤ 256) (hcost : ∀ j, j < (grT W C l).n → (grT W C l).opn j → 1 ≤ (grT W C l).c j ∧ (grT W C l).c j ≤ 254) (h : RunJ (grT W C l) C.length todo d a n P B) (hdl : d.length = C.length) (ha : 0 ≤ a) {J i0 : Nat} {rest : List Int} (hJ : J < 256) (hE : ∀ i, i < J → B ((a + (i : Int)) % 256).toNat = []) (hH : B ((a + (J : Int)) % 256).toNat = (i0 : Int) :: rest) (hd : rd d i0 = INF) :
    (i0 < C.length ∧ (1 ≤ rd C i0 ∧ rd C i0 ≤ 254) ∧ a + J ≤ 1099511627775) ∧ known INF (fun i => rd (d.set i0 (a + J)) i) C.length = known INF (fun i => rd d i) C.length + 1 ∧ known INF (fun i => rd (d.set i0 (a + J)) i) C.length ≤ C.length ∧ ∀ n' P' B', n' ≤ n - 1 + 4 → Grew (a + J) C.length (fun k j => k = (a + J) + rd C i0 ∧ j < C.length ∧ AdjT W j i0 ∧ rd C j ≠ 255 ∧ rd (d.set i0 (a + J)) j = INF) (n - 1) P (updB B ((a + (J : Int)) % 256).toNat rest) n' P' B' →
      RunI (grT W C l) C.length todo (d.set i0 (a + J)) (a + J) n' P' B' := by
  obtain ⟨m1, m2, m3, m4⟩ := mem_pop ha hJ hE hH
  have hit := h.fi.items.pop (b := ((a + (J : Int)) % 256).toNat) (by have := Int.emod_lt_of_pos (a + (J : Int)) (show (0 : Int) < 256 by decide); have := Int.emod_nonneg (a + (J : Int)) (show (256 : Int) ≠ 0 by decide); omega) hH
  obtain ⟨q1, q2, q3, q4, q5⟩ := h.fi.inv.M_ok _ _ m1
  have hn0 : (grT W C l).n = C.length := rfl
  have hkn := known_le (grT W C l).inf (fun i => rd d i) (grT W C l).n
  have hsmall : a + J ≤ 1099511627775 := by unfold KX MX at q4; omega
  have hi0 : i0 < C.length := q1
  have hc1 := hcost i0 q1 q2
  have hku : known INF (fun i => rd (d.set i0 (a + J)) i) C.length = known INF (fun i => rd d i) C.length + 1 := by
    rw [rd_set d i0 (by omega) (a + J)]
    exact known_upd C.length hi0 hd (by unfold INF; omega)
  refine ⟨⟨hi0, hc1, hsmall⟩, hku, known_le _ _ _, fun n' P' B' hn' hg => ?_⟩
  have hle2 := known_le INF (fun i => rd (d.set i0 (a + J)) i) C.length
  have hp := hg.puts
  have hl := hg.le
  have hr := h.room
  refine ⟨⟨?_, ⟨h.fi.todo.sorted, fun x hx => by have := h.fi.todo.ok x hx; have := h.far x hx; exact ⟨by omega, by omega, by omega, by omega⟩⟩, hg.items hit.2, by omega⟩, by omega⟩
  have hnew := (h.fi.inv.new (M' := memR (a + J) B') (by decide) (fun j hj ho => by have := hcost j hj ho; exact ⟨by omega, this.2⟩) (by rw [hn0]; show KX + MX * (C.length : Int) < INF; unfold KX MX INF; omega) m1 hd m2 m3 m4 (fun k i => by
    rw [hg.mem]
    have e : upd (fun i : Nat => rd d (i : Int)) i0 (a + J) i = rd (d.set i0 (a + J)) (i : Int) := by rw [← rd_set d i0 (by omega) (a + J)]
    rw [e]
    exact Iff.rfl)).1
  rw [rd_set d i0 (by omega) (a + J)]
  exact hnew
/-- Nothing waits. -/
theorem RunJ.done (hcost : ∀ j, j < (grT W C l).n → (grT W C l).opn j → 1 ≤ (grT W C l).c j ∧ (grT W C l).c j ≤ 254) (h : RunJ (grT W C l) C.length todo d a n P B) (hn : n = total B 256) (h0 : n = 0) : (grT W C l).IsDist (fun i => rd d i) := by
  have ht := h.empty h0
  subst ht
  refine h.fi.inv.done (by show 0 ≤ INF; decide) (fun j hj ho => by have := hcost j hj ho; omega) (fun i k hk => ?_) (fun k i => mem_none (by omega) k i)
  obtain ⟨x, hx, _⟩ := hk
  simp at hx
theorem RunJ.of_fill (hI : RunI (grT W C l) C.length todo d a n P B) {a' : Int} {n' P' : Nat} {B' : Nat → List Int} {todo' : List Seed} (hf : FillI (grT W C l) C.length todo' d a' n' P' B') (hP : P' + todo'.length = P + todo.length) (hz : n' = 0 → todo' = []) (hx : ∀ x, x ∈ todo' → a' + 256 ≤ x.f2) : RunJ (grT W C l) C.length todo' d a' n' P' B' :=
  ⟨⟨hf, by have := hI.room; omega⟩, hz, hx⟩
end

set_option maxRecDepth 100000 in
set_option maxHeartbeats 4000000 in
theorem run_calls {l : List Seed} (hW : 1 ≤ W ∧ W ≤ 16) (hH : 1 ≤ H ∧ H ≤ 16) (hC : (C.length : Int) = W * H) (hcost : ∀ j, j < (grT W C l).n → (grT W C l).opn j → 1 ≤ (grT W C l).c j ∧ (grT W C l).c j ≤ 254) (hsrc : ∀ i k, (grT W C l).src i k → i < (grT W C l).n ∧ (grT W C l).opn i ∧ k ≤ KX)
    (h : SwM w s G gd base W H AT cT C AS cS todo cd d a n P B) (hI : RunI (grT W C l) C.length todo d a n P B) :
    Calls Try.prog 87 #[.pointer (some ⟨s, 0, none⟩)] w fun e w' => e = .returned (.tuple #[]) ∧ ∃ a' n' P' B' AS' cS' todo' d', SwM w' s G gd base W H AT cT C AS' cS' todo' cd d' a' n' P' B' ∧ Chg (RunS s G gd base) w w' ∧ (grT W C l).IsDist (fun i => rd d' i) := by
  have hN : C.length ≤ 256 := by have := mul_small hW hH; omega
  have HM := Aside0.mk h
  have HI := Aside0.mk hI
  have HF := Aside0.mk (fill_calls (grT W C l) hsrc h hI.fi)
  have HW := Aside0.mk hW
  have HH := Aside0.mk hH
  have HCL := Aside0.mk hC
  have HCO := Aside0.mk hcost
  have HSRC := Aside0.mk hsrc
  clear h hI hW hH hC hcost hsrc
  go_enter Try.func87, Try.ntmps87
  go_wp2_with (go_at_call 112; refine HF.out.mono ?_; rintro e w1 ⟨rfl, a1, n1, P1, B1, AS1, cS1, todo1, hs1, hch1, hf1, hn1, hp1, hz1, hx1⟩; have HS1 := Aside0.mk hs1; have HCH1 := Aside0.mk hch1; have HJ1 := Aside0.mk (RunJ.of_fill HI.out hf1 hp1 hz1 hx1); clear hs1 hch1 hf1 hn1 hp1 hz1 hx1)
  go_loopg [] (n1 + todo1.length + 5 * (C.length - known INF (fun i => rd d i) C.length)) (fun gg wr => ∃ (a2 : Int) (n2 P2 : Nat) (B2 : Nat → List Int) (AS2 : Option Addr) (cS2 : Nat) (td : List Seed) (d2 : List Int), n2 + td.length + 5 * (C.length - known INF (fun i => rd d2 i) C.length) ≤ gg ∧ Aside0 (SwM wr s G gd base W H AT cT C AS2 cS2 td cd d2 a2 n2 P2 B2) ∧ Aside0 (Chg (RunS s G gd base) w wr) ∧ Aside0 (RunJ (grT W C l) C.length td d2 a2 n2 P2 B2))
  case atStart => exact ⟨a1, n1, P1, B1, AS1, cS1, todo1, d, Nat.le_refl _, HS1, ⟨HCH1.out.mono (fun k hk => by rcases hk with h | h | h; exact .inl h; exact .inr (.inl h); exact .inr (.inr (.inr h)))⟩, HJ1⟩
  case round =>
    clear HF HS1 HCH1 HJ1
    obtain ⟨a2, n2, P2, B2, AS2, cS2, td, d2, hgg, HM2, HC2, HJ2⟩ := hrel
    obtain ⟨c0, c1, c2, c3, c4, c5⟩ := HM2.out.cells
    have ha0 := HM2.out.ring.a0
    have hlen := len_calls G base a2 n2 P2 B2 wr HM2.out.ring
    have HL := Aside0.mk hlen
    clear hlen
    rcases Nat.eq_zero_or_pos n2 with hz | hpos
    · have HZ := Aside0.mk hz
      have e0 : (n2 : Int) = 0 := by omega
      rw [e0] at HL
      clear hz
      go_wp2_with (go_at_call 113; refine HL.out.mono ?_; rintro e w' ⟨rfl, rfl⟩)
      go_end0
      exact ⟨rfl, a2, n2, P2, B2, AS2, cS2, td, d2, HM2.out, HC2.out, HJ2.out.done HCO.out HM2.out.ring.n_eq HZ.out⟩
    · have hsm := HJ2.out.small hN ha0 HM2.out.ring.n_eq hpos
      have hn63 : n2 < 4611686018427387904 := by have := HJ2.out.room; have := HM2.out.ring.n_le; omega
      have HP := Aside0.mk (Pop_calls G base a2 n2 P2 B2 wr HM2.out.ring hpos (by omega) hn63)
      have hpos0 : (0 : Int) < (n2 : Int) := by omega
      have hpos2 : decide ((0 : Int) < (n2 : Int)) = true := decide_eq_true hpos0
      go_wp2_with (first
        | (go_at_call 113; refine HL.out.mono ?_; rintro e w' ⟨rfl, rfl⟩)
        | (go_at_call 114; refine HP.out.mono ?_; rintro e w3 ⟨J, item, rest, hJ, hE, hH, rfl, hr, hch⟩; have HR := Aside0.mk (HM2.out.ringStep hr hch); have HCH := Aside0.mk (HC2.out.trans (hch.mono (fun k hk => by rcases hk with h | h; exact .inr (.inl h); exact .inr (.inr (.inr h))))); clear hr hch; obtain ⟨hit0, hit1⟩ := HJ2.out.fi.items.pop (b := ((a2 + (J : Int)) % 256).toNat) (by omega) hH; obtain ⟨i0, rfl⟩ : ∃ i0 : Nat, item = (i0 : Int) := ⟨item.toNat, by omega⟩; clear c0 c1 c2 c3 c4 c5 hit1; obtain ⟨c0, c1, c2, c3, c4, c5⟩ := HR.out.cells; have hdl := HR.out.dlen; have hi0 : i0 < d2.length := (by omega); have cd0 := HR.out.distAt hi0; have hi1 : (i0 : Int) < (d2.length : Int) := (by omega); have HH0 := Aside0.mk hH; have HE0 := Aside0.mk hE; have cf := RowIn.free HR.out.dist i0; clear hH hE
           by_cases hd : rd d2 (i0 : Int) = INF
           case' pos => (have HD := Aside0.mk hd; rw [hd] at cd0; clear hd)
           case' neg => (have hb : (rd d2 (i0 : Int) == 1099511627776) = false := beq_eq_false_iff_ne.2 hd; have HD := Aside0.mk hd; clear hd)))
      rotate_left 1
      · skip
        have hnew := HJ2.out.new hN HCO.out hdl ha0 hJ HE0.out HH0.out HD.out
        have HNEW := Aside0.mk hnew
        have hset := HR.out.setDist i0 hi0 (a2 + J)
        have har := around_calls hset HW.out HH.out HCL.out i0 hnew.1.1 (by rw [rd_get _ (by simpa using hi0)]; simp) hnew.1.2.1 (by have := hnew.1.2.2; omega) (by have := HJ2.out.room; omega)
        have HAR := Aside0.mk har
        have HSET := Aside0.mk hset
        clear hnew hset har
        go_at_call 115
        refine HAR.out.mono ?_
        rintro e w4 ⟨rfl, n4, P4, B4, hs4, hch4, hn4, hg4⟩
        have hnw := HNEW.out.2.2.2 n4 P4 B4 hn4 hg4
        have HF2 := Aside0.mk (fill_calls (grT W C l) HSRC.out hs4 hnw.fi)
        have HOLD := Aside0.mk hnw
        have HC4 := Aside0.mk ((HCH.out.set_ (p := ⟨gd, i0, none⟩) (.inl (.inr (.inr (.inl rfl)))) (.int .i64 (a2 + J))).trans (hch4.mono (fun k hk => by rcases hk with h | h; exact .inr (.inl h); exact .inr (.inr (.inr h)))))
        have HKN := Aside0.mk (And.intro HNEW.out.2.1 (And.intro HNEW.out.2.2.1 hn4))
        clear hs4 hch4 hn4 hg4 hnw
        go_wp2_with (go_at_call 112; refine HF2.out.mono ?_; rintro e w5 ⟨rfl, a4, n5, P5, B5, AS4, cS4, td4, hs1, hch1, hf1, hn1, hp1, hz1, hx1⟩; have HS4 := Aside0.mk hs1; have HCH4 := Aside0.mk hch1; have HJ4 := Aside0.mk (RunJ.of_fill HOLD.out hf1 hp1 hz1 hx1); have HN4 := Aside0.mk hn1; clear hs1 hch1 hf1 hn1 hp1 hz1 hx1)
        go_roundg (n5 + td4.length + 5 * (C.length - known INF (fun i => rd (d2.set i0 (a2 + J)) i) C.length))
        case measure =>
          have := HN4.out
          obtain ⟨k1, k2, k3⟩ := HKN.out
          omega
        case rel => exact ⟨a4, n5, P5, B5, AS4, cS4, td4, _, Nat.le_refl _, HS4, ⟨HC4.out.trans (HCH4.out.mono (fun k hk => by rcases hk with h | h | h; exact .inl h; exact .inr (.inl h); exact .inr (.inr (.inr h))))⟩, HJ4⟩
      · skip
        have hold := HJ2.out.old ha0 hJ HE0.out HH0.out HD.out
        have HF2 := Aside0.mk (fill_calls (grT W C l) HSRC.out HR.out hold.fi)
        have HOLD := Aside0.mk hold
        clear hold
        go_at_call 112
        refine HF2.out.mono ?_
        rintro e w4 ⟨rfl, a4, n4, P4, B4, AS4, cS4, td4, hs1, hch1, hf1, hn1, hp1, hz1, hx1⟩
        have HS4 := Aside0.mk hs1
        have HCH4 := Aside0.mk hch1
        have HJ4 := Aside0.mk (RunJ.of_fill HOLD.out hf1 hp1 hz1 hx1)
        have HN4 := Aside0.mk hn1
        clear hs1 hch1 hf1 hn1 hp1 hz1 hx1
        go_wp2
        go_roundg (n4 + td4.length + 5 * (C.length - known INF (fun i => rd d2 i) C.length))
        case measure => have := HN4.out; omega
        case rel => exact ⟨a4, n4, P4, B4, AS4, cS4, td4, d2, Nat.le_refl _, HS4, ⟨HCH.out.trans (HCH4.out.mono (fun k hk => by rcases hk with h | h | h; exact .inl h; exact .inr (.inl h); exact .inr (.inr (.inr h))))⟩, HJ4⟩
end Go.Proofs.Ytgcfcemgeppkmaa.P
