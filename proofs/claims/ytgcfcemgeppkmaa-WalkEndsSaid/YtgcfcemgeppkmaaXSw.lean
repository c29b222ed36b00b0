/-
  PLAIN: what waits in a ring, as pairs of key and cell. The sweeper in memory, and its methods.
-/
import Derived.Test.YtgcfcemgeppkmaaXRing
import Derived.Test.YtgcfcemgeppkmaaXDist
import Derived.Test.YtgcfcemgeppkmaaXRow
import Derived.Test.YtgcfcemgeppkmaaXTile
import Derived.Deep.QuietTactic
import Derived.BigQuiet
import Derived.Deep.DeepCutAuto
import Derived.Deep.LoopGhost
import Derived.Deep.CutBlock
namespace Go.Proofs.Ytgcfcemgeppkmaa.P
open Go.RowKit Go.Proofs.YtgcfcemgeppkmaaW.PrintWords Go.Proofs.YtgcfcemgeppkmaaW.PrintLast Go.Proofs.YtgcfcemgeppkmaaW.PrintMore
open Go.Proofs.Ytgcfcemgeppkmaa.Dist
set_option linter.unusedVariables false
set_option linter.unusedSimpArgs false

/-- The cell i waits under the key k. -/
def memR (a : Int) (B : Nat → List Int) (k : Int) (i : Nat) : Prop := a ≤ k ∧ k < a + 256 ∧ (i : Int) ∈ B (k % 256).toNat
theorem mem_put {a key : Int} {B : Nat → List Int} {i0 : Nat} (h1 : a ≤ key) (h2 : key < a + 256) (k : Int) (i : Nat) : memR a (updB B (key % 256).toNat (B (key % 256).toNat ++ [(i0 : Int)])) k i ↔ memR a B k i ∨ (k = key ∧ i = i0) := by
  unfold memR
  constructor
  · rintro ⟨e1, e2, e3⟩
    by_cases e : (k % 256).toNat = (key % 256).toNat
    · have hk : k = key := by omega
      subst hk
      rw [updB_at, List.mem_append, List.mem_singleton] at e3
      rcases e3 with e3 | e3
      · exact .inl ⟨e1, e2, e3⟩
      · exact .inr ⟨rfl, by omega⟩
    · rw [updB_ne _ _ e] at e3
      exact .inl ⟨e1, e2, e3⟩
  · rintro (⟨e1, e2, e3⟩ | ⟨rfl, rfl⟩)
    · refine ⟨e1, e2, ?_⟩
      by_cases e : (k % 256).toNat = (key % 256).toNat
      · rw [e] at e3 ⊢
        rw [updB_at]
        exact List.mem_append_left _ e3
      · rw [updB_ne _ _ e]; exact e3
    · exact ⟨h1, h2, by rw [updB_at]; simp⟩
/-- What is taken out first. -/
theorem mem_pop {a : Int} {B : Nat → List Int} {J i0 : Nat} {rest : List Int} (ha : 0 ≤ a) (hJ : J < 256) (hE : ∀ i, i < J → B ((a + (i : Int)) % 256).toNat = []) (hH : B ((a + (J : Int)) % 256).toNat = (i0 : Int) :: rest) :
    memR a B (a + J) i0 ∧ (∀ k i, memR a B k i → a + J ≤ k) ∧ (∀ k i, memR a B k i → memR (a + J) (updB B ((a + (J : Int)) % 256).toNat rest) k i ∨ (k = a + J ∧ i = i0)) ∧ (∀ k i, memR (a + J) (updB B ((a + (J : Int)) % 256).toNat rest) k i → memR a B k i) := by
  have hmin : ∀ k i, memR a B k i → a + J ≤ k := by
    rintro k i ⟨e1, e2, e3⟩
    by_cases h : a + (J : Int) ≤ k
    · exact h
    · have := hE (k - a).toNat (by omega)
      rw [show a + (((k - a).toNat : Nat) : Int) = k by omega] at this
      rw [this] at e3
      simp at e3
  refine ⟨⟨by omega, by omega, by rw [hH]; simp⟩, hmin, ?_, ?_⟩
  · rintro k i hm
    have h := hmin k i hm
    obtain ⟨e1, e2, e3⟩ := hm
    by_cases e : (k % 256).toNat = ((a + (J : Int)) % 256).toNat
    · have hk : k = a + J := by omega
      subst hk
      rw [hH] at e3
      rcases List.mem_cons.1 e3 with e4 | e4
      · exact .inr ⟨rfl, by omega⟩
      · exact .inl ⟨by omega, by omega, by rw [updB_at]; exact e4⟩
    · exact .inl ⟨h, by omega, by rw [updB_ne _ _ e]; exact e3⟩
  · rintro k i ⟨e1, e2, e3⟩
    by_cases e : (k % 256).toNat = ((a + (J : Int)) % 256).toNat
    · have hk : k = a + J := by omega
      subst hk
      rw [updB_at] at e3
      exact ⟨by omega, by omega, by rw [hH]; exact List.mem_cons_of_mem _ e3⟩
    · rw [updB_ne _ _ e] at e3
      refine ⟨by omega, ?_, e3⟩
      by_cases h : k < a + 256
      · exact h
      · have := hE (k - 256 - a).toNat (by omega)
        rw [show ((a + (((k - 256 - a).toNat : Nat) : Int)) % 256).toNat = (k % 256).toNat by omega] at this
        rw [this] at e3
        simp at e3
theorem mem_none {a : Int} {B : Nat → List Int} (h : total B 256 = 0) (k : Int) (i : Nat) : ¬ memR a B k i := by
  rintro ⟨_, _, e3⟩
  have h1 : 0 ≤ k % 256 := Int.emod_nonneg _ (by decide)
  have h2 : k % 256 < 256 := Int.emod_lt_of_pos _ (by decide)
  rw [total_zero B 256 h _ (by omega)] at e3
  simp at e3

/-- All that waits is a cell. -/
def itemsOk (n : Nat) (B : Nat → List Int) : Prop := ∀ b, b < 256 → ∀ x, x ∈ B b → 0 ≤ x ∧ x < (n : Int)
theorem itemsOk.put {n : Nat} {B : Nat → List Int} (h : itemsOk n B) (b : Nat) {x : Int} (h0 : 0 ≤ x) (h1 : x < (n : Int)) : itemsOk n (updB B b (B b ++ [x])) := by
  intro b' hb' y hy
  by_cases e : b' = b
  · subst e
    rw [updB_at, List.mem_append, List.mem_singleton] at hy
    rcases hy with hy | rfl
    · exact h b' hb' y hy
    · exact ⟨h0, h1⟩
  · rw [updB_ne _ _ e] at hy; exact h b' hb' y hy
theorem itemsOk.pop {n : Nat} {B : Nat → List Int} (h : itemsOk n B) {b : Nat} (hb : b < 256) {x : Int} {rest : List Int} (hH : B b = x :: rest) : (0 ≤ x ∧ x < (n : Int)) ∧ itemsOk n (updB B b rest) := by
  refine ⟨h b hb x (by rw [hH]; simp), fun b' hb' y hy => ?_⟩
  by_cases e : b' = b
  · subst e
    rw [updB_at] at hy
    exact h b' hb' y (by rw [hH]; exact List.mem_cons_of_mem _ hy)
  · rw [updB_ne _ _ e] at hy; exact h b' hb' y hy
end Go.Proofs.Ytgcfcemgeppkmaa.P
namespace Go.Proofs.Ytgcfcemgeppkmaa.P
open Go.RowKit Go.Proofs.YtgcfcemgeppkmaaW.PrintWords Go.Proofs.YtgcfcemgeppkmaaW.PrintLast Go.Proofs.YtgcfcemgeppkmaaW.PrintMore
open Go.Proofs.Ytgcfcemgeppkmaa.Dist
set_option linter.unusedVariables false
set_option linter.unusedSimpArgs false

def encI (x : Int) : List Value := [.int .i64 x]
theorem encI_len (x : Int) : (encI x).length = 1 := rfl
theorem flat_int {k : IntKind} {w w' : World} {S : Nat → Prop} {A : Option Addr} {xs : List Int} (h : (Kd.int k).C w A xs.length xs) (hc : Chg S w w') (hn : ∀ ad, A = some ad → 0 < xs.length → ¬ S ad.block) : (Kd.int k).C w' A xs.length xs := by
  refine ⟨h.1, h.2.1, fun h0 => ?_⟩
  obtain ⟨ad, e, hr⟩ := h.2.2 h0
  refine ⟨ad, e, fun j p hj => ?_⟩
  obtain ⟨c, h1, h2, h3⟩ := hr j p hj
  refine ⟨c, h1, h2, fun i u hu => ?_⟩
  have h4 := h3 i u hu
  have h5 := World.block_lt_of_cell? w _ h4
  have e1 : (ad.add (j * (Kd.int k).sz + i)).block = ad.block := by cases ad; simp [Addr.add]; split <;> rfl
  rw [World.cell?_of_block (hc.block _ h5 (by rw [e1]; exact hn ad e h0))]
  exact h4
theorem flat_seed {w w' : World} {S : Nat → Prop} {A : Option Addr} {xs : List Seed} (h : Kd.C k25 w A xs.length xs) (hc : Chg S w w') (hn : ∀ ad, A = some ad → 0 < xs.length → ¬ S ad.block) : Kd.C k25 w' A xs.length xs := by
  refine ⟨h.1, h.2.1, fun h0 => ?_⟩
  obtain ⟨ad, e, hr⟩ := h.2.2 h0
  refine ⟨ad, e, fun j p hj => ?_⟩
  obtain ⟨c, h1, h2, h3⟩ := hr j p hj
  refine ⟨c, h1, h2, fun i u hu => ?_⟩
  have h4 := h3 i u hu
  have h5 := World.block_lt_of_cell? w _ h4
  have e1 : (ad.add (j * k25.sz + i)).block = ad.block := by cases ad; simp [Addr.add]; split <;> rfl
  rw [World.cell?_of_block (hc.block _ h5 (by rw [e1]; exact hn ad e h0))]
  exact h4

structure SwM (w : World) (s G gd base : Nat) (W H : Int) (AT : Option Addr) (cT : Nat) (C : List Int) (AS : Option Addr) (cS : Nat) (todo : List Seed) (cd : Nat) (d : List Int) (a : Int) (n P : Nat) (B : Nat → List Int) : Prop where
  blk : w.heap[s]? = some (.cells #[.int .i64 W, .int .i64 H, .slice AT C.length cT, .pointer (some ⟨G, 0, none⟩), .slice AS todo.length cS, .slice (some ⟨gd, 0, none⟩) d.length cd] 101 (0, 0))
  tile : (Kd.int .u8).C w AT C.length C
  tileB : ∀ ad, AT = some ad → 0 < C.length → ad.block ≠ G ∧ ad.block ≠ s ∧ ad.block ≠ gd ∧ ad.block < base
  seeds : Kd.C k25 w AS todo.length todo
  seedsB : ∀ ad, AS = some ad → 0 < todo.length → ad.block ≠ G ∧ ad.block ≠ s ∧ ad.block ≠ gd ∧ ad.block < base
  seedsC : todo.length ≤ cS
  dist : RowIn encI 1 3 gd cd d.toArray w
  dlen : d.length = C.length
  ring : RingM w G base a n P B
  sG : s ≠ G
  gs : gd ≠ s
  gG : gd ≠ G
  sB : s < base
  gB : gd < base

variable {w w' : World} {s G gd base : Nat} {W H : Int} {AT : Option Addr} {cT : Nat} {C : List Int} {AS : Option Addr} {cS : Nat} {todo : List Seed} {cd : Nat} {d : List Int} {a : Int} {n P : Nat} {B : Nat → List Int}

/-- A step of the ring alone. -/
theorem SwM.ringStep (h : SwM w s G gd base W H AT cT C AS cS todo cd d a n P B) {a' : Int} {n' P' : Nat} {B' : Nat → List Int} (hr : RingM w' G base a' n' P' B') (hc : Chg (RingS G base) w w') : SwM w' s G gd base W H AT cT C AS cS todo cd d a' n' P' B' where
  blk := hc.blk h.blk (by rintro (e | e); exact h.sG e; have := h.sB; omega)
  tile := flat_int h.tile hc (fun ad e h0 => by have := h.tileB ad e h0; rintro (e | e) <;> omega)
  tileB := h.tileB
  seeds := flat_seed h.seeds hc (fun ad e h0 => by have := h.seedsB ad e h0; rintro (e | e) <;> omega)
  seedsB := h.seedsB
  seedsC := h.seedsC
  dist := RowIn.heap h.dist (hc.block gd (RowIn.lt h.dist) (by rintro (e | e); exact h.gG e; have := h.gB; omega))
  dlen := h.dlen
  ring := hr
  sG := h.sG
  gs := h.gs
  gG := h.gG
  sB := h.sB
  gB := h.gB
theorem SwM.drawn (h : SwM w s G gd base W H AT cT C AS cS todo cd d a n P B) (hd : Drawn0 w w') : SwM w' s G gd base W H AT cT C AS cS todo cd d a n P B :=
  h.ringStep (h.ring.drawn hd) (Chg.of_below hd.below _)
/-- What is read of the sweeper's block. -/
theorem SwM.cells (h : SwM w s G gd base W H AT cT C AS cS todo cd d a n P B) : w.cell? ⟨s, 0, none⟩ = some (.int .i64 W) ∧ w.cell? ⟨s, 1, none⟩ = some (.int .i64 H) ∧ w.cell? ⟨s, 2, none⟩ = some (.slice AT C.length cT) ∧ w.cell? ⟨s, 3, none⟩ = some (.pointer (some ⟨G, 0, none⟩)) ∧ w.cell? ⟨s, 4, none⟩ = some (.slice AS todo.length cS) ∧ w.cell? ⟨s, 5, none⟩ = some (.slice (some ⟨gd, 0, none⟩) d.length cd) :=
  ⟨cell_blk h.blk rfl, cell_blk h.blk rfl, cell_blk h.blk rfl, cell_blk h.blk rfl, cell_blk h.blk rfl, cell_blk h.blk rfl⟩
theorem SwM.distAt (h : SwM w s G gd base W H AT cT C AS cS todo cd d a n P B) {i : Nat} (hi : i < d.length) : w.cell? ⟨gd, i, none⟩ = some (.int .i64 (rd d i)) := by
  have := RowIn.cell h.dist (j := i) (by simpa using hi) (c := 0) (by decide) (u := .int .i64 (rd d i)) (by
    rw [rd_get d hi]
    simp [encI, hi])
  simpa using this
theorem SwM.tileAt (h : SwM w s G gd base W H AT cT C AS cS todo cd d a n P B) {i : Nat} (hi : i < C.length) : ∃ ad, AT = some ad ∧ w.cell? (ad.add i) = some (.int .u8 (rd C i)) := by
  have := Kd.at_int h.tile (i : Int) (by omega) (by omega)
  simpa using this
theorem SwM.clen (h : SwM w s G gd base W H AT cT C AS cS todo cd d a n P B) : C.length ≤ 9223372036854775807 := h.tile.2.1

set_option maxHeartbeats 1000000 in
theorem reach_no (h : SwM w s G gd base W H AT cT C AS cS todo cd d a n P B) (i : Nat) (hi : i < C.length) (key : Int) (hno : rd C i = 255 ∨ rd d i ≠ INF) :
    Calls Try.prog 141 #[.pointer (some ⟨s, 0, none⟩), .int .i64 i, .int .i64 key] w fun e w' => e = .returned (.tuple #[]) ∧ w' = w := by
  obtain ⟨c0, c1, c2, c3, c4, c5⟩ := h.cells
  obtain ⟨ad, rfl, ct⟩ := h.tileAt hi
  have cdd := h.distAt (i := i) (by rw [h.dlen]; exact hi)
  have hil : (i : Int) < (C.length : Int) := by omega
  have hil2 : (i : Int) < (d.length : Int) := by rw [h.dlen]; exact hil
  have hcl := h.clen
  clear h
  by_cases hw : rd C i = 255
  · have b1 : (rd C (i : Int) != 255) = false := by simp [hw]
    have b2 : (rd C (i : Int) == 255) = true := by simp [hw]
    clear hno hw
    go_enter Try.func141, Try.ntmps141
    go_wp2
    go_end0
    exact ⟨rfl, rfl⟩
  · have b1 : (rd C (i : Int) != 255) = true := by simp [hw]
    have b2 : (rd C (i : Int) == 255) = false := by simp [hw]
    have hd : rd d (i : Int) ≠ 1099511627776 := hno.resolve_left hw
    have b3 : (rd d (i : Int) == 1099511627776) = false := beq_eq_false_iff_ne.2 hd
    clear hno hw hd
    go_enter Try.func141, Try.ntmps141
    go_wp2
    go_end0
    exact ⟨rfl, rfl⟩

set_option maxHeartbeats 1000000 in
theorem reach_yes (h : SwM w s G gd base W H AT cT C AS cS todo cd d a n P B) (i : Nat) (hi : i < C.length) (key : Int) (hw : rd C i ≠ 255) (hd : rd d i = INF) (hk : a ≤ key) (hk1 : key ≤ 4611686018427387904) (hnear : key - a < 256) (hP : (P + 1) * 8 ≤ 140737488355328) :
    Calls Try.prog 141 #[.pointer (some ⟨s, 0, none⟩), .int .i64 i, .int .i64 key] w fun e w' => e = .returned (.tuple #[]) ∧ SwM w' s G gd base W H AT cT C AS cS todo cd d a (n + 1) (P + 1) (updB B (key % 256).toNat (B (key % 256).toNat ++ [(i : Int)])) ∧ Chg (RingS G base) w w' := by
  have HM := Aside0.mk h
  have HP := Aside0.mk (Put_yes G base a n P B key i w h.ring hk hk1 hnear hP)
  obtain ⟨c0, c1, c2, c3, c4, c5⟩ := h.cells
  obtain ⟨ad, rfl, ct⟩ := h.tileAt hi
  have cdd := h.distAt (i := i) (by rw [h.dlen]; exact hi)
  have hil : (i : Int) < (C.length : Int) := by omega
  have hil2 : (i : Int) < (d.length : Int) := by rw [h.dlen]; exact hil
  have hcl := h.clen
  have b1 : (rd C (i : Int) != 255) = true := by simp [hw]
  have b2 : (rd C (i : Int) == 255) = false := by simp [hw]
  have b3 : (rd d (i : Int) == 1099511627776) = true := beq_iff_eq.2 hd
  clear hw hd h
  go_enter Try.func141, Try.ntmps141
  go_wp2_with (go_at_call 138; refine HP.out.mono ?_; rintro e w1 ⟨rfl, hr, hc⟩; have HR := Aside0.mk hr; have HC := Aside0.mk hc; clear hr hc)
  go_end0
  exact ⟨rfl, HM.out.ringStep HR.out HC.out, HC.out⟩

theorem mod_up {W x : Int} (hW : 1 ≤ W) (hx : 0 ≤ x) (h : x % W < W - 1) : (x + 1) % W = x % W + 1 := by
  have h0 := Int.emod_nonneg x (show W ≠ 0 by omega)
  have h1 := Int.mul_ediv_add_emod x W
  rw [show x + 1 = (x % W + 1) + W * (x / W) by omega, Int.add_mul_emod_self_left]
  exact Int.emod_eq_of_lt (by omega) (by omega)
theorem mod_down {W x : Int} (hW : 1 ≤ W) (hx : 0 ≤ x) (h : 0 < x % W) : (x - 1) % W = x % W - 1 := by
  have h0 := Int.emod_lt_of_pos x (show 0 < W by omega)
  have h1 := Int.mul_ediv_add_emod x W
  rw [show x - 1 = (x % W - 1) + W * (x / W) by omega, Int.add_mul_emod_self_left]
  exact Int.emod_eq_of_lt (by omega) (by omega)
/-- What has come to wait besides. -/
structure Grew (a : Int) (N : Nat) (X : Int → Nat → Prop) (n P : Nat) (B : Nat → List Int) (n' P' : Nat) (B' : Nat → List Int) : Prop where
  le : n ≤ n'
  puts : P' + n = P + n'
  mem : ∀ k j, memR a B' k j ↔ memR a B k j ∨ X k j
  items : itemsOk N B → itemsOk N B'
theorem Grew.refl (a : Int) (N n P : Nat) (B : Nat → List Int) : Grew a N (fun _ _ => False) n P B n P B := ⟨Nat.le_refl _, rfl, fun _ _ => by simp, id⟩
theorem Grew.trans {a : Int} {N : Nat} {X X' : Int → Nat → Prop} {n P n' P' n2 P2 : Nat} {B B' B2 : Nat → List Int} (h : Grew a N X n P B n' P' B') (k : Grew a N X' n' P' B' n2 P2 B2) : Grew a N (fun q j => X q j ∨ X' q j) n P B n2 P2 B2 where
  le := Nat.le_trans h.le k.le
  puts := by have := h.puts; have := k.puts; omega
  mem q j := by rw [k.mem, h.mem, or_assoc]
  items hi := k.items (h.items hi)
theorem Grew.iff {a : Int} {N : Nat} {X X' : Int → Nat → Prop} {n P n' P' : Nat} {B B' : Nat → List Int} (h : Grew a N X n P B n' P' B') (e : ∀ k j, X k j ↔ X' k j) : Grew a N X' n P B n' P' B' := ⟨h.le, h.puts, fun k j => by rw [h.mem, e], h.items⟩

/-- One cell that may wait. -/
def X1 (C d : List Int) (i : Nat) (key : Int) (k : Int) (j : Nat) : Prop := k = key ∧ j = i ∧ rd C j ≠ 255 ∧ rd d j = INF

theorem reach_any (h : SwM w s G gd base W H AT cT C AS cS todo cd d a n P B) (i : Nat) (hi : i < C.length) (key : Int) (hk : a ≤ key) (hk1 : key ≤ 4611686018427387904) (hnear : key - a < 256) (hP : (P + 1) * 8 ≤ 140737488355328) :
    Calls Try.prog 141 #[.pointer (some ⟨s, 0, none⟩), .int .i64 i, .int .i64 key] w fun e w' => e = .returned (.tuple #[]) ∧ ∃ n' P' B', SwM w' s G gd base W H AT cT C AS cS todo cd d a n' P' B' ∧ Chg (RingS G base) w w' ∧ Grew a C.length (X1 C d i key) n P B n' P' B' ∧ n' ≤ n + 1 := by
  by_cases hw : rd C i = 255
  · exact (reach_no h i hi key (.inl hw)).mono fun _ _ ⟨he, hw'⟩ => ⟨he, n, P, B, by rw [hw']; exact h, by rw [hw']; exact Chg.refl _ _, (Grew.refl a C.length n P B).iff (fun k j => ⟨fun f => f.elim, fun ⟨_, e, f, _⟩ => f (by rw [e]; exact hw)⟩), by omega⟩
  · by_cases hd : rd d i = INF
    · refine (reach_yes h i hi key hw hd hk hk1 hnear hP).mono fun _ _ ⟨he, hs, hc⟩ => ⟨he, _, _, _, hs, hc, ⟨Nat.le_succ _, by omega, fun k j => ?_, fun hi' => hi'.put _ (by omega) (by omega)⟩, Nat.le_refl _⟩
      rw [mem_put hk (by omega)]
      unfold X1
      constructor
      · rintro (e | ⟨e1, e2⟩)
        · exact .inl e
        · exact .inr ⟨e1, e2, by rw [e2]; exact hw, by rw [e2]; exact hd⟩
      · rintro (e | ⟨e1, e2, _⟩)
        · exact .inl e
        · exact .inr ⟨e1, e2⟩
    · exact (reach_no h i hi key (.inr hd)).mono fun _ _ ⟨he, hw'⟩ => ⟨he, n, P, B, by rw [hw']; exact h, by rw [hw']; exact Chg.refl _ _, (Grew.refl a C.length n P B).iff (fun k j => ⟨fun f => f.elim, fun ⟨_, e, _, f⟩ => hd (by rw [← e]; exact f)⟩), by omega⟩

set_option maxRecDepth 100000 in
set_option maxHeartbeats 4000000 in
theorem around_calls (h : SwM w s G gd base W H AT cT C AS cS todo cd d a n P B) (hW : 1 ≤ W ∧ W ≤ 16) (hH : 1 ≤ H ∧ H ≤ 16) (hC : (C.length : Int) = W * H) (i : Nat) (hi : i < C.length) (hd : rd d i = a) (hc1 : 1 ≤ rd C i ∧ rd C i ≤ 254) (ha : a ≤ 2000000000000000000) (hP : (P + 5) * 8 ≤ 140737488355328) :
    Calls Try.prog 115 #[.pointer (some ⟨s, 0, none⟩), .int .i64 i] w fun e w' => e = .returned (.tuple #[]) ∧ ∃ n' P' B', SwM w' s G gd base W H AT cT C AS cS todo cd d a n' P' B' ∧ Chg (RingS G base) w w' ∧ n' ≤ n + 4 ∧
      Grew a C.length (fun k j => k = a + rd C i ∧ j < C.length ∧ AdjT W j i ∧ rd C j ≠ 255 ∧ rd d j = INF) n P B n' P' B' := by
  have HM := Aside0.mk h
  have ha0 := h.ring.a0
  obtain ⟨c0, c1, c2, c3, c4, c5⟩ := h.cells
  obtain ⟨ad, hAT, ct⟩ := h.tileAt hi
  have cdd := h.distAt (i := i) (by rw [h.dlen]; exact hi)
  rw [hd] at cdd
  have hil : (i : Int) < (C.length : Int) := by omega
  have hil2 : (i : Int) < (d.length : Int) := by rw [h.dlen]; exact hil
  have HAT := Aside0.mk hAT
  rw [hAT] at c2
  obtain ⟨kc, hkc⟩ : ∃ kc, kc = rd C i := ⟨_, rfl⟩
  rw [← hkc] at hc1 ct
  have HKC := Aside0.mk hkc
  have HD := Aside0.mk hd
  have HCL := Aside0.mk hC
  have hq0 : 0 ≤ (i : Int) / W := Int.ediv_nonneg (by omega) (by omega)
  have hq255 : (i : Int) / W ≤ (i : Int) := Int.ediv_le_self W (by omega)
  have hr0 : 0 ≤ (i : Int) % W := Int.emod_nonneg _ (by omega)
  have hrW : (i : Int) % W < W := Int.emod_lt_of_pos _ (by omega)
  have hWH := mul_small hW hH
  have hdm := Int.mul_ediv_add_emod (i : Int) W
  have hq1 : 0 < (i : Int) / W → W ≤ (i : Int) := fun h0 => by
    have := Int.mul_le_mul_of_nonneg_left (c := W) (show 1 ≤ (i : Int) / W by omega) (by omega)
    omega
  have hq2 : (i : Int) / W < H - 1 → (i : Int) + W < C.length := fun h0 => by
    have := Int.mul_le_mul_of_nonneg_left (c := W) (show (i : Int) / W + 2 ≤ H by omega) (by omega)
    rw [Int.mul_add] at this
    omega
  have hq3 : (i : Int) % W < W - 1 → (i : Int) + 1 < C.length := fun h0 => by
    have h1 : (i : Int) / W < H := by
      rcases Int.lt_or_le ((i : Int) / W) H with h | h
      · exact h
      · have := Int.mul_le_mul_of_nonneg_left (c := W) h (by omega)
        omega
    have := Int.mul_le_mul_of_nonneg_left (c := W) (show (i : Int) / W + 1 ≤ H by omega) (by omega)
    rw [Int.mul_add] at this
    omega
  have hi256 : (i : Int) < 256 := by omega
  have HQ1 := Aside0.mk hq1
  have HQ2 := Aside0.mk hq2
  have HQ3 := Aside0.mk hq3
  have HDM := Aside0.mk hdm
  clear h hAT hkc hd hC hq1 hq2 hq3 hdm
  go_enter Try.func115, Try.ntmps115
  go_wp2_with fail
  go_quiet (fail)
  generalize hw0 : w.drewN nq = w0 at *
  have HM0 : SwM w0 s G gd base W H AT cT C AS cS todo cd d a n P B := by rw [← hw0]; exact HM.out.drawn ⟨⟨nq, rfl⟩⟩
  have HCH0 : Chg (RingS G base) w w0 := by rw [← hw0]; exact Chg.of_below ((⟨⟨nq, rfl⟩⟩ : Drawn0 w (w.drewN nq)).below) _
  clear hw0 c0 c1 c2 c3 c4 c5 ct cdd
  obtain ⟨c0, c1, c2, c3, c4, c5⟩ := HM0.cells
  have HM1 := Aside0.mk HM0
  have HC1 := Aside0.mk HCH0
  clear HM0 HCH0
  go_wp2_with fail
  go_quiet (fail)
  generalize hw1 : w0.drewN nq = w1 at *
  have HM0 : SwM w1 s G gd base W H AT cT C AS cS todo cd d a n P B := by rw [← hw1]; exact HM1.out.drawn ⟨⟨nq, rfl⟩⟩
  have HCH0 : Chg (RingS G base) w w1 := by rw [← hw1]; exact HC1.out.then_ (Chg.of_below ((⟨⟨nq, rfl⟩⟩ : Drawn0 w0 (w0.drewN nq)).below) (fun _ => False)) (fun _ h => h.elim)
  clear hw1 c0 c1 c2 c3 c4 c5
  obtain ⟨c0, c1, c2, c3, c4, c5⟩ := HM0.cells
  have HM2 := Aside0.mk HM0
  have HC2 := Aside0.mk HCH0
  clear HM0 HCH0 HM1 HC1
  go_upto_if 39 with (fail)
  go_cut [] (fun wc => ∃ (n1 P1 : Nat) (B1 : Nat → List Int), Aside0 (SwM wc s G gd base W H AT cT C AS cS todo cd d a n1 P1 B1) ∧ Aside0 (Chg (RingS G base) w wc) ∧ Aside0 (Grew a C.length (fun k j => (0 < (i : Int) / W ∧ X1 C d ((i : Int) - W).toNat (a + kc) k j)) n P B n1 P1 B1) ∧ Aside0 (n1 ≤ n + 1))
  case first =>
    by_cases hc : 0 < (i : Int) / W
    · have hge : W ≤ (i : Int) := HQ1.out hc
      have hcall := reach_any HM2.out ((i : Int) - W).toNat (by omega) (a + kc) (by omega) (by omega) (by omega) (by omega)
      rw [show ((((i : Int) - W).toNat : Nat) : Int) = (i : Int) - W by omega] at hcall
      have HCALL := Aside0.mk hcall
      clear hcall
      go_wp2_with (go_at_call 141; refine HCALL.out.mono ?_; rintro e w2 ⟨rfl, n1, P1, B1, hs, hch, hg, hn⟩)
      go_meet
      exact ⟨n1, P1, B1, ⟨hs⟩, ⟨HC2.out.trans hch⟩, ⟨hg.iff (fun k j => ⟨fun h => ⟨hc, h⟩, fun h => h.2⟩)⟩, ⟨hn⟩⟩
    · go_wp2
      go_meet
      exact ⟨n, P, B, HM2, HC2, ⟨(Grew.refl a C.length n P B).iff (fun k j => ⟨fun h => h.elim, fun h => absurd h.1 (by omega)⟩)⟩, ⟨by omega⟩⟩
  case rest =>
  obtain ⟨n1, P1, B1, HM3, HC3, HG3, HN3⟩ := hcut
  obtain ⟨c0, c1, c2, c3, c4, c5⟩ := HM3.out.cells
  go_upto_if 57 with (fail)
  go_cut [] (fun wc => ∃ (n1 P1 : Nat) (B1 : Nat → List Int), Aside0 (SwM wc s G gd base W H AT cT C AS cS todo cd d a n1 P1 B1) ∧ Aside0 (Chg (RingS G base) w wc) ∧ Aside0 (Grew a C.length (fun k j => ((0 < (i : Int) / W ∧ X1 C d ((i : Int) - W).toNat (a + kc) k j) ∨ ((i : Int) % W < W - 1 ∧ X1 C d (i + 1) (a + kc) k j))) n P B n1 P1 B1) ∧ Aside0 (n1 ≤ n + 2))
  case first =>
    by_cases hc : (i : Int) % W < W - 1
    · have hge := HQ3.out hc
      have hcall := reach_any HM3.out (i + 1) (by omega) (a + kc) (by omega) (by omega) (by omega) (by have := HG3.out.puts; have := HN3.out; omega)
      rw [show (((i + 1 : Nat)) : Int) = (i : Int) + 1 by omega] at hcall
      have HCALL := Aside0.mk hcall
      clear hcall
      go_wp2_with (go_at_call 141; refine HCALL.out.mono ?_; rintro e w2 ⟨rfl, n2, P2, B2, hs, hch, hg, hn⟩)
      go_meet
      exact ⟨n2, P2, B2, ⟨hs⟩, ⟨HC3.out.trans hch⟩, ⟨(HG3.out.trans hg).iff (fun k j => ⟨fun h => h.imp id (fun x => ⟨hc, x⟩), fun h => h.imp id (fun x => x.2)⟩)⟩, ⟨by have := HN3.out; omega⟩⟩
    · go_wp2
      go_meet
      exact ⟨n1, P1, B1, HM3, HC3, ⟨HG3.out.iff (fun k j => ⟨fun h => .inl h, fun h => h.elim id (fun x => absurd x.1 (by omega))⟩)⟩, ⟨by have := HN3.out; omega⟩⟩
  case rest =>
  clear c0 c1 c2 c3 c4 c5
  obtain ⟨n2, P2, B2, HM4, HC4, HG4, HN4⟩ := hcut
  obtain ⟨c0, c1, c2, c3, c4, c5⟩ := HM4.out.cells
  go_upto_if 70 with (fail)
  go_cut [] (fun wc => ∃ (n1 P1 : Nat) (B1 : Nat → List Int), Aside0 (SwM wc s G gd base W H AT cT C AS cS todo cd d a n1 P1 B1) ∧ Aside0 (Chg (RingS G base) w wc) ∧ Aside0 (Grew a C.length (fun k j => (((0 < (i : Int) / W ∧ X1 C d ((i : Int) - W).toNat (a + kc) k j) ∨ ((i : Int) % W < W - 1 ∧ X1 C d (i + 1) (a + kc) k j)) ∨ ((i : Int) / W < H - 1 ∧ X1 C d ((i : Int) + W).toNat (a + kc) k j))) n P B n1 P1 B1) ∧ Aside0 (n1 ≤ n + 3))
  case first =>
    by_cases hc : (i : Int) / W < H - 1
    · have hge := HQ2.out hc
      have hcall := reach_any HM4.out (((i : Int) + W).toNat) (by omega) (a + kc) (by omega) (by omega) (by omega) (by have := HG4.out.puts; have := HN4.out; omega)
      rw [show ((((i : Int) + W).toNat : Nat) : Int) = (i : Int) + W by omega] at hcall
      have HCALL := Aside0.mk hcall
      clear hcall
      go_wp2_with (go_at_call 141; refine HCALL.out.mono ?_; rintro e w2 ⟨rfl, n2, P2, B2, hs, hch, hg, hn⟩)
      go_meet
      exact ⟨n2, P2, B2, ⟨hs⟩, ⟨HC4.out.trans hch⟩, ⟨(HG4.out.trans hg).iff (fun k j => ⟨fun h => h.imp id (fun x => ⟨hc, x⟩), fun h => h.imp id (fun x => x.2)⟩)⟩, ⟨by have := HN4.out; omega⟩⟩
    · go_wp2
      go_meet
      exact ⟨n2, P2, B2, HM4, HC4, ⟨HG4.out.iff (fun k j => ⟨fun h => .inl h, fun h => h.elim id (fun x => absurd x.1 (by omega))⟩)⟩, ⟨by have := HN4.out; omega⟩⟩
  case rest =>
  clear c0 c1 c2 c3 c4 c5
  obtain ⟨n3, P3, B3, HM5, HC5, HG5, HN5⟩ := hcut
  obtain ⟨c0, c1, c2, c3, c4, c5⟩ := HM5.out.cells
  have hend : ∀ (n4 P4 : Nat) (B4 : Nat → List Int), Grew a C.length (fun k j => ((((0 < (i : Int) / W ∧ X1 C d ((i : Int) - W).toNat (a + kc) k j) ∨ ((i : Int) % W < W - 1 ∧ X1 C d (i + 1) (a + kc) k j)) ∨ ((i : Int) / W < H - 1 ∧ X1 C d ((i : Int) + W).toNat (a + kc) k j)) ∨ (0 < (i : Int) % W ∧ X1 C d (i - 1) (a + kc) k j))) n P B n4 P4 B4 → Grew a C.length (fun k j => k = a + rd C i ∧ j < C.length ∧ AdjT W j i ∧ rd C j ≠ 255 ∧ rd d j = INF) n P B n4 P4 B4 := by
    intro n4 P4 B4 hg
    refine hg.iff (fun k j => ?_)
    unfold X1 AdjT
    rw [← HKC.out]
    have hdm := HDM.out
    have hcl := HCL.out
    have e2 := HQ2.out
    have e3 := HQ3.out
    have e1 := HQ1.out
    have hmul : ∀ x : Int, H ≤ x → W * H ≤ W * x := fun x hx => Int.mul_le_mul_of_nonneg_left hx (by omega)
    have hdiv : (i : Int) / W < H := by
      rcases Int.lt_or_le ((i : Int) / W) H with h | h
      · exact h
      · have := hmul _ h; omega
    have f2 : (i : Int) + W < C.length → (i : Int) / W < H - 1 := fun h0 => by
      rcases Int.lt_or_le ((i : Int) / W) (H - 1) with h | h
      · exact h
      · have := hmul ((i : Int) / W + 1) (by omega)
        rw [Int.mul_add] at this
        omega
    have f1 : W ≤ (i : Int) → 0 < (i : Int) / W := fun h0 => by
      rcases Int.lt_or_le 0 ((i : Int) / W) with h | h
      · exact h
      · have h1 : (i : Int) / W = 0 := by omega
        rw [h1] at hdm
        omega
    constructor
    · rintro (((⟨hc, rfl, rfl, q1, q2⟩ | ⟨hc, rfl, rfl, q1, q2⟩) | ⟨hc, rfl, rfl, q1, q2⟩) | ⟨hc, rfl, rfl, q1, q2⟩)
      · have := e1 hc
        exact ⟨rfl, by omega, .inr (.inr (.inl (by omega))), q1, q2⟩
      · have := e3 hc
        have hm := mod_up hW.1 (show (0 : Int) ≤ i by omega) hc
        exact ⟨rfl, by omega, .inr (.inr (.inr ⟨by omega, by rw [show (((i + 1 : Nat)) : Int) = (i : Int) + 1 by omega]; omega⟩)), q1, q2⟩
      · have := e2 hc
        exact ⟨rfl, by omega, .inl (by omega), q1, q2⟩
      · have hi1 : 1 ≤ i := by
          rcases Nat.eq_zero_or_pos i with h | h
          · subst h; simp at hc
          · omega
        have hm := mod_down hW.1 (show (0 : Int) ≤ i by omega) hc
        exact ⟨rfl, by omega, .inr (.inl ⟨by omega, by rw [show (((i - 1 : Nat)) : Int) = (i : Int) - 1 by omega]; omega⟩), q1, q2⟩
    · rintro ⟨rfl, hj, had | ⟨had, hm⟩ | had | ⟨had, hm⟩, q1, q2⟩
      · exact .inl (.inr ⟨f2 (by omega), rfl, by omega, q1, q2⟩)
      · have hm2 := mod_up hW.1 (show (0 : Int) ≤ j by omega) hm
        exact .inr ⟨by rw [had, hm2]; have := Int.emod_nonneg (j : Int) (show W ≠ 0 by omega); omega, rfl, by omega, q1, q2⟩
      · exact .inl (.inl (.inl ⟨f1 (by omega), rfl, by omega, q1, q2⟩))
      · have hm2 := mod_down hW.1 (show (0 : Int) ≤ j by omega) hm
        exact .inl (.inl (.inr ⟨by rw [had, hm2]; have := Int.emod_lt_of_pos (j : Int) (show 0 < W by omega); omega, rfl, by omega, q1, q2⟩))
  have HEND := Aside0.mk hend
  clear hend
  by_cases hc : 0 < (i : Int) % W
  · have hge : 1 ≤ (i : Int) := by
      rcases Nat.eq_zero_or_pos i with h | h
      · subst h; simp at hc
      · omega
    have hcall := reach_any HM5.out (i - 1) (by omega) (a + kc) (by omega) (by omega) (by omega) (by have := HG5.out.puts; have := HN5.out; omega)
    rw [show ((i - 1 : Nat) : Int) = (i : Int) - 1 by omega] at hcall
    have HCALL := Aside0.mk hcall
    clear hcall
    go_wp2_with (go_at_call 141; refine HCALL.out.mono ?_; rintro e w2 ⟨rfl, n2, P2, B2, hs, hch, hg, hn⟩; have HS2 := Aside0.mk hs; have HC2' := Aside0.mk hch; have HG2' := Aside0.mk hg; have HN2' := Aside0.mk hn; clear hs hch hg hn)
    go_end0
    exact ⟨rfl, n2, P2, B2, HS2.out, HC5.out.trans HC2'.out, by have := HN5.out; have := HN2'.out; omega, HEND.out _ _ _ ((HG5.out.trans HG2'.out).iff (fun k j => ⟨fun h => h.imp id (fun x => ⟨hc, x⟩), fun h => h.imp id (fun x => x.2)⟩))⟩
  · go_wp2
    go_end0
    exact ⟨rfl, n3, P3, B3, HM5.out, HC5.out, by have := HN5.out; omega, HEND.out _ _ _ (HG5.out.iff (fun k j => ⟨fun h => .inl h, fun h => h.elim id (fun x => absurd x.1 (by omega))⟩))⟩
end Go.Proofs.Ytgcfcemgeppkmaa.P
