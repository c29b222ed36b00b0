/-
  PLAIN: what waits in a ring, as pairs of key and cell. The sweeper in memory, and its methods. sweeper.fill: the ring is told all seeds that it can take. sweeper.run: the distances are the least ones. slices.Repeat at a row of one int. sweep.Spread.
-/
import Derived.Test.YthgehdembghdaaaGreatXMay
import Derived.Test.YthgehdembghdaaaGreatXTile
import Derived.Test.YthgehdembghdaaaGreatXSort
import Derived.Deep.QuietTactic
import Derived.BigQuiet
import Derived.Deep.DeepCutAuto
import Derived.Deep.LoopGhost
import Derived.Deep.CutBlock
import Derived.StillTailTactics
import Derived.Deep.RegionHeld3
import Derived.Test.YthgehdembghdaaaGreatXLay
import Derived.Laws.IdiomCopy
import Derived.Shelf.Bits.Mul64
namespace Go.Proofs.YthgehdembghdaaaGreat.P
open Go.RowKit Go.Proofs.YthgehdembghdaaaGreatW.PrintWords Go.Proofs.YthgehdembghdaaaGreatW.PrintLast Go.Proofs.YthgehdembghdaaaGreatW.PrintMore
open Go.Proofs.YthgehdembghdaaaGreat.Dist
set_option linter.unusedVariables false
set_option linter.unusedSimpArgs false
def memR (a : Int) (B : Nat → List Int) (k : Int) (i : Nat) : Prop := a ≤ k ∧ k < a + 256 ∧ (i : Int) ∈ B (k % 256).toNat
theorem mem_put {a key : Int} {B : Nat → List Int} {i0 : Nat} (h1 : a ≤ key) (h2 : key < a + 256) (k : Int) (i : Nat) : memR a (updB B (key % 256).toNat (B (key % 256).toNat ++ [(i0 : Int)])) k i ↔ memR a B k i ∨ (k = key ∧ i = i0) := by
  unfold memR
  constructor
  · rintro ⟨e1, e2, e3⟩
    by_cases e : (k % 256).toNat = (key % 256).toNat
    · have hk : k = key := by omega
      subst hk
      rw [updB_at, List.mem_append, List.mem_singleton] at e3
      rcases e3 with e3 | e3
      · exact .inl ⟨e1, e2, e3⟩
      · exact .inr ⟨rfl, by omega⟩
    · rw [updB_ne _ _ e] at e3
      exact .inl ⟨e1, e2, e3⟩
  · rintro (⟨e1, e2, e3⟩ | ⟨rfl, rfl⟩)
    · refine ⟨e1, e2, ?_⟩
      by_cases e : (k % 256).toNat = (key % 256).toNat
      · rw [e] at e3 ⊢
        rw [updB_at]
        exact List.mem_append_left _ e3
      · rw [updB_ne _ _ e]; exact e3
    · exact ⟨h1, h2, by rw [updB_at]; simp⟩
theorem mem_pop {a : Int} {B : Nat → List Int} {J i0 : Nat} {rest : List Int} (ha : 0 ≤ a) (hJ : J < 256) (hE : ∀ i, i < J → B ((a + (i : Int)) % 256).toNat = []) (hH : B ((a + (J : Int)) % 256).toNat = (i0 : Int) :: rest) :
    memR a B (a + J) i0 ∧ (∀ k i, memR a B k i → a + J ≤ k) ∧ (∀ k i, memR a B k i → memR (a + J) (updB B ((a + (J : Int)) % 256).toNat rest) k i ∨ (k = a + J ∧ i = i0)) ∧ (∀ k i, memR (a + J) (updB B ((a + (J : Int)) % 256).toNat rest) k i → memR a B k i) := by
  have hmin : ∀ k i, memR a B k i → a + J ≤ k := by
    rintro k i ⟨e1, e2, e3⟩
    by_cases h : a + (J : Int) ≤ k
    · exact h
    · have := hE (k - a).toNat (by omega)
      rw [show a + (((k - a).toNat : Nat) : Int) = k by omega] at this
      rw [this] at e3
      simp at e3
  refine ⟨⟨by omega, by omega, by rw [hH]; simp⟩, hmin, ?_, ?_⟩
  · rintro k i hm
    have h := hmin k i hm
    obtain ⟨e1, e2, e3⟩ := hm
    by_cases e : (k % 256).toNat = ((a + (J : Int)) % 256).toNat
    · have hk : k = a + J := by omega
      subst hk
      rw [hH] at e3
      rcases List.mem_cons.1 e3 with e4 | e4
      · exact .inr ⟨rfl, by omega⟩
      · exact .inl ⟨by omega, by omega, by rw [updB_at]; exact e4⟩
    · exact .inl ⟨h, by omega, by rw [updB_ne _ _ e]; exact e3⟩
  · rintro k i ⟨e1, e2, e3⟩
    by_cases e : (k % 256).toNat = ((a + (J : Int)) % 256).toNat
    · have hk : k = a + J := by omega
      subst hk
      rw [updB_at] at e3
      exact ⟨by omega, by omega, by rw [hH]; exact List.mem_cons_of_mem _ e3⟩
    · rw [updB_ne _ _ e] at e3
      refine ⟨by omega, ?_, e3⟩
      by_cases h : k < a + 256
      · exact h
      · have := hE (k - 256 - a).toNat (by omega)
        rw [show ((a + (((k - 256 - a).toNat : Nat) : Int)) % 256).toNat = (k % 256).toNat by omega] at this
        rw [this] at e3
        simp at e3
theorem mem_none {a : Int} {B : Nat → List Int} (h : total B 256 = 0) (k : Int) (i : Nat) : ¬ memR a B k i := by
  rintro ⟨_, _, e3⟩
  have h1 : 0 ≤ k % 256 := Int.emod_nonneg _ (by decide)
  have h2 : k % 256 < 256 := Int.emod_lt_of_pos _ (by decide)
  rw [total_zero B 256 h _ (by omega)] at e3
  simp at e3
def itemsOk (n : Nat) (B : Nat → List Int) : Prop := ∀ b, b < 256 → ∀ x, x ∈ B b → 0 ≤ x ∧ x < (n : Int)
theorem itemsOk.put {n : Nat} {B : Nat → List Int} (h : itemsOk n B) (b : Nat) {x : Int} (h0 : 0 ≤ x) (h1 : x < (n : Int)) : itemsOk n (updB B b (B b ++ [x])) := by
  intro b' hb' y hy
  by_cases e : b' = b
  · subst e
    rw [updB_at, List.mem_append, List.mem_singleton] at hy
    rcases hy with hy | rfl
    · exact h b' hb' y hy
    · exact ⟨h0, h1⟩
  · rw [updB_ne _ _ e] at hy; exact h b' hb' y hy
theorem itemsOk.pop {n : Nat} {B : Nat → List Int} (h : itemsOk n B) {b : Nat} (hb : b < 256) {x : Int} {rest : List Int} (hH : B b = x :: rest) : (0 ≤ x ∧ x < (n : Int)) ∧ itemsOk n (updB B b rest) := by
  refine ⟨h b hb x (by rw [hH]; simp), fun b' hb' y hy => ?_⟩
  by_cases e : b' = b
  · subst e
    rw [updB_at] at hy
    exact h b' hb' y (by rw [hH]; exact List.mem_cons_of_mem _ hy)
  · rw [updB_ne _ _ e] at hy; exact h b' hb' y hy
end Go.Proofs.YthgehdembghdaaaGreat.P
namespace Go.Proofs.YthgehdembghdaaaGreat.P
open Go.RowKit Go.Proofs.YthgehdembghdaaaGreatW.PrintWords Go.Proofs.YthgehdembghdaaaGreatW.PrintLast Go.Proofs.YthgehdembghdaaaGreatW.PrintMore
open Go.Proofs.YthgehdembghdaaaGreat.Dist
set_option linter.unusedVariables false
set_option linter.unusedSimpArgs false
def encI (x : Int) : List Value := [.int .i64 x]
theorem encI_len (x : Int) : (encI x).length = 1 := rfl
theorem flat_int {k : IntKind} {w w' : World} {S : Nat → Prop} {A : Option Addr} {xs : List Int} (h : (Kd.int k).C w A xs.length xs) (hc : Chg S w w') (hn : ∀ ad, A = some ad → 0 < xs.length → ¬ S ad.block) : (Kd.int k).C w' A xs.length xs := by
  refine ⟨h.1, h.2.1, fun h0 => ?_⟩
  obtain ⟨ad, e, hr⟩ := h.2.2 h0
  refine ⟨ad, e, fun j p hj => ?_⟩
  obtain ⟨c, h1, h2, h3⟩ := hr j p hj
  refine ⟨c, h1, h2, fun i u hu => ?_⟩
  have h4 := h3 i u hu
  have h5 := World.block_lt_of_cell? w _ h4
  have e1 : (ad.add (j * (Kd.int k).sz + i)).block = ad.block := by cases ad; simp [Addr.add]; split <;> rfl
  rw [World.cell?_of_block (hc.block _ h5 (by rw [e1]; exact hn ad e h0))]
  exact h4
theorem flat_seed {w w' : World} {S : Nat → Prop} {A : Option Addr} {xs : List Seed} (h : Kd.C k90 w A xs.length xs) (hc : Chg S w w') (hn : ∀ ad, A = some ad → 0 < xs.length → ¬ S ad.block) : Kd.C k90 w' A xs.length xs := by
  refine ⟨h.1, h.2.1, fun h0 => ?_⟩
  obtain ⟨ad, e, hr⟩ := h.2.2 h0
  refine ⟨ad, e, fun j p hj => ?_⟩
  obtain ⟨c, h1, h2, h3⟩ := hr j p hj
  refine ⟨c, h1, h2, fun i u hu => ?_⟩
  have h4 := h3 i u hu
  have h5 := World.block_lt_of_cell? w _ h4
  have e1 : (ad.add (j * k90.sz + i)).block = ad.block := by cases ad; simp [Addr.add]; split <;> rfl
  rw [World.cell?_of_block (hc.block _ h5 (by rw [e1]; exact hn ad e h0))]
  exact h4
structure SwM (w : World) (s G gd base : Nat) (W H : Int) (AT : Option Addr) (cT : Nat) (C : List Int) (AS : Option Addr) (cS : Nat) (todo : List Seed) (cd : Nat) (d : List Int) (a : Int) (n P : Nat) (B : Nat → List Int) : Prop where
  blk : w.heap[s]? = some (.cells #[.int .i64 W, .int .i64 H, .slice AT C.length cT, .pointer (some ⟨G, 0, none⟩), .slice AS todo.length cS, .slice (some ⟨gd, 0, none⟩) d.length cd] 168 (0, 0))
  tile : (Kd.int .u8).C w AT C.length C
  tileB : ∀ ad, AT = some ad → 0 < C.length → ad.block ≠ G ∧ ad.block ≠ s ∧ ad.block ≠ gd ∧ ad.block < base
  seeds : Kd.C k90 w AS todo.length todo
  seedsB : ∀ ad, AS = some ad → 0 < todo.length → ad.block ≠ G ∧ ad.block ≠ s ∧ ad.block ≠ gd ∧ ad.block < base
  seedsC : todo.length ≤ cS
  dist : RowIn encI 1 3 gd cd d.toArray w
  dlen : d.length = C.length
  ring : RingM w G base a n P B
  sG : s ≠ G
  gs : gd ≠ s
  gG : gd ≠ G
  sB : s < base
  gB : gd < base
variable {w w' : World} {s G gd base : Nat} {W H : Int} {AT : Option Addr} {cT : Nat} {C : List Int} {AS : Option Addr} {cS : Nat} {todo : List Seed} {cd : Nat} {d : List Int} {a : Int} {n P : Nat} {B : Nat → List Int}
theorem SwM.ringStep (h : SwM w s G gd base W H AT cT C AS cS todo cd d a n P B) {a' : Int} {n' P' : Nat} {B' : Nat → List Int} (hr : RingM w' G base a' n' P' B') (hc : Chg (RingS G base) w w') : SwM w' s G gd base W H AT cT C AS cS todo cd d a' n' P' B' where
  blk := hc.blk h.blk (by rintro (e | e); exact h.sG e; have := h.sB; omega)
  tile := flat_int h.tile hc (fun ad e h0 => by have := h.tileB ad e h0; rintro (e | e) <;> omega)
  tileB := h.tileB
  seeds := flat_seed h.seeds hc (fun ad e h0 => by have := h.seedsB ad e h0; rintro (e | e) <;> omega)
  seedsB := h.seedsB
  seedsC := h.seedsC
  dist := RowIn.heap h.dist (hc.block gd (RowIn.lt h.dist) (by rintro (e | e); exact h.gG e; have := h.gB; omega))
  dlen := h.dlen
  ring := hr
  sG := h.sG
  gs := h.gs
  gG := h.gG
  sB := h.sB
  gB := h.gB
theorem SwM.drawn (h : SwM w s G gd base W H AT cT C AS cS todo cd d a n P B) (hd : Drawn0 w w') : SwM w' s G gd base W H AT cT C AS cS todo cd d a n P B :=
  h.ringStep (h.ring.drawn hd) (Chg.of_below hd.below _)
theorem SwM.cells (h : SwM w s G gd base W H AT cT C AS cS todo cd d a n P B) : w.cell? ⟨s, 0, none⟩ = some (.int .i64 W) ∧ w.cell? ⟨s, 1, none⟩ = some (.int .i64 H) ∧ w.cell? ⟨s, 2, none⟩ = some (.slice AT C.length cT) ∧ w.cell? ⟨s, 3, none⟩ = some (.pointer (some ⟨G, 0, none⟩)) ∧ w.cell? ⟨s, 4, none⟩ = some (.slice AS todo.length cS) ∧ w.cell? ⟨s, 5, none⟩ = some (.slice (some ⟨gd, 0, none⟩) d.length cd) :=
  ⟨cell_blk h.blk rfl, cell_blk h.blk rfl, cell_blk h.blk rfl, cell_blk h.blk rfl, cell_blk h.blk rfl, cell_blk h.blk rfl⟩
theorem SwM.distAt (h : SwM w s G gd base W H AT cT C AS cS todo cd d a n P B) {i : Nat} (hi : i < d.length) : w.cell? ⟨gd, i, none⟩ = some (.int .i64 (rd d i)) := by
  have := RowIn.cell h.dist (j := i) (by simpa using hi) (c := 0) (by decide) (u := .int .i64 (rd d i)) (by
    rw [rd_get d hi]
    simp [encI, hi])
  simpa using this
theorem SwM.tileAt (h : SwM w s G gd base W H AT cT C AS cS todo cd d a n P B) {i : Nat} (hi : i < C.length) : ∃ ad, AT = some ad ∧ w.cell? (ad.add i) = some (.int .u8 (rd C i)) := by
  have := Kd.at_int h.tile (i : Int) (by omega) (by omega)
  simpa using this
theorem SwM.clen (h : SwM w s G gd base W H AT cT C AS cS todo cd d a n P B) : C.length ≤ 9223372036854775807 := h.tile.2.1
set_option maxHeartbeats 1000000 in
theorem reach_no (h : SwM w s G gd base W H AT cT C AS cS todo cd d a n P B) (i : Nat) (hi : i < C.length) (key : Int) (hno : rd C i = 255 ∨ rd d i ≠ INF) :
    Calls Tryz.prog 183 #[.pointer (some ⟨s, 0, none⟩), .int .i64 i, .int .i64 key] w fun e w' => e = .returned (.tuple #[]) ∧ w' = w := by
  obtain ⟨c0, c1, c2, c3, c4, c5⟩ := h.cells
  obtain ⟨ad, rfl, ct⟩ := h.tileAt hi
  have cdd := h.distAt (i := i) (by rw [h.dlen]; exact hi)
  have hil : (i : Int) < (C.length : Int) := by omega
  have hil2 : (i : Int) < (d.length : Int) := by rw [h.dlen]; exact hil
  have hcl := h.clen
  clear h
  by_cases hw : rd C i = 255
  · have b1 : (rd C (i : Int) != 255) = false := by simp [hw]
    have b2 : (rd C (i : Int) == 255) = true := by simp [hw]
    clear hno hw
    go_enter Tryz.func183, Tryz.ntmps183
    go_wp2
    go_end0
    exact ⟨rfl, rfl⟩
  · have b1 : (rd C (i : Int) != 255) = true := by simp [hw]
    have b2 : (rd C (i : Int) == 255) = false := by simp [hw]
    have hd : rd d (i : Int) ≠ 1099511627776 := hno.resolve_left hw
    have b3 : (rd d (i : Int) == 1099511627776) = false := beq_eq_false_iff_ne.2 hd
    clear hno hw hd
    go_enter Tryz.func183, Tryz.ntmps183
    go_wp2
    go_end0
    exact ⟨rfl, rfl⟩
set_option maxHeartbeats 1000000 in
theorem reach_yes (h : SwM w s G gd base W H AT cT C AS cS todo cd d a n P B) (i : Nat) (hi : i < C.length) (key : Int) (hw : rd C i ≠ 255) (hd : rd d i = INF) (hk : a ≤ key) (hk1 : key ≤ 4611686018427387904) (hnear : key - a < 256) (hP : (P + 1) * 8 ≤ 140737488355328) :
    Calls Tryz.prog 183 #[.pointer (some ⟨s, 0, none⟩), .int .i64 i, .int .i64 key] w fun e w' => e = .returned (.tuple #[]) ∧ SwM w' s G gd base W H AT cT C AS cS todo cd d a (n + 1) (P + 1) (updB B (key % 256).toNat (B (key % 256).toNat ++ [(i : Int)])) ∧ Chg (RingS G base) w w' := by
  have HM := Aside0.mk h
  have HP := Aside0.mk (Put_yes G base a n P B key i w h.ring hk hk1 hnear hP)
  obtain ⟨c0, c1, c2, c3, c4, c5⟩ := h.cells
  obtain ⟨ad, rfl, ct⟩ := h.tileAt hi
  have cdd := h.distAt (i := i) (by rw [h.dlen]; exact hi)
  have hil : (i : Int) < (C.length : Int) := by omega
  have hil2 : (i : Int) < (d.length : Int) := by rw [h.dlen]; exact hil
  have hcl := h.clen
  have b1 : (rd C (i : Int) != 255) = true := by simp [hw]
  have b2 : (rd C (i : Int) == 255) = false := by simp [hw]
  have b3 : (rd d (i : Int) == 1099511627776) = true := beq_iff_eq.2 hd
  clear hw hd h
  go_enter Tryz.func183, Tryz.ntmps183
  go_wp2_with (go_at_call 180; refine HP.out.mono ?_; rintro e w1 ⟨rfl, hr, hc⟩; have HR := Aside0.mk hr; have HC := Aside0.mk hc; clear hr hc)
  go_end0
  exact ⟨rfl, HM.out.ringStep HR.out HC.out, HC.out⟩
theorem mod_up {W x : Int} (hW : 1 ≤ W) (hx : 0 ≤ x) (h : x % W < W - 1) : (x + 1) % W = x % W + 1 := by
  have h0 := Int.emod_nonneg x (show W ≠ 0 by omega)
  have h1 := Int.mul_ediv_add_emod x W
  rw [show x + 1 = (x % W + 1) + W * (x / W) by omega, Int.add_mul_emod_self_left]
  exact Int.emod_eq_of_lt (by omega) (by omega)
theorem mod_down {W x : Int} (hW : 1 ≤ W) (hx : 0 ≤ x) (h : 0 < x % W) : (x - 1) % W = x % W - 1 := by
  have h0 := Int.emod_lt_of_pos x (show 0 < W by omega)
  have h1 := Int.mul_ediv_add_emod x W
  rw [show x - 1 = (x % W - 1) + W * (x / W) by omega, Int.add_mul_emod_self_left]
  exact Int.emod_eq_of_lt (by omega) (by omega)
structure Grew (a : Int) (N : Nat) (X : Int → Nat → Prop) (n P : Nat) (B : Nat → List Int) (n' P' : Nat) (B' : Nat → List Int) : Prop where
  le : n ≤ n'
  puts : P' + n = P + n'
  mem : ∀ k j, memR a B' k j ↔ memR a B k j ∨ X k j
  items : itemsOk N B → itemsOk N B'
theorem Grew.refl (a : Int) (N n P : Nat) (B : Nat → List Int) : Grew a N (fun _ _ => False) n P B n P B := ⟨Nat.le_refl _, rfl, fun _ _ => by simp, id⟩
theorem Grew.trans {a : Int} {N : Nat} {X X' : Int → Nat → Prop} {n P n' P' n2 P2 : Nat} {B B' B2 : Nat → List Int} (h : Grew a N X n P B n' P' B') (k : Grew a N X' n' P' B' n2 P2 B2) : Grew a N (fun q j => X q j ∨ X' q j) n P B n2 P2 B2 where
  le := Nat.le_trans h.le k.le
  puts := by have := h.puts; have := k.puts; omega
  mem q j := by rw [k.mem, h.mem, or_assoc]
  items hi := k.items (h.items hi)
theorem Grew.iff {a : Int} {N : Nat} {X X' : Int → Nat → Prop} {n P n' P' : Nat} {B B' : Nat → List Int} (h : Grew a N X n P B n' P' B') (e : ∀ k j, X k j ↔ X' k j) : Grew a N X' n P B n' P' B' := ⟨h.le, h.puts, fun k j => by rw [h.mem, e], h.items⟩
def X1 (C d : List Int) (i : Nat) (key : Int) (k : Int) (j : Nat) : Prop := k = key ∧ j = i ∧ rd C j ≠ 255 ∧ rd d j = INF
theorem reach_any (h : SwM w s G gd base W H AT cT C AS cS todo cd d a n P B) (i : Nat) (hi : i < C.length) (key : Int) (hk : a ≤ key) (hk1 : key ≤ 4611686018427387904) (hnear : key - a < 256) (hP : (P + 1) * 8 ≤ 140737488355328) :
    Calls Tryz.prog 183 #[.pointer (some ⟨s, 0, none⟩), .int .i64 i, .int .i64 key] w fun e w' => e = .returned (.tuple #[]) ∧ ∃ n' P' B', SwM w' s G gd base W H AT cT C AS cS todo cd d a n' P' B' ∧ Chg (RingS G base) w w' ∧ Grew a C.length (X1 C d i key) n P B n' P' B' ∧ n' ≤ n + 1 := by
  by_cases hw : rd C i = 255
  · exact (reach_no h i hi key (.inl hw)).mono fun _ _ ⟨he, hw'⟩ => ⟨he, n, P, B, by rw [hw']; exact h, by rw [hw']; exact Chg.refl _ _, (Grew.refl a C.length n P B).iff (fun k j => ⟨fun f => f.elim, fun ⟨_, e, f, _⟩ => f (by rw [e]; exact hw)⟩), by omega⟩
  · by_cases hd : rd d i = INF
    · refine (reach_yes h i hi key hw hd hk hk1 hnear hP).mono fun _ _ ⟨he, hs, hc⟩ => ⟨he, _, _, _, hs, hc, ⟨Nat.le_succ _, by omega, fun k j => ?_, fun hi' => hi'.put _ (by omega) (by omega)⟩, Nat.le_refl _⟩
      rw [mem_put hk (by omega)]
      unfold X1
      constructor
      · rintro (e | ⟨e1, e2⟩)
        · exact .inl e
        · exact .inr ⟨e1, e2, by rw [e2]; exact hw, by rw [e2]; exact hd⟩
      · rintro (e | ⟨e1, e2, _⟩)
        · exact .inl e
        · exact .inr ⟨e1, e2⟩
    · exact (reach_no h i hi key (.inr hd)).mono fun _ _ ⟨he, hw'⟩ => ⟨he, n, P, B, by rw [hw']; exact h, by rw [hw']; exact Chg.refl _ _, (Grew.refl a C.length n P B).iff (fun k j => ⟨fun f => f.elim, fun ⟨_, e, _, f⟩ => hd (by rw [← e]; exact f)⟩), by omega⟩
set_option maxRecDepth 100000 in
set_option maxHeartbeats 4000000 in
theorem around_calls (h : SwM w s G gd base W H AT cT C AS cS todo cd d a n P B) (hW : 1 ≤ W ∧ W ≤ 16) (hH : 1 ≤ H ∧ H ≤ 16) (hC : (C.length : Int) = W * H) (i : Nat) (hi : i < C.length) (hd : rd d i = a) (hc1 : 1 ≤ rd C i ∧ rd C i ≤ 254) (ha : a ≤ 2000000000000000000) (hP : (P + 5) * 8 ≤ 140737488355328) :
    Calls Tryz.prog 157 #[.pointer (some ⟨s, 0, none⟩), .int .i64 i] w fun e w' => e = .returned (.tuple #[]) ∧ ∃ n' P' B', SwM w' s G gd base W H AT cT C AS cS todo cd d a n' P' B' ∧ Chg (RingS G base) w w' ∧ n' ≤ n + 4 ∧
      Grew a C.length (fun k j => k = a + rd C i ∧ j < C.length ∧ AdjT W j i ∧ rd C j ≠ 255 ∧ rd d j = INF) n P B n' P' B' := by
  have HM := Aside0.mk h
  have ha0 := h.ring.a0
  obtain ⟨c0, c1, c2, c3, c4, c5⟩ := h.cells
  obtain ⟨ad, hAT, ct⟩ := h.tileAt hi
  have cdd := h.distAt (i := i) (by rw [h.dlen]; exact hi)
  rw [hd] at cdd
  have hil : (i : Int) < (C.length : Int) := by omega
  have hil2 : (i : Int) < (d.length : Int) := by rw [h.dlen]; exact hil
  have HAT := Aside0.mk hAT
  rw [hAT] at c2
  obtain ⟨kc, hkc⟩ : ∃ kc, kc = rd C i := ⟨_, rfl⟩
  rw [← hkc] at hc1 ct
  have HKC := Aside0.mk hkc
  have HD := Aside0.mk hd
  have HCL := Aside0.mk hC
  have hq0 : 0 ≤ (i : Int) / W := Int.ediv_nonneg (by omega) (by omega)
  have hq255 : (i : Int) / W ≤ (i : Int) := Int.ediv_le_self W (by omega)
  have hr0 : 0 ≤ (i : Int) % W := Int.emod_nonneg _ (by omega)
  have hrW : (i : Int) % W < W := Int.emod_lt_of_pos _ (by omega)
  have hWH := mul_small hW hH
  have hdm := Int.mul_ediv_add_emod (i : Int) W
  have hq1 : 0 < (i : Int) / W → W ≤ (i : Int) := fun h0 => by
    have := Int.mul_le_mul_of_nonneg_left (c := W) (show 1 ≤ (i : Int) / W by omega) (by omega)
    omega
  have hq2 : (i : Int) / W < H - 1 → (i : Int) + W < C.length := fun h0 => by
    have := Int.mul_le_mul_of_nonneg_left (c := W) (show (i : Int) / W + 2 ≤ H by omega) (by omega)
    rw [Int.mul_add] at this
    omega
  have hq3 : (i : Int) % W < W - 1 → (i : Int) + 1 < C.length := fun h0 => by
    have h1 : (i : Int) / W < H := by
      rcases Int.lt_or_le ((i : Int) / W) H with h | h
      · exact h
      · have := Int.mul_le_mul_of_nonneg_left (c := W) h (by omega)
        omega
    have := Int.mul_le_mul_of_nonneg_left (c := W) (show (i : Int) / W + 1 ≤ H by omega) (by omega)
    rw [Int.mul_add] at this
    omega
  have hi256 : (i : Int) < 256 := by omega
  have HQ1 := Aside0.mk hq1
  have HQ2 := Aside0.mk hq2
  have HQ3 := Aside0.mk hq3
  have HDM := Aside0.mk hdm
  clear h hAT hkc hd hC hq1 hq2 hq3 hdm
  go_enter Tryz.func157, Tryz.ntmps157
  go_wp2_with fail
  go_quiet (fail)
  generalize hw0 : w.drewN nq = w0 at *
  have HM0 : SwM w0 s G gd base W H AT cT C AS cS todo cd d a n P B := by rw [← hw0]; exact HM.out.drawn ⟨⟨nq, rfl⟩⟩
  have HCH0 : Chg (RingS G base) w w0 := by rw [← hw0]; exact Chg.of_below ((⟨⟨nq, rfl⟩⟩ : Drawn0 w (w.drewN nq)).below) _
  clear hw0 c0 c1 c2 c3 c4 c5 ct cdd
  obtain ⟨c0, c1, c2, c3, c4, c5⟩ := HM0.cells
  have HM1 := Aside0.mk HM0
  have HC1 := Aside0.mk HCH0
  clear HM0 HCH0
  go_wp2_with fail
  go_quiet (fail)
  generalize hw1 : w0.drewN nq = w1 at *
  have HM0 : SwM w1 s G gd base W H AT cT C AS cS todo cd d a n P B := by rw [← hw1]; exact HM1.out.drawn ⟨⟨nq, rfl⟩⟩
  have HCH0 : Chg (RingS G base) w w1 := by rw [← hw1]; exact HC1.out.then_ (Chg.of_below ((⟨⟨nq, rfl⟩⟩ : Drawn0 w0 (w0.drewN nq)).below) (fun _ => False)) (fun _ h => h.elim)
  clear hw1 c0 c1 c2 c3 c4 c5
  obtain ⟨c0, c1, c2, c3, c4, c5⟩ := HM0.cells
  have HM2 := Aside0.mk HM0
  have HC2 := Aside0.mk HCH0
  clear HM0 HCH0 HM1 HC1
  go_upto_if 39 with (fail)
  go_cut [] (fun wc => ∃ (n1 P1 : Nat) (B1 : Nat → List Int), Aside0 (SwM wc s G gd base W H AT cT C AS cS todo cd d a n1 P1 B1) ∧ Aside0 (Chg (RingS G base) w wc) ∧ Aside0 (Grew a C.length (fun k j => (0 < (i : Int) / W ∧ X1 C d ((i : Int) - W).toNat (a + kc) k j)) n P B n1 P1 B1) ∧ Aside0 (n1 ≤ n + 1))
  case first =>
    by_cases hc : 0 < (i : Int) / W
    · have hge : W ≤ (i : Int) := HQ1.out hc
      have hcall := reach_any HM2.out ((i : Int) - W).toNat (by omega) (a + kc) (by omega) (by omega) (by omega) (by omega)
      rw [show ((((i : Int) - W).toNat : Nat) : Int) = (i : Int) - W by omega] at hcall
      have HCALL := Aside0.mk hcall
      clear hcall
      go_wp2_with (go_at_call 183; refine HCALL.out.mono ?_; rintro e w2 ⟨rfl, n1, P1, B1, hs, hch, hg, hn⟩)
      go_meet
      exact ⟨n1, P1, B1, ⟨hs⟩, ⟨HC2.out.trans hch⟩, ⟨hg.iff (fun k j => ⟨fun h => ⟨hc, h⟩, fun h => h.2⟩)⟩, ⟨hn⟩⟩
    · go_wp2
      go_meet
      exact ⟨n, P, B, HM2, HC2, ⟨(Grew.refl a C.length n P B).iff (fun k j => ⟨fun h => h.elim, fun h => absurd h.1 (by omega)⟩)⟩, ⟨by omega⟩⟩
  case rest =>
  obtain ⟨n1, P1, B1, HM3, HC3, HG3, HN3⟩ := hcut
  obtain ⟨c0, c1, c2, c3, c4, c5⟩ := HM3.out.cells
  go_upto_if 57 with (fail)
  go_cut [] (fun wc => ∃ (n1 P1 : Nat) (B1 : Nat → List Int), Aside0 (SwM wc s G gd base W H AT cT C AS cS todo cd d a n1 P1 B1) ∧ Aside0 (Chg (RingS G base) w wc) ∧ Aside0 (Grew a C.length (fun k j => ((0 < (i : Int) / W ∧ X1 C d ((i : Int) - W).toNat (a + kc) k j) ∨ ((i : Int) % W < W - 1 ∧ X1 C d (i + 1) (a + kc) k j))) n P B n1 P1 B1) ∧ Aside0 (n1 ≤ n + 2))
  case first =>
    by_cases hc : (i : Int) % W < W - 1
    · have hge := HQ3.out hc
      have hcall := reach_any HM3.out (i + 1) (by omega) (a + kc) (by omega) (by omega) (by omega) (by have := HG3.out.puts; have := HN3.out; omega)
      rw [show (((i + 1 : Nat)) : Int) = (i : Int) + 1 by omega] at hcall
      have HCALL := Aside0.mk hcall
      clear hcall
      go_wp2_with (go_at_call 183; refine HCALL.out.mono ?_; rintro e w2 ⟨rfl, n2, P2, B2, hs, hch, hg, hn⟩)
      go_meet
      exact ⟨n2, P2, B2, ⟨hs⟩, ⟨HC3.out.trans hch⟩, ⟨(HG3.out.trans hg).iff (fun k j => ⟨fun h => h.imp id (fun x => ⟨hc, x⟩), fun h => h.imp id (fun x => x.2)⟩)⟩, ⟨by have := HN3.out; omega⟩⟩
    · go_wp2
      go_meet
      exact ⟨n1, P1, B1, HM3, HC3, ⟨HG3.out.iff (fun k j => ⟨fun h => .inl h, fun h => h.elim id (fun x => absurd x.1 (by omega))⟩)⟩, ⟨by have := HN3.out; omega⟩⟩
  case rest =>
  clear c0 c1 c2 c3 c4 c5
  obtain ⟨n2, P2, B2, HM4, HC4, HG4, HN4⟩ := hcut
  obtain ⟨c0, c1, c2, c3, c4, c5⟩ := HM4.out.cells
  go_upto_if 70 with (fail)
  go_cut [] (fun wc => ∃ (n1 P1 : Nat) (B1 : Nat → List Int), Aside0 (SwM wc s G gd base W H AT cT C AS cS todo cd d a n1 P1 B1) ∧ Aside0 (Chg (RingS G base) w wc) ∧ Aside0 (Grew a C.length (fun k j => (((0 < (i : Int) / W ∧ X1 C d ((i : Int) - W).toNat (a + kc) k j) ∨ ((i : Int) % W < W - 1 ∧ X1 C d (i + 1) (a + kc) k j)) ∨ ((i : Int) / W < H - 1 ∧ X1 C d ((i : Int) + W).toNat (a + kc) k j))) n P B n1 P1 B1) ∧ Aside0 (n1 ≤ n + 3))
  case first =>
    by_cases hc : (i : Int) / W < H - 1
    · have hge := HQ2.out hc
      have hcall := reach_any HM4.out (((i : Int) + W).toNat) (by omega) (a + kc) (by omega) (by omega) (by omega) (by have := HG4.out.puts; have := HN4.out; omega)
      rw [show ((((i : Int) + W).toNat : Nat) : Int) = (i : Int) + W by omega] at hcall
      have HCALL := Aside0.mk hcall
      clear hcall
      go_wp2_with (go_at_call 183; refine HCALL.out.mono ?_; rintro e w2 ⟨rfl, n2, P2, B2, hs, hch, hg, hn⟩)
      go_meet
      exact ⟨n2, P2, B2, ⟨hs⟩, ⟨HC4.out.trans hch⟩, ⟨(HG4.out.trans hg).iff (fun k j => ⟨fun h => h.imp id (fun x => ⟨hc, x⟩), fun h => h.imp id (fun x => x.2)⟩)⟩, ⟨by have := HN4.out; omega⟩⟩
    · go_wp2
      go_meet
      exact ⟨n2, P2, B2, HM4, HC4, ⟨HG4.out.iff (fun k j => ⟨fun h => .inl h, fun h => h.elim id (fun x => absurd x.1 (by omega))⟩)⟩, ⟨by have := HN4.out; omega⟩⟩
  case rest =>
  clear c0 c1 c2 c3 c4 c5
  obtain ⟨n3, P3, B3, HM5, HC5, HG5, HN5⟩ := hcut
  obtain ⟨c0, c1, c2, c3, c4, c5⟩ := HM5.out.cells
  have hend : ∀ (n4 P4 : Nat) (B4 : Nat → List Int), Grew a C.length (fun k j => ((((0 < (i : Int) / W ∧ X1 C d ((i : Int) - W).toNat (a + kc) k j) ∨ ((i : Int) % W < W - 1 ∧ X1 C d (i + 1) (a + kc) k j)) ∨ ((i : Int) / W < H - 1 ∧ X1 C d ((i : Int) + W).toNat (a + kc) k j)) ∨ (0 < (i : Int) % W ∧ X1 C d (i - 1) (a + kc) k j))) n P B n4 P4 B4 → Grew a C.length (fun k j => k = a + rd C i ∧ j < C.length ∧ AdjT W j i ∧ rd C j ≠ 255 ∧ rd d j = INF) n P B n4 P4 B4 := by
    intro n4 P4 B4 hg
    refine hg.iff (fun k j => ?_)
    unfold X1 AdjT
    rw [← HKC.out]
    have hdm := HDM.out
    have hcl := HCL.out
    have e2 := HQ2.out
    have e3 := HQ3.out
    have e1 := HQ1.out
    have hmul : ∀ x : Int, H ≤ x → W * H ≤ W * x := fun x hx => Int.mul_le_mul_of_nonneg_left hx (by omega)
    have hdiv : (i : Int) / W < H := by
      rcases Int.lt_or_le ((i : Int) / W) H with h | h
      · exact h
      · have := hmul _ h; omega
    have f2 : (i : Int) + W < C.length → (i : Int) / W < H - 1 := fun h0 => by
      rcases Int.lt_or_le ((i : Int) / W) (H - 1) with h | h
      · exact h
      · have := hmul ((i : Int) / W + 1) (by omega)
        rw [Int.mul_add] at this
        omega
    have f1 : W ≤ (i : Int) → 0 < (i : Int) / W := fun h0 => by
      rcases Int.lt_or_le 0 ((i : Int) / W) with h | h
      · exact h
      · have h1 : (i : Int) / W = 0 := by omega
        rw [h1] at hdm
        omega
    constructor
    · rintro (((⟨hc, rfl, rfl, q1, q2⟩ | ⟨hc, rfl, rfl, q1, q2⟩) | ⟨hc, rfl, rfl, q1, q2⟩) | ⟨hc, rfl, rfl, q1, q2⟩)
      · have := e1 hc
        exact ⟨rfl, by omega, .inr (.inr (.inl (by omega))), q1, q2⟩
      · have := e3 hc
        have hm := mod_up hW.1 (show (0 : Int) ≤ i by omega) hc
        exact ⟨rfl, by omega, .inr (.inr (.inr ⟨by omega, by rw [show (((i + 1 : Nat)) : Int) = (i : Int) + 1 by omega]; omega⟩)), q1, q2⟩
      · have := e2 hc
        exact ⟨rfl, by omega, .inl (by omega), q1, q2⟩
      · have hi1 : 1 ≤ i := by
          rcases Nat.eq_zero_or_pos i with h | h
          · subst h; simp at hc
          · omega
        have hm := mod_down hW.1 (show (0 : Int) ≤ i by omega) hc
        exact ⟨rfl, by omega, .inr (.inl ⟨by omega, by rw [show (((i - 1 : Nat)) : Int) = (i : Int) - 1 by omega]; omega⟩), q1, q2⟩
    · rintro ⟨rfl, hj, had | ⟨had, hm⟩ | had | ⟨had, hm⟩, q1, q2⟩
      · exact .inl (.inr ⟨f2 (by omega), rfl, by omega, q1, q2⟩)
      · have hm2 := mod_up hW.1 (show (0 : Int) ≤ j by omega) hm
        exact .inr ⟨by rw [had, hm2]; have := Int.emod_nonneg (j : Int) (show W ≠ 0 by omega); omega, rfl, by omega, q1, q2⟩
      · exact .inl (.inl (.inl ⟨f1 (by omega), rfl, by omega, q1, q2⟩))
      · have hm2 := mod_down hW.1 (show (0 : Int) ≤ j by omega) hm
        exact .inl (.inl (.inr ⟨by rw [had, hm2]; have := Int.emod_lt_of_pos (j : Int) (show 0 < W by omega); omega, rfl, by omega, q1, q2⟩))
  have HEND := Aside0.mk hend
  clear hend
  by_cases hc : 0 < (i : Int) % W
  · have hge : 1 ≤ (i : Int) := by
      rcases Nat.eq_zero_or_pos i with h | h
      · subst h; simp at hc
      · omega
    have hcall := reach_any HM5.out (i - 1) (by omega) (a + kc) (by omega) (by omega) (by omega) (by have := HG5.out.puts; have := HN5.out; omega)
    rw [show ((i - 1 : Nat) : Int) = (i : Int) - 1 by omega] at hcall
    have HCALL := Aside0.mk hcall
    clear hcall
    go_wp2_with (go_at_call 183; refine HCALL.out.mono ?_; rintro e w2 ⟨rfl, n2, P2, B2, hs, hch, hg, hn⟩; have HS2 := Aside0.mk hs; have HC2' := Aside0.mk hch; have HG2' := Aside0.mk hg; have HN2' := Aside0.mk hn; clear hs hch hg hn)
    go_end0
    exact ⟨rfl, n2, P2, B2, HS2.out, HC5.out.trans HC2'.out, by have := HN5.out; have := HN2'.out; omega, HEND.out _ _ _ ((HG5.out.trans HG2'.out).iff (fun k j => ⟨fun h => h.imp id (fun x => ⟨hc, x⟩), fun h => h.imp id (fun x => x.2)⟩))⟩
  · go_wp2
    go_end0
    exact ⟨rfl, n3, P3, B3, HM5.out, HC5.out, by have := HN5.out; omega, HEND.out _ _ _ (HG5.out.iff (fun k j => ⟨fun h => .inl h, fun h => h.elim id (fun x => absurd x.1 (by omega))⟩))⟩
end Go.Proofs.YthgehdembghdaaaGreat.P
namespace Go.Proofs.YthgehdembghdaaaGreat.P
open Go.RowKit Go.Proofs.YthgehdembghdaaaGreatW.PrintWords Go.Proofs.YthgehdembghdaaaGreatW.PrintLast Go.Proofs.YthgehdembghdaaaGreatW.PrintMore
open Go.Proofs.YthgehdembghdaaaGreat.Dist
set_option linter.unusedVariables false
set_option linter.unusedSimpArgs false
def todoT (l : List Seed) (i : Nat) (k : Int) : Prop := ∃ x, x ∈ l ∧ x.f0 = (i : Int) ∧ x.f2 = k
abbrev KX : Int := 1073741824
abbrev MX : Int := 254
structure TodoOk (N : Nat) (a : Int) (l : List Seed) : Prop where
  sorted : l.Pairwise (fun x y => x.f2 ≤ y.f2)
  ok : ∀ x, x ∈ l → a ≤ x.f2 ∧ x.f2 ≤ KX ∧ 0 ≤ x.f0 ∧ x.f0 < (N : Int)
theorem TodoOk.tail {N : Nat} {a : Int} {x : Seed} {l : List Seed} (h : TodoOk N a (x :: l)) : TodoOk N a l := ⟨(List.pairwise_cons.1 h.sorted).2, fun y hy => h.ok y (List.mem_cons_of_mem _ hy)⟩
theorem TodoOk.jump {N : Nat} {a : Int} {x : Seed} {l : List Seed} (h : TodoOk N a (x :: l)) : TodoOk N x.f2 (x :: l) := ⟨h.sorted, fun y hy => by
  have h1 := h.ok y hy
  rcases List.mem_cons.1 hy with rfl | hy
  · exact ⟨Int.le_refl _, h1.2⟩
  · exact ⟨(List.pairwise_cons.1 h.sorted).1 y hy, h1.2⟩⟩
variable {w w' : World} {s G gd base : Nat} {W H : Int} {AT : Option Addr} {cT : Nat} {C : List Int} {AS : Option Addr} {cS : Nat} {todo : List Seed} {cd : Nat} {d : List Int} {a : Int} {n P : Nat} {B : Nat → List Int}
theorem SwM.seedAt {x : Seed} {r : List Seed} (h : SwM w s G gd base W H AT cT C AS cS (x :: r) cd d a n P B) : ∃ ad, AS = some ad ∧ w.cell? ad = some (.int .i64 x.f0) ∧ w.cell? ⟨ad.block, ad.off + 1, none⟩ = some (.int .i64 x.f1) ∧ w.cell? ⟨ad.block, ad.off + 2, none⟩ = some (.int .i64 x.f2) := by
  have := at_T90 h.seeds 0 (by omega) (by simp)
  simpa [rd_T90, Addr.add_zero'] using this
abbrev FillS (s G base : Nat) : Nat → Prop := fun k => k = s ∨ k = G ∨ base ≤ k
theorem SwM.next {x : Seed} {r : List Seed} (h : SwM w s G gd base W H AT cT C AS cS (x :: r) cd d a n P B) : SwM (w.setCell ⟨s, 4, none⟩ (.slice (if cS = 1 then AS else AS.map (·.add 3)) r.length (cS - 1))) s G gd base W H AT cT C (if cS = 1 then AS else AS.map (·.add 3)) (cS - 1) r cd d a n P B := by
  have hc : Chg (fun k => k = s) w (w.setCell ⟨s, 4, none⟩ (.slice (if cS = 1 then AS else AS.map (·.add 3)) r.length (cS - 1))) := (Chg.refl (fun k => k = s) w).set_ (p := ⟨s, 4, none⟩) (.inl rfl) _
  have hsc := h.seedsC
  have hd := Kd.C_drop h.seeds (m := 1) (c := cS) (by simp) hsc
  have hA : ∀ ad, (if cS = 1 then AS else AS.map (·.add 3)) = some ad → ∃ ad0, AS = some ad0 ∧ ad.block = ad0.block := by
    intro ad he
    split at he
    · exact ⟨ad, he, rfl⟩
    · cases hAS : AS with
      | none => rw [hAS] at he; exact absurd he (by simp)
      | some ad0 =>
        rw [hAS] at he
        have : ad0.add 3 = ad := by simpa using he
        exact ⟨ad0, rfl, by rw [← this]; cases ad0; simp only [Addr.add]; split <;> rfl⟩
  have hsB : ∀ ad, (if cS = 1 then AS else AS.map (·.add 3)) = some ad → ad.block ≠ G ∧ ad.block ≠ s ∧ ad.block ≠ gd ∧ ad.block < base := by
    intro ad he
    obtain ⟨ad0, e1, e2⟩ := hA ad he
    rw [e2]
    exact h.seedsB ad0 e1 (by simp)
  refine ⟨set_blk h.blk 4 _, flat_int h.tile hc (fun ad e h0 => (h.tileB ad e h0).2.1), h.tileB, ?_, fun ad e _ => hsB ad e, by simp at hsc; omega, RowIn.heap h.dist (hc.block gd (RowIn.lt h.dist) h.gs), h.dlen, h.ring.chg hc (fun k hk => by rw [hk]; exact ⟨h.sG, h.sB⟩), h.sG, h.gs, h.gG, h.sB, h.gB⟩
  have hd2 : Kd.C k90 w (if cS = 1 then AS else AS.map (·.add 3)) r.length r := hd
  exact flat_seed hd2 hc (fun ad e h0 => (hsB ad e).2.1)
structure FillI (g : Gr) (N : Nat) (todo_ : List Seed) (d : List Int) (a : Int) (n P : Nat) (B : Nat → List Int) : Prop where
  inv : Inv g KX MX (todoT todo_) a (memR a B) (fun i => rd d i)
  todo : TodoOk N a todo_
  items : itemsOk N B
  room : P + List.length todo_ + 1100 ≤ 17592186044416
theorem todoT_cons (x : Seed) (r : List Seed) (i0 : Nat) (h0 : x.f0 = (i0 : Int)) : todoT (x :: r) i0 x.f2 ∧ (∀ i k, todoT (x :: r) i k → todoT r i k ∨ (i = i0 ∧ k = x.f2)) ∧ ∀ i k, todoT r i k → todoT (x :: r) i k := by
  refine ⟨⟨x, by simp, h0, rfl⟩, ?_, ?_⟩
  · rintro i k ⟨y, hy, e1, e2⟩
    rcases List.mem_cons.1 hy with rfl | hy
    · exact .inr ⟨by omega, e2.symm⟩
    · exact .inl ⟨y, hy, e1, e2⟩
  · rintro i k ⟨y, hy, e⟩
    exact ⟨y, List.mem_cons_of_mem _ hy, e⟩
set_option maxRecDepth 100000 in
set_option maxHeartbeats 4000000 in
theorem fill_calls (g : Gr) (hsrc : ∀ i k, g.src i k → i < g.n ∧ g.opn i ∧ k ≤ KX) (h : SwM w s G gd base W H AT cT C AS cS todo cd d a n P B) (hI : FillI g C.length todo d a n P B) :
    Calls Tryz.prog 154 #[.pointer (some ⟨s, 0, none⟩)] w fun e w' => e = .returned (.tuple #[]) ∧ ∃ a' n' P' B' AS' cS' todo', SwM w' s G gd base W H AT cT C AS' cS' todo' cd d a' n' P' B' ∧ Chg (FillS s G base) w w' ∧
      FillI g C.length todo' d a' n' P' B' ∧ n' + todo'.length = n + todo.length ∧ P' + todo'.length = P + todo.length ∧ (n' = 0 → todo' = []) ∧ ∀ x, x ∈ todo' → a' + 256 ≤ x.f2 := by
  have ha0 := h.ring.a0
  obtain ⟨c0, c1, c2, c3, c4, c5⟩ := h.cells
  have HM := Aside0.mk h
  have HI := Aside0.mk hI
  have HS := Aside0.mk hsrc
  have hlen := len_calls G base a n P B w h.ring
  have HL := Aside0.mk hlen
  clear h hI hsrc hlen
  have hn63 : n < 4611686018427387904 := by have := HI.out.room; have := HM.out.ring.n_le; omega
  cases todo with
  | nil =>
    have z0 : (([] : List Seed).length : Int) = 0 := rfl
    rw [show ([] : List Seed).length = 0 from rfl] at c4
    go_enter Tryz.func154, Tryz.ntmps154
    go_wp2
    go_loopg [] 0 (fun gg wr => ∃ q, wr = w.drewN q)
    case atStart => exact ⟨0, rfl⟩
    case round =>
      obtain ⟨q, rfl⟩ := hrel
      go_wp2_with fail
      go_quiet (fail)
      go_wp2
      go_end0
      rw [World.drewN_drewN]
      exact ⟨rfl, a, n, P, B, AS, cS, [], HM.out.drawn ⟨⟨_, rfl⟩⟩, Chg.of_below ((⟨⟨_, rfl⟩⟩ : Drawn0 w (w.drewN (q + nq))).below) _, HI.out, rfl, rfl, fun _ => rfl, fun x hx => by simp at hx⟩
  | cons x r =>
    have hlen1 : (x :: r).length = r.length + 1 := rfl
    rw [hlen1] at c4
    obtain ⟨ad, hAS, s0, s1, s2⟩ := HM.out.seedAt
    have HAS := Aside0.mk hAS
    rw [hAS] at c4
    have hpos : (0 : Int) < ((r.length + 1 : Nat) : Int) := by omega
    have hpos2 : decide ((0 : Int) < ((r.length + 1 : Nat) : Int)) = true := decide_eq_true hpos
    clear hAS
    go_enter Tryz.func154, Tryz.ntmps154
    go_upto_if 15 with (go_at_call 155; refine HL.out.mono ?_; rintro e w' ⟨rfl, rfl⟩)
    go_cut [] (fun wc => ∃ a1, Aside0 (SwM wc s G gd base W H AT cT C AS cS (x :: r) cd d a1 n P B) ∧ Aside0 (Chg (FillS s G base) w' wc) ∧ Aside0 (FillI g C.length (x :: r) d a1 n P B) ∧ Aside0 (n = 0 → x.f2 < a1 + 256))
    case first =>
      by_cases hn0 : n = 0
      · have hz : ((n : Int) == 0) = true := by rw [beq_iff_eq]; omega
        have hJ := Jump_calls G base a P B x.f2 w'.drew (by have := HM.out.ring; rw [hn0] at this; exact this.drawn ⟨⟨1, rfl⟩⟩) (HI.out.todo.ok x (by simp)).1 (by have := (HI.out.todo.ok x (by simp)).2.1; unfold KX at this; omega)
        have HJ := Aside0.mk hJ
        have HN := Aside0.mk hn0
        clear hJ hn0
        go_wp2_with fail
        have k3 : w'.drew.cell? ⟨s, 3, none⟩ = some (.pointer (some ⟨G, 0, none⟩)) := c3
        have k4 : w'.drew.cell? ⟨s, 4, none⟩ = some (.slice (some ad) (r.length + 1) cS) := c4
        have k5 : w'.drew.cell? ⟨ad.block, ad.off + 2, none⟩ = some (.int .i64 x.f2) := s2
        clear c0 c1 c2 c3 c4 c5 s0 s1 s2
        refine wp_region_still_tail 11 (by kernel_rfl) (by kernel_rfl) ?_
        simp only [List.take_succ_cons, List.take_zero, List.drop_succ_cons, List.drop_zero]
        change wpStill _ _ w'.drew _ _ _
        repeat still_step
        refine wpStill_nil ?_
        change wpList _ _ _ _ _ w'.drew
        go_wp2_with (go_at_call 179; refine HJ.out.mono ?_; rintro e w2 ⟨rfl, hr, hc⟩)
        go_meet
        have hn0 := HN.out
        subst hn0
        exact ⟨x.f2, ⟨HM.out.ringStep hr ⟨hc.os, hc.tape, hc.output, hc.size, hc.block⟩⟩, ⟨(⟨hc.os, hc.tape, hc.output, hc.size, hc.block⟩ : Chg (RingS G base) w' w2).mono (fun k hk => .inr hk)⟩, ⟨⟨HI.out.inv.jump (fun k i => mem_none (by have := HM.out.ring.n_eq; omega) k i) (fun k i => mem_none (by have := HM.out.ring.n_eq; omega) k i) (HI.out.todo.ok x (by simp)).1, HI.out.todo.jump, HI.out.items, HI.out.room⟩⟩, ⟨fun _ => by omega⟩⟩
      · have hz : ((n : Int) == 0) = false := by rw [beq_eq_false_iff_ne]; omega
        have HN := Aside0.mk hn0
        clear hn0
        go_wp2
        go_meet
        exact ⟨a, HM, ⟨Chg.refl _ _⟩, HI, ⟨fun h => absurd h HN.out⟩⟩
    case rest =>
      obtain ⟨a1, HM1, HC1, HI1, HZ1⟩ := hcut
      go_wp2_with fail
      go_loopg [] (r.length + 1) (fun gg wr => ∃ (a2 : Int) (n2 P2 : Nat) (B2 : Nat → List Int) (AS2 : Option Addr) (cS2 : Nat) (td : List Seed), td.length ≤ gg ∧ Aside0 (SwM wr s G gd base W H AT cT C AS2 cS2 td cd d a2 n2 P2 B2) ∧ Aside0 (Chg (FillS s G base) w' wr) ∧ Aside0 (FillI g C.length td d a2 n2 P2 B2) ∧ Aside0 (n2 + td.length = n + (x :: r).length) ∧ Aside0 (P2 + td.length = P + (x :: r).length) ∧ Aside0 (n2 = 0 → ∀ y t, td = y :: t → y.f2 < a2 + 256))
      case atStart => exact ⟨a1, n, P, B, AS, cS, x :: r, Nat.le_refl _, HM1, HC1, HI1, ⟨rfl⟩, ⟨rfl⟩, ⟨fun h y t e => by injection e with e1 e2; rw [← e1]; exact HZ1.out h⟩⟩
      case round =>
        obtain ⟨a2, n2, P2, B2, AS2, cS2, td, hgg, HM2, HC2, HI2, HN2, HP2, HZ2⟩ := hrel
        clear c0 c1 c2 c3 c4 c5 s0 s1 s2 hpos hpos2 hlen1
        obtain ⟨c0, c1, c2, c3, c4, c5⟩ := HM2.out.cells
        cases td with
        | nil =>
          have z0 : (([] : List Seed).length : Int) = 0 := rfl
          rw [show ([] : List Seed).length = 0 from rfl] at c4
          clear z0
          go_wp2_with fail
          go_quiet (fail)
          go_wp2
          go_end0
          exact ⟨rfl, a2, n2, P2, B2, AS2, cS2, [], HM2.out.drawn ⟨⟨_, rfl⟩⟩, HC2.out.then_ (Chg.of_below ((⟨⟨_, rfl⟩⟩ : Drawn0 wr (wr.drewN nq)).below) (fun _ => False)) (fun _ h => h.elim), HI2.out, HN2.out, HP2.out, fun _ => rfl, fun x hx => by simp at hx⟩
        | cons y t =>
          have hlen1 : (y :: t).length = t.length + 1 := rfl
          rw [hlen1] at c4 hgg
          obtain ⟨ad2, hAS2, s0, s1, s2⟩ := HM2.out.seedAt
          have HAS2 := Aside0.mk hAS2
          rw [hAS2] at c4
          have hpos : (0 : Int) < ((t.length + 1 : Nat) : Int) := by omega
          have hpos2 : decide ((0 : Int) < ((t.length + 1 : Nat) : Int)) = true := decide_eq_true hpos
          have hy := HI2.out.todo.ok y (by simp)
          have hy2 : y.f2 ≤ 4611686018427387904 := by have := hy.2.1; unfold KX at this; omega
          have HY := Aside0.mk hy
          clear hAS2 hlen1 hy
          by_cases hnear : y.f2 - a2 < 256
          · have hroom := HI2.out.room
            rw [List.length_cons] at hroom
            obtain ⟨i0, hi0⟩ : ∃ i0 : Nat, y.f0 = (i0 : Int) := ⟨y.f0.toNat, by have := HY.out.2.2.1; omega⟩
            have hP := Put_yes G base a2 n2 P2 B2 y.f2 y.f0 wr.drew (HM2.out.ring.drawn ⟨⟨1, rfl⟩⟩) HY.out.1 hy2 hnear (by omega)
            have HP := Aside0.mk hP
            have k3 : wr.drew.cell? ⟨s, 3, none⟩ = some (.pointer (some ⟨G, 0, none⟩)) := c3
            have k4 : wr.drew.cell? ⟨s, 4, none⟩ = some (.slice (some ad2) (t.length + 1) cS2) := c4
            have k5 : wr.drew.cell? ⟨ad2.block, ad2.off + 2, none⟩ = some (.int .i64 y.f2) := s2
            have k6 : wr.drew.cell? ad2 = some (.int .i64 y.f0) := s0
            have HI0 := Aside0.mk hi0
            clear hP c0 c1 c2 c3 c4 c5 s0 s1 s2 hi0
            go_wp2_with fail
            refine wp_region_still_tail 25 (by kernel_rfl) (by kernel_rfl) ?_
            simp only [List.take_succ_cons, List.take_zero, List.drop_succ_cons, List.drop_zero]
            change wpStill _ _ wr.drew _ _ _
            repeat still_step
            refine wpStill_nil ?_
            change wpList _ _ _ _ _ wr.drew
            go_wp2_with (go_at_call 180; refine HP.out.mono ?_; rintro e w2 ⟨rfl, hr, hc⟩; have hM3 := HM2.out.ringStep hr ⟨hc.os, hc.tape, hc.output, hc.size, hc.block⟩; have HC3 := Aside0.mk ((⟨hc.os, hc.tape, hc.output, hc.size, hc.block⟩ : Chg (RingS G base) wr w2).mono (fun k (hk : RingS G base k) => (.inr hk : FillS s G base k))); obtain ⟨m0, m1, m2, m3, m4, m5⟩ := hM3.cells; rw [HAS2.out] at m4; have mf := free_blk hM3.blk 4; have HM3 := Aside0.mk hM3; clear hr hc hM3)
            all_goals
              go_roundg t.length
              case measure => omega
              case rel =>
                have hnext := HM3.out.next
                rw [HAS2.out] at hnext
                have hfin : ∀ (A3 : Option Addr) (c3 : Nat) (wz : World), SwM wz s G gd base W H AT cT C A3 c3 t cd d a2 (n2 + 1) (P2 + 1) (updB B2 (y.f2 % 256).toNat (B2 (y.f2 % 256).toNat ++ [y.f0])) → Chg (fun k => k = s) w2 wz → ∃ (a3 : Int) (n3 P3 : Nat) (B3 : Nat → List Int) (AS3 : Option Addr) (cS3 : Nat) (td : List Seed), td.length ≤ t.length ∧ Aside0 (SwM wz s G gd base W H AT cT C AS3 cS3 td cd d a3 n3 P3 B3) ∧ Aside0 (Chg (FillS s G base) w' wz) ∧ Aside0 (FillI g C.length td d a3 n3 P3 B3) ∧ Aside0 (n3 + td.length = n + (x :: r).length) ∧ Aside0 (P3 + td.length = P + (x :: r).length) ∧ Aside0 (n3 = 0 → ∀ y t, td = y :: t → y.f2 < a3 + 256) := by
                  intro A3 c3 wz hz hcz
                  obtain ⟨q1, q2, q3⟩ := todoT_cons y t i0 HI0.out
                  have hcc := HC3.out
                  refine ⟨a2, n2 + 1, P2 + 1, _, A3, c3, t, Nat.le_refl _, ⟨hz⟩, ⟨(HC2.out.trans hcc).trans (hcz.mono (fun k hk => .inl hk))⟩, ⟨⟨?_, HI2.out.todo.tail, HI2.out.items.put _ HY.out.2.2.1 HY.out.2.2.2, by omega⟩⟩, ⟨?_⟩, ⟨?_⟩, ⟨fun h => by omega⟩⟩
                  · refine HI2.out.inv.fill (by decide) HS.out q1 HY.out.1 q2 q3 (fun k i => ?_)
                    rw [HI0.out]
                    exact mem_put HY.out.1 (by omega) k i
                  · have := HN2.out; rw [List.length_cons] at this; omega
                  · have := HP2.out; rw [List.length_cons] at this; omega
                rcases Nat.decEq cS2 1 with hc1 | hc1
                · rw [if_neg hc1] at hnext
                  first
                    | exact absurd (by assumption) hc1
                    | refine hfin (some ⟨ad2.block, ad2.off + 3, none⟩) (cS2 - 1) _ ?_ ((Chg.refl (fun k => k = s) w2).set_ (p := ⟨s, 4, none⟩) (.inl rfl) _)
                      exact hnext
                · rw [if_pos hc1] at hnext
                  first
                    | exact absurd hc1 (by assumption)
                    | have e0 : cS2 - 1 = 0 := by omega
                      rw [e0] at hnext
                      refine hfin (some ad2) 0 _ ?_ ((Chg.refl (fun k => k = s) w2).set_ (p := ⟨s, 4, none⟩) (.inl rfl) _)
                      exact hnext
          · have hP := fun q => Put_no G base a2 n2 P2 B2 y.f2 y.f0 (wr.drewN q) (HM2.out.ring.drawn ⟨⟨q, rfl⟩⟩) HY.out.1 hy2 (by omega)
            have HP := Aside0.mk hP
            clear hP
            go_wp2_with fail
            go_quiet ((go_at_call 180; refine (HP.out _).mono ?_; rintro e w1 ⟨rfl, rfl⟩; exact ⟨rfl, _, rfl⟩))
            go_wp2
            go_end0
            refine ⟨rfl, a2, n2, P2, B2, AS2, cS2, y :: t, HM2.out.drawn ⟨⟨_, rfl⟩⟩, HC2.out.then_ (Chg.of_below ((⟨⟨_, rfl⟩⟩ : Drawn0 wr (wr.drewN nq)).below) (fun _ => False)) (fun _ h => h.elim), HI2.out, HN2.out, HP2.out, fun h => ?_, fun z hz => ?_⟩
            · have := HZ2.out h y t rfl
              omega
            · rcases List.mem_cons.1 hz with rfl | hz
              · omega
              · have := (List.pairwise_cons.1 HI2.out.todo.sorted).1 z hz
                omega
end Go.Proofs.YthgehdembghdaaaGreat.P
namespace Go.Proofs.YthgehdembghdaaaGreat.P
open Go.RowKit Go.Proofs.YthgehdembghdaaaGreatW.PrintWords Go.Proofs.YthgehdembghdaaaGreatW.PrintLast Go.Proofs.YthgehdembghdaaaGreatW.PrintMore
open Go.Proofs.YthgehdembghdaaaGreat.Dist
set_option linter.unusedVariables false
set_option linter.unusedSimpArgs false
theorem rd_set (d : List Int) (i : Nat) (hi : i < d.length) (k : Int) : (fun j : Nat => rd (d.set i k) (j : Int)) = upd (fun j : Nat => rd d (j : Int)) i k := by
  funext j
  unfold upd
  by_cases h : j = i
  · subst h
    rw [if_pos rfl, rd_get (d.set j k) (by simpa using hi)]
    simp
  · rw [if_neg h]
    by_cases hj : j < d.length
    · show rd (d.set i k) (j : Int) = rd d (j : Int)
      rw [rd_get d hj, rd_get (d.set i k) (by simpa using hj), List.getElem_set_ne (Ne.symm h)]
    · show rd (d.set i k) (j : Int) = rd d (j : Int)
      simp only [rd, List.getD_eq_getElem?_getD]
      rw [List.getElem?_eq_none (l := d.set i k) (by simp; omega), List.getElem?_eq_none (l := d) (by simp; omega)]
variable {w w' : World} {s G gd base : Nat} {W H : Int} {AT : Option Addr} {cT : Nat} {C : List Int} {AS : Option Addr} {cS : Nat} {todo : List Seed} {cd : Nat} {d : List Int} {a : Int} {n P : Nat} {B : Nat → List Int}
theorem SwM.setDist (h : SwM w s G gd base W H AT cT C AS cS todo cd d a n P B) (i : Nat) (hi : i < d.length) (k : Int) : SwM (w.setCell ⟨gd, i, none⟩ (.int .i64 k)) s G gd base W H AT cT C AS cS todo cd (d.set i k) a n P B := by
  have hc : Chg (fun k => k = gd) w (w.setCell ⟨gd, i, none⟩ (.int .i64 k)) := (Chg.refl (fun k => k = gd) w).set_ (p := ⟨gd, i, none⟩) (.inl rfl) _
  refine ⟨?_, flat_int h.tile hc (fun ad e h0 => (h.tileB ad e h0).2.2.1), h.tileB, flat_seed h.seeds hc (fun ad e h0 => (h.seedsB ad e h0).2.2.1), h.seedsB, h.seedsC, ?_, by rw [List.length_set]; exact h.dlen, h.ring.chg hc (fun k hk => by rw [hk]; exact ⟨h.gG, h.gB⟩), h.sG, h.gs, h.gG, h.sB, h.gB⟩
  · rw [List.length_set]; exact hc.blk h.blk (fun e => h.gs e.symm)
  · have := RowIn.store encI_len h.dist (i := i) (by simpa using hi) k
    rw [Nat.mul_one] at this
    simpa [encI, World.setCells] using this
abbrev RunS (s G gd base : Nat) : Nat → Prop := fun k => k = s ∨ k = G ∨ k = gd ∨ base ≤ k
structure RunI (g : Gr) (N : Nat) (todo_ : List Seed) (d : List Int) (a : Int) (n P : Nat) (B : Nat → List Int) : Prop where
  fi : FillI g N todo_ d a n P B
  room : P + todo_.length + 4 * (N - known INF (fun i => rd d i) N) + 1100 ≤ 17592186044416
structure RunJ (g : Gr) (N : Nat) (todo_ : List Seed) (d : List Int) (a : Int) (n P : Nat) (B : Nat → List Int) : Prop extends RunI g N todo_ d a n P B where
  empty : n = 0 → todo_ = []
  far : ∀ x, x ∈ todo_ → a + 256 ≤ x.f2
theorem mem_some {a : Int} {B : Nat → List Int} {N : Nat} (ha : 0 ≤ a) (hB : itemsOk N B) (h : 0 < total B 256) : ∃ k i, memR a B k i := by
  obtain ⟨b, hb, hne⟩ := total_pos B 256 h
  obtain ⟨x, r, e⟩ := List.exists_cons_of_ne_nil hne
  have hx := hB b hb x (by rw [e]; simp)
  refine ⟨a + ((b : Int) - a) % 256, x.toNat, by omega, by omega, ?_⟩
  rw [show ((a + ((b : Int) - a) % 256) % 256).toNat = b by omega, e, show (x.toNat : Int) = x by omega]
  simp
section
variable {l : List Seed} {a' : Int}
theorem RunJ.small (hN : C.length ≤ 256) (h : RunJ (grT W C l) C.length todo d a n P B) (ha : 0 ≤ a) (hn : n = total B 256) (h0 : 0 < n) : a ≤ 1099511627776 := by
  obtain ⟨k, i, hm⟩ := mem_some ha h.fi.items (by omega)
  obtain ⟨_, _, h1, h2, _⟩ := h.fi.inv.M_ok k i hm
  have hk := known_le (grT W C l).inf (fun i => rd d i) (grT W C l).n
  have : (grT W C l).n = C.length := rfl
  unfold KX MX at h2
  omega
theorem RunJ.old (h : RunJ (grT W C l) C.length todo d a n P B) (ha : 0 ≤ a) {J i0 : Nat} {rest : List Int} (hJ : J < 256) (hE : ∀ i, i < J → B ((a + (i : Int)) % 256).toNat = []) (hH : B ((a + (J : Int)) % 256).toNat = (i0 : Int) :: rest) (hd : rd d i0 ≠ INF) :
    RunI (grT W C l) C.length todo d (a + J) (n - 1) P (updB B ((a + (J : Int)) % 256).toNat rest) := by
  obtain ⟨m1, m2, m3, m4⟩ := mem_pop ha hJ hE hH
  have hit := h.fi.items.pop (b := ((a + (J : Int)) % 256).toNat) (by have := Int.emod_lt_of_pos (a + (J : Int)) (show (0 : Int) < 256 by decide); have := Int.emod_nonneg (a + (J : Int)) (show (256 : Int) ≠ 0 by decide); omega) hH
  exact ⟨⟨h.fi.inv.old m1 hd m2 m3 m4, ⟨h.fi.todo.sorted, fun x hx => by have := h.fi.todo.ok x hx; have := h.far x hx; exact ⟨by omega, by omega, by omega, by omega⟩⟩, hit.2, h.fi.room⟩, h.room⟩
theorem RunJ.new (hN : C.length ≤ 256) (hcost : ∀ j, j < (grT W C l).n → (grT W C l).opn j → 1 ≤ (grT W C l).c j ∧ (grT W C l).c j ≤ 254) (h : RunJ (grT W C l) C.length todo d a n P B) (hdl : d.length = C.length) (ha : 0 ≤ a) {J i0 : Nat} {rest : List Int} (hJ : J < 256) (hE : ∀ i, i < J → B ((a + (i : Int)) % 256).toNat = []) (hH : B ((a + (J : Int)) % 256).toNat = (i0 : Int) :: rest) (hd : rd d i0 = INF) :
    (i0 < C.length ∧ (1 ≤ rd C i0 ∧ rd C i0 ≤ 254) ∧ a + J ≤ 1099511627775) ∧ known INF (fun i => rd (d.set i0 (a + J)) i) C.length = known INF (fun i => rd d i) C.length + 1 ∧ known INF (fun i => rd (d.set i0 (a + J)) i) C.length ≤ C.length ∧ ∀ n' P' B', n' ≤ n - 1 + 4 → Grew (a + J) C.length (fun k j => k = (a + J) + rd C i0 ∧ j < C.length ∧ AdjT W j i0 ∧ rd C j ≠ 255 ∧ rd (d.set i0 (a + J)) j = INF) (n - 1) P (updB B ((a + (J : Int)) % 256).toNat rest) n' P' B' →
      RunI (grT W C l) C.length todo (d.set i0 (a + J)) (a + J) n' P' B' := by
  obtain ⟨m1, m2, m3, m4⟩ := mem_pop ha hJ hE hH
  have hit := h.fi.items.pop (b := ((a + (J : Int)) % 256).toNat) (by have := Int.emod_lt_of_pos (a + (J : Int)) (show (0 : Int) < 256 by decide); have := Int.emod_nonneg (a + (J : Int)) (show (256 : Int) ≠ 0 by decide); omega) hH
  obtain ⟨q1, q2, q3, q4, q5⟩ := h.fi.inv.M_ok _ _ m1
  have hn0 : (grT W C l).n = C.length := rfl
  have hkn := known_le (grT W C l).inf (fun i => rd d i) (grT W C l).n
  have hsmall : a + J ≤ 1099511627775 := by unfold KX MX at q4; omega
  have hi0 : i0 < C.length := q1
  have hc1 := hcost i0 q1 q2
  have hku : known INF (fun i => rd (d.set i0 (a + J)) i) C.length = known INF (fun i => rd d i) C.length + 1 := by
    rw [rd_set d i0 (by omega) (a + J)]
    exact known_upd C.length hi0 hd (by unfold INF; omega)
  refine ⟨⟨hi0, hc1, hsmall⟩, hku, known_le _ _ _, fun n' P' B' hn' hg => ?_⟩
  have hle2 := known_le INF (fun i => rd (d.set i0 (a + J)) i) C.length
  have hp := hg.puts
  have hl := hg.le
  have hr := h.room
  refine ⟨⟨?_, ⟨h.fi.todo.sorted, fun x hx => by have := h.fi.todo.ok x hx; have := h.far x hx; exact ⟨by omega, by omega, by omega, by omega⟩⟩, hg.items hit.2, by omega⟩, by omega⟩
  have hnew := (h.fi.inv.new (M' := memR (a + J) B') (by decide) (fun j hj ho => by have := hcost j hj ho; exact ⟨by omega, this.2⟩) (by rw [hn0]; show KX + MX * (C.length : Int) < INF; unfold KX MX INF; omega) m1 hd m2 m3 m4 (fun k i => by
    rw [hg.mem]
    have e : upd (fun i : Nat => rd d (i : Int)) i0 (a + J) i = rd (d.set i0 (a + J)) (i : Int) := by rw [← rd_set d i0 (by omega) (a + J)]
    rw [e]
    exact Iff.rfl)).1
  rw [rd_set d i0 (by omega) (a + J)]
  exact hnew
theorem RunJ.done (hcost : ∀ j, j < (grT W C l).n → (grT W C l).opn j → 1 ≤ (grT W C l).c j ∧ (grT W C l).c j ≤ 254) (h : RunJ (grT W C l) C.length todo d a n P B) (hn : n = total B 256) (h0 : n = 0) : (grT W C l).IsDist (fun i => rd d i) := by
  have ht := h.empty h0
  subst ht
  refine h.fi.inv.done (by show 0 ≤ INF; decide) (fun j hj ho => by have := hcost j hj ho; omega) (fun i k hk => ?_) (fun k i => mem_none (by omega) k i)
  obtain ⟨x, hx, _⟩ := hk
  simp at hx
theorem RunJ.of_fill (hI : RunI (grT W C l) C.length todo d a n P B) {a' : Int} {n' P' : Nat} {B' : Nat → List Int} {todo' : List Seed} (hf : FillI (grT W C l) C.length todo' d a' n' P' B') (hP : P' + todo'.length = P + todo.length) (hz : n' = 0 → todo' = []) (hx : ∀ x, x ∈ todo' → a' + 256 ≤ x.f2) : RunJ (grT W C l) C.length todo' d a' n' P' B' :=
  ⟨⟨hf, by have := hI.room; omega⟩, hz, hx⟩
end
set_option maxRecDepth 100000 in
set_option maxHeartbeats 4000000 in
theorem run_calls {l : List Seed} (hW : 1 ≤ W ∧ W ≤ 16) (hH : 1 ≤ H ∧ H ≤ 16) (hC : (C.length : Int) = W * H) (hcost : ∀ j, j < (grT W C l).n → (grT W C l).opn j → 1 ≤ (grT W C l).c j ∧ (grT W C l).c j ≤ 254) (hsrc : ∀ i k, (grT W C l).src i k → i < (grT W C l).n ∧ (grT W C l).opn i ∧ k ≤ KX)
    (h : SwM w s G gd base W H AT cT C AS cS todo cd d a n P B) (hI : RunI (grT W C l) C.length todo d a n P B) :
    Calls Tryz.prog 134 #[.pointer (some ⟨s, 0, none⟩)] w fun e w' => e = .returned (.tuple #[]) ∧ ∃ a' n' P' B' AS' cS' todo' d', SwM w' s G gd base W H AT cT C AS' cS' todo' cd d' a' n' P' B' ∧ Chg (RunS s G gd base) w w' ∧ (grT W C l).IsDist (fun i => rd d' i) := by
  have hN : C.length ≤ 256 := by have := mul_small hW hH; omega
  have HM := Aside0.mk h
  have HI := Aside0.mk hI
  have HF := Aside0.mk (fill_calls (grT W C l) hsrc h hI.fi)
  have HW := Aside0.mk hW
  have HH := Aside0.mk hH
  have HCL := Aside0.mk hC
  have HCO := Aside0.mk hcost
  have HSRC := Aside0.mk hsrc
  clear h hI hW hH hC hcost hsrc
  go_enter Tryz.func134, Tryz.ntmps134
  go_wp2_with (go_at_call 154; refine HF.out.mono ?_; rintro e w1 ⟨rfl, a1, n1, P1, B1, AS1, cS1, todo1, hs1, hch1, hf1, hn1, hp1, hz1, hx1⟩; have HS1 := Aside0.mk hs1; have HCH1 := Aside0.mk hch1; have HJ1 := Aside0.mk (RunJ.of_fill HI.out hf1 hp1 hz1 hx1); clear hs1 hch1 hf1 hn1 hp1 hz1 hx1)
  go_loopg [] (n1 + todo1.length + 5 * (C.length - known INF (fun i => rd d i) C.length)) (fun gg wr => ∃ (a2 : Int) (n2 P2 : Nat) (B2 : Nat → List Int) (AS2 : Option Addr) (cS2 : Nat) (td : List Seed) (d2 : List Int), n2 + td.length + 5 * (C.length - known INF (fun i => rd d2 i) C.length) ≤ gg ∧ Aside0 (SwM wr s G gd base W H AT cT C AS2 cS2 td cd d2 a2 n2 P2 B2) ∧ Aside0 (Chg (RunS s G gd base) w wr) ∧ Aside0 (RunJ (grT W C l) C.length td d2 a2 n2 P2 B2))
  case atStart => exact ⟨a1, n1, P1, B1, AS1, cS1, todo1, d, Nat.le_refl _, HS1, ⟨HCH1.out.mono (fun k hk => by rcases hk with h | h | h; exact .inl h; exact .inr (.inl h); exact .inr (.inr (.inr h)))⟩, HJ1⟩
  case round =>
    clear HF HS1 HCH1 HJ1
    obtain ⟨a2, n2, P2, B2, AS2, cS2, td, d2, hgg, HM2, HC2, HJ2⟩ := hrel
    obtain ⟨c0, c1, c2, c3, c4, c5⟩ := HM2.out.cells
    have ha0 := HM2.out.ring.a0
    have hlen := len_calls G base a2 n2 P2 B2 wr HM2.out.ring
    have HL := Aside0.mk hlen
    clear hlen
    rcases Nat.eq_zero_or_pos n2 with hz | hpos
    · have HZ := Aside0.mk hz
      have e0 : (n2 : Int) = 0 := by omega
      rw [e0] at HL
      clear hz
      go_wp2_with (go_at_call 155; refine HL.out.mono ?_; rintro e w' ⟨rfl, rfl⟩)
      go_end0
      exact ⟨rfl, a2, n2, P2, B2, AS2, cS2, td, d2, HM2.out, HC2.out, HJ2.out.done HCO.out HM2.out.ring.n_eq HZ.out⟩
    · have hsm := HJ2.out.small hN ha0 HM2.out.ring.n_eq hpos
      have hn63 : n2 < 4611686018427387904 := by have := HJ2.out.room; have := HM2.out.ring.n_le; omega
      have HP := Aside0.mk (Pop_calls G base a2 n2 P2 B2 wr HM2.out.ring hpos (by omega) hn63)
      have hpos0 : (0 : Int) < (n2 : Int) := by omega
      have hpos2 : decide ((0 : Int) < (n2 : Int)) = true := decide_eq_true hpos0
      go_wp2_with (first
        | (go_at_call 155; refine HL.out.mono ?_; rintro e w' ⟨rfl, rfl⟩)
        | (go_at_call 156; refine HP.out.mono ?_; rintro e w3 ⟨J, item, rest, hJ, hE, hH, rfl, hr, hch⟩; have HR := Aside0.mk (HM2.out.ringStep hr hch); have HCH := Aside0.mk (HC2.out.trans (hch.mono (fun k hk => by rcases hk with h | h; exact .inr (.inl h); exact .inr (.inr (.inr h))))); clear hr hch; obtain ⟨hit0, hit1⟩ := HJ2.out.fi.items.pop (b := ((a2 + (J : Int)) % 256).toNat) (by omega) hH; obtain ⟨i0, rfl⟩ : ∃ i0 : Nat, item = (i0 : Int) := ⟨item.toNat, by omega⟩; clear c0 c1 c2 c3 c4 c5 hit1; obtain ⟨c0, c1, c2, c3, c4, c5⟩ := HR.out.cells; have hdl := HR.out.dlen; have hi0 : i0 < d2.length := (by omega); have cd0 := HR.out.distAt hi0; have hi1 : (i0 : Int) < (d2.length : Int) := (by omega); have HH0 := Aside0.mk hH; have HE0 := Aside0.mk hE; have cf := RowIn.free HR.out.dist i0; clear hH hE
           by_cases hd : rd d2 (i0 : Int) = INF
           case' pos => (have HD := Aside0.mk hd; rw [hd] at cd0; clear hd)
           case' neg => (have hb : (rd d2 (i0 : Int) == 1099511627776) = false := beq_eq_false_iff_ne.2 hd; have HD := Aside0.mk hd; clear hd)))
      rotate_left 1
      · skip
        have hnew := HJ2.out.new hN HCO.out hdl ha0 hJ HE0.out HH0.out HD.out
        have HNEW := Aside0.mk hnew
        have hset := HR.out.setDist i0 hi0 (a2 + J)
        have har := around_calls hset HW.out HH.out HCL.out i0 hnew.1.1 (by rw [rd_get _ (by simpa using hi0)]; simp) hnew.1.2.1 (by have := hnew.1.2.2; omega) (by have := HJ2.out.room; omega)
        have HAR := Aside0.mk har
        have HSET := Aside0.mk hset
        clear hnew hset har
        go_at_call 157
        refine HAR.out.mono ?_
        rintro e w4 ⟨rfl, n4, P4, B4, hs4, hch4, hn4, hg4⟩
        have hnw := HNEW.out.2.2.2 n4 P4 B4 hn4 hg4
        have HF2 := Aside0.mk (fill_calls (grT W C l) HSRC.out hs4 hnw.fi)
        have HOLD := Aside0.mk hnw
        have HC4 := Aside0.mk ((HCH.out.set_ (p := ⟨gd, i0, none⟩) (.inl (.inr (.inr (.inl rfl)))) (.int .i64 (a2 + J))).trans (hch4.mono (fun k hk => by rcases hk with h | h; exact .inr (.inl h); exact .inr (.inr (.inr h)))))
        have HKN := Aside0.mk (And.intro HNEW.out.2.1 (And.intro HNEW.out.2.2.1 hn4))
        clear hs4 hch4 hn4 hg4 hnw
        go_wp2_with (go_at_call 154; refine HF2.out.mono ?_; rintro e w5 ⟨rfl, a4, n5, P5, B5, AS4, cS4, td4, hs1, hch1, hf1, hn1, hp1, hz1, hx1⟩; have HS4 := Aside0.mk hs1; have HCH4 := Aside0.mk hch1; have HJ4 := Aside0.mk (RunJ.of_fill HOLD.out hf1 hp1 hz1 hx1); have HN4 := Aside0.mk hn1; clear hs1 hch1 hf1 hn1 hp1 hz1 hx1)
        go_roundg (n5 + td4.length + 5 * (C.length - known INF (fun i => rd (d2.set i0 (a2 + J)) i) C.length))
        case measure =>
          have := HN4.out
          obtain ⟨k1, k2, k3⟩ := HKN.out
          omega
        case rel => exact ⟨a4, n5, P5, B5, AS4, cS4, td4, _, Nat.le_refl _, HS4, ⟨HC4.out.trans (HCH4.out.mono (fun k hk => by rcases hk with h | h | h; exact .inl h; exact .inr (.inl h); exact .inr (.inr (.inr h))))⟩, HJ4⟩
      · skip
        have hold := HJ2.out.old ha0 hJ HE0.out HH0.out HD.out
        have HF2 := Aside0.mk (fill_calls (grT W C l) HSRC.out HR.out hold.fi)
        have HOLD := Aside0.mk hold
        clear hold
        go_at_call 154
        refine HF2.out.mono ?_
        rintro e w4 ⟨rfl, a4, n4, P4, B4, AS4, cS4, td4, hs1, hch1, hf1, hn1, hp1, hz1, hx1⟩
        have HS4 := Aside0.mk hs1
        have HCH4 := Aside0.mk hch1
        have HJ4 := Aside0.mk (RunJ.of_fill HOLD.out hf1 hp1 hz1 hx1)
        have HN4 := Aside0.mk hn1
        clear hs1 hch1 hf1 hn1 hp1 hz1 hx1
        go_wp2
        go_roundg (n4 + td4.length + 5 * (C.length - known INF (fun i => rd d2 i) C.length))
        case measure => have := HN4.out; omega
        case rel => exact ⟨a4, n4, P4, B4, AS4, cS4, td4, d2, Nat.le_refl _, HS4, ⟨HCH.out.trans (HCH4.out.mono (fun k hk => by rcases hk with h | h | h; exact .inl h; exact .inr (.inl h); exact .inr (.inr (.inr h))))⟩, HJ4⟩
end Go.Proofs.YthgehdembghdaaaGreat.P
namespace Go.Proofs.YthgehdembghdaaaGreat.P
open Go.RowKit Go.Proofs.YthgehdembghdaaaGreatW.PrintWords Go.Proofs.YthgehdembghdaaaGreatW.PrintLast Go.Proofs.YthgehdembghdaaaGreatW.PrintMore
set_option linter.unusedVariables false
set_option linter.unusedSimpArgs false
structure RepI (w0 w : World) (gd n m : Nat) (x : Int) : Prop where
  le : m ≤ n
  ex : ∃ cs, w.heap[gd]? = some (.cells cs 3 (0, 0)) ∧ cs.size = n ∧ ∀ j, j < m → cs[j]? = some (.int .i64 x)
  below : Below w0.heap.size w0 w
  ge : w0.heap.size ≤ gd
theorem RepI.copy {w0 w : World} {gd n m : Nat} {x : Int} (h : RepI w0 w gd n m x) {k : Nat} (hk : m + k ≤ n) : RepI w0 (w.setCells gd m (List.replicate k (.int .i64 x))) gd n (m + k) x := by
  obtain ⟨cs, h1, h2, h3⟩ := h.ex
  obtain ⟨cs', g1, g2, g3, g4⟩ := setCells_block gd (List.replicate k (.int .i64 x)) m w cs _ _ h1
  refine ⟨hk, ⟨cs', g1, by omega, fun j hj => ?_⟩, h.below.grown (setCells_grown gd _ _ _) (h.below.size) (fun q hq => by
    have h1 : gd = q := by simpa using hq
    have h2 := h.ge
    omega), h.ge⟩
  by_cases hjm : j < m
  · rw [g3 j (.inl hjm)]; exact h3 j hjm
  · have := g4 (j - m) (by rw [List.length_replicate]; omega) (by omega)
    rw [show m + (j - m) = j by omega] at this
    rw [this, List.getElem?_replicate, if_pos (by omega)]
theorem RepI.cell {w0 w : World} {gd n m : Nat} {x : Int} (h : RepI w0 w gd n m x) {j : Nat} (hj : j < m) : w.cell? ⟨gd, j, none⟩ = some (.int .i64 x) := by
  obtain ⟨cs, h1, h2, h3⟩ := h.ex
  exact cell_blk h1 (h3 j hj)
theorem RepI.some_ {w0 w : World} {gd n m : Nat} {x : Int} (h : RepI w0 w gd n m x) {j : Nat} (hj : j < n) : (w.cell? ⟨gd, j, none⟩).isSome = true := by
  obtain ⟨cs, h1, h2, h3⟩ := h.ex
  rw [cell_blk h1 (Array.getElem?_eq_getElem (show j < cs.size by omega))]
  rfl
theorem RepI.free {w0 w : World} {gd n m : Nat} {x : Int} (h : RepI w0 w gd n m x) (j : Nat) : w.frozen? ⟨gd, j, none⟩ = false := by
  obtain ⟨cs, h1, h2, h3⟩ := h.ex
  exact free_blk h1 j
theorem RepI.drawn {w0 w : World} {gd n m : Nat} {x : Int} (h : RepI w0 w gd n m x) (q : Nat) : RepI w0 (w.drewN q) gd n m x := by
  obtain ⟨cs, h1, h2, h3⟩ := h.ex
  exact ⟨h.le, ⟨cs, by rw [drewN_heap']; exact h1, h2, h3⟩, below_step h.below (Drawn0.below ⟨⟨q, rfl⟩⟩), h.ge⟩
theorem copy_run {w0 w : World} {gd n m : Nat} {x : Int} (h : RepI w0 w gd n m x) (a : Addr) (sLen sCap dLen dCap k : Nat) (hk : k = Nat.min sLen dLen) (hmk : m + k ≤ n) (hsrc : ∀ j, j < k → w.cell? (a.add j) = some (.int .i64 x)) :
    Sem.run Tryz.prog (Builtin.copy_ #[36, 36] 3 #[.slice (some ⟨gd, m, none⟩) dLen dCap, .slice (some a) sLen sCap]) w = .ok (.int .i64 (k : Int)) (w.setCells gd m (List.replicate k (.int .i64 x))) := by
  have h1 : (Tryz.prog.info? 3).map (·.size) = some 1 := by kernel_rfl
  have := run_copy_cells (P := Tryz.prog) w 36 36 3 3 gd m dLen dCap a sLen sCap (List.replicate k (.int .i64 x)) Tryz.underlying36 h1 (by rw [List.length_replicate]; exact hk) (fun j v hv => by
    rw [List.getElem?_replicate] at hv
    split at hv
    · rw [hsrc j (by assumption)]; exact hv
    · exact absurd hv (by simp)) (fun j hj => h.some_ (by rw [List.length_replicate] at hj; omega)) (fun j _ => h.free _) (fun v hv => by rw [List.eq_of_mem_replicate hv]; rfl)
  rw [List.length_replicate] at this
  exact this
theorem mul_calls (n : Nat) (hn : n ≤ 256) (w : World) : Calls Tryz.prog 141 #[.int .u64 1, .int .u64 n] w fun e w' => e = .returned (.tuple #[.int .u64 0, .int .u64 n]) ∧ w' = w := by
  refine (Any.bits_Mul Tryz.mulLay 1 n (by decide) (by omega) w).mono ?_
  rintro e w' ⟨rfl, rfl⟩
  refine ⟨?_, rfl⟩
  rw [Nat.one_mul, Nat.div_eq_of_lt (by omega), Nat.mod_eq_of_lt (by omega)]
  rfl
set_option maxRecDepth 100000 in
set_option maxHeartbeats 2000000 in
theorem repeat_calls (B : Nat) (cap : Nat) (x : Int) (n : Nat) (hn : 1 ≤ n ∧ n ≤ 256) (w : World) (h : w.cell? ⟨B, 0, none⟩ = some (.int .i64 x)) :
    Calls Tryz.prog 133 #[.slice (some ⟨B, 0, none⟩) 1 cap, .int .i64 n] w fun e w' => ∃ gd, e = .returned (.slice (some ⟨gd, 0, none⟩) n n) ∧ RepI w w' gd n n x := by
  have hn0 : (0 : Int) ≤ (n : Int) := by omega
  have hbig : (n : Int) ≤ 256 := by omega
  have hone : (1 : Int) ≤ (n : Int) := by omega
  have hw : IntKind.u64.wrap (n : Int) = (n : Int) := Mul64.wrapN n (by omega)
  have hw1 : IntKind.u64.wrap 1 = 1 := by decide
  obtain ⟨i0, hi, hzz⟩ := Option.map_eq_some_iff.1 info3
  simp only [Prod.mk.injEq] at hzz
  obtain ⟨hz0, hz1, hz2⟩ := hzz
  have hmk : ∀ w : World, Sem.run Tryz.prog (Instr.makeSlice 36 (.int .i64 n) (.int .i64 n)) w = .ok (.slice (some ⟨w.heap.size, 0, none⟩) n n) (w.alloc (.cells (madeCells #[.int .i64 0] n) 3)) := fun w => by
    have := run_make (P := Tryz.prog) w 36 3 i0 (.int .i64 0) Tryz.underlying36 hi hz0 .i64 .i64 (n : Int) (n : Int) (by omega) (by omega) (by rw [hz2]; omega) (by omega)
    rw [hz1] at this
    simp only [Int.toNat_natCast, Nat.mul_one] at this
    exact this
  have hstart : RepI w (w.alloc (.cells (madeCells #[.int .i64 0] n) 3)) w.heap.size n 0 x := ⟨Nat.zero_le _, ⟨_, heap_alloc_new _ _, by simp [size_madeCells], fun j hj => by omega⟩, below_alloc (Below.refl _ _) _, Nat.le_refl _⟩
  have hcp := copy_run hstart ⟨B, 0, none⟩ 1 cap n n 1 (by simp [Nat.min_def]; omega) (by omega) (fun j hj => by
    have : j = 0 := by omega
    subst this
    rw [Addr.add_zero', World.cell?_of_block (heap_alloc_old w _ (World.block_lt_of_cell? w _ h))]
    exact h)
  have HS := Aside0.mk (hstart.copy (k := 1) (by omega))
  have HCP := Aside0.mk hcp
  have HN := Aside0.mk hn
  clear hstart hcp hi hz0 hz1 hz2 hn
  clear h
  go_enter Tryz.func133, Tryz.ntmps133
  go_wp2_with (go_at_call 141; refine (mul_calls n HN.out.2 _).mono ?_; rintro e w' ⟨rfl, rfl⟩)
  rw [show Sem.run Tryz.prog _ _ = _ from HCP.out]
  clear HCP hmk
  generalize hW1 : (w'.alloc (.cells (madeCells #[.int .i64 0] n) 3)).setCells w'.heap.size 0 (List.replicate 1 (.int .i64 x)) = w1 at HS ⊢
  clear hW1
  generalize hgd : w'.heap.size = gd at *
  clear hgd
  go_wp2_with fail
  go_loopg [8] n (fun gg s8 wr => ∃ m : Nat, s8 = .int .i64 m ∧ 1 ≤ m ∧ n - m ≤ gg ∧ Aside0 (RepI w' wr gd n m x))
  case atStart => exact ⟨1, rfl, Nat.le_refl _, by omega, HS⟩
  case round =>
    obtain ⟨m, rfl, hm1, hgg, HR⟩ := hrel
    have hmn := HR.out.le
    by_cases hlt : m < n
    · have hlt2 : (m : Int) < (n : Int) := by omega
      have hm63 : (m : Int) ≤ (n : Int) := by omega
      have hcp := fun q => copy_run (HR.out.drawn q) ⟨gd, 0, none⟩ m n (n - m) (n - m) (Nat.min m (n - m)) rfl (by have := Nat.min_le_right m (n - m); show m + Nat.min m (n - m) ≤ n; have : Nat.min m (n - m) ≤ n - m := Nat.min_le_right _ _; omega) (fun j hj => by
        have : Nat.min m (n - m) ≤ m := Nat.min_le_left _ _
        have h2 := (HR.out.drawn q).cell (j := j) (by omega)
        have he : (⟨gd, 0, none⟩ : Addr).add j = ⟨gd, j, none⟩ := by unfold Addr.add; split <;> simp_all
        rw [he]
        exact h2)
      have HCP := Aside0.mk hcp
      clear hcp
      obtain ⟨k, hk⟩ : ∃ k, k = Nat.min m (n - m) := ⟨_, rfl⟩
      have hk1 : 1 ≤ k := by rw [hk]; exact Nat.le_min.2 ⟨hm1, by omega⟩
      have hkm : k ≤ n - m := by rw [hk]; exact Nat.min_le_right _ _
      rw [← hk] at HCP
      clear hk
      go_wp2_with fail
      have c0 : wr.cell? ⟨gd, 0, none⟩ = some (.int .i64 x) := HR.out.cell (by omega)
      have hcp1 : Sem.run Tryz.prog (Builtin.copy_ #[36, 36] 3 #[.slice (some ⟨gd, m, none⟩) (n - m) (n - m), .slice (some ⟨gd, 0, none⟩) m n]) wr.drew = .ok (.int .i64 (k : Int)) (wr.drew.setCells gd m (List.replicate k (.int .i64 x))) := HCP.out 1
      have HR2 := Aside0.mk ((HR.out.drawn 1).copy (k := k) (by omega))
      have c2 : (wr.drew.setCells gd m (List.replicate k (.int .i64 x))).cell? ⟨gd, 0, none⟩ = some (.int .i64 x) := HR2.out.cell (by omega)
      have hwr : IntKind.i64.wrap ((m : Int) + (k : Int)) = ((m + k : Nat) : Int) := by rw [IntKind.wrap_i64]; omega
      go_region_held3 (fun w' => w'.cell? ⟨gd, 0, none⟩ = some (.int .i64 x)) (first | go_keep | exact c2 | assumption) (fail)
      go_wp2
      go_roundg (n - (m + k))
      case measure => omega
      case rel => exact ⟨m + k, by rw [Int.natCast_add], by omega, Nat.le_refl _, HR2⟩
    · go_wp2_with fail
      go_ret
      have : m = n := by omega
      subst this
      exact ⟨_, rfl, HR.out⟩
end Go.Proofs.YthgehdembghdaaaGreat.P
namespace Go.Proofs.YthgehdembghdaaaGreat.P
open Go.RowKit Go.Proofs.YthgehdembghdaaaGreatW.PrintWords Go.Proofs.YthgehdembghdaaaGreatW.PrintLast Go.Proofs.YthgehdembghdaaaGreatW.PrintMore
open Go.Proofs.YthgehdembghdaaaGreat.Dist
set_option linter.unusedVariables false
set_option linter.unusedSimpArgs false
theorem blk_step {w w' : World} {g : Nat} {o : Obj} (h : w.heap[g]? = some o) (hb : Below w.heap.size w w') : w'.heap[g]? = some o := by rw [hb.block g (blk_lt h)]; exact h
theorem new_made (w : World) : Calls Tryz.prog 132 #[.int .i64 0] w fun e w' => ∃ G, e = .returned (.pointer (some ⟨G, 0, none⟩)) ∧ Below w.heap.size w w' ∧ w.heap.size ≤ G ∧ G < w'.heap.size ∧ ∃ cs : Array Value, cs.toList = .int .i64 0 :: .int .i64 0 :: ringZ 256 ∧ w'.heap[G]? = some (.cells cs 192 (0, 0)) := by
  refine (New_calls w).mono ?_
  rintro e w' ⟨rfl, cs, hcs, rfl⟩
  have hb := heap_alloc_new w (.cells cs 192 (0, 0))
  exact ⟨_, rfl, below_alloc (Below.refl _ _) _, Nat.le_refl _, blk_lt hb, cs, hcs, hb⟩
theorem sort_made (A0 : Option Addr) (c0 : Nat) (l0 : List Seed) (hl : l0.length < 5864062014805) (w : World) (hr0 : Kd.C k90 w A0 l0.length l0) (hc0 : l0.length ≤ c0) :
    Calls Tryz.prog 99 #[.slice A0 l0.length c0] w fun e w' => ∃ AS cS, e = .returned (.slice AS (sortU l0).length cS) ∧ Below w.heap.size w w' ∧ (sortU l0).length ≤ cS ∧ Kd.C k90 w' AS (sortU l0).length (sortU l0) ∧ ∀ ad, AS = some ad → w.heap.size ≤ ad.block ∧ ad.block < w'.heap.size := by
  refine (seedsSort_calls A0 c0 l0 (sortU l0) w hr0 hc0 (by unfold seedsSortF; rw [if_pos hl])).mono ?_
  rintro e w' ⟨v, rfl, hR, hB⟩
  obtain ⟨hok, _⟩ := Kd.R_bound hR
  obtain ⟨A', c', rfl, hl, hr⟩ := Kd.R_reads hR
  refine ⟨A', c', rfl, hB, hl, hr, fun ad he => ?_⟩
  have := hok ad.block (by rw [he]; rfl)
  exact ⟨this.2.1, this.2.2.1⟩
theorem rep_made (B cap n : Nat) (hn : 1 ≤ n ∧ n ≤ 256) (w : World) (h : w.cell? ⟨B, 0, none⟩ = some (.int .i64 1099511627776)) :
    Calls Tryz.prog 133 #[.slice (some ⟨B, 0, none⟩) 1 cap, .int .i64 n] w fun e w' => ∃ gd, e = .returned (.slice (some ⟨gd, 0, none⟩) n n) ∧ Below w.heap.size w w' ∧ w.heap.size ≤ gd ∧ gd < w'.heap.size ∧ RowIn encI 1 3 gd n (List.replicate n (1099511627776 : Int)).toArray w' := by
  refine (repeat_calls B cap 1099511627776 n hn w h).mono ?_
  rintro e w' ⟨gd, rfl, hI⟩
  obtain ⟨cs, h1, h2, h3⟩ := hI.ex
  refine ⟨gd, rfl, hI.below, hI.ge, blk_lt h1, ?_⟩
  refine ⟨cs, h1, by rw [h2, Nat.mul_one], by simp, fun j hj c hc => ?_⟩
  have hjn : j < n := by simpa using hj
  have hc0 : c = 0 := by omega
  subst hc0
  rw [Nat.mul_one, Nat.add_zero, h3 j hjn, getElem!_pos _ j (by simpa using hjn)]
  simp [encI]
structure FinI (w wr : World) (G gd : Nat) (AS : Option Addr) (cS n : Nat) (l : List Seed) : Prop where
  ring : ∃ cs : Array Value, cs.toList = .int .i64 0 :: .int .i64 0 :: ringZ 256 ∧ wr.heap[G]? = some (.cells cs 192 (0, 0))
  seeds : Kd.C k90 wr AS l.length l
  seedsB : ∀ ad, AS = some ad → G < ad.block ∧ ad.block < gd
  seedsC : l.length ≤ cS
  dist : RowIn encI 1 3 gd n (List.replicate n (1099511627776 : Int)).toArray wr
  lt : w.heap.size ≤ G ∧ G < gd ∧ gd < wr.heap.size
  below : Below w.heap.size w wr
theorem flat_repsI {R : Int → List Value → Prop} (hR : ∀ p, R p (encI p)) : ∀ l : List Int, Reps R 1 l (l.flatMap encI) := by
  intro l
  induction l with
  | nil => exact Reps.none _ _
  | cons x r ih =>
    refine ⟨by have := ih.1; simp [encI] at this ⊢; omega, fun j p hj => ?_⟩
    rcases j with _ | j
    · have : x = p := by simpa using hj
      subst this
      rw [Nat.zero_mul, List.drop_zero, List.flatMap_cons, show List.take 1 (encI x ++ List.flatMap encI r) = encI x by rw [← encI_len x, List.take_left]]
      exact hR x
    · have := ih.2 j p (by simpa using hj)
      rw [List.flatMap_cons, show (j + 1) * 1 = 1 + j * 1 by omega, ← List.drop_drop, show List.drop 1 (encI x ++ List.flatMap encI r) = List.flatMap encI r by rw [← encI_len x, List.drop_left]]
      exact this
theorem rowI_R {w : World} {base B cap : Nat} {l : List Int} (h : RowIn encI 1 3 B cap l.toArray w) (hb : base ≤ B) (hc : cap ≤ maxLen) : Kd.R (Kd.int .i64) 3 w base (fun _ => True) (.slice (some ⟨B, 0, none⟩) l.length cap) l :=
  ⟨fun _ _ => trivial, _, RowIn_ownsRow encI_len h hb hc, by exact flat_repsI (R := (Kd.int .i64).M w base _) (fun p => rfl) l⟩
theorem rd_replicate (n : Nat) (i : Nat) (hi : i < n) : rd (List.replicate n (1099511627776 : Int)) i = INF := by
  rw [rd_get _ (by simpa using hi)]; simp [INF]
theorem grT_sort (W : Int) (C : List Int) (l : List Seed) : grT W C (sortU l) = grT W C l := by
  unfold grT
  congr 1
  funext i k
  exact propext ⟨fun ⟨x, hx, h⟩ => ⟨x, (mem_sortU l x).1 hx, h⟩, fun ⟨x, hx, h⟩ => ⟨x, (mem_sortU l x).2 hx, h⟩⟩
theorem sortU_len (l : List Seed) : (sortU l).length ≤ l.length := by
  have hi : ∀ (x : Seed) (l : List Seed), (insS x l).length ≤ l.length + 1 := by
    intro x l
    induction l with
    | nil => simp [insS]
    | cons y r ih => unfold insS; split <;> (try split) <;> simp <;> omega
  have : ∀ (l acc : List Seed), (l.foldl (fun acc x => insS x acc) acc).length ≤ acc.length + l.length := by
    intro l
    induction l with
    | nil => intro acc; simp
    | cons x r ih => intro acc; have := ih (insS x acc); have := hi x acc; simp only [List.foldl_cons, List.length_cons]; omega
  simpa [sortU] using this l []
theorem FinI.made {w wr : World} {G gd : Nat} {AS : Option Addr} {cS c : Nat} {l : List Seed} {W H : Int} {A : Option Addr} {C : List Int} (h : FinI w wr G gd AS cS C.length l) (hA : Kd.C (Kd.int .u8) w A C.length C) :
    SwM (wr.alloc (.cells #[.int .i64 W, .int .i64 H, .slice A C.length c, .pointer (some ⟨G, 0, none⟩), .slice AS l.length cS, .slice (some ⟨gd, 0, none⟩) C.length C.length] 168)) wr.heap.size G gd (wr.heap.size + 1) W H A c C AS cS l C.length (List.replicate C.length (1099511627776 : Int)) 0 0 0 (fun _ => []) := by
  obtain ⟨cs, hcs, hG⟩ := h.ring
  have hlt := h.lt
  have hal := below_alloc (Below.refl wr.heap.size wr) (.cells #[.int .i64 W, .int .i64 H, .slice A C.length c, .pointer (some ⟨G, 0, none⟩), .slice AS l.length cS, .slice (some ⟨gd, 0, none⟩) C.length C.length] 168)
  have hsz : (wr.alloc (.cells #[.int .i64 W, .int .i64 H, .slice A C.length c, .pointer (some ⟨G, 0, none⟩), .slice AS l.length cS, .slice (some ⟨gd, 0, none⟩) C.length C.length] 168)).heap.size = wr.heap.size + 1 := by simp
  refine ⟨?_, Kd.C_below hA (below_step h.below hal), fun ad e h0 => ?_, Kd.C_below h.seeds hal, fun ad e _ => ?_, h.seedsC, RowIn.heap h.dist (hal.block gd hlt.2.2), by simp, RingM.new (blk_step hG hal) hcs (by omega) (by omega), by omega, by omega, by omega, by omega, by omega⟩
  · rw [List.length_replicate]; exact heap_alloc_new wr _
  · obtain ⟨ad', he, hr⟩ := hA.2.2 h0
    obtain rfl := Option.some.inj (he.symm.trans e)
    have : ad'.block < w.heap.size := by
      obtain ⟨c', e1, e2, e3⟩ := hr 0 _ (List.getElem?_eq_getElem h0)
      have e4 := e3 0 (.int .u8 C[0]) (by rw [show c' = [.int .u8 C[0]] from e2]; rfl)
      have := World.block_lt_of_cell? w _ e4
      simpa [Addr.add] using this
    omega
  · have := h.seedsB ad e
    omega
theorem run_start {W H : Int} {C : List Int} {l : List Seed} (hl : l.length < 5864062014805) (hs : SeedsOk W H C l) : (∀ i k, (grT W C (sortU l)).src i k → i < (grT W C (sortU l)).n ∧ (grT W C (sortU l)).opn i ∧ k ≤ KX) ∧ RunI (grT W C (sortU l)) C.length (sortU l) (List.replicate C.length (1099511627776 : Int)) 0 0 0 (fun _ => []) := by
  have hsrc : ∀ i k, (grT W C (sortU l)).src i k → i < (grT W C (sortU l)).n ∧ (grT W C (sortU l)).opn i ∧ k ≤ KX := by
    rintro i k ⟨x, hx, e0, e2⟩
    obtain ⟨h1, h2, h3, h4, h5, h6⟩ := hs.2 x ((mem_sortU l x).1 hx)
    refine ⟨by show i < C.length; omega, by show rd C i ≠ 255; rw [← e0]; exact h3, by unfold KX; omega⟩
  have hC : C.length ≤ 256 := by
    obtain ⟨a1, a2, a3, a4, a5, a6⟩ := hs.1
    have := mul_small ⟨a1, a2⟩ ⟨a3, a4⟩
    omega
  have hlen := sortU_len l
  have hm : ∀ k i, ¬ memR 0 (fun _ => []) k i := fun k i h => by have := h.2.2; simp at this
  refine ⟨hsrc, ⟨⟨?_, ⟨?_, fun x hx => ?_⟩, fun b _ x hx => by simp at hx, by omega⟩, by omega⟩⟩
  · have hst := Inv.start (g := grT W C (sortU l)) (K := KX) (Mx := MX) (T := todoT (sortU l)) (fun i k => Iff.rfl) hm
    have he : ∀ i, i < (grT W C (sortU l)).n → rd (List.replicate C.length (1099511627776 : Int)) i = INF := fun i hi => rd_replicate _ i hi
    have hk : known (grT W C (sortU l)).inf (fun i => rd (List.replicate C.length (1099511627776 : Int)) i) (grT W C (sortU l)).n = known (grT W C (sortU l)).inf (fun _ => (grT W C (sortU l)).inf) (grT W C (sortU l)).n := known_congr _ (fun i hi => he i hi)
    exact { at0 := Int.le_refl _, dle := fun i hi => by rw [he i hi]; exact Int.le_refl _, set_ := fun i hi h => absurd (he i hi) h, M_ok := fun k i h => absurd h (hm k i), T_ok := hst.T_ok, edge := fun j hj h => absurd (he j hj) h, seed := fun i k h => .inl h, att := fun i hi h => absurd (he i hi) h }
  · refine (rises_sortU l).imp (fun {a b} h => ?_)
    simp only [ltS, decide_eq_true_eq] at h
    omega
  · obtain ⟨h1, h2, h3, h4, h5, h6⟩ := hs.2 x ((mem_sortU l x).1 hx)
    exact ⟨h4, by unfold KX; omega, h1, h2⟩
open Classical in
set_option maxRecDepth 100000 in
set_option maxHeartbeats 2000000 in
theorem spread_calls (a0_0 : Int) (a0_1 : Int) (A0_2 : Option Addr) (c0_2 : Nat) (l0_2 : List Int) (A1 : Option Addr) (c1 : Nat) (l1 : List Seed) (r1 : List Int) (r2 : Int) (w : World) (hr0_2 : Kd.C (Kd.int .u8) w A0_2 l0_2.length l0_2) (hc0_2 : l0_2.length ≤ c0_2) (hr1 : Kd.C k90 w A1 l1.length l1) (hc1 : l1.length ≤ c1) (h : spreadF a0_0 a0_1 l0_2 l1 = some (r1, r2)) :
    Calls Tryz.prog 105 #[.agg #[.int .i64 a0_0, .int .i64 a0_1, .slice A0_2 l0_2.length c0_2], .slice A1 l1.length c1] w fun e w' => ∃ v0_ : Value, e = .returned (.tuple #[v0_, .int .i64 r2]) ∧ Kd.R (Kd.int .i64) 3 w' w.heap.size (fun _ => True) v0_ r1 ∧ Below w.heap.size w w' := by
  have hM := fun (w1 : World) (hb : Below w.heap.size w w1) => seedsMay_calls a0_0 a0_1 A0_2 c0_2 l0_2 A1 c1 l1 _ w1 (Kd.C_below hr0_2 hb) hc0_2 (Kd.C_below hr1 hb) hc1 rfl
  have HM := Aside0.mk hM
  have HR0 := Aside0.mk hr0_2
  have HC0 := Aside0.mk hc0_2
  have HR1 := Aside0.mk hr1
  have HC1 := Aside0.mk hc1
  clear hM hr0_2 hc0_2 hr1 hc1
  unfold spreadF at h
  by_cases hs : SeedsOk a0_0 a0_1 l0_2 l1
  · rw [if_pos hs] at h
    by_cases hg : (∀ x ∈ l0_2, 0 ≤ x ∧ x ≤ 255) ∧ l1.length < 5864062014805
    · rw [if_pos hg] at h
      obtain ⟨rfl, rfl⟩ := Prod.mk.inj (Option.some.inj h)
      have HD := Aside0.mk (decide_eq_true hs)
      rw [HD.out] at HM
      have HS := Aside0.mk hs
      have HG := Aside0.mk hg
      clear h hs hg
      go_enter Tryz.func105, Tryz.ntmps105
      go_wp2_with (first | ((with_reducible refine gate_dst (N := 2) rfl ?_); refine box_event ?hg (N := 2) ?hd (cs := tileCells a0_0 a0_1 A0_2 l0_2.length c0_2) (t := 86) ?hr ?_; (case hd => rfl); (case hg => rfl); (case hr => first | (go_simp; done) | (go_simp; rfl)); intro gb hg w1 hbox hb; have b0 : w1.cell? ⟨gb, 0, none⟩ = _ := cell_blk hbox rfl; have b1 : w1.cell? ⟨gb, 1, none⟩ = _ := cell_blk hbox rfl; have b2 : w1.cell? ⟨gb, 2, none⟩ = _ := cell_blk hbox rfl; have HB1 := Aside0.mk hb; have HX := Aside0.mk hbox; clear hb hbox hg) | (go_at_call 131; refine (HM.out _ HB1.out).mono ?_; rintro e w2 ⟨rfl, hb2⟩; have HB2 := Aside0.mk (below_step HB1.out hb2); have HK := Aside0.mk hb2; clear hb2))
      have p0 := pw_cell_below HK.out b0
      have p1 := pw_cell_below HK.out b1
      have p2 := pw_cell_below HK.out b2
      clear b0 b1 b2
      have hn := HS.out.1.2.2.2.2.1
      have hn1 : 1 ≤ l0_2.length ∧ l0_2.length ≤ 256 := by
        obtain ⟨a1, a2, a3, a4, a5, a6⟩ := HS.out.1
        have := mul_small ⟨a1, a2⟩ ⟨a3, a4⟩
        have h1 : 1 * 1 ≤ a0_0 * a0_1 := Int.mul_le_mul a1 a3 (by omega) (by omega)
        omega
      have HN := Aside0.mk hn1
      clear hn hn1
      go_region_held3 (fun w' => w'.cell? ⟨gb, 0, none⟩ = some (.int .i64 a0_0) ∧ w'.cell? ⟨gb, 1, none⟩ = some (.int .i64 a0_1) ∧ w'.cell? ⟨gb, 2, none⟩ = some (.slice A0_2 l0_2.length c0_2))
        (first | exact ⟨p0, p1, p2⟩ | exact ⟨g0, g1, g2⟩ | exact ⟨s0, s1, s2⟩ | exact ⟨r0, r1, r2⟩ | (refine ⟨?_, ?_, ?_⟩ <;> (refine pw_cell_below (below_alloc (Below.refl _ _) _) ?_) <;> assumption))
        (first
          | (go_at_call 132; refine (new_made _).mono ?_; rintro e wg ⟨G, rfl, hg1, hg2, hg3, cs, hg4, hg5⟩; have g0 := pw_cell_below hg1 (a := ⟨gb, 0, none⟩) (v := .int .i64 a0_0) (by first | exact p0 | exact pw_cell_below (below_alloc (Below.refl _ _) _) p0); have g1 := pw_cell_below hg1 (a := ⟨gb, 1, none⟩) (v := .int .i64 a0_1) (by first | exact p1 | exact pw_cell_below (below_alloc (Below.refl _ _) _) p1); have g2 := pw_cell_below hg1 (a := ⟨gb, 2, none⟩) (v := .slice A0_2 l0_2.length c0_2) (by first | exact p2 | exact pw_cell_below (below_alloc (Below.refl _ _) _) p2);  have HBg : Aside0 (Below w.heap.size w wg) := ⟨below_step (by first | exact below_drew1 HB2.out | exact below_alloc (below_drew1 HB2.out) _) hg1⟩; have HGg : Aside0 (w.heap.size ≤ G ∧ G < wg.heap.size) := ⟨⟨Nat.le_trans (by first | exact (below_drew1 HB2.out).size | exact (below_alloc (below_drew1 HB2.out) _).size) hg2, hg3⟩⟩; have HRg : Aside0 (wg.heap[G]? = some (.cells cs 192 (0, 0))) := ⟨hg5⟩; have HRc := Aside0.mk hg4; have Hg1 := Aside0.mk hg1; clear hg1 hg2 hg3 hg4 hg5)
          | (go_at_call 99; refine (sort_made A1 c1 l1 HG.out.2 _ (Kd.C_below HR1.out (by first | exact HBg.out | exact below_alloc HBg.out _)) HC1.out).mono ?_; rintro e ws ⟨AS, cS, rfl, hs1, hs2, hs3, hs4⟩; have s0 := pw_cell_below hs1 (a := ⟨gb, 0, none⟩) (v := .int .i64 a0_0) (by first | exact g0 | exact pw_cell_below (below_alloc (Below.refl _ _) _) g0); have s1 := pw_cell_below hs1 (a := ⟨gb, 1, none⟩) (v := .int .i64 a0_1) (by first | exact g1 | exact pw_cell_below (below_alloc (Below.refl _ _) _) g1); have s2 := pw_cell_below hs1 (a := ⟨gb, 2, none⟩) (v := .slice A0_2 l0_2.length c0_2) (by first | exact g2 | exact pw_cell_below (below_alloc (Below.refl _ _) _) g2);  have HBs : Aside0 (Below w.heap.size w ws) := ⟨below_step (by first | exact HBg.out | exact below_alloc HBg.out _) hs1⟩; have HSs : Aside0 (∀ ad, AS = some ad → wg.heap.size ≤ ad.block ∧ ad.block < ws.heap.size) := ⟨fun ad he => ⟨Nat.le_trans (by first | exact Nat.le_refl _ | exact (below_alloc (Below.refl _ _) _).size) (hs4 ad he).1, (hs4 ad he).2⟩⟩; have HRs : Aside0 (ws.heap[G]? = some (.cells cs 192 (0, 0))) := ⟨blk_step (by first | exact HRg.out | exact blk_step HRg.out (below_alloc (Below.refl _ _) _)) hs1⟩; have HCs := Aside0.mk hs3; have HLs := Aside0.mk hs2; have HZs : Aside0 (wg.heap.size ≤ ws.heap.size) := ⟨Nat.le_trans (by first | exact Nat.le_refl _ | exact (below_alloc (Below.refl _ _) _).size) hs1.size⟩; have Hs1 := Aside0.mk hs1; clear hs1 hs2 hs3 hs4)
          | (go_at_call 133; refine (rep_made _ _ _ HN.out _ (by first | exact cell_blk (heap_alloc_new _ _) rfl | exact pw_cell_below Hs1.out (cell_blk (heap_alloc_new _ _) rfl) | exact pw_cell_below Hs1.out (pw_cell_below Hg1.out (cell_blk (heap_alloc_new _ _) rfl)))).mono ?_; rintro e wr ⟨gd, rfl, hr1, hr2, hr3, hr4⟩; have r0 := pw_cell_below hr1 (a := ⟨gb, 0, none⟩) (v := .int .i64 a0_0) (by first | exact s0 | exact pw_cell_below (below_alloc (Below.refl _ _) _) s0); have r1 := pw_cell_below hr1 (a := ⟨gb, 1, none⟩) (v := .int .i64 a0_1) (by first | exact s1 | exact pw_cell_below (below_alloc (Below.refl _ _) _) s1); have r2 := pw_cell_below hr1 (a := ⟨gb, 2, none⟩) (v := .slice A0_2 l0_2.length c0_2) (by first | exact s2 | exact pw_cell_below (below_alloc (Below.refl _ _) _) s2);  have HF : Aside0 (FinI w wr G gd AS cS l0_2.length (sortU l1)) := ⟨⟨⟨cs, HRc.out, blk_step (by first | exact HRs.out | exact blk_step HRs.out (below_alloc (Below.refl _ _) _)) hr1⟩, Kd.C_below (by first | exact HCs.out | exact Kd.C_alloc HCs.out _) hr1, fun ad he => ⟨Nat.lt_of_lt_of_le HGg.out.2 (HSs.out ad he).1, Nat.lt_of_lt_of_le (HSs.out ad he).2 (Nat.le_trans (by first | exact Nat.le_refl _ | exact (below_alloc (Below.refl _ _) _).size) hr2)⟩, HLs.out, hr4, ⟨HGg.out.1, Nat.lt_of_lt_of_le HGg.out.2 (Nat.le_trans HZs.out (Nat.le_trans (by first | exact Nat.le_refl _ | exact (below_alloc (Below.refl _ _) _).size) hr2)), hr3⟩, below_step (by first | exact HBs.out | exact below_alloc HBs.out _) hr1⟩⟩; clear hr1 hr2 hr3 hr4))
      all_goals
        have hst := run_start HG.out.2 HS.out
        obtain ⟨q1, q2, q3, q4, q5, q6⟩ := HS.out.1
        have hrun := run_calls ⟨q1, q2⟩ ⟨q3, q4⟩ q5 (costs_pos HG.out.1 HS.out.1 (sortU l1)) hst.1 (HF.out.made (c := c0_2) HR0.out) hst.2
        have HRUN := Aside0.mk hrun
        clear hst q1 q2 q3 q4 q5 q6 hrun p0 p1 p2 g0 g1 g2 s0 s1 s2 r0 r1 r2
        have HSZ := Aside0.mk (HF.out.lt)
        go_wp2_with (go_at_call 134; refine HRUN.out.mono ?_; rintro e we ⟨rfl, a', n', P', B', AS', cS', todo', d', hS, hC, hI⟩; obtain ⟨c0, c1, c2, c3, c4, c5⟩ := hS.cells; have HSE := Aside0.mk hS; have HCE := Aside0.mk hC; have HIE := Aside0.mk hI; clear hS hC hI)
        go_ret2
        have hdl := HSE.out.dlen
        rw [grT_sort] at HIE
        have hd : distOf a0_0 l0_2 l1 = d' := distOf_eq HG.out.1 HS.out.1 ⟨hdl, HIE.out⟩
        have hlt := HSZ.out
        have hN := HN.out
        refine ⟨_, rfl, ?_, ?_⟩
        · rw [hd]
          exact rowI_R HSE.out.dist (by omega) (by unfold maxLen; omega)
        · exact ((Chg.of_below (below_alloc HF.out.below _) (fun k => w.heap.size ≤ k)).then_ HCE.out (fun k hk => .inl (by rcases hk with h | h | h | h <;> omega))).below (fun k hk => hk) (Nat.le_refl _)
    · rw [if_neg hg] at h
      exact absurd h (by simp)
  · rw [if_neg hs] at h
    obtain ⟨rfl, rfl⟩ := Prod.mk.inj (Option.some.inj h)
    have HD := Aside0.mk (decide_eq_false hs)
    rw [HD.out] at HM
    clear h hs
    go_enter Tryz.func105, Tryz.ntmps105
    go_wp2_with (first | ((with_reducible refine gate_dst (N := 2) rfl ?_); refine box_event ?hg (N := 2) ?hd (cs := tileCells a0_0 a0_1 A0_2 l0_2.length c0_2) (t := 86) ?hr ?_; (case hd => rfl); (case hg => rfl); (case hr => first | (go_simp; done) | (go_simp; rfl)); intro gb hg w1 hbox hb; have b0 : w1.cell? ⟨gb, 0, none⟩ = _ := cell_blk hbox rfl; have b1 : w1.cell? ⟨gb, 1, none⟩ = _ := cell_blk hbox rfl; have b2 : w1.cell? ⟨gb, 2, none⟩ = _ := cell_blk hbox rfl; have HB1 := Aside0.mk hb; have HX := Aside0.mk hbox; clear hb hbox hg) | (go_at_call 131; refine (HM.out _ HB1.out).mono ?_; rintro e w2 ⟨rfl, hb2⟩; have HB2 := Aside0.mk (below_step HB1.out hb2); have HK := Aside0.mk hb2; clear hb2))
    go_ret2
    exact ⟨_, rfl, Kd.R_nil _ _ _ _ _, HB2.out⟩
end Go.Proofs.YthgehdembghdaaaGreat.P
