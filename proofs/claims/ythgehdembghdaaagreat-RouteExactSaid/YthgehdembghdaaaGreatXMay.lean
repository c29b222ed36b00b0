/-
 PLAIN: which tiles and seeds may be, of the printed functions. The ring's buckets in memory: a bucket's own methods. The ring in memory: what it holds, and its methods. seeds.May.
-/
import Derived.Test.YthgehdembghdaaaGreatXBase
import Derived.Test.YthgehdembghdaaaGreatPx19
import Derived.Test.YthgehdembghdaaaGreatPx19
import Derived.Deep.LoopGhost
import Derived.Deep.RegionHeld3
import Derived.Test.YthgehdembghdaaaGreatXSort
import Derived.Test.YthgehdembghdaaaGreatXLay
import Derived.Shelf.SlicesQ.IndexFunc
namespace Go.Proofs.YthgehdembghdaaaGreat.P
open Go.RowKit Go.Proofs.YthgehdembghdaaaGreatW.PrintWords Go.Proofs.YthgehdembghdaaaGreatW.PrintLast Go.Proofs.YthgehdembghdaaaGreatW.PrintMore
set_option linter.unusedVariables false
set_option linter.unusedSimpArgs false
def TileOk (W H : Int) (C : List Int) : Prop := 1 ≤ W ∧ W ≤ 16 ∧ 1 ≤ H ∧ H ≤ 16 ∧ (C.length : Int) = W * H ∧ (0 : Int) ∉ C
instance (W H : Int) (C : List Int) : Decidable (TileOk W H C) := inferInstanceAs (Decidable (_ ∧ _))
def OutOk (W H c s : Int) : Prop := s = 0 ∧ c / W = 0 ∨ s = 1 ∧ c % W = W - 1 ∨ s = 2 ∧ c / W = H - 1 ∨ s = 3 ∧ c % W = 0 ∨ s = 4
instance (W H c s : Int) : Decidable (OutOk W H c s) := inferInstanceAs (Decidable (_ ∨ _))
def SeedOk (W H : Int) (C : List Int) (x : Seed) : Prop := 0 ≤ x.f0 ∧ x.f0 < (C.length : Int) ∧ rd C x.f0 ≠ 255 ∧ 0 ≤ x.f2 ∧ x.f2 ≤ 1073741824 ∧ OutOk W H x.f0 x.f1
instance (W H : Int) (C : List Int) (x : Seed) : Decidable (SeedOk W H C x) := inferInstanceAs (Decidable (_ ∧ _))
def SeedsOk (W H : Int) (C : List Int) (l : List Seed) : Prop := TileOk W H C ∧ ∀ x, x ∈ l → SeedOk W H C x
open Classical in
noncomputable def seedsMayF (W H : Int) (C : List Int) (l : List Seed) : Option Bool := some (decide (SeedsOk W H C l))
theorem index_find (xs : List Int) (x : Int) (hl : xs.length ≤ 9223372036854775806) : ∀ (d i k : Nat), xs.length - i = d → i ≤ xs.length → d < k → (∀ j, j < i → rd xs (j : Int) ≠ x) →
  ∃ r, slices_Index_byte_byte.l0 k xs x (xs.length : Int) (i : Int) = some r ∧ (0 ≤ r ↔ x ∈ xs) := by
 intro d
 induction d with
 | zero =>
  intro i k hd hi hk hn
  obtain ⟨k, rfl⟩ : ∃ m, k = m + 1 := ⟨k - 1, by omega⟩
  refine ⟨-1, by rw [slices_Index_byte_byte.l0, if_neg (by omega)], ⟨fun h => by omega, fun h => ?_⟩⟩
  obtain ⟨j, hj, e⟩ := List.getElem_of_mem h
  exact absurd ((rd_get xs hj).trans e) (hn j (by omega))
 | succ d ih =>
  intro i k hd hi hk hn
  obtain ⟨k, rfl⟩ : ∃ m, k = m + 1 := ⟨k - 1, by omega⟩
  rw [slices_Index_byte_byte.l0, if_pos (by omega), if_pos (by omega), if_pos (by omega)]
  by_cases e : x = rd xs (i : Int)
  ·rw [if_pos e]
   exact ⟨i, rfl, ⟨fun _ => by rw [e, rd_get xs (by omega)]; exact List.getElem_mem _, fun _ => by omega⟩⟩
  ·rw [if_neg e, w64 (by omega) (by omega)]
   exact ih (i + 1) k (by omega) (by omega) (by omega) (fun j hj => by
    by_cases h : j = i
    ·subst h; exact fun h => e h.symm
    ·exact hn j (by omega))
theorem contains_some (xs : List Int) (x : Int) (hl : xs.length ≤ 9223372036854775806) (k : Nat) (hk : xs.length < k) : slices_Contains_byte_byte.f k xs x = some (decide (x ∈ xs)) := by
 unfold slices_Contains_byte_byte.f slices_Index_byte_byte.f
 obtain ⟨r, hr, he⟩ := index_find xs x hl xs.length 0 k (by omega) (by omega) hk (fun j hj => by omega)
 rw [show ((0 : Nat) : Int) = 0 from rfl] at hr
 rw [hr, Option.bind_some]
 exact congrArg some (decide_eq_decide.2 he)
theorem sized_some (n : Int) : tile_sized.f n = some (decide (1 ≤ n ∧ n ≤ 16)) := by
 unfold tile_sized.f
 by_cases h : n ≥ 1
 ·rw [if_pos h]; exact congrArg some (decide_eq_decide.2 ⟨fun h2 => ⟨h, h2⟩, fun h2 => h2.2⟩)
 ·rw [if_neg h]; exact congrArg some (decide_eq_false (fun h2 => h h2.1)).symm
theorem tileMay_some (W H : Int) (C : List Int) (k : Nat) (hk : C.length < k) : tile_May.f k W H C = some (decide (TileOk W H C)) := by
 unfold tile_May.f
 rw [sized_some, sized_some]
 simp only [Option.bind_some, decide_eq_true_eq]
 by_cases h1 : 1 ≤ W ∧ W ≤ 16
 ·rw [if_pos h1]
  by_cases h2 : 1 ≤ H ∧ H ≤ 16
  ·rw [if_pos h2]
   have hm := mul_small h1 h2
   rw [w64 (by omega) (by omega)]
   by_cases h3 : (C.length : Int) = W * H
   ·rw [if_pos h3, contains_some C 0 (by omega) k hk, Option.bind_some]
    refine congrArg some ?_
    by_cases h4 : (0 : Int) ∈ C
    ·rw [decide_eq_true h4, decide_eq_false (fun h => h.2.2.2.2.2 h4)]; rfl
    ·rw [decide_eq_false h4, decide_eq_true ⟨h1.1, h1.2, h2.1, h2.2, h3, h4⟩]; rfl
   ·rw [if_neg h3, decide_eq_false (fun h => h3 h.2.2.2.2.1)]
  ·rw [if_neg h2, decide_eq_false (fun h => h2 ⟨h.2.2.1, h.2.2.2.1⟩)]
 ·rw [if_neg h1, decide_eq_false (fun h => h1 ⟨h.1, h.2.1⟩)]
theorem out_some {W H c s : Int} {C : List Int} (ht : TileOk W H C) (h0 : 0 ≤ c) (h1 : c < (C.length : Int)) : seeds_out.f W H C c s = some (decide (OutOk W H c s)) := by
 obtain ⟨a1, a2, a3, a4, a5, a6⟩ := ht
 have hm := mul_small ⟨a1, a2⟩ ⟨a3, a4⟩
 have hd0 : 0 ≤ c / W := Int.ediv_nonneg h0 (by omega)
 have hd1 : c / W ≤ c := Int.ediv_le_self W h0
 unfold seeds_out.f
 rw [if_neg (by omega), tdiv_nn h0, tmod_nn h0, w64 (by omega) (by omega), w64 (by omega) (by omega), w64 (by omega) (by omega)]
 by_cases e0 : s = 0
 ·subst e0; rw [if_pos rfl]; refine congrArg some ?_; rw [Bool.eq_iff_iff, decide_eq_true_iff]; unfold OutOk; simp
 rw [if_neg e0]
 by_cases e1 : s = 1
 ·subst e1; rw [if_pos rfl]; refine congrArg some ?_; rw [Bool.eq_iff_iff, decide_eq_true_iff]; unfold OutOk; simp
 rw [if_neg e1]
 by_cases e2 : s = 2
 ·subst e2; rw [if_pos rfl]; refine congrArg some ?_; rw [Bool.eq_iff_iff, decide_eq_true_iff]; unfold OutOk; simp
 rw [if_neg e2]
 by_cases e3 : s = 3
 ·subst e3; rw [if_pos rfl]; refine congrArg some ?_; rw [Bool.eq_iff_iff, decide_eq_true_iff]; unfold OutOk; simp
 rw [if_neg e3]
 refine congrArg some ?_
 rw [Bool.eq_iff_iff, decide_eq_true_iff]
 unfold OutOk
 simp [e0, e1, e2, e3]
end Go.Proofs.YthgehdembghdaaaGreat.P
namespace Go.Proofs.YthgehdembghdaaaGreat.P
open Go.RowKit Go.Proofs.YthgehdembghdaaaGreatW.PrintWords Go.Proofs.YthgehdembghdaaaGreatW.PrintLast Go.Proofs.YthgehdembghdaaaGreatW.PrintMore
set_option linter.unusedVariables false
set_option linter.unusedSimpArgs false
structure Chg (S : Nat → Prop) (w w' : World) : Prop where
 os : w'.os = w.os
 tape : w'.tape = w.tape
 output : w'.output = w.output
 size : w.heap.size ≤ w'.heap.size
 block : ∀ i, i < w.heap.size → ¬ S i → w'.heap[i]? = w.heap[i]?
section
variable {S S' : Nat → Prop} {a b c : World}
theorem Chg.refl (S : Nat → Prop) (w : World) : Chg S w w := ⟨rfl, rfl, rfl, Nat.le_refl _, fun _ _ _ => rfl⟩
theorem Chg.trans (h : Chg S a b) (k : Chg S b c) : Chg S a c :=
 ⟨k.os.trans h.os, k.tape.trans h.tape, k.output.trans h.output, Nat.le_trans h.size k.size, fun i hi hn => (k.block i (Nat.lt_of_lt_of_le hi h.size) hn).trans (h.block i hi hn)⟩
theorem Chg.mono (h : Chg S a b) (hs : ∀ k, S k → S' k) : Chg S' a b := ⟨h.os, h.tape, h.output, h.size, fun i hi hn => h.block i hi (fun hk => hn (hs i hk))⟩
theorem Chg.then_ (h : Chg S a b) (k : Chg S' b c) (hs : ∀ i, S' i → S i ∨ a.heap.size ≤ i) : Chg S a c :=
 ⟨k.os.trans h.os, k.tape.trans h.tape, k.output.trans h.output, Nat.le_trans h.size k.size, fun i hi hn => (k.block i (Nat.lt_of_lt_of_le hi h.size) (fun h2 => (hs i h2).elim hn (fun h3 => by omega))).trans (h.block i hi hn)⟩
theorem Chg.below {B : Nat} (h : Chg S a b) (hs : ∀ k, S k → B ≤ k) (hB : B ≤ a.heap.size) : Below B a b := ⟨h.os, h.tape, h.output, h.size, fun k hk => h.block k (Nat.lt_of_lt_of_le hk hB) (fun h2 => by have := hs k h2; omega)⟩
theorem Chg.of_below (h : Below a.heap.size a b) (S : Nat → Prop) : Chg S a b := ⟨h.os, h.tape, h.output, h.size, fun i hi _ => h.block i hi⟩
theorem Chg.of_grown {r : Option Nat} (h : a.grownBy b r) (hr : ∀ k, r = some k → S k) : Chg S a b := ⟨h.os, h.tape, h.output, h.size, fun i hi hn => h.block i hi (fun e => hn (hr i e.symm))⟩
theorem Chg.drew (h : Chg S a b) : Chg S a b.drew := ⟨h.os, h.tape, h.output, h.size, h.block⟩
theorem Chg.set_ (h : Chg S a b) {p : Addr} (hp : S p.block ∨ a.heap.size ≤ p.block) (u : Value) : Chg S a (b.setCell p u) :=
 h.then_ (S' := fun k => k = p.block) ⟨rfl, rfl, rfl, by simp [World.setCell], fun i hi hn => Below.heap_setCell b p u i hn⟩ (fun k hk => by rw [hk]; exact hp)
theorem Chg.blk (h : Chg S a b) {g : Nat} {o : Obj} (hb : a.heap[g]? = some o) (hn : ¬ S g) : b.heap[g]? = some o := (h.block g (blk_lt hb) hn).trans hb
theorem Chg.R {α : Type} {d : Kd α} {e base : Nat} {ok : Nat → Prop} {v : Value} {xs : List α} (h : Chg S a b) (hR : d.R e a base ok v xs) (hn : ∀ k, ok k → ¬ S k) : d.R e b base ok v xs := Kd.R_step hR (fun k hk hlt => h.block k hlt (hn k hk))
end
theorem drewN_heap' (b : World) (n : Nat) : (b.drewN n).heap = b.heap := by
 induction n generalizing b with
 | zero => rfl
 | succ n ih => rw [← World.drew_drewN]; exact ih b.drew
theorem set_blk {w : World} {g : Nat} {cs : Array Value} {t : TypeId} (hb : w.heap[g]? = some (.cells cs t (0, 0))) (j : Nat) (u : Value) : (w.setCell ⟨g, j, none⟩ u).heap[g]? = some (.cells (cs.setIfInBounds j u) t (0, 0)) := by
 simp only [World.setCell, Array.getElem?_modify, hb]
 simp
theorem cell_blk {w : World} {g : Nat} {cs : Array Value} {t : TypeId} {j : Nat} {u : Value} (hb : w.heap[g]? = some (.cells cs t (0, 0))) (hj : cs[j]? = some u) : w.cell? ⟨g, j, none⟩ = some u := by
 simp only [World.cell?, hb]
 rw [if_neg (by simp)]
 exact hj
theorem free_blk {w : World} {g : Nat} {cs : Array Value} {t : TypeId} (hb : w.heap[g]? = some (.cells cs t (0, 0))) (j : Nat) : w.frozen? ⟨g, j, none⟩ = false := by simp [World.frozen?, hb]
abbrev RI (w : World) (base : Nat) (v : Value) (xs : List Int) : Prop := (Kd.int .i64).R 3 w base (fun _ => True) v xs
theorem RI.step {w w' : World} {base : Nat} {v : Value} {xs : List Int} (h : RI w base v xs) (hm : ∀ k, v.ownBlock = some k → k < w.heap.size → w'.heap[k]? = w.heap[k]?) : RI w' base v xs := by
 have h1 : (Kd.int .i64).R 3 w base (fun k => v.ownBlock = some k) v xs := by
  obtain ⟨h0, inner, ho, hr⟩ := h
  exact ⟨fun k hk => hk, inner, ho, hr⟩
 exact Kd.R_mono (Kd.R_step h1 (fun k hk hlt => hm k hk hlt)) (fun _ _ => trivial)
theorem RI.lt {w : World} {base : Nat} {v : Value} {xs : List Int} (h : RI w base v xs) {k : Nat} (hk : v.ownBlock = some k) : base ≤ k ∧ k < w.heap.size := by
 obtain ⟨h0, inner, ho, hr⟩ := h
 exact ⟨own_base ho k hk, own_lt ho k hk⟩
theorem RI.ne {w : World} {base : Nat} {v : Value} {xs : List Int} (h : RI w base v xs) {g t : Nat} {cs : Array Value} (hb : w.heap[g]? = some (.cells cs t (0, 0))) (ht : 3 ≠ t) : v.ownBlock ≠ some g := fun e => Kd.R_ne h hb ht e.symm
set_option maxHeartbeats 1000000 in
theorem put_calls (G o : Nat) (cs : Array Value) (v : Value) (xs : List Int) (item : Int) (base : Nat) (w : World) (hb : w.heap[G]? = some (.cells cs 192 (0, 0))) (ho : cs[o]? = some v) (hR : RI w base v xs) (hbase : base ≤ w.heap.size) (hl : (xs.length + 1) * 8 ≤ 140737488355328) :
  Calls Tryz.prog 191 #[.pointer (some ⟨G, o, none⟩), .int .i64 item] w fun e w' => e = .returned (.tuple #[]) ∧ ∃ v', w'.heap[G]? = some (.cells (cs.setIfInBounds o v') 192 (0, 0)) ∧ RI w' base v' (xs ++ [item]) ∧ (v'.ownBlock = v.ownBlock ∨ ∃ k, v'.ownBlock = some k ∧ w.heap.size ≤ k) ∧ Chg (fun k => k = G ∨ v.ownBlock = some k) w w' := by
 have hc := cell_blk hb ho
 have HN := Aside0.mk (RI.ne hR hb (by decide))
 have HB := Aside0.mk hb
 have HR := Aside0.mk hR
 have HO := Aside0.mk ho
 have hGl := blk_lt hb
 clear hb hR ho
 go_enter Tryz.func191, Tryz.ntmps191
 go_wp2_with (first | ((with_reducible refine gate_builtin (b := .append) (xs := #[.tmp 8, .tmp 10]) rfl ?_); at_builtin; refine Kd.R_append (Kd.int .i64) (w0 := w) base rfl (.tmp 8) (.tmp 10) 36 3 (.int .i64 0) 8 rfl Tryz.underlying36 info3 rfl (by decide) (by omega) v xs item [.int .i64 item] (fun _ => True) (fun _ => False) rfl rfl ?aP (fun _ hk => hk.elim) ?aF ?aO ?aB ?aS ?aL ?_; (case aP => exact rfl); (case aB => exact Below.refl _ _); (case aF => exact (fun _ _ => trivial)); (case aO => exact HR.out); (case aS => exact hbase); (case aL => exact hl); intro v1 w1 ho1 hb1 hg1 hat1; obtain ⟨A1, n1, rfl⟩ := Kd.R_slice ho1; have HO1 := Aside0.mk ho1; have HG1 := Aside0.mk hg1; have HA1 := Aside0.mk hat1; have hblk : w1.heap[G]? = some (.cells cs 192 (0, 0)) := (hg1.block G hGl (fun e => HN.out e.symm)).trans HB.out; have HBK := Aside0.mk hblk; have hcc := cell_blk hblk HO.out; have hff := free_blk hblk o; clear ho1 hb1 hg1 hat1 hblk))
 go_end0
 have e1 : (xs ++ [item]).length = xs.length + 1 := by simp
 have hR1 : RI w1 base (.slice A1 (xs.length + 1) n1) (xs ++ [item]) := by rw [← e1]; exact HO1.out
 have hne1 : (Value.slice A1 (xs.length + 1) n1).ownBlock ≠ some G := hR1.ne HBK.out (by decide)
 have hat : (Value.slice A1 (xs.length + 1) n1).ownBlock = v.ownBlock ∨ ∃ b, (Value.slice A1 (xs.length + 1) n1).ownBlock = some b ∧ w.heap.size ≤ b := by rw [← e1]; exact HA1.out
 refine ⟨rfl, _, set_blk HBK.out o _, hR1.step (fun k hk hlt => Below.heap_setCell _ _ _ _ (fun e => hne1 (by rw [hk, e]))), hat, ?_⟩
 exact (Chg.of_grown HG1.out (fun k hk => .inr hk)).set_ (.inl (.inl rfl)) _
theorem RI.slice {w : World} {base : Nat} {v : Value} {xs : List Int} (h : RI w base v xs) : (v = .slice none 0 0 ∧ xs = []) ∨ ∃ g cap, v = .slice (some ⟨g, 0, none⟩) xs.length cap ∧ xs.length ≤ cap ∧ base ≤ g ∧ g < w.heap.size ∧ (∀ i, (hi : i < xs.length) → w.cell? ⟨g, i, none⟩ = some (.int .i64 xs[i])) ∧ RI w base (.slice (some ⟨g, 0, none⟩) 0 cap) [] := by
 obtain ⟨h0, inner, ho, hr⟩ := id h
 rcases ho.2 with ⟨h1, h2⟩ | ⟨g, cap, cur, h1, h2, h3, h4, h5, h6, h7⟩
 ·exact .inl ⟨h1, List.length_eq_zero_iff.1 h2⟩
 ·refine .inr ⟨g, cap, h1, h4, h2, blk_lt h3, fun i hi => ?_, fun _ _ => trivial, [], ⟨rfl, .inr ⟨g, cap, cur, rfl, h2, h3, Nat.zero_le _, h5, h6, by simp⟩⟩, Reps.none _ _⟩
  obtain ⟨A, c, e, _, hC⟩ := Kd.R_reads h
  rw [h1] at e
  injection e with e1 _ _
  obtain ⟨ad, e2, hc⟩ := Kd.at_int hC (i : Int) (by omega) (by omega)
  rw [← e1] at e2
  injection e2 with e2
  subst e2
  rw [rd_get xs hi] at hc
  rw [Addr.add_lit, Nat.zero_add, Int.toNat_natCast] at hc
  exact hc
set_option maxHeartbeats 1000000 in
theorem empty_calls (G o : Nat) (cs : Array Value) (A : Option Addr) (n c : Nat) (gn : Nat) (w : World) (hb : w.heap[G]? = some (.cells cs 192 (0, 0))) (ho : cs[o]? = some (.slice A n c)) (ho1 : cs[o + 1]? = some (.int .i64 gn)) :
  Calls Tryz.prog 181 #[.pointer (some ⟨G, o, none⟩)] w fun e w' => e = .returned (.bool (decide (gn = n))) ∧ Drawn0 w w' := by
 have hc := cell_blk hb ho
 have hc1 := cell_blk hb ho1
 have e : ((gn : Int) == (n : Int)) = decide (gn = n) := by rw [Bool.eq_iff_iff]; simp; omega
 generalize decide (gn = n) = r at *
 clear hb ho ho1
 go_enter Tryz.func181, Tryz.ntmps181
 go_wp2
 go_region
 go_wp2
 go_ret
 exact ⟨rfl, ⟨1, rfl⟩⟩
set_option maxHeartbeats 1000000 in
theorem pop_calls (G o : Nat) (cs : Array Value) (v : Value) (xs : List Int) (gn : Nat) (base : Nat) (w : World) (hb : w.heap[G]? = some (.cells cs 192 (0, 0))) (ho : cs[o]? = some v) (ho1 : cs[o + 1]? = some (.int .i64 gn)) (hR : RI w base v xs) (hg : gn < xs.length) :
  Calls Tryz.prog 182 #[.pointer (some ⟨G, o, none⟩)] w fun e w' => e = .returned (.int .i64 xs[gn]) ∧ ∃ (v' : Value) (gn' : Nat) (xs' : List Int), w'.heap[G]? = some (.cells ((cs.setIfInBounds o v').setIfInBounds (o + 1) (.int .i64 gn')) 192 (0, 0)) ∧ RI w' base v' xs' ∧ v'.ownBlock = v.ownBlock ∧ xs'.drop gn' = xs.drop (gn + 1) ∧ (gn' < xs'.length ∨ xs' = [] ∧ gn' = 0) ∧ xs'.length ≤ xs.length ∧ Chg (fun k => k = G) w w' := by
 rcases hR.slice with ⟨rfl, rfl⟩ | ⟨g, cap, rfl, hcap, hbg, hgl, hcell, hcut⟩
 ·simp at hg
 have hne : g ≠ G := fun e => hR.ne hb (by decide) (by rw [e]; rfl)
 have hsz : o + 1 < cs.size := by
  rcases Nat.lt_or_ge (o + 1) cs.size with h | h
  ·exact h
  ·rw [Array.getElem?_eq_none h] at ho1; exact absurd ho1 (by simp)
 have hlen : xs.length ≤ 9223372036854775807 := hR.2.reads.choose_spec.choose_spec.2.2.2.1
 have hx := hcell gn hg
 generalize xs[gn] = x at *
 have hc := cell_blk hb ho
 have hc1 := cell_blk hb ho1
 have hf := free_blk hb o
 have hf1 := free_blk hb (o + 1)
 have HB := Aside0.mk hb
 have HR := Aside0.mk hR
 have HO := Aside0.mk ho
 have HO1 := Aside0.mk ho1
 have HC := Aside0.mk hcut
 have hgi : (gn : Int) < (xs.length : Int) := by omega
 clear hb hR ho ho1 hcell hcut
 go_enter Tryz.func182, Tryz.ntmps182
 go_wp2
 go_region
 go_wp2_with fail
 generalize hW : (w.setCell ⟨G, o + 1, none⟩ (.int .i64 ((gn : Int) + 1))).drew = W
 have hB1 : W.heap[G]? = some (.cells (cs.setIfInBounds (o + 1) (.int .i64 ((gn + 1 : Nat) : Int))) 192 (0, 0)) := by
  rw [← hW]
  exact set_blk (w := w) HB.out (o + 1) _
 have hK1 : Chg (fun k => k = G) w W := by
  rw [← hW]
  exact ((Chg.refl (fun k => k = G) w).set_ (p := ⟨G, o + 1, none⟩) (.inl rfl) _).drew
 have hs0 : (cs.setIfInBounds (o + 1) (.int .i64 ((gn + 1 : Nat) : Int)))[o]? = some (.slice (some ⟨g, 0, none⟩) xs.length cap) := by
  rw [Array.getElem?_setIfInBounds, if_neg (by omega)]; exact HO.out
 have hs1 : (cs.setIfInBounds (o + 1) (.int .i64 ((gn + 1 : Nat) : Int)))[o + 1]? = some (.int .i64 ((gn + 1 : Nat) : Int)) := by
  rw [Array.getElem?_setIfInBounds, if_pos rfl, if_pos hsz]
 refine (empty_calls G o _ _ _ cap (gn + 1) W hB1 hs0 hs1).mono ?_
 rintro e w1 ⟨rfl, ⟨⟨q, rfl⟩⟩⟩
 have hB2 : (W.drewN q).heap[G]? = some (.cells (cs.setIfInBounds (o + 1) (.int .i64 ((gn + 1 : Nat) : Int))) 192 (0, 0)) := by rw [show (W.drewN q).heap = W.heap from drewN_heap' W q]; exact hB1
 have hK2 : Chg (fun k => k = G) w (W.drewN q) := hK1.then_ (Chg.of_below ((⟨⟨q, rfl⟩⟩ : Drawn0 W (W.drewN q)).below) (fun _ => False)) (fun _ h => h.elim)
 clear hW hc hc1 hf hf1 hK1 hB1 hx
 generalize W.drewN q = V at *
 have hRV : RI V base (.slice (some ⟨g, 0, none⟩) xs.length cap) xs := HR.out.step (fun k hk hlt => hK2.block k hlt (fun e => hne (by injection hk with hk; rw [← e, ← hk])))
 have hCV : RI V base (.slice (some ⟨g, 0, none⟩) 0 cap) [] := HC.out.step (fun k hk hlt => hK2.block k hlt (fun e => hne (by injection hk with hk; rw [← e, ← hk])))
 have hc := cell_blk hB2 hs0
 have hc1 := cell_blk hB2 hs1
 have hf := free_blk hB2 o
 have hf1 := free_blk hB2 (o + 1)
 have HBV := Aside0.mk hB2
 have HRV := Aside0.mk hRV
 have HCV := Aside0.mk hCV
 have HK := Aside0.mk hK2
 clear hs0 hs1 hB2 hRV hCV hK2
 by_cases hend : gn + 1 = xs.length
 ·have hd : decide (gn + 1 = xs.length) = true := decide_eq_true hend
  have HE := Aside0.mk hend
  rw [hd]
  clear hend hd
  go_wp2
  go_ret
  refine ⟨rfl, .slice (some ⟨g, 0, none⟩) 0 cap, 0, [], ?_, ?_, rfl, ?_, .inr ⟨rfl, rfl⟩, Nat.zero_le _, ?_⟩
  ·have e1 : ∀ (c : Array Value) (a b : Value), ((cs.setIfInBounds (o + 1) a).setIfInBounds o b).setIfInBounds (o + 1) (.int .i64 0) = (cs.setIfInBounds o b).setIfInBounds (o + 1) (.int .i64 0) := by
    intro c a b
    apply Array.ext_getElem?
    intro t
    simp only [Array.getElem?_setIfInBounds, Array.size_setIfInBounds]
    by_cases h1 : o + 1 = t
    ·simp [h1]
    ·by_cases h2 : o = t
     ·simp [h1, h2]
     ·simp [h1, h2]
   have h2 := set_blk (set_blk HBV.out o (.slice (some ⟨g, 0, none⟩) 0 cap)) (o + 1) (.int .i64 0)
   rw [e1 cs] at h2
   exact h2
  ·exact HCV.out.step (fun k hk hlt => by
    rw [Below.heap_setCell _ _ _ _ (fun e => hne (by injection hk with hk; exact hk.trans e)), Below.heap_setCell _ _ _ _ (fun e => hne (by injection hk with hk; exact hk.trans e))])
  ·rw [HE.out]; simp
  ·exact (HK.out.set_ (p := ⟨G, o, none⟩) (.inl rfl) _).set_ (p := ⟨G, o + 1, none⟩) (.inl rfl) _
 ·have hd : decide (gn + 1 = xs.length) = false := decide_eq_false hend
  rw [hd]
  have HE := Aside0.mk hend
  clear hend hd
  go_wp2
  go_ret
  refine ⟨rfl, .slice (some ⟨g, 0, none⟩) xs.length cap, gn + 1, xs, ?_, HRV.out, rfl, rfl, .inl (by have := HE.out; omega), Nat.le_refl _, HK.out⟩
  have e1 : (cs.setIfInBounds o (.slice (some ⟨g, 0, none⟩) xs.length cap)) = cs := by
   apply Array.ext_getElem?
   intro t
   rw [Array.getElem?_setIfInBounds]
   by_cases h2 : o = t
   ·subst h2; rw [if_pos rfl, if_pos (by omega), HO.out]
   ·rw [if_neg h2]
  rw [e1]
  exact HBV.out
end Go.Proofs.YthgehdembghdaaaGreat.P
namespace Go.Proofs.YthgehdembghdaaaGreat.P
open Go.RowKit Go.Proofs.YthgehdembghdaaaGreatW.PrintWords Go.Proofs.YthgehdembghdaaaGreatW.PrintLast Go.Proofs.YthgehdembghdaaaGreatW.PrintMore
set_option linter.unusedVariables false
set_option linter.unusedSimpArgs false
def total (B : Nat → List Int) : Nat → Nat
 | 0 => 0
 | n + 1 => total B n + (B n).length
def updB (B : Nat → List Int) (b : Nat) (l : List Int) : Nat → List Int := fun i => if i = b then l else B i
theorem updB_at (B : Nat → List Int) (b : Nat) (l : List Int) : updB B b l b = l := by simp [updB]
theorem updB_ne (B : Nat → List Int) {b i : Nat} (l : List Int) (h : i ≠ b) : updB B b l i = B i := by simp [updB, h]
theorem total_congr {B B' : Nat → List Int} (n : Nat) (h : ∀ i, i < n → B i = B' i) : total B n = total B' n := by
 induction n with
 | zero => rfl
 | succ n ih => unfold total; rw [ih (fun i hi => h i (by omega)), h n (by omega)]
theorem total_upd (B : Nat → List Int) (b : Nat) (l : List Int) (n : Nat) (hb : b < n) : total (updB B b l) n + (B b).length = total B n + l.length := by
 induction n with
 | zero => omega
 | succ n ih =>
  unfold total
  by_cases e : b = n
  ·subst e
   rw [updB_at, total_congr (B := updB B b l) (B' := B) b (fun i hi => updB_ne _ _ (by omega))]
   omega
  ·rw [updB_ne _ _ (Ne.symm e)]
   have := ih (by omega)
   omega
theorem total_zero (B : Nat → List Int) (n : Nat) (h : total B n = 0) : ∀ i, i < n → B i = [] := by
 induction n with
 | zero => intro i hi; omega
 | succ n ih =>
  intro i hi
  unfold total at h
  by_cases e : i = n
  ·subst e; exact List.length_eq_zero_iff.1 (by omega)
  ·exact ih (by omega) i (by omega)
theorem total_pos (B : Nat → List Int) (n : Nat) (h : 0 < total B n) : ∃ i, i < n ∧ B i ≠ [] := by
 induction n with
 | zero => exact absurd h (by simp [total])
 | succ n ih =>
  unfold total at h
  by_cases e : B n = []
  ·rw [e] at h
   obtain ⟨i, hi, hne⟩ := ih (by simpa using h)
   exact ⟨i, by omega, hne⟩
  ·exact ⟨n, by omega, e⟩
def updV (V : Nat → Value) (b : Nat) (v : Value) : Nat → Value := fun i => if i = b then v else V i
theorem updV_at (V : Nat → Value) (b : Nat) (v : Value) : updV V b v b = v := by simp [updV]
theorem updV_ne (V : Nat → Value) {b i : Nat} (v : Value) (h : i ≠ b) : updV V b v i = V i := by simp [updV, h]
structure BuckM (w : World) (base : Nat) (P : Nat) (cs : Array Value) (b : Nat) (l : List Int) (v : Value) : Prop where
 cell : cs[2 + b * 2]? = some v
 ex : ∃ (xs : List Int) (gn : Nat), cs[2 + b * 2 + 1]? = some (.int .i64 gn) ∧ RI w base v xs ∧ (gn < xs.length ∨ xs = [] ∧ gn = 0) ∧ xs.drop gn = l ∧ xs.length ≤ P
structure RingM (w : World) (G base : Nat) (a : Int) (n P : Nat) (B : Nat → List Int) : Prop where
 lt : G < base
 le : base ≤ w.heap.size
 a0 : 0 ≤ a
 n_eq : n = total B 256
 n_le : n ≤ P
 ex : ∃ (cs : Array Value) (V : Nat → Value), w.heap[G]? = some (.cells cs 192 (0, 0)) ∧ cs.size = 514 ∧ cs[0]? = some (.int .i64 a) ∧ cs[1]? = some (.int .i64 n) ∧ (∀ b, b < 256 → BuckM w base P cs b (B b) (V b)) ∧ ∀ b b', b < 256 → b' < 256 → b ≠ b' → ∀ k, (V b).ownBlock = some k → (V b').ownBlock ≠ some k
abbrev RingS (G base : Nat) : Nat → Prop := fun k => k = G ∨ base ≤ k
theorem BuckM.step {w w' : World} {base P P' : Nat} {cs cs' : Array Value} {b : Nat} {l : List Int} {v : Value} (h : BuckM w base P cs b l v) (hP : P ≤ P') (hm : ∀ k, v.ownBlock = some k → k < w.heap.size → w'.heap[k]? = w.heap[k]?)
  (h1 : cs'[2 + b * 2]? = cs[2 + b * 2]?) (h2 : cs'[2 + b * 2 + 1]? = cs[2 + b * 2 + 1]?) : BuckM w' base P' cs' b l v := by
 obtain ⟨hc, xs, gn, e1, e2, e3, e4, e5⟩ := h
 exact ⟨h1.trans hc, xs, gn, h2.trans e1, e2.step hm, e3, e4, by omega⟩
theorem RingM.heap {w w' : World} {G base : Nat} {a : Int} {n P : Nat} {B : Nat → List Int} (h : RingM w G base a n P B) (hs : w.heap.size ≤ w'.heap.size) (hb : ∀ i, i < w.heap.size → (i = G ∨ base ≤ i) → w'.heap[i]? = w.heap[i]?) : RingM w' G base a n P B := by
 obtain ⟨h1, h2, h3, h4, h5, cs, V, e1, e2, e3, e4, e5, e6⟩ := h
 refine ⟨h1, by omega, h3, h4, h5, cs, V, (hb G (by omega) (.inl rfl)).trans e1, e2, e3, e4, fun b hb' => ?_, e6⟩
 obtain ⟨_, xs, gn, g1, g2, g3⟩ := id (e5 b hb')
 exact (e5 b hb').step (Nat.le_refl _) (fun k hk hlt => hb k hlt (.inr (g2.lt hk).1)) rfl rfl
theorem RingM.chg {w w' : World} {G base : Nat} {a : Int} {n P : Nat} {B : Nat → List Int} {S : Nat → Prop} (h : RingM w G base a n P B) (hc : Chg S w w') (hS : ∀ k, S k → k ≠ G ∧ k < base) : RingM w' G base a n P B :=
 h.heap hc.size (fun i hi hor => hc.block i hi (fun hk => by have := hS i hk; rcases hor with e | e <;> omega))
theorem RingM.drawn {w w' : World} {G base : Nat} {a : Int} {n P : Nat} {B : Nat → List Int} (h : RingM w G base a n P B) (hd : Drawn0 w w') : RingM w' G base a n P B :=
 h.heap hd.below.size (fun i hi _ => hd.below.block i hi)
theorem len_calls (G base : Nat) (a : Int) (n P : Nat) (B : Nat → List Int) (w : World) (h : RingM w G base a n P B) : Calls Tryz.prog 155 #[.pointer (some ⟨G, 0, none⟩)] w fun e w' => e = .returned (.int .i64 n) ∧ w' = w := by
 obtain ⟨cs, V, hb, _, _, h1, _⟩ := h.ex
 have hc := cell_blk hb h1
 clear hb h1 h
 go_enter Tryz.func155, Tryz.ntmps155
 go_wp2
 go_ret
 exact ⟨rfl, rfl⟩
theorem Put_no (G base : Nat) (a : Int) (n P : Nat) (B : Nat → List Int) (key item : Int) (w : World) (h : RingM w G base a n P B) (hk : a ≤ key) (hk1 : key ≤ 4611686018427387904) (hfar : 256 ≤ key - a) :
  Calls Tryz.prog 180 #[.pointer (some ⟨G, 0, none⟩), .int .i64 key, .int .i64 item] w fun e w' => e = .returned (.bool false) ∧ w' = w := by
 have ha := h.a0
 obtain ⟨cs, V, hb, _, h0, _⟩ := h.ex
 have hc := cell_blk hb h0
 clear hb h0 h
 have d1 : decide (key < a) = false := decide_eq_false (by omega)
 have d2 : decide (256 ≤ key - a) = true := decide_eq_true hfar
 go_enter Tryz.func180, Tryz.ntmps180
 go_wp2
 go_ret
 exact ⟨rfl, rfl⟩
set_option maxHeartbeats 1000000 in
theorem Put_yes (G base : Nat) (a : Int) (n P : Nat) (B : Nat → List Int) (key item : Int) (w : World) (h : RingM w G base a n P B) (hk : a ≤ key) (hk1 : key ≤ 4611686018427387904) (hnear : key - a < 256) (hP : (P + 1) * 8 ≤ 140737488355328) :
  Calls Tryz.prog 180 #[.pointer (some ⟨G, 0, none⟩), .int .i64 key, .int .i64 item] w fun e w' => e = .returned (.bool true) ∧ RingM w' G base a (n + 1) (P + 1) (updB B (key % 256).toNat (B (key % 256).toNat ++ [item])) ∧ Chg (RingS G base) w w' := by
 obtain ⟨hG, hbase, ha, hn, hnP, cs, V, hb, hsz, h0, h1, hB, hap⟩ := h
 have hc := cell_blk hb h0
 have d1 : decide (key < a) = false := decide_eq_false (by omega)
 have d2 : decide (256 ≤ key - a) = false := decide_eq_false (by omega)
 have hm0 : 0 ≤ key % 256 := Int.emod_nonneg _ (by decide)
 have hm1 : key % 256 < 256 := Int.emod_lt_of_pos _ (by decide)
 obtain ⟨b, hbe⟩ : ∃ b, b = (key % 256).toNat := ⟨_, rfl⟩
 have hb256 : b < 256 := by omega
 obtain ⟨hcv, xs, gn, hcg, hR, hgx, hdrop, hxP⟩ := hB b hb256
 have hput := put_calls G (2 + b * 2) cs (V b) xs item base w hb hcv hR hbase (by omega)
 rw [hbe] at hput
 have HPUT := Aside0.mk hput
 have HBE := Aside0.mk hbe
 have HBLK := Aside0.mk hb
 have HSZ := Aside0.mk hsz
 have H0 := Aside0.mk h0
 have H1 := Aside0.mk h1
 have HBK := Aside0.mk hB
 have HAP := Aside0.mk hap
 have HN := Aside0.mk hn
 have HX := Aside0.mk (show (V b).ownBlock ≠ some G from hR.ne hb (by decide))
 have HR := Aside0.mk hR
 have HGX := Aside0.mk hgx
 have HDR := Aside0.mk hdrop
 have HCG := Aside0.mk hcg
 clear hput hbe hb hsz h0 h1 hB hap hn hcv hR hgx hdrop hcg
 go_enter Tryz.func180, Tryz.ntmps180
 go_wp2_with fail
 refine HPUT.out.mono ?_
 rintro e w1 ⟨rfl, v', hb1, hR1, hat, hch⟩
 have hn1 : n < 4611686018427387904 := by omega
 have hl1 : (cs.setIfInBounds (2 + (key % 256).toNat * 2) v')[1]? = some (.int .i64 n) := by
  rw [Array.getElem?_setIfInBounds, if_neg (by omega)]; exact H1.out
 have hcl := cell_blk hb1 hl1
 have hfl := free_blk hb1 1
 have HB1 := Aside0.mk hb1
 have HR1 := Aside0.mk hR1
 have HAT := Aside0.mk hat
 have HCH := Aside0.mk hch
 clear hb1 hR1 hat hch hl1 hc HPUT
 go_wp2
 go_ret
 obtain rfl := HBE.out
 clear HBE
 generalize (key % 256).toNat = b at *
 have hne' : v'.ownBlock ≠ some G := HR1.out.ne HB1.out (by decide)
 have hblk := set_blk HB1.out 1 (.int .i64 ((n : Int) + 1))
 have hRs : ∀ k, (k = G ∨ (V b).ownBlock = some k) → RingS G base k := by
  rintro k (rfl | hk)
  ·exact .inl rfl
  ·exact .inr (HR.out.lt hk).1
 have hch2 : Chg (RingS G base) w (w1.setCell ⟨G, 1, none⟩ (.int .i64 ((n : Int) + 1))) := (HCH.out.mono hRs).set_ (.inl (.inl rfl)) _
 refine ⟨rfl, ⟨hG, Nat.le_trans hbase hch2.size, ha, ?_, by omega, _, updV V b v', hblk, by simpa using HSZ.out, ?_, ?_, ?_, ?_⟩, hch2⟩
 ·have h1 := total_upd B b (B b ++ [item]) 256 hb256
  have h2 := HN.out
  rw [List.length_append, List.length_singleton] at h1
  omega
 ·rw [Array.getElem?_setIfInBounds, if_neg (by omega), Array.getElem?_setIfInBounds, if_neg (by omega)]; exact H0.out
 ·rw [Array.getElem?_setIfInBounds, if_pos rfl, if_pos (by simp; have := HSZ.out; omega)]; simp
 ·intro b' hb'
  by_cases e : b' = b
  ·subst e
   rw [updB_at, updV_at]
   refine ⟨?_, xs ++ [item], gn, ?_, ?_, ?_, ?_, by simp; omega⟩
   ·rw [Array.getElem?_setIfInBounds, if_neg (by omega), Array.getElem?_setIfInBounds, if_pos rfl, if_pos (by have := HSZ.out; omega)]
   ·rw [Array.getElem?_setIfInBounds, if_neg (by omega), Array.getElem?_setIfInBounds, if_neg (by omega)]; exact HCG.out
   ·exact HR1.out.step (fun k hk hlt => Below.heap_setCell _ _ _ _ (fun e => hne' (by rw [hk, e])))
   ·left
    rcases HGX.out with h | ⟨h1, h2⟩
    ·simp; omega
    ·simp [h1, h2]
   ·rcases HGX.out with h | ⟨h1, h2⟩
    ·rw [List.drop_append_of_le_length (by omega), HDR.out]
    ·rw [← HDR.out, h1, h2]; rfl
  ·rw [updB_ne _ _ e, updV_ne _ _ e]
   refine (HBK.out b' hb').step (Nat.le_succ _) (fun k hk hlt => ?_) ?_ ?_
   ·have h1 : k ≠ G := fun e2 => by
     obtain ⟨_, xs2, gn2, _, r2, _⟩ := HBK.out b' hb'
     exact r2.ne HBLK.out (by decide) (by rw [hk, e2])
    rw [Below.heap_setCell _ _ _ _ h1]
    exact HCH.out.block k hlt (fun hor => by
     rcases hor with h | h
     ·exact h1 h
     ·exact HAP.out b' b hb' hb256 e k hk h)
   ·rw [Array.getElem?_setIfInBounds, if_neg (by omega), Array.getElem?_setIfInBounds, if_neg (by omega)]
   ·rw [Array.getElem?_setIfInBounds, if_neg (by omega), Array.getElem?_setIfInBounds, if_neg (by omega)]
 ·intro b1 b2 hb1 hb2 hne k hk hk2
  have hnew : ∀ b', b' < 256 → b' ≠ b → (V b').ownBlock = some k → v'.ownBlock ≠ some k := by
   intro b' hb' hne' hk' hkv
   rcases HAT.out with h | ⟨q, hq, hq2⟩
   ·exact HAP.out b' b hb' hb256 hne' k hk' (by rw [← h]; exact hkv)
   ·obtain ⟨_, xs2, gn2, _, r2, _⟩ := HBK.out b' hb'
    have := (r2.lt hk').2
    rw [hq] at hkv
    injection hkv with hkv
    omega
  by_cases e1 : b1 = b
  ·subst e1
   rw [updV_at] at hk
   rw [updV_ne _ _ (Ne.symm hne)] at hk2
   exact hnew b2 hb2 (Ne.symm hne) hk2 hk
  ·rw [updV_ne _ _ e1] at hk
   by_cases e2 : b2 = b
   ·subst e2
    rw [updV_at] at hk2
    exact hnew b1 hb1 e1 hk hk2
   ·rw [updV_ne _ _ e2] at hk2
    exact HAP.out b1 b2 hb1 hb2 hne k hk hk2
theorem buck_empty (G base : Nat) (a : Int) (n P : Nat) (B : Nat → List Int) (b : Nat) (hb : b < 256) (w : World) (h : RingM w G base a n P B) :
  Calls Tryz.prog 181 #[.pointer (some ⟨G, 2 + b * 2, none⟩)] w fun e w' => e = .returned (.bool (decide (B b = []))) ∧ ∃ q, w' = w.drewN q := by
 obtain ⟨cs, V, hblk, _, _, _, hB, _⟩ := h.ex
 obtain ⟨hcv, xs, gn, hcg, hR, hgx, hdrop, _⟩ := hB b hb
 obtain ⟨A, c, hv⟩ := Kd.R_slice hR
 have e : decide (gn = xs.length) = decide (B b = []) := by
  rw [decide_eq_decide, ← hdrop]
  rcases hgx with h | ⟨h1, h2⟩
  ·constructor
   ·intro e; omega
   ·intro e
    have := congrArg List.length e
    simp at this
    omega
  ·subst h1 h2; simp
 rw [← e]
 exact (empty_calls G (2 + b * 2) cs A xs.length c gn w hblk (by rw [← hv]; exact hcv) hcg).mono fun _ _ ⟨he, hd⟩ => ⟨he, hd.out⟩
theorem RingM.setAt {w : World} {G base : Nat} {a : Int} {n P : Nat} {B : Nat → List Int} (h : RingM w G base a n P B) (a' : Int) (ha : 0 ≤ a') : RingM (w.setCell ⟨G, 0, none⟩ (.int .i64 a')) G base a' n P B := by
 obtain ⟨h1, h2, h3, h4, h5, cs, V, e1, e2, e3, e4, e5, e6⟩ := h
 refine ⟨h1, by simpa [World.setCell] using h2, ha, h4, h5, _, V, set_blk e1 0 _, by simpa using e2, ?_, ?_, fun b hb => (e5 b hb).step (Nat.le_refl _) (fun k hk hlt => ?_) ?_ ?_, e6⟩
 ·rw [Array.getElem?_setIfInBounds, if_pos rfl, if_pos (by omega)]
 ·rw [Array.getElem?_setIfInBounds, if_neg (by omega)]; exact e4
 ·obtain ⟨_, xs, gn, _, g2, _⟩ := e5 b hb
  exact Below.heap_setCell _ _ _ _ (fun e => g2.ne e1 (by decide) (by rw [hk, e]))
 ·rw [Array.getElem?_setIfInBounds, if_neg (by omega)]
 ·rw [Array.getElem?_setIfInBounds, if_neg (by omega)]
set_option maxHeartbeats 2000000 in
theorem Pop_calls (G base : Nat) (a : Int) (n P : Nat) (B : Nat → List Int) (w : World) (h : RingM w G base a n P B) (hn0 : 0 < n) (ha1 : a ≤ 4611686018427387904) (hn1 : n < 4611686018427387904) :
  Calls Tryz.prog 156 #[.pointer (some ⟨G, 0, none⟩)] w fun e w' => ∃ (J : Nat) (item : Int) (rest : List Int), J < 256 ∧ (∀ i, i < J → B ((a + i) % 256).toNat = []) ∧ B ((a + J) % 256).toNat = item :: rest ∧ e = .returned (.tuple #[.int .i64 (a + J), .int .i64 item, .bool true]) ∧ RingM w' G base (a + J) (n - 1) P (updB B ((a + J) % 256).toNat rest) ∧ Chg (RingS G base) w w' := by
 have ha := h.a0
 have hJ : ∃ J, (J < 256 ∧ B ((a + (J : Nat)) % 256).toNat ≠ []) ∧ ∀ k, k < J → ¬ (k < 256 ∧ B ((a + (k : Nat)) % 256).toNat ≠ []) := by
  have hex : ∃ J, J < 256 ∧ B ((a + (J : Nat)) % 256).toNat ≠ [] := by
   obtain ⟨b, hb, hne⟩ := total_pos B 256 (by have := h.n_eq; omega)
   refine ⟨(((b : Int) - a) % 256).toNat, by omega, ?_⟩
   have : ((a + ((((b : Int) - a) % 256).toNat : Nat)) % 256).toNat = b := by omega
   rw [this]
   exact hne
  obtain ⟨m, hm⟩ := hex
  induction m using Nat.strongRecOn with
  | _ m ih =>
   by_cases hk : ∃ k, k < m ∧ (k < 256 ∧ B ((a + (k : Nat)) % 256).toNat ≠ [])
   ·obtain ⟨k, hk, hp⟩ := hk; exact ih k hk hp
   ·exact ⟨m, hm, fun k hk' hp => hk ⟨k, hk', hp⟩⟩
 obtain ⟨J, ⟨hJ1, hJ2⟩, hJ3⟩ := hJ
 have HJ2 := Aside0.mk hJ2
 have HJ3 := Aside0.mk hJ3
 have HM := Aside0.mk h
 clear hJ2 hJ3 h
 have hlen := len_calls G base a n P B w HM.out
 have hz : ((n : Int) == 0) = false := by rw [beq_eq_false_iff_ne]; omega
 go_enter Tryz.func156, Tryz.ntmps156
 go_wp2_with (go_at_call 155; refine hlen.mono ?_; rintro e w' ⟨rfl, rfl⟩)
 clear hlen
 go_loopg [] 256 (fun g wr => ∃ j : Nat, j ≤ J ∧ J - j ≤ g ∧ Aside0 (RingM wr G base (a + j) n P B) ∧ Aside0 (Chg (RingS G base) w' wr))
 case atStart => exact ⟨0, Nat.zero_le _, by omega, ⟨by simpa using HM.out⟩, ⟨Chg.refl _ _⟩⟩
 case round =>
  obtain ⟨j, hj, hg, HR, HC⟩ := hrel
  have hm0 : 0 ≤ (a + j) % 256 := Int.emod_nonneg _ (by decide)
  have hm1 : (a + j) % 256 < 256 := Int.emod_lt_of_pos _ (by decide)
  have haj : 0 ≤ a + j := by omega
  obtain ⟨cs, V, hblk, hsz, h0, h1, hB, hap⟩ := HR.out.ex
  have hc0 := cell_blk hblk h0
  have hf0 := free_blk hblk 0
  have hc1 := cell_blk hblk h1
  have hf1 := free_blk hblk 1
  have HBL := Aside0.mk hblk
  have HSZ := Aside0.mk hsz
  have H0 := Aside0.mk h0
  have H1 := Aside0.mk h1
  have HB := Aside0.mk hB
  have HAP := Aside0.mk hap
  clear hblk hsz h0 h1 hB hap
  by_cases hlt : j < J
  ·have hE := fun q => buck_empty G base (a + j) n P B ((a + j) % 256).toNat (by omega) (wr.drewN q) (HR.out.drawn ⟨⟨q, rfl⟩⟩)
   have he : decide (B ((a + j) % 256).toNat = []) = true := decide_eq_true (by
    by_cases h : B ((a + j) % 256).toNat = []
    ·exact h
    ·exact absurd ⟨by omega, h⟩ (HJ3.out j hlt))
   rw [he] at hE
   have HE := Aside0.mk hE
   clear hE he
   go_wp2_with fail
   go_quiet ((go_at_call 181; refine (HE.out _).mono ?_; rintro e w1 ⟨rfl, q1, rfl⟩; exact ⟨rfl, _, World.drewN_drewN _ _ _⟩))
   go_wp2
   go_roundg (J - (j + 1))
   case measure => omega
   case rel =>
    refine ⟨j + 1, by omega, Nat.le_refl _, ⟨?_⟩, ⟨?_⟩⟩
    ·have := (HR.out.drawn (⟨⟨nq, rfl⟩⟩ : Drawn0 wr (wr.drewN nq))).setAt (a + j + 1) (by omega)
     rw [show a + ((j + 1 : Nat) : Int) = a + j + 1 by omega]
     exact this
    ·exact (HC.out.then_ (Chg.of_below ((⟨⟨nq, rfl⟩⟩ : Drawn0 wr (wr.drewN nq)).below) (fun _ => False)) (fun _ h => h.elim)).set_ (.inl (.inl rfl)) _
  ·have hjJ : j = J := by omega
   subst hjJ
   have hE := fun q => buck_empty G base (a + j) n P B ((a + j) % 256).toNat (by omega) (wr.drewN q) (HR.out.drawn ⟨⟨q, rfl⟩⟩)
   have he : decide (B ((a + j) % 256).toNat = []) = false := decide_eq_false HJ2.out
   rw [he] at hE
   have HE := Aside0.mk hE
   clear hE he
   go_wp2_with fail
   go_quiet ((go_at_call 181; refine (HE.out _).mono ?_; rintro e w1 ⟨rfl, q1, rfl⟩; exact ⟨rfl, _, World.drewN_drewN _ _ _⟩))
   go_wp2
   have hBV : ((wr.drewN nq).setCell ⟨G, 1, none⟩ (.int .i64 ((n : Int) - 1))).heap[G]? = some (.cells (cs.setIfInBounds 1 (.int .i64 ((n : Int) - 1))) 192 (0, 0)) := set_blk (w := wr.drewN nq) (by rw [drewN_heap']; exact HBL.out) 1 _
   have hKV : Chg (RingS G base) w' ((wr.drewN nq).setCell ⟨G, 1, none⟩ (.int .i64 ((n : Int) - 1))) := (HC.out.then_ (Chg.of_below ((⟨⟨nq, rfl⟩⟩ : Drawn0 wr (wr.drewN nq)).below) (fun _ => False)) (fun _ h => h.elim)).set_ (.inl (.inl rfl)) _
   have hBu : ∀ b, b < 256 → BuckM ((wr.drewN nq).setCell ⟨G, 1, none⟩ (.int .i64 ((n : Int) - 1))) base P (cs.setIfInBounds 1 (.int .i64 ((n : Int) - 1))) b (B b) (V b) := by
    intro b hb
    refine (HB.out b hb).step (Nat.le_refl _) (fun k hk hlt => ?_) ?_ ?_
    ·obtain ⟨_, xs, gn, _, g2, _⟩ := HB.out b hb
     rw [Below.heap_setCell _ _ _ _ (fun e => g2.ne HBL.out (by decide) (by rw [hk, e])), drewN_heap']
    ·rw [Array.getElem?_setIfInBounds, if_neg (by omega)]
    ·rw [Array.getElem?_setIfInBounds, if_neg (by omega)]
   have hLe : base ≤ ((wr.drewN nq).setCell ⟨G, 1, none⟩ (.int .i64 ((n : Int) - 1))).heap.size := by
    have := HR.out.le
    simp only [World.setCell, Array.size_modify, drewN_heap']
    exact this
   have hS0 : (cs.setIfInBounds 1 (.int .i64 ((n : Int) - 1)))[0]? = some (.int .i64 (a + j)) := by rw [Array.getElem?_setIfInBounds, if_neg (by omega)]; exact H0.out
   generalize (wr.drewN nq).setCell ⟨G, 1, none⟩ (.int .i64 ((n : Int) - 1)) = U at *
   have hc0U := cell_blk hBV hS0
   obtain ⟨b, hbe⟩ : ∃ b, b = ((a + (j : Int)) % 256).toNat := ⟨_, rfl⟩
   have hb256 : b < 256 := by omega
   obtain ⟨hcv, xs, gn, hcg, hRI, hgx, hdrop, hxP⟩ := hBu b hb256
   have hne := HJ2.out
   rw [← hbe] at hne
   have hgn : gn < xs.length := by
    rcases hgx with h | ⟨h1, h2⟩
    ·exact h
    ·exact absurd (by rw [← hdrop, h1, h2]; rfl) hne
   have hPOP : ∀ W : World, W.heap = U.heap → Calls Tryz.prog 182 #[.pointer (some ⟨G, 2 + b * 2, none⟩)] W fun e w' => e = .returned (.int .i64 xs[gn]) ∧ ∃ (v' : Value) (gn' : Nat) (xs' : List Int), w'.heap[G]? = some (.cells (((cs.setIfInBounds 1 (.int .i64 ((n : Int) - 1))).setIfInBounds (2 + b * 2) v').setIfInBounds (2 + b * 2 + 1) (.int .i64 gn')) 192 (0, 0)) ∧ RI w' base v' xs' ∧ v'.ownBlock = (V b).ownBlock ∧ xs'.drop gn' = xs.drop (gn + 1) ∧ (gn' < xs'.length ∨ xs' = [] ∧ gn' = 0) ∧ xs'.length ≤ xs.length ∧ Chg (fun k => k = G) W w' :=
    fun W hW => pop_calls G (2 + b * 2) _ (V b) xs gn base W (by rw [hW]; exact hBV) hcv hcg (hRI.step (fun k hk hlt => by rw [hW])) hgn
   rw [hbe] at hPOP
   have HPOP := Aside0.mk hPOP
   have HBE := Aside0.mk hbe
   have HBV := Aside0.mk hBV
   have HKV := Aside0.mk hKV
   have HBU := Aside0.mk hBu
   have HRI := Aside0.mk hRI
   have HDR := Aside0.mk hdrop
   have HS0 := Aside0.mk hS0
   clear hPOP hbe hBV hKV hBu hRI hdrop hgx hcv hcg hS0 hne hc0 hf0 hc1 hf1
   generalize hit : xs[gn] = item at *
   have HIT := Aside0.mk hit
   clear hit
   have ht1 : Int.tmod (a + (j : Int)) 256 = (a + (j : Int)) % 256 := tmod_nn haj
   have ht2 : IntKind.i64.wrap ((a + (j : Int)) % 256) = (a + (j : Int)) % 256 := by rw [IntKind.wrap_i64]; omega
   have hi0 : 0 ≤ (a + (j : Int)) % 256 := hm0
   have hi1 : (a + (j : Int)) % 256 < 256 := hm1
   go_region_held3 (fun w' => w'.cell? ⟨G, 0, none⟩ = some (.int .i64 (a + j))) (go_keep)
    (first | (go_at_call 182; refine (HPOP.out U.drew rfl).mono ?_; rintro e w2 ⟨rfl, v', gn', xs', hb2, hR2, ho2, hd2, hg2, hx2, hch2⟩; have hc2 : w2.cell? ⟨G, 0, none⟩ = some (.int .i64 (a + (j : Int))) := cell_blk hb2 (by rw [Array.getElem?_setIfInBounds, if_neg (by omega), Array.getElem?_setIfInBounds, if_neg (by omega)]; exact HS0.out); have HB2 := Aside0.mk hb2; have HR2 := Aside0.mk hR2; have HO2 := Aside0.mk ho2; have HD2 := Aside0.mk hd2; have HG2 := Aside0.mk hg2; have HX2 := Aside0.mk hx2; have HC2 := Aside0.mk hch2; clear hb2 hR2 ho2 hd2 hg2 hx2 hch2))
   go_wp2
   go_ret3
   obtain rfl := HBE.out
   clear HBE ht1 ht2 hi0 hi1
   generalize hq : ((a + (j : Int)) % 256).toNat = b at *
   have hhead : B b = item :: xs.drop (gn + 1) := by
    rw [← HDR.out, ← HIT.out]
    exact List.drop_eq_getElem_cons hgn
   refine ⟨j, item, xs.drop (gn + 1), hJ1, fun i hi => ?_, by rw [hq]; exact hhead, rfl, (show RingM w2 G base (a + j) (n - 1) P (updB B ((a + (j : Int)) % 256).toNat (xs.drop (gn + 1))) from hq ▸ ?_), HKV.out.trans ((⟨HC2.out.os, HC2.out.tape, HC2.out.output, HC2.out.size, HC2.out.block⟩ : Chg (fun k => k = G) U w2).mono (fun k hk => .inl hk))⟩
   rotate_left
   refine ⟨HR.out.lt, Nat.le_trans hLe HC2.out.size, haj, ?_, by have := HR.out.n_le; omega, _, updV V b v', HB2.out, by simpa using HSZ.out, ?_, ?_, ?_, ?_⟩
   rotate_right
   ·by_cases h : B ((a + (i : Int)) % 256).toNat = []
    ·exact h
    ·exact absurd ⟨by omega, h⟩ (HJ3.out i hi)
   ·have h1 := total_upd B b (xs.drop (gn + 1)) 256 hb256
    have h2 := HR.out.n_eq
    rw [hhead, List.length_cons] at h1
    omega
   ·rw [Array.getElem?_setIfInBounds, if_neg (by omega), Array.getElem?_setIfInBounds, if_neg (by omega)]; exact HS0.out
   ·rw [Array.getElem?_setIfInBounds, if_neg (by omega), Array.getElem?_setIfInBounds, if_neg (by omega), Array.getElem?_setIfInBounds, if_pos rfl, if_pos (by have := HSZ.out; omega)]
    congr 2
    omega
   ·intro b' hb'
    by_cases e : b' = b
    ·subst e
     rw [updB_at, updV_at]
     refine ⟨?_, xs', gn', ?_, HR2.out, HG2.out, HD2.out, by have := HX2.out; omega⟩
     ·rw [Array.getElem?_setIfInBounds, if_neg (by omega), Array.getElem?_setIfInBounds, if_pos rfl, if_pos (by simp; have := HSZ.out; omega)]
     ·rw [Array.getElem?_setIfInBounds, if_pos rfl, if_pos (by simp; have := HSZ.out; omega)]
    ·rw [updB_ne _ _ e, updV_ne _ _ e]
     refine (HBU.out b' hb').step (Nat.le_refl _) (fun k hk hlt => ?_) ?_ ?_
     ·have h1 : k ≠ G := fun e2 => by
       obtain ⟨_, xs2, gn2, _, r2, _⟩ := HBU.out b' hb'
       exact r2.ne HBV.out (by decide) (by rw [hk, e2])
      exact HC2.out.block k hlt h1
     ·rw [Array.getElem?_setIfInBounds, if_neg (by omega), Array.getElem?_setIfInBounds, if_neg (by omega)]
     ·rw [Array.getElem?_setIfInBounds, if_neg (by omega), Array.getElem?_setIfInBounds, if_neg (by omega)]
   ·intro b1 b2 hb1 hb2 hne k hk hk2
    have ho := HO2.out
    by_cases e1 : b1 = b
    ·subst e1
     rw [updV_at, ho] at hk
     rw [updV_ne _ _ (Ne.symm hne)] at hk2
     exact HAP.out b1 b2 hb1 hb2 hne k hk hk2
    ·rw [updV_ne _ _ e1] at hk
     by_cases e2 : b2 = b
     ·subst e2
      rw [updV_at, ho] at hk2
      exact HAP.out b1 b2 hb1 hb2 hne k hk hk2
     ·rw [updV_ne _ _ e2] at hk2
      exact HAP.out b1 b2 hb1 hb2 hne k hk hk2
theorem Jump_calls (G base : Nat) (a : Int) (P : Nat) (B : Nat → List Int) (key : Int) (w : World) (h : RingM w G base a 0 P B) (hk : a ≤ key) (hk1 : key ≤ 1099511627776) :
  Calls Tryz.prog 179 #[.pointer (some ⟨G, 0, none⟩), .int .i64 key] w fun e w' => e = .returned (.bool true) ∧ RingM w' G base key 0 P B ∧ Chg (RingS G base) w w' := by
 have ha := h.a0
 have HM := Aside0.mk h
 obtain ⟨cs, V, hb, _, h0, h1, _⟩ := h.ex
 have hc := cell_blk hb h0
 have hf := free_blk hb 0
 have hc1 := cell_blk hb h1
 clear hb h0 h1 h
 have d1 : decide (key < a) = false := decide_eq_false (by omega)
 have d2 : decide (1099511627776 < key) = false := decide_eq_false (by omega)
 go_enter Tryz.func179, Tryz.ntmps179
 go_wp2
 go_ret
 exact ⟨rfl, HM.out.setAt key (by omega), (Chg.refl _ _).set_ (.inl (.inl rfl)) _⟩
def ringZ : Nat → List Value
 | 0 => []
 | n + 1 => .slice none 0 0 :: .int .i64 0 :: ringZ n
theorem ringZ_len (n : Nat) : (ringZ n).length = 2 * n := by
 induction n with
 | zero => rfl
 | succ n ih => simp [ringZ, ih]; omega
theorem ringZ_at (n : Nat) : ∀ b, b < n → (ringZ n)[b * 2]? = some (.slice none 0 0) ∧ (ringZ n)[b * 2 + 1]? = some (.int .i64 0) := by
 induction n with
 | zero => intro b hb; omega
 | succ n ih =>
  intro b hb
  rcases b with _ | b
  ·exact ⟨rfl, rfl⟩
  ·have := ih b (by omega)
   rw [show (b + 1) * 2 = b * 2 + 2 by omega]
   simpa [ringZ] using this
theorem total_nil (n : Nat) : total (fun _ => []) n = 0 := by
 induction n with
 | zero => rfl
 | succ n ih => simp [total, ih]
theorem RingM.new {w : World} {G base : Nat} {cs : Array Value} (hb : w.heap[G]? = some (.cells cs 192 (0, 0))) (hcs : cs.toList = .int .i64 0 :: .int .i64 0 :: ringZ 256) (hG : G < base) (hbase : base ≤ w.heap.size) : RingM w G base 0 0 0 (fun _ => []) := by
 have hz : cs.size = 514 := by rw [← Array.length_toList, hcs, List.length_cons, List.length_cons, ringZ_len]
 have hi : ∀ i, cs[i]? = (Value.int .i64 0 :: Value.int .i64 0 :: ringZ 256)[i]? := fun i => by rw [← hcs, Array.getElem?_toList]
 refine ⟨hG, hbase, Int.le_refl _, (total_nil 256).symm, Nat.le_refl _, cs, fun _ => .slice none 0 0, hb, hz, by rw [hi]; rfl, by rw [hi]; rfl, fun b hb' => ⟨?_, [], 0, ?_, Kd.R_nil _ _ _ _ _, .inr ⟨rfl, rfl⟩, rfl, Nat.le_refl _⟩, fun _ _ _ _ _ k hk => absurd (show (none : Option Nat) = some k from hk) (by simp)⟩
 ·rw [hi, show 2 + b * 2 = b * 2 + 2 by omega]
  simpa using (ringZ_at 256 b hb').1
 ·rw [hi, show 2 + b * 2 + 1 = b * 2 + 1 + 2 by omega]
  simpa using (ringZ_at 256 b hb').2
set_option maxRecDepth 100000 in
theorem New_calls (w : World) : Calls Tryz.prog 132 #[.int .i64 0] w fun e w' => e = .returned (.pointer (some ⟨w.heap.size, 0, none⟩)) ∧ ∃ cs, cs.toList = .int .i64 0 :: .int .i64 0 :: ringZ 256 ∧ w' = w.alloc (.cells cs 192) := by
 go_enter Tryz.func132, Tryz.ntmps132
 go_wp2
 go_ret
 refine ⟨rfl, _, ?_, rfl⟩
 kernel_rfl
end Go.Proofs.YthgehdembghdaaaGreat.P
namespace Go.Proofs.YthgehdembghdaaaGreat.P
open Go.RowKit Go.Proofs.YthgehdembghdaaaGreatW.PrintWords Go.Proofs.YthgehdembghdaaaGreatW.PrintLast Go.Proofs.YthgehdembghdaaaGreatW.PrintMore
set_option linter.unusedVariables false
set_option linter.unusedSimpArgs false
abbrev tileCells (W H : Int) (A : Option Addr) (n c : Nat) : Array Value := #[.int .i64 W, .int .i64 H, .slice A n c]
set_option maxHeartbeats 2000000 in
theorem pred_calls (gb : Nat) (W H : Int) (A : Option Addr) (c : Nat) (C : List Int) (x : Seed) (w : World) (hb : w.heap[gb]? = some (.cells (tileCells W H A C.length c) 86 (0, 0))) (hr : Kd.C (Kd.int .u8) w A C.length C) (hc : C.length ≤ c) (ht : TileOk W H C) :
  Calls Tryz.prog 152 #[.agg #[.int .i64 x.f0, .int .i64 x.f1, .int .i64 x.f2], .pointer (some ⟨gb, 0, none⟩)] w fun e w' => e = .returned (.bool (!decide (SeedOk W H C x))) ∧ Below w.heap.size w w' := by
 have b0 : w.cell? ⟨gb, 0, none⟩ = some (.int .i64 W) := cell_blk hb rfl
 have b1 : w.cell? ⟨gb, 1, none⟩ = some (.int .i64 H) := cell_blk hb rfl
 have b2 : w.cell? ⟨gb, 2, none⟩ = some (.slice A C.length c) := cell_blk hb rfl
 have hgb := World.new_ne w _ b0
 have hcl := hr.2.1
 have HR := Aside0.mk hr
 have HC := Aside0.mk hc
 have HT := Aside0.mk ht
 have HB := Aside0.mk hb
 clear hr hc ht hb
 by_cases h0 : x.f0 < 0
 ·have hF : decide (SeedOk W H C x) = false := decide_eq_false (fun h => by have := h.1; omega)
  have HF := Aside0.mk hF
  clear hF
  go_enter Tryz.func152, Tryz.ntmps152
  go_wp2_with ((with_reducible refine gate_dst (N := 2) rfl ?_); refine box_event ?hg (N := 2) ?hd (cs := #[.int .i64 x.f0, .int .i64 x.f1, .int .i64 x.f2]) (t := 90) ?hr ?_; (case hd => rfl); (case hg => rfl); (case hr => first | (go_simp; done) | (go_simp; rfl)); intro gs hg w1 hbox hb; have s0 : w1.cell? ⟨gs, 0, none⟩ = _ := cell_blk hbox rfl; have s1 : w1.cell? ⟨gs, 1, none⟩ = _ := cell_blk hbox rfl; have s2 : w1.cell? ⟨gs, 2, none⟩ = _ := cell_blk hbox rfl; have p0 := pw_cell_below hb b0; have p1 := pw_cell_below hb b1; have p2 := pw_cell_below hb b2; have HB1 := Aside0.mk hb; have HR1 := Aside0.mk (Kd.C_below HR.out hb); clear hb hbox b0 b1 b2 hg)
  go_ret
  exact ⟨by rw [HF.out]; rfl, HB1.out⟩
 by_cases h1 : (C.length : Int) ≤ x.f0
 ·have hF : decide (SeedOk W H C x) = false := decide_eq_false (fun h => by have := h.2.1; omega)
  have HF := Aside0.mk hF
  clear hF
  go_enter Tryz.func152, Tryz.ntmps152
  go_wp2_with ((with_reducible refine gate_dst (N := 2) rfl ?_); refine box_event ?hg (N := 2) ?hd (cs := #[.int .i64 x.f0, .int .i64 x.f1, .int .i64 x.f2]) (t := 90) ?hr ?_; (case hd => rfl); (case hg => rfl); (case hr => first | (go_simp; done) | (go_simp; rfl)); intro gs hg w1 hbox hb; have s0 : w1.cell? ⟨gs, 0, none⟩ = _ := cell_blk hbox rfl; have s1 : w1.cell? ⟨gs, 1, none⟩ = _ := cell_blk hbox rfl; have s2 : w1.cell? ⟨gs, 2, none⟩ = _ := cell_blk hbox rfl; have p0 := pw_cell_below hb b0; have p1 := pw_cell_below hb b1; have p2 := pw_cell_below hb b2; have HB1 := Aside0.mk hb; have HR1 := Aside0.mk (Kd.C_below HR.out hb); clear hb hbox b0 b1 b2 hg)
  go_ret
  exact ⟨by rw [HF.out]; rfl, HB1.out⟩
 obtain ⟨i, hi⟩ : ∃ i : Nat, x.f0 = (i : Int) := ⟨x.f0.toNat, by omega⟩
 obtain ⟨ad, hAD, ct⟩ : ∃ ad, A = some ad ∧ w.cell? (ad.add i) = some (.int .u8 (rd C i)) := by
  have := Kd.at_int HR.out (i : Int) (by omega) (by omega)
  simpa using this
 subst hAD
 have hadne := World.new_ne w _ ct
 rw [hi] at h0 h1
 have h1' : (i : Int) < (C.length : Int) := by omega
 have HI := Aside0.mk hi
 by_cases h2 : rd C (i : Int) = 255
 ·have hF : decide (SeedOk W H C x) = false := decide_eq_false (fun h => h.2.2.1 (by rw [hi]; exact h2))
  have HF := Aside0.mk hF
  rw [h2] at ct
  have hff : ((255 : Int) == 255) = true := rfl
  clear hF
  rw [hi]
  clear hi h2
  go_enter Tryz.func152, Tryz.ntmps152
  go_wp2_with ((with_reducible refine gate_dst (N := 2) rfl ?_); refine box_event ?hg (N := 2) ?hd (cs := #[.int .i64 i, .int .i64 x.f1, .int .i64 x.f2]) (t := 90) ?hr ?_; (case hd => rfl); (case hg => rfl); (case hr => first | (go_simp; done) | (go_simp; rfl)); intro gs hg w1 hbox hb; have s0 : w1.cell? ⟨gs, 0, none⟩ = _ := cell_blk hbox rfl; have s1 : w1.cell? ⟨gs, 1, none⟩ = _ := cell_blk hbox rfl; have s2 : w1.cell? ⟨gs, 2, none⟩ = _ := cell_blk hbox rfl; have p0 := pw_cell_below hb b0; have p1 := pw_cell_below hb b1; have p2 := pw_cell_below hb b2; have pt := pw_cell_below hb ct; clear ct; have HB1 := Aside0.mk hb; have HR1 := Aside0.mk (Kd.C_below HR.out hb); clear hb hbox b0 b1 b2 hg)
  go_ret
  exact ⟨by rw [HF.out]; rfl, HB1.out⟩
 have h2' : (rd C (i : Int) == 255) = false := beq_eq_false_iff_ne.2 h2
 by_cases h3 : x.f2 < 0
 ·have hF : decide (SeedOk W H C x) = false := decide_eq_false (fun h => by have := h.2.2.2.1; omega)
  have HF := Aside0.mk hF
  clear hF
  rw [hi]
  clear hi h2
  go_enter Tryz.func152, Tryz.ntmps152
  go_wp2_with ((with_reducible refine gate_dst (N := 2) rfl ?_); refine box_event ?hg (N := 2) ?hd (cs := #[.int .i64 i, .int .i64 x.f1, .int .i64 x.f2]) (t := 90) ?hr ?_; (case hd => rfl); (case hg => rfl); (case hr => first | (go_simp; done) | (go_simp; rfl)); intro gs hg w1 hbox hb; have s0 : w1.cell? ⟨gs, 0, none⟩ = _ := cell_blk hbox rfl; have s1 : w1.cell? ⟨gs, 1, none⟩ = _ := cell_blk hbox rfl; have s2 : w1.cell? ⟨gs, 2, none⟩ = _ := cell_blk hbox rfl; have p0 := pw_cell_below hb b0; have p1 := pw_cell_below hb b1; have p2 := pw_cell_below hb b2; have pt := pw_cell_below hb ct; clear ct; have HB1 := Aside0.mk hb; have HR1 := Aside0.mk (Kd.C_below HR.out hb); clear hb hbox b0 b1 b2 hg)
  go_ret
  exact ⟨by rw [HF.out]; rfl, HB1.out⟩
 by_cases h4 : 1073741824 < x.f2
 ·have hF : decide (SeedOk W H C x) = false := decide_eq_false (fun h => by have := h.2.2.2.2.1; omega)
  have HF := Aside0.mk hF
  clear hF
  rw [hi]
  clear hi h2
  go_enter Tryz.func152, Tryz.ntmps152
  go_wp2_with ((with_reducible refine gate_dst (N := 2) rfl ?_); refine box_event ?hg (N := 2) ?hd (cs := #[.int .i64 i, .int .i64 x.f1, .int .i64 x.f2]) (t := 90) ?hr ?_; (case hd => rfl); (case hg => rfl); (case hr => first | (go_simp; done) | (go_simp; rfl)); intro gs hg w1 hbox hb; have s0 : w1.cell? ⟨gs, 0, none⟩ = _ := cell_blk hbox rfl; have s1 : w1.cell? ⟨gs, 1, none⟩ = _ := cell_blk hbox rfl; have s2 : w1.cell? ⟨gs, 2, none⟩ = _ := cell_blk hbox rfl; have p0 := pw_cell_below hb b0; have p1 := pw_cell_below hb b1; have p2 := pw_cell_below hb b2; have pt := pw_cell_below hb ct; clear ct; have HB1 := Aside0.mk hb; have HR1 := Aside0.mk (Kd.C_below HR.out hb); clear hb hbox b0 b1 b2 hg)
  go_ret
  exact ⟨by rw [HF.out]; rfl, HB1.out⟩
 have hF : decide (SeedOk W H C x) = decide (OutOk W H i x.f1) := decide_eq_decide.2 ⟨fun h => by rw [← hi]; exact h.2.2.2.2.2, fun h => ⟨by omega, by omega, by rw [hi]; exact h2, by omega, by omega, by rw [hi]; exact h⟩⟩
 have HF := Aside0.mk hF
 have HO := Aside0.mk (out_some (s := x.f1) HT.out (show (0 : Int) ≤ (i : Int) by omega) h1')
 clear hF
 rw [hi]
 clear hi h2
 go_enter Tryz.func152, Tryz.ntmps152
 go_wp2_with (first | ((with_reducible refine gate_dst (N := 2) rfl ?_); refine box_event ?hg (N := 2) ?hd (cs := #[.int .i64 i, .int .i64 x.f1, .int .i64 x.f2]) (t := 90) ?hr ?_; (case hd => rfl); (case hg => rfl); (case hr => first | (go_simp; done) | (go_simp; rfl)); intro gs hg w1 hbox hb; have s0 : w1.cell? ⟨gs, 0, none⟩ = _ := cell_blk hbox rfl; have s1 : w1.cell? ⟨gs, 1, none⟩ = _ := cell_blk hbox rfl; have s2 : w1.cell? ⟨gs, 2, none⟩ = _ := cell_blk hbox rfl; have p0 := pw_cell_below hb b0; have p1 := pw_cell_below hb b1; have p2 := pw_cell_below hb b2; have pt := pw_cell_below hb ct; clear ct; have HB1 := Aside0.mk hb; have HR1 := Aside0.mk (Kd.C_below HR.out hb); clear hb hbox b0 b1 b2 hg) | (go_at_call 153; refine (seeds_out.calls W H _ c C i x.f1 (decide (OutOk W H i x.f1)) _ HR1.out HC.out HO.out).mono ?_; rintro e w2 ⟨rfl, hB⟩; have HB2 := Aside0.mk hB; clear hB))
 go_ret
 exact ⟨by rw [HF.out]; rfl, below_step HB1.out HB2.out⟩
theorem index_none (A : Option Addr) (c : Nat) (fv : Value) (w : World) : Calls Tryz.prog 178 #[.slice A 0 c, fv] w fun e w' => e = .returned (.int .i64 (-1)) ∧ w' = w := by
 go_enter Tryz.func178, Tryz.ntmps178
 go_wp2
 go_loopg [5, 8] 0 (fun gg _ s8 wr => s8 = .int .i64 0 ∧ wr = w)
 case atStart => exact ⟨rfl, rfl⟩
 case round =>
  obtain ⟨rfl, rfl⟩ := hrel
  go_wp2
  go_ret
  exact ⟨rfl, rfl⟩
theorem any_none (A : Option Addr) (c : Nat) (fv : Value) (w : World) : Calls Tryz.prog 151 #[.slice A 0 c, fv] w fun e w' => e = .returned (.bool false) ∧ w' = w := by
 go_enter Tryz.func151, Tryz.ntmps151
 go_wp2_with (go_at_call 178; refine (index_none _ _ _ _).mono ?_; rintro e w' ⟨rfl, rfl⟩)
 go_ret
 exact ⟨rfl, rfl⟩
theorem any_row (ad : Addr) (c : Nat) (l : List Seed) (p : Seed → Bool) (lb : Array Value) (w : World) (hr : Kd.C k90 w (some ad) l.length l) (hl : 0 < l.length)
  (hp : PredBelow Tryz.prog 152 lb (fun x => .agg (encS x).toArray) p w) : Calls Tryz.prog 151 #[.slice (some ad) l.length c, .func (.func 152) #[] lb] w fun e w' => e = .returned (.bool (l.any p)) ∧ Below w.heap.size w w' := by
 have hcell : ∀ j, j < l.length → ∀ i v, (encS l[j]!)[i]? = some v → w.cell? (ad.add (j * 3 + i)) = some v := by
  intro j hj i v hv
  obtain ⟨ad', he, hrr⟩ := hr.2.2 hl
  obtain rfl := Option.some.inj he
  obtain ⟨cs, h1, h2, h3⟩ := hrr j _ (List.getElem?_eq_getElem hj)
  refine h3 i v ?_
  rw [k90_open h2, ← getElem!_pos l j hj]
  exact hv
 have hsp := World.cell?_spot (hcell 0 hl 0 _ rfl)
 obtain ⟨b, off, spot⟩ := ad
 have hs0 : spot = none := by simpa [Addr.add] using hsp
 subst hs0
 have eg : ∀ args w, (callFunc 152 args).run Tryz.prog w = .ok (.enter 152 args) w := enters_of Tryz.func152 (by kernel_rfl) rfl
 have hc := AnyQ.slices_ContainsFunc Tryz.anySeed 3 (fun w => by kernel_rfl) (fun w => by kernel_rfl) encS encS_len p 152 lb eg b off l.length c l w hp (Nat.le_refl _) hr.2.1 (World.block_lt_of_cell? w _ (hcell 0 hl 0 _ rfl) |> fun h => by simpa [Addr.add] using h) (fun j hj i v hv => by
  have := hcell j hj i v hv
  have he : (⟨b, off, none⟩ : Addr).add (j * 3 + i) = ⟨b, off + j * 3 + i, none⟩ := by unfold Addr.add; split <;> simp_all <;> omega
  rwa [he] at this)
 rw [List.take_length] at hc
 exact hc
open Classical in
set_option maxHeartbeats 2000000 in
theorem seedsMay_calls (a0_0 : Int) (a0_1 : Int) (A0_2 : Option Addr) (c0_2 : Nat) (l0_2 : List Int) (A1 : Option Addr) (c1 : Nat) (l1 : List Seed) (r : Bool) (w : World) (hr0_2 : Kd.C (Kd.int .u8) w A0_2 l0_2.length l0_2) (hc0_2 : l0_2.length ≤ c0_2) (hr1 : Kd.C k90 w A1 l1.length l1) (hc1 : l1.length ≤ c1) (h : seedsMayF a0_0 a0_1 l0_2 l1 = some r) :
  Calls Tryz.prog 131 #[.agg #[.int .i64 a0_0, .int .i64 a0_1, .slice A0_2 l0_2.length c0_2], .slice A1 l1.length c1] w fun e w' => e = .returned (.bool r) ∧ Below w.heap.size w w' := by
 unfold seedsMayF at h
 obtain rfl := Option.some.inj h
 clear h
 have hM := fun (w1 : World) (hb : Below w.heap.size w w1) => tile_May.calls (l0_2.length + 1) a0_0 a0_1 A0_2 c0_2 l0_2 _ w1 (Kd.C_below hr0_2 hb) hc0_2 (tileMay_some a0_0 a0_1 l0_2 _ (by omega))
 have HM := Aside0.mk hM
 have HR0 := Aside0.mk hr0_2
 have HC0 := Aside0.mk hc0_2
 have HR1 := Aside0.mk hr1
 have HC1 := Aside0.mk hc1
 clear hM hr0_2 hc0_2 hr1 hc1
 by_cases ht : TileOk a0_0 a0_1 l0_2
 ·have HT := Aside0.mk ht
  have HD := Aside0.mk (decide_eq_true ht)
  rw [HD.out] at HM
  by_cases hl : l1.length = 0
  ·have hnil := List.length_eq_zero_iff.1 hl
   subst hnil
   have hres : decide (SeedsOk a0_0 a0_1 l0_2 []) = true := decide_eq_true ⟨ht, fun x hx => by simp at hx⟩
   have HRES := Aside0.mk hres
   clear ht hl hres
   go_enter Tryz.func131, Tryz.ntmps131
   go_wp2_with (first | ((with_reducible refine gate_dst (N := 2) rfl ?_); refine box_event ?hg (N := 2) ?hd (cs := tileCells a0_0 a0_1 A0_2 l0_2.length c0_2) (t := 86) ?hr ?_; (case hd => rfl); (case hg => rfl); (case hr => first | (go_simp; done) | (go_simp; rfl)); intro gb hg w1 hbox hb; have b0 : w1.cell? ⟨gb, 0, none⟩ = _ := cell_blk hbox rfl; have b1 : w1.cell? ⟨gb, 1, none⟩ = _ := cell_blk hbox rfl; have b2 : w1.cell? ⟨gb, 2, none⟩ = _ := cell_blk hbox rfl; have HB1 := Aside0.mk hb; have HX := Aside0.mk hbox; clear hb hbox hg) | (go_at_call 150; refine (HM.out _ HB1.out).mono ?_; rintro e w2 ⟨rfl, hb2⟩; have HB2 := Aside0.mk (below_step HB1.out hb2); have HK := Aside0.mk hb2; clear hb2))
   go_at_call 151
   refine (any_none _ _ _ _).mono ?_
   rintro e w' ⟨rfl, rfl⟩
   go_wp2
   go_ret
   exact ⟨by rw [HRES.out]; rfl, HB2.out⟩
  ·have hne : 0 < l1.length := by omega
   obtain ⟨ad, rfl⟩ : ∃ ad, A1 = some ad := by obtain ⟨ad, e, _⟩ := HR1.out.2.2 hne; exact ⟨ad, e⟩
   have hres : decide (SeedsOk a0_0 a0_1 l0_2 l1) = !(l1.any (fun x => !decide (SeedOk a0_0 a0_1 l0_2 x))) := by
    rw [Bool.eq_iff_iff, decide_eq_true_iff]
    unfold SeedsOk
    simp [ht]
   have HRES := Aside0.mk hres
   have HNE := Aside0.mk hne
   clear ht hl hres hne
   go_enter Tryz.func131, Tryz.ntmps131
   go_wp2_with (first | ((with_reducible refine gate_dst (N := 2) rfl ?_); refine box_event ?hg (N := 2) ?hd (cs := tileCells a0_0 a0_1 A0_2 l0_2.length c0_2) (t := 86) ?hr ?_; (case hd => rfl); (case hg => rfl); (case hr => first | (go_simp; done) | (go_simp; rfl)); intro gb hg w1 hbox hb; have b0 : w1.cell? ⟨gb, 0, none⟩ = _ := cell_blk hbox rfl; have b1 : w1.cell? ⟨gb, 1, none⟩ = _ := cell_blk hbox rfl; have b2 : w1.cell? ⟨gb, 2, none⟩ = _ := cell_blk hbox rfl; have HB1 := Aside0.mk hb; have HX := Aside0.mk hbox; clear hb hbox hg) | (go_at_call 150; refine (HM.out _ HB1.out).mono ?_; rintro e w2 ⟨rfl, hb2⟩; have HB2 := Aside0.mk (below_step HB1.out hb2); have HK := Aside0.mk hb2; clear hb2))
   go_at_call 151
   refine (any_row ad c1 l1 (fun x => !decide (SeedOk a0_0 a0_1 l0_2 x)) _ w2 (Kd.C_below HR1.out HB2.out) HNE.out (fun W x hW => ?_)).mono ?_
   ·refine (pred_calls gb a0_0 a0_1 A0_2 c0_2 l0_2 x W ?_ (Kd.C_below (Kd.C_below HR0.out HB2.out) hW) HC0.out HT.out).mono ?_
    ·have hlt := blk_lt HX.out
     rw [hW.block gb (Nat.lt_of_lt_of_le hlt HK.out.size), HK.out.block gb hlt]
     exact HX.out
    ·rintro e w3 ⟨rfl, hb3⟩
     refine ⟨?_, below_step hW hb3⟩
     congr 2
   rintro e w3 ⟨rfl, hb3⟩
   have HB3 := Aside0.mk (below_step HB2.out hb3)
   clear hb3
   go_wp2
   go_ret
   exact ⟨by rw [HRES.out]; rfl, HB3.out⟩
 ·have hres : decide (SeedsOk a0_0 a0_1 l0_2 l1) = false := decide_eq_false (fun h => ht h.1)
  have HRES := Aside0.mk hres
  have HD := Aside0.mk (decide_eq_false ht)
  rw [HD.out] at HM
  clear ht hres
  go_enter Tryz.func131, Tryz.ntmps131
  go_wp2_with (first | ((with_reducible refine gate_dst (N := 2) rfl ?_); refine box_event ?hg (N := 2) ?hd (cs := tileCells a0_0 a0_1 A0_2 l0_2.length c0_2) (t := 86) ?hr ?_; (case hd => rfl); (case hg => rfl); (case hr => first | (go_simp; done) | (go_simp; rfl)); intro gb hg w1 hbox hb; have b0 : w1.cell? ⟨gb, 0, none⟩ = _ := cell_blk hbox rfl; have b1 : w1.cell? ⟨gb, 1, none⟩ = _ := cell_blk hbox rfl; have b2 : w1.cell? ⟨gb, 2, none⟩ = _ := cell_blk hbox rfl; have HB1 := Aside0.mk hb; have HX := Aside0.mk hbox; clear hb hbox hg) | (go_at_call 150; refine (HM.out _ HB1.out).mono ?_; rintro e w2 ⟨rfl, hb2⟩; have HB2 := Aside0.mk (below_step HB1.out hb2); have HK := Aside0.mk hb2; clear hb2))
  go_ret
  exact ⟨by rw [HRES.out]; rfl, HB2.out⟩
end Go.Proofs.YthgehdembghdaaaGreat.P
