/-
  The ring's buckets in memory: a bucket's own methods.
-/
import Derived.Test.YtgcfcemgeppkmaaXBase
import Derived.Deep.LoopGhost
namespace Go.Proofs.Ytgcfcemgeppkmaa.P
open Go.RowKit Go.Proofs.YtgcfcemgeppkmaaW.PrintWords Go.Proofs.YtgcfcemgeppkmaaW.PrintLast Go.Proofs.YtgcfcemgeppkmaaW.PrintMore
set_option linter.unusedVariables false
set_option linter.unusedSimpArgs false

/-- What may have changed: blocks of S, and what is new. -/
structure Chg (S : Nat → Prop) (w w' : World) : Prop where
  os : w'.os = w.os
  tape : w'.tape = w.tape
  output : w'.output = w.output
  size : w.heap.size ≤ w'.heap.size
  block : ∀ i, i < w.heap.size → ¬ S i → w'.heap[i]? = w.heap[i]?
section
variable {S S' : Nat → Prop} {a b c : World}
theorem Chg.refl (S : Nat → Prop) (w : World) : Chg S w w := ⟨rfl, rfl, rfl, Nat.le_refl _, fun _ _ _ => rfl⟩
theorem Chg.trans (h : Chg S a b) (k : Chg S b c) : Chg S a c :=
  ⟨k.os.trans h.os, k.tape.trans h.tape, k.output.trans h.output, Nat.le_trans h.size k.size, fun i hi hn => (k.block i (Nat.lt_of_lt_of_le hi h.size) hn).trans (h.block i hi hn)⟩
theorem Chg.mono (h : Chg S a b) (hs : ∀ k, S k → S' k) : Chg S' a b := ⟨h.os, h.tape, h.output, h.size, fun i hi hn => h.block i hi (fun hk => hn (hs i hk))⟩
/-- The second step writes what the first may, or what is new. -/
theorem Chg.then_ (h : Chg S a b) (k : Chg S' b c) (hs : ∀ i, S' i → S i ∨ a.heap.size ≤ i) : Chg S a c :=
  ⟨k.os.trans h.os, k.tape.trans h.tape, k.output.trans h.output, Nat.le_trans h.size k.size, fun i hi hn => (k.block i (Nat.lt_of_lt_of_le hi h.size) (fun h2 => (hs i h2).elim hn (fun h3 => by omega))).trans (h.block i hi hn)⟩
theorem Chg.below {B : Nat} (h : Chg S a b) (hs : ∀ k, S k → B ≤ k) (hB : B ≤ a.heap.size) : Below B a b := ⟨h.os, h.tape, h.output, h.size, fun k hk => h.block k (Nat.lt_of_lt_of_le hk hB) (fun h2 => by have := hs k h2; omega)⟩
theorem Chg.of_below (h : Below a.heap.size a b) (S : Nat → Prop) : Chg S a b := ⟨h.os, h.tape, h.output, h.size, fun i hi _ => h.block i hi⟩
theorem Chg.of_grown {r : Option Nat} (h : a.grownBy b r) (hr : ∀ k, r = some k → S k) : Chg S a b := ⟨h.os, h.tape, h.output, h.size, fun i hi hn => h.block i hi (fun e => hn (hr i e.symm))⟩
theorem Chg.drew (h : Chg S a b) : Chg S a b.drew := ⟨h.os, h.tape, h.output, h.size, h.block⟩
theorem Chg.alloc (h : Chg S a b) (o : Obj) : Chg S a (b.alloc o) := h.then_ (Chg.of_below (below_alloc (Below.refl _ _) o) (fun _ => False)) (fun _ hk => hk.elim)
theorem Chg.set_ (h : Chg S a b) {p : Addr} (hp : S p.block ∨ a.heap.size ≤ p.block) (u : Value) : Chg S a (b.setCell p u) :=
  h.then_ (S' := fun k => k = p.block) ⟨rfl, rfl, rfl, by simp [World.setCell], fun i hi hn => Below.heap_setCell b p u i hn⟩ (fun k hk => by rw [hk]; exact hp)
theorem Chg.blk (h : Chg S a b) {g : Nat} {o : Obj} (hb : a.heap[g]? = some o) (hn : ¬ S g) : b.heap[g]? = some o := (h.block g (blk_lt hb) hn).trans hb
theorem Chg.R {α : Type} {d : Kd α} {e base : Nat} {ok : Nat → Prop} {v : Value} {xs : List α} (h : Chg S a b) (hR : d.R e a base ok v xs) (hn : ∀ k, ok k → ¬ S k) : d.R e b base ok v xs := Kd.R_step hR (fun k hk hlt => h.block k hlt (hn k hk))
theorem Chg.C {α : Type} {d : Kd α} {A : Option Addr} {n : Nat} {xs : List α} (h : Chg S a b) (hC : d.C a A n xs) (hS : ∀ k, S k → a.heap.size ≤ k) : d.C b A n xs := Kd.C_below hC (h.below hS (Nat.le_refl _))
end

theorem drewN_heap' (b : World) (n : Nat) : (b.drewN n).heap = b.heap := by
  induction n generalizing b with
  | zero => rfl
  | succ n ih => rw [← World.drew_drewN]; exact ih b.drew
theorem set_blk {w : World} {g : Nat} {cs : Array Value} {t : TypeId} (hb : w.heap[g]? = some (.cells cs t (0, 0))) (j : Nat) (u : Value) : (w.setCell ⟨g, j, none⟩ u).heap[g]? = some (.cells (cs.setIfInBounds j u) t (0, 0)) := by
  simp only [World.setCell, Array.getElem?_modify, hb]
  simp
theorem cell_blk {w : World} {g : Nat} {cs : Array Value} {t : TypeId} {j : Nat} {u : Value} (hb : w.heap[g]? = some (.cells cs t (0, 0))) (hj : cs[j]? = some u) : w.cell? ⟨g, j, none⟩ = some u := by
  simp only [World.cell?, hb]
  rw [if_neg (by simp)]
  exact hj
theorem free_blk {w : World} {g : Nat} {cs : Array Value} {t : TypeId} (hb : w.heap[g]? = some (.cells cs t (0, 0))) (j : Nat) : w.frozen? ⟨g, j, none⟩ = false := by simp [World.frozen?, hb]

abbrev RI (w : World) (base : Nat) (v : Value) (xs : List Int) : Prop := (Kd.int .i64).R 3 w base (fun _ => True) v xs
theorem RI.step {w w' : World} {base : Nat} {v : Value} {xs : List Int} (h : RI w base v xs) (hm : ∀ k, v.ownBlock = some k → k < w.heap.size → w'.heap[k]? = w.heap[k]?) : RI w' base v xs := by
  have h1 : (Kd.int .i64).R 3 w base (fun k => v.ownBlock = some k) v xs := by
    obtain ⟨h0, inner, ho, hr⟩ := h
    exact ⟨fun k hk => hk, inner, ho, hr⟩
  exact Kd.R_mono (Kd.R_step h1 (fun k hk hlt => hm k hk hlt)) (fun _ _ => trivial)
theorem RI.lt {w : World} {base : Nat} {v : Value} {xs : List Int} (h : RI w base v xs) {k : Nat} (hk : v.ownBlock = some k) : base ≤ k ∧ k < w.heap.size := by
  obtain ⟨h0, inner, ho, hr⟩ := h
  exact ⟨own_base ho k hk, own_lt ho k hk⟩
theorem RI.ne {w : World} {base : Nat} {v : Value} {xs : List Int} (h : RI w base v xs) {g t : Nat} {cs : Array Value} (hb : w.heap[g]? = some (.cells cs t (0, 0))) (ht : 3 ≠ t) : v.ownBlock ≠ some g := fun e => Kd.R_ne h hb ht e.symm

set_option maxHeartbeats 1000000 in
theorem put_calls (G o : Nat) (cs : Array Value) (v : Value) (xs : List Int) (item : Int) (base : Nat) (w : World) (hb : w.heap[G]? = some (.cells cs 139 (0, 0))) (ho : cs[o]? = some v) (hR : RI w base v xs) (hbase : base ≤ w.heap.size) (hl : (xs.length + 1) * 8 ≤ 140737488355328) :
    Calls Try.prog 150 #[.pointer (some ⟨G, o, none⟩), .int .i64 item] w fun e w' => e = .returned (.tuple #[]) ∧ ∃ v', w'.heap[G]? = some (.cells (cs.setIfInBounds o v') 139 (0, 0)) ∧ RI w' base v' (xs ++ [item]) ∧ (v'.ownBlock = v.ownBlock ∨ ∃ k, v'.ownBlock = some k ∧ w.heap.size ≤ k) ∧ Chg (fun k => k = G ∨ v.ownBlock = some k) w w' := by
  have hc := cell_blk hb ho
  have HN := Aside0.mk (RI.ne hR hb (by decide))
  have HB := Aside0.mk hb
  have HR := Aside0.mk hR
  have HO := Aside0.mk ho
  have hGl := blk_lt hb
  clear hb hR ho
  go_enter Try.func150, Try.ntmps150
  go_wp2_with (first | ((with_reducible refine gate_builtin (b := .append) (xs := #[.tmp 8, .tmp 10]) rfl ?_); at_builtin; refine Kd.R_append (Kd.int .i64) (w0 := w) base rfl (.tmp 8) (.tmp 10) 36 3 (.int .i64 0) 8 rfl Try.underlying36 info3 rfl (by decide) (by omega) v xs item [.int .i64 item] (fun _ => True) (fun _ => False) rfl rfl ?aP (fun _ hk => hk.elim) ?aF ?aO ?aB ?aS ?aL ?_; (case aP => exact rfl); (case aB => exact Below.refl _ _); (case aF => exact (fun _ _ => trivial)); (case aO => exact HR.out); (case aS => exact hbase); (case aL => exact hl); intro v1 w1 ho1 hb1 hg1 hat1; obtain ⟨A1, n1, rfl⟩ := Kd.R_slice ho1; have HO1 := Aside0.mk ho1; have HG1 := Aside0.mk hg1; have HA1 := Aside0.mk hat1; have hblk : w1.heap[G]? = some (.cells cs 139 (0, 0)) := (hg1.block G hGl (fun e => HN.out e.symm)).trans HB.out; have HBK := Aside0.mk hblk; have hcc := cell_blk hblk HO.out; have hff := free_blk hblk o; clear ho1 hb1 hg1 hat1 hblk))
  go_end0
  have e1 : (xs ++ [item]).length = xs.length + 1 := by simp
  have hR1 : RI w1 base (.slice A1 (xs.length + 1) n1) (xs ++ [item]) := by rw [← e1]; exact HO1.out
  have hne1 : (Value.slice A1 (xs.length + 1) n1).ownBlock ≠ some G := hR1.ne HBK.out (by decide)
  have hat : (Value.slice A1 (xs.length + 1) n1).ownBlock = v.ownBlock ∨ ∃ b, (Value.slice A1 (xs.length + 1) n1).ownBlock = some b ∧ w.heap.size ≤ b := by rw [← e1]; exact HA1.out
  refine ⟨rfl, _, set_blk HBK.out o _, hR1.step (fun k hk hlt => Below.heap_setCell _ _ _ _ (fun e => hne1 (by rw [hk, e]))), hat, ?_⟩
  exact (Chg.of_grown HG1.out (fun k hk => .inr hk)).set_ (.inl (.inl rfl)) _

theorem RI.slice {w : World} {base : Nat} {v : Value} {xs : List Int} (h : RI w base v xs) : (v = .slice none 0 0 ∧ xs = []) ∨ ∃ g cap, v = .slice (some ⟨g, 0, none⟩) xs.length cap ∧ xs.length ≤ cap ∧ base ≤ g ∧ g < w.heap.size ∧ (∀ i, (hi : i < xs.length) → w.cell? ⟨g, i, none⟩ = some (.int .i64 xs[i])) ∧ RI w base (.slice (some ⟨g, 0, none⟩) 0 cap) [] := by
  obtain ⟨h0, inner, ho, hr⟩ := id h
  rcases ho.2 with ⟨h1, h2⟩ | ⟨g, cap, cur, h1, h2, h3, h4, h5, h6, h7⟩
  · exact .inl ⟨h1, List.length_eq_zero_iff.1 h2⟩
  · refine .inr ⟨g, cap, h1, h4, h2, blk_lt h3, fun i hi => ?_, fun _ _ => trivial, [], ⟨rfl, .inr ⟨g, cap, cur, rfl, h2, h3, Nat.zero_le _, h5, h6, by simp⟩⟩, Reps.none _ _⟩
    obtain ⟨A, c, e, _, hC⟩ := Kd.R_reads h
    rw [h1] at e
    injection e with e1 _ _
    obtain ⟨ad, e2, hc⟩ := Kd.at_int hC (i : Int) (by omega) (by omega)
    rw [← e1] at e2
    injection e2 with e2
    subst e2
    rw [rd_get xs hi] at hc
    rw [Addr.add_lit, Nat.zero_add, Int.toNat_natCast] at hc
    exact hc

set_option maxHeartbeats 1000000 in
theorem empty_calls (G o : Nat) (cs : Array Value) (A : Option Addr) (n c : Nat) (gn : Nat) (w : World) (hb : w.heap[G]? = some (.cells cs 139 (0, 0))) (ho : cs[o]? = some (.slice A n c)) (ho1 : cs[o + 1]? = some (.int .i64 gn)) :
    Calls Try.prog 139 #[.pointer (some ⟨G, o, none⟩)] w fun e w' => e = .returned (.bool (decide (gn = n))) ∧ Drawn0 w w' := by
  have hc := cell_blk hb ho
  have hc1 := cell_blk hb ho1
  have e : ((gn : Int) == (n : Int)) = decide (gn = n) := by rw [Bool.eq_iff_iff]; simp; omega
  generalize decide (gn = n) = r at *
  clear hb ho ho1
  go_enter Try.func139, Try.ntmps139
  go_wp2
  go_region
  go_wp2
  go_ret
  exact ⟨rfl, ⟨1, rfl⟩⟩

set_option maxHeartbeats 1000000 in
theorem pop_calls (G o : Nat) (cs : Array Value) (v : Value) (xs : List Int) (gn : Nat) (base : Nat) (w : World) (hb : w.heap[G]? = some (.cells cs 139 (0, 0))) (ho : cs[o]? = some v) (ho1 : cs[o + 1]? = some (.int .i64 gn)) (hR : RI w base v xs) (hg : gn < xs.length) :
    Calls Try.prog 140 #[.pointer (some ⟨G, o, none⟩)] w fun e w' => e = .returned (.int .i64 xs[gn]) ∧ ∃ (v' : Value) (gn' : Nat) (xs' : List Int), w'.heap[G]? = some (.cells ((cs.setIfInBounds o v').setIfInBounds (o + 1) (.int .i64 gn')) 139 (0, 0)) ∧ RI w' base v' xs' ∧ v'.ownBlock = v.ownBlock ∧ xs'.drop gn' = xs.drop (gn + 1) ∧ (gn' < xs'.length ∨ xs' = [] ∧ gn' = 0) ∧ xs'.length ≤ xs.length ∧ Chg (fun k => k = G) w w' := by
  rcases hR.slice with ⟨rfl, rfl⟩ | ⟨g, cap, rfl, hcap, hbg, hgl, hcell, hcut⟩
  · simp at hg
  have hne : g ≠ G := fun e => hR.ne hb (by decide) (by rw [e]; rfl)
  have hsz : o + 1 < cs.size := by
    rcases Nat.lt_or_ge (o + 1) cs.size with h | h
    · exact h
    · rw [Array.getElem?_eq_none h] at ho1; exact absurd ho1 (by simp)
  have hlen : xs.length ≤ 9223372036854775807 := hR.2.reads.choose_spec.choose_spec.2.2.2.1
  have hx := hcell gn hg
  generalize xs[gn] = x at *
  have hc := cell_blk hb ho
  have hc1 := cell_blk hb ho1
  have hf := free_blk hb o
  have hf1 := free_blk hb (o + 1)
  have HB := Aside0.mk hb
  have HR := Aside0.mk hR
  have HO := Aside0.mk ho
  have HO1 := Aside0.mk ho1
  have HC := Aside0.mk hcut
  have hgi : (gn : Int) < (xs.length : Int) := by omega
  clear hb hR ho ho1 hcell hcut
  go_enter Try.func140, Try.ntmps140
  go_wp2
  go_region
  go_wp2_with fail
  generalize hW : (w.setCell ⟨G, o + 1, none⟩ (.int .i64 ((gn : Int) + 1))).drew = W
  have hB1 : W.heap[G]? = some (.cells (cs.setIfInBounds (o + 1) (.int .i64 ((gn + 1 : Nat) : Int))) 139 (0, 0)) := by
    rw [← hW]
    exact set_blk (w := w) HB.out (o + 1) _
  have hK1 : Chg (fun k => k = G) w W := by
    rw [← hW]
    exact ((Chg.refl (fun k => k = G) w).set_ (p := ⟨G, o + 1, none⟩) (.inl rfl) _).drew
  have hs0 : (cs.setIfInBounds (o + 1) (.int .i64 ((gn + 1 : Nat) : Int)))[o]? = some (.slice (some ⟨g, 0, none⟩) xs.length cap) := by
    rw [Array.getElem?_setIfInBounds, if_neg (by omega)]; exact HO.out
  have hs1 : (cs.setIfInBounds (o + 1) (.int .i64 ((gn + 1 : Nat) : Int)))[o + 1]? = some (.int .i64 ((gn + 1 : Nat) : Int)) := by
    rw [Array.getElem?_setIfInBounds, if_pos rfl, if_pos hsz]
  refine (empty_calls G o _ _ _ cap (gn + 1) W hB1 hs0 hs1).mono ?_
  rintro e w1 ⟨rfl, ⟨⟨q, rfl⟩⟩⟩
  have hB2 : (W.drewN q).heap[G]? = some (.cells (cs.setIfInBounds (o + 1) (.int .i64 ((gn + 1 : Nat) : Int))) 139 (0, 0)) := by rw [show (W.drewN q).heap = W.heap from drewN_heap' W q]; exact hB1
  have hK2 : Chg (fun k => k = G) w (W.drewN q) := hK1.then_ (Chg.of_below ((⟨⟨q, rfl⟩⟩ : Drawn0 W (W.drewN q)).below) (fun _ => False)) (fun _ h => h.elim)
  clear hW hc hc1 hf hf1 hK1 hB1 hx
  generalize W.drewN q = V at *
  have hRV : RI V base (.slice (some ⟨g, 0, none⟩) xs.length cap) xs := HR.out.step (fun k hk hlt => hK2.block k hlt (fun e => hne (by injection hk with hk; rw [← e, ← hk])))
  have hCV : RI V base (.slice (some ⟨g, 0, none⟩) 0 cap) [] := HC.out.step (fun k hk hlt => hK2.block k hlt (fun e => hne (by injection hk with hk; rw [← e, ← hk])))
  have hc := cell_blk hB2 hs0
  have hc1 := cell_blk hB2 hs1
  have hf := free_blk hB2 o
  have hf1 := free_blk hB2 (o + 1)
  have HBV := Aside0.mk hB2
  have HRV := Aside0.mk hRV
  have HCV := Aside0.mk hCV
  have HK := Aside0.mk hK2
  clear hs0 hs1 hB2 hRV hCV hK2
  by_cases hend : gn + 1 = xs.length
  · have hd : decide (gn + 1 = xs.length) = true := decide_eq_true hend
    have HE := Aside0.mk hend
    rw [hd]
    clear hend hd
    go_wp2
    go_ret
    refine ⟨rfl, .slice (some ⟨g, 0, none⟩) 0 cap, 0, [], ?_, ?_, rfl, ?_, .inr ⟨rfl, rfl⟩, Nat.zero_le _, ?_⟩
    · have e1 : ∀ (c : Array Value) (a b : Value), ((cs.setIfInBounds (o + 1) a).setIfInBounds o b).setIfInBounds (o + 1) (.int .i64 0) = (cs.setIfInBounds o b).setIfInBounds (o + 1) (.int .i64 0) := by
        intro c a b
        apply Array.ext_getElem?
        intro t
        simp only [Array.getElem?_setIfInBounds, Array.size_setIfInBounds]
        by_cases h1 : o + 1 = t
        · simp [h1]
        · by_cases h2 : o = t
          · simp [h1, h2]
          · simp [h1, h2]
      have h2 := set_blk (set_blk HBV.out o (.slice (some ⟨g, 0, none⟩) 0 cap)) (o + 1) (.int .i64 0)
      rw [e1 cs] at h2
      exact h2
    · exact HCV.out.step (fun k hk hlt => by
        rw [Below.heap_setCell _ _ _ _ (fun e => hne (by injection hk with hk; exact hk.trans e)), Below.heap_setCell _ _ _ _ (fun e => hne (by injection hk with hk; exact hk.trans e))])
    · rw [HE.out]; simp
    · exact (HK.out.set_ (p := ⟨G, o, none⟩) (.inl rfl) _).set_ (p := ⟨G, o + 1, none⟩) (.inl rfl) _
  · have hd : decide (gn + 1 = xs.length) = false := decide_eq_false hend
    rw [hd]
    have HE := Aside0.mk hend
    clear hend hd
    go_wp2
    go_ret
    refine ⟨rfl, .slice (some ⟨g, 0, none⟩) xs.length cap, gn + 1, xs, ?_, HRV.out, rfl, rfl, .inl (by have := HE.out; omega), Nat.le_refl _, HK.out⟩
    have e1 : (cs.setIfInBounds o (.slice (some ⟨g, 0, none⟩) xs.length cap)) = cs := by
      apply Array.ext_getElem?
      intro t
      rw [Array.getElem?_setIfInBounds]
      by_cases h2 : o = t
      · subst h2; rw [if_pos rfl, if_pos (by omega), HO.out]
      · rw [if_neg h2]
    rw [e1]
    exact HBV.out
end Go.Proofs.Ytgcfcemgeppkmaa.P
