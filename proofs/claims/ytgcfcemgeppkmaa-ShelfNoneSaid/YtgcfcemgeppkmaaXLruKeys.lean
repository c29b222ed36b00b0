/-
  lru.Clear, lru.New, lru.Keys. lru.Use, whatever the key is.
-/
import Derived.Test.YtgcfcemgeppkmaaXLruEvict
namespace Go.Proofs.Ytgcfcemgeppkmaa.P
open Go.RowKit Go.Proofs.YtgcfcemgeppkmaaW.PrintWords Go.Proofs.YtgcfcemgeppkmaaW.PrintLast Go.Proofs.YtgcfcemgeppkmaaW.PrintMore
open Go.Proofs.Ytgcfcemgeppkmaa.Ord
set_option linter.unusedVariables false
set_option linter.unusedSimpArgs false
variable {w w' : World} {lb base : Nat} {k : Int} {sv : Value} {mb : Nat} {seats : List Seat} {newest oldest : Int} {D : DataW Unit} {ord : List Nat}
theorem LruOk.empty {w : World} {lb base mb : Nat} {k : Int} (hb : w.heap[lb]? = some (.cells #[.int .i64 k, .slice none 0 0, .map (some mb), .int .i64 (-1), .int .i64 (-1)] 150 (0, 0))) (hm : MapO w mb 0 (.map [])) (h1 : base ≤ lb) (h2 : base ≤ mb) (hk : 1 ≤ k) : LruOk w lb base k (.slice none 0 0) mb [] (-1) (-1) (.map []) [] where
  m := ⟨hb, .inl ⟨rfl, rfl⟩, hm.fit, h1, h2⟩
  link := Linked.empty _ _
  all i := by simp
  keys := ⟨fun i hi => absurd hi (by simp), fun i hi => absurd hi (by simp), fun a b ha hb hh => absurd hh (by simp [Maps.has]), fun i j hi => absurd hi (by simp), rfl⟩
  k1 := hk
  room := by simp; omega
set_option maxRecDepth 100000 in
set_option maxHeartbeats 2000000 in
theorem clear_calls {v1 v2 v3 v4 : Value} (hb : w.heap[lb]? = some (.cells #[.int .i64 k, v1, v2, v3, v4] 150 (0, 0))) (hB : base ≤ lb) (hk : 1 ≤ k) :
    Calls Try.prog 101 #[.pointer (some ⟨lb, 0, none⟩)] w fun e w' => e = .returned (.tuple #[]) ∧ ∃ mb, w.heap.size ≤ mb ∧ LruOk w' lb base k (.slice none 0 0) mb [] (-1) (-1) (.map []) [] ∧ Chg (fun b => b = lb) w w' := by
  have hmm := @run_makeMap Try.prog
  obtain ⟨w1, hw1⟩ : ∃ w1, w1 = w.alloc (.map #[] 0) := ⟨_, rfl⟩
  have hb1 : w1.heap[lb]? = some (.cells #[.int .i64 k, v1, v2, v3, v4] 150 (0, 0)) := by rw [hw1]; exact blk_alloc hb _
  have hM : MapO w1 w.heap.size 0 (.map []) := by rw [hw1]; exact World.ownsMap_made _ _ _ _
  have hlt := blk_lt hb
  have HB := Aside0.mk hb
  have HB1 := Aside0.mk hb1
  have HM := Aside0.mk hM
  have HLT := Aside0.mk hlt
  have HW := Aside0.mk hw1
  have c1 := cell_blk (j := 1) (u := v1) hb1 rfl
  have c2 := cell_blk (j := 2) (u := v2) hb1 rfl
  have c3 := cell_blk (j := 3) (u := v3) hb1 rfl
  have c4 := cell_blk (j := 4) (u := v4) hb1 rfl
  have f1 := free_blk hb1 1
  have f2 := free_blk hb1 2
  have f3 := free_blk hb1 3
  have f4 := free_blk hb1 4
  rw [hw1] at c1 c2 c3 c4 f1 f2 f3 f4
  clear hb hb1 hM hlt hw1
  go_enter Try.func101, Try.ntmps101
  go_wp2
  go_end0
  rw [← HW.out]
  have h5 := set_blk (set_blk (set_blk (set_blk HB1.out 1 (.slice none 0 0)) 2 (.map (some w.heap.size))) 3 (.int .i64 (-1))) 4 (.int .i64 (-1))
  refine ⟨rfl, w.heap.size, Nat.le_refl _, LruOk.empty h5 ?_ hB (by have := HLT.out; omega) hk, ?_⟩
  · have hne : ∀ p : Addr, p.block = lb → w.heap.size ≠ p.block := fun p hp e => by rw [hp] at e; have := HLT.out; omega
    refine HM.out.heap ?_
    rw [Below.heap_setCell _ _ _ _ (hne _ rfl), Below.heap_setCell _ _ _ _ (hne _ rfl), Below.heap_setCell _ _ _ _ (hne _ rfl), Below.heap_setCell _ _ _ _ (hne _ rfl)]
  · rw [HW.out]
    exact (((((Chg.refl (fun b => b = lb) w).alloc _).set_ (.inl rfl) _).set_ (.inl rfl) _).set_ (.inl rfl) _).set_ (.inl rfl) _
set_option maxRecDepth 100000 in
set_option maxHeartbeats 2000000 in
theorem new_calls (k : Int) (hk : 1 ≤ k) (w : World) :
    Calls Try.prog 97 #[.int .i64 k] w fun e w' => ∃ lb mb, w.heap.size ≤ lb ∧ e = .returned (.pointer (some ⟨lb, 0, none⟩)) ∧ LruOk w' lb w.heap.size k (.slice none 0 0) mb [] (-1) (-1) (.map []) [] ∧ Below w.heap.size w w' := by
  have d1 : decide (k < 1) = false := decide_eq_false (by omega)
  go_enter Try.func97, Try.ntmps97
  go_wp2_with (first
    | ((with_reducible refine gate_dst (N := 8) rfl ?_); refine box_event ?hg (N := 8) ?hd (cs := #[.int .i64 k, .slice none 0 0, .map none, .int .i64 0, .int .i64 0]) (t := 150) ?hr ?_; (case hd => rfl); (case hg => rfl); (case hr => first | (go_simp; done) | (go_simp; rfl)); intro gb hg w1 hbox hb; have HB1 := Aside0.mk hb; have HX := Aside0.mk hbox; have HG := Aside0.mk hg; clear hb hbox hg)
    | (go_at_call 101; refine (clear_calls (base := w.heap.size) HX.out (by rw [HG.out]; exact Nat.le_refl _) hk).mono ?_; rintro e w2 ⟨rfl, mb, hmb, hok, hc⟩; have HOK := Aside0.mk hok; have HC := Aside0.mk hc; clear hok hc))
  go_ret
  refine ⟨gb, mb, by rw [HG.out]; exact Nat.le_refl _, rfl, HOK.out, ?_⟩
  exact ((Chg.of_below HB1.out (fun b => w.heap.size ≤ b)).then_ HC.out (fun c hc => .inl (by rw [hc, HG.out]; exact Nat.le_refl _))).below (fun k hk => hk) (Nat.le_refl _)
abbrev kKey : Kd (Int × Int) := Kd.pair (Kd.int .i64) (Kd.int .i64)
theorem kKey_mkM (w : World) (b : Nat) (ok : Nat → Prop) (x : Int × Int) : kKey.M w b ok x [.int .i64 x.1, .int .i64 x.2] := ⟨[.int .i64 x.1], [.int .i64 x.2], rfl, rfl, rfl⟩
theorem infoKey : (Try.prog.info? 86).map (fun i => (i.zero, i.size, i.bytes)) = some (some (.agg #[.int .i64 0, .int .i64 0]), 2, 16) := by kernel_rfl
theorem LruOk.below (h : LruOk w lb base k sv mb seats newest oldest D ord) (hb : Below w.heap.size w w') : LruOk w' lb base k sv mb seats newest oldest D ord :=
  { h with m := h.m.chg (Chg.of_below hb (fun _ => False)) (fun _ _ h => h) }
theorem nodup_len {n : Nat} : ∀ (l : List Nat), l.Nodup → (∀ x, x ∈ l → x < n) → l.length ≤ n := by
  induction n with
  | zero =>
    intro l h hl
    cases l with
    | nil => exact Nat.le_refl _
    | cons x r => exact absurd (hl x (by simp)) (by omega)
  | succ n ih =>
    intro l h hl
    by_cases hm : n ∈ l
    · have h1 := ih (l.erase n) (h.erase n) (fun x hx => by
        obtain ⟨h1, h2⟩ := mem_erase' h hx
        have := hl x h2
        omega)
      rw [List.length_erase_of_mem hm] at h1
      omega
    · have h1 := ih l h (fun x hx => by
        have := hl x hx
        have : x ≠ n := fun e => hm (e ▸ hx)
        omega)
      omega
set_option maxRecDepth 100000 in
set_option maxHeartbeats 2000000 in
theorem keys_calls (h : LruOk w lb base k sv mb seats newest oldest D ord) (hsm : seats.length ≤ 1000000) :
    Calls Try.prog 103 #[.pointer (some ⟨lb, 0, none⟩)] w fun e w' => ∃ v, e = .returned v ∧ Kd.R kKey 86 w' w.heap.size (fun _ => True) v (ord.map (keyF seats)) ∧ Below w.heap.size w w' := by
  have HM := Aside0.mk h
  obtain ⟨c0, c1, c2, c3, c4⟩ := h.m.cells
  have hhead := h.link.head
  have hol : ord.length ≤ 1000000 := Nat.le_trans (nodup_len _ h.link.nodup (fun x hx => (h.all x).1 hx)) hsm
  have HOL := Aside0.mk hol
  have HHD := Aside0.mk hhead
  clear h hhead hol
  go_enter Try.func103, Try.ntmps103
  go_wp2_with fail
  go_loopg [3, 4] ord.length (fun gg v3 v4 wr => ∃ (pre suf : List Nat), v4 = .int .i64 (headI suf) ∧ suf.length ≤ gg ∧ Aside0 (ord = pre ++ suf) ∧ Aside0 (Kd.R kKey 86 wr w.heap.size (fun _ => True) v3 (pre.map (keyF seats))) ∧ Aside0 (Below w.heap.size w wr))
  case atStart => exact ⟨[], ord, by rw [HHD.out], Nat.le_refl _, ⟨rfl⟩, ⟨Kd.R_nil _ _ _ _ _⟩, ⟨Below.refl _ _⟩⟩
  case round =>
    obtain ⟨pre, suf, rfl, hgg, HE, HO, HB⟩ := hrel
    clear c0 c1 c2 c3 c4
    cases suf with
    | nil =>
      simp only [headI]
      go_wp2_with fail
      go_ret
      refine ⟨_, rfl, ?_, HB.out⟩
      have := HO.out
      rw [HE.out, List.append_nil]
      exact this
    | cons x r =>
      simp only [headI]
      have hx : x ∈ ord := by rw [HE.out]; simp
      have hxl := (HM.out.all x).1 hx
      have hnx : odF seats x = headI r := by
        rw [HM.out.link.old x hx, HE.out]
        have hn := HM.out.link.nodup
        rw [HE.out] at hn
        obtain ⟨n1, n2, n3⟩ := List.nodup_append.1 hn
        exact nextOf_at _ (fun e => n3 x e x (by simp) rfl)
      obtain ⟨g, cap, hsv, hrow, s0, s1, s2, s3, sf⟩ := HM.out.m.seats.cells hxl
      obtain ⟨c0, c1, c2, c3, c4⟩ := HM.out.m.cells
      rw [hsv] at c1
      have hk : keyF seats x = (seats[x].ka, seats[x].kb) := keyF_at hxl
      rw [← odF_at hxl, hnx] at s3
      obtain ⟨ka, hka⟩ : ∃ ka, ka = seats[x].ka := ⟨_, rfl⟩
      obtain ⟨kb, hkb⟩ : ∃ kb, kb = seats[x].kb := ⟨_, rfl⟩
      rw [← hka, ← hkb] at hk
      rw [← hka] at s0
      rw [← hkb] at s1
      have HK := Aside0.mk hk
      have hxi : (x : Int) < (seats.length : Int) := by omega
      have hn1 : ((x : Int) != -1) = true := bne_iff_ne.2 (by omega)
      have HN := Aside0.mk hnx
      have hpl : pre.length ≤ 1000000 := by have := HOL.out; rw [HE.out] at this; simp at this; omega
      have HPL := Aside0.mk hpl
      have S3 := Aside0.mk s3
      have C1 := Aside0.mk c1
      have s0 := pw_cell_below HB.out s0
      have s1 := pw_cell_below HB.out s1
      have c1 := pw_cell_below HB.out c1
      obtain ⟨A3, n3, e3⟩ := Kd.R_slice HO.out
      rw [List.length_map] at e3
      subst e3
      clear hx hrow hk hsv sf s2 s3 hnx hpl hka hkb c0 c2 c3 c4
      go_wp2_with (first
        | ((with_reducible refine gate_dst (N := 30) rfl ?_); refine Kd.R_lit kKey wr.heap.size 86 ?hg (N := 30) ?hd (xs := [(ka, kb)]) (inner := [.int .i64 ka, .int .i64 kb]) (ok := fun _ => True) (okp := fun _ => True) ?hr ?hp (fun _ hk => hk) trivial (Below.refl _ _) (Nat.le_refl _) (by simp) ?_; (case hd => rfl); (case hg => rfl); (case hr => first | (go_simp; done) | (go_simp; rfl)); (case hp => exact (Reps.c2 (kKey_mkM _ _ _ (ka, kb)) (Reps.none _ _))); intro v5 w5 ho hb _ _; obtain ⟨A5, n5, rfl, _, hC⟩ := Kd.R_reads ho; have HB5 := Aside0.mk (below_step HB.out hb); have HO5 := Aside0.mk (Kd.R_below HO.out hb); have HL5 := Aside0.mk hC; clear ho hb hC)
        | ((with_reducible refine gate_builtin (b := .append) (xs := #[.tmp 21, .tmp 30]) rfl ?_); at_builtin; go_loud (refine Kd.R_append_rows kKey (w0 := w) w.heap.size rfl (.tmp 21) (.tmp 30) 84 86 (.agg #[.int .i64 0, .int .i64 0]) 16 rfl Try.underlying84 infoKey rfl (by decide) (by omega) _ (pre.map (keyF seats)) [(ka, kb)] _ _ _ (fun _ => True) (fun _ => False) rfl rfl HO5.out HL5.out (fun _ _ h => h) (fun _ h => h.elim) (fun _ _ => trivial) HB5.out HB5.out.size (by have := HPL.out; simp only [List.length_map, List.length_cons, List.length_nil]; omega) ?_); intro v6 w6 ho hb hg hat; have HB6 := Aside0.mk hb; have HO6 := Aside0.mk ho; clear ho hb hg hat; have z3 := pw_cell_below HB6.out S3.out; have z1 := pw_cell_below HB6.out C1.out))
      go_roundg r.length
      case measure => simp only [List.length_cons] at hgg; omega
      case rel =>
        refine ⟨pre ++ [x], r, rfl, Nat.le_refl _, ⟨by rw [HE.out]; simp⟩, ⟨?_⟩, HB6⟩
        have := HO6.out
        rw [List.map_append, List.map_cons, List.map_nil, HK.out]
        exact this
end Go.Proofs.Ytgcfcemgeppkmaa.P
namespace Go.Proofs.Ytgcfcemgeppkmaa.P
open Go.RowKit Go.Proofs.YtgcfcemgeppkmaaW.PrintWords Go.Proofs.YtgcfcemgeppkmaaW.PrintLast Go.Proofs.YtgcfcemgeppkmaaW.PrintMore
open Go.Proofs.Ytgcfcemgeppkmaa.Ord
set_option linter.unusedVariables false
set_option linter.unusedSimpArgs false
variable {w w' : World} {lb base : Nat} {k : Int} {sv : Value} {mb : Nat} {seats : List Seat} {newest oldest : Int} {D : DataW Unit} {ord : List Nat}
theorem use_calls (h : LruOk w lb base k sv mb seats newest oldest D ord) {a b : Int} (ha : W64 a) (hb : W64 b) (hsm : seats.length ≤ 1000000) :
    Calls Try.prog 98 #[.pointer (some ⟨lb, 0, none⟩), .int .i64 a, .int .i64 b] w fun e w' => ∃ (slot : Nat) (had out : Bool), e = .returned (.tuple #[.int .i64 slot, .bool had, .bool out]) ∧ ∃ sv' seats' nw' od' D' ord', LruOk w' lb base k sv' mb seats' nw' od' D' ord' ∧ Used seats.length k (keyF seats) ord a b slot had out seats'.length (keyF seats') ord' ∧ Chg (LruS lb mb sv) w w' ∧ (∀ c, LruS lb mb sv' c → LruS lb mb sv c ∨ w.heap.size ≤ c) := by
  by_cases hex : ∃ i, i < seats.length ∧ keyF seats i = (a, b)
  · obtain ⟨i, hi, hab⟩ := hex
    refine (use_hit h hi hab hsm).mono ?_
    rintro e w' ⟨rfl, s', nw', od', D', hok, hl, hk, hc⟩
    refine ⟨i, true, false, rfl, sv, s', nw', od', D', _, hok, ⟨fun _ => ⟨hi, hab, rfl, hl, hk, rfl⟩, fun h => by simp at h, fun h => by simp at h, fun h => by simp at h⟩, hc, fun c hc => .inl hc⟩
  · have hn : ∀ i, i < seats.length → keyF seats i ≠ (a, b) := fun i hi e => hex ⟨i, hi, e⟩
    by_cases hk : (seats.length : Int) < k
    · refine (use_fresh h ha hb hn hk hsm).mono ?_
      rintro e w' ⟨rfl, sv', s', nw', od', D', hok, hl, hkey, hc, ho⟩
      refine ⟨seats.length, false, false, rfl, sv', s', nw', od', D', _, hok, ⟨fun h => by simp at h, fun _ => ⟨hn, hkey⟩, fun _ _ => ⟨rfl, rfl, hl, rfl⟩, fun _ h => absurd hk h⟩, hc, ho⟩
    · refine (use_evict h ha hb hn hk hsm).mono ?_
      rintro e w' ⟨slot, hla, hsl, rfl, s', nw', od', D', hok, hl, hkey, hc⟩
      refine ⟨slot, false, true, rfl, sv, s', nw', od', D', _, hok, ⟨fun h => by simp at h, fun _ => ⟨hn, hkey⟩, fun _ h => absurd h hk, fun _ _ => ⟨hsl, hla, rfl, hl, rfl⟩⟩, hc, fun c hc => .inl hc⟩
end Go.Proofs.Ytgcfcemgeppkmaa.P
