/-
  lru in memory: seats in a row, a map from keys to seats, an order in two links.
-/
import Derived.Test.YtgcfcemgeppkmaaXMay
import Derived.Test.YtgcfcemgeppkmaaXSort
import Derived.Test.YtgcfcemgeppkmaaXOrd
import Derived.Maps.OwnSet
import Derived.DeepKeys4
import Derived.Deep.QuietTactic
import Derived.BigQuiet
import Derived.Deep.DeepCutAuto
import Derived.Deep.LoopGhost
import Derived.Deep.CutBlock
import Derived.Deep.RegionHeld3
import Derived.Outline
namespace Go.Proofs.Ytgcfcemgeppkmaa.P
open Go.RowKit Go.Proofs.YtgcfcemgeppkmaaW.PrintWords Go.Proofs.YtgcfcemgeppkmaaW.PrintLast Go.Proofs.YtgcfcemgeppkmaaW.PrintMore
open Go.Proofs.Ytgcfcemgeppkmaa.Ord
set_option linter.unusedVariables false
set_option linter.unusedSimpArgs false
structure Seat where
  ka : Int
  kb : Int
  newer : Int
  old : Int
instance : Inhabited Seat := ⟨⟨0, 0, 0, 0⟩⟩
def encE (x : Seat) : List Value := [.int .i64 x.ka, .int .i64 x.kb, .int .i64 x.newer, .int .i64 x.old]
theorem encE_len (x : Seat) : (encE x).length = 4 := rfl
theorem RowIn.store1 {α : Type} [Inhabited α] {enc : α → List Value} {k e B cap : Nat} {d : Array α} {w : World} (h : RowIn enc k e B cap d w) {i : Nat} (hi : i < d.size) {c : Nat} (hc : c < k) (u : Value) (x : α) (hl : (enc d[i]!).length = k) (hx : enc x = (enc d[i]!).set c u) : RowIn enc k e B cap (d.setIfInBounds i x) (w.setCell ⟨B, i * k + c, none⟩ u) := by
  obtain ⟨cs, h1, h2, h3, h4⟩ := h
  refine ⟨_, set_blk h1 (i * k + c) u, by simpa using h2, by simpa using h3, fun j hj c' hc' => ?_⟩
  have hj' : j < d.size := by simpa using hj
  have hlt : i * k + c < cs.size := by
    have : (i + 1) * k ≤ cap * k := Nat.mul_le_mul_right _ (by omega)
    rw [Nat.add_mul, Nat.one_mul] at this
    omega
  rw [Array.getElem?_setIfInBounds]
  by_cases e1 : j = i
  · subst e1
    rw [Go.Sort.getElem!_set_same _ _ _ hj', hx, List.getElem?_set]
    by_cases e2 : c = c'
    · subst e2
      rw [if_pos rfl, if_pos hlt, if_pos rfl, if_pos (by omega)]
    · rw [if_neg (by omega), if_neg e2, h4 j hj' c' hc']
  · have hne : i * k + c ≠ j * k + c' := by
      intro e
      have a1 := idx_div (j := i) hc
      have a2 := idx_div (j := j) hc'
      rw [e] at a1
      exact e1 (a2.1.symm.trans a1.1)
    rw [if_neg hne, Go.Sort.getElem!_set_other _ _ _ _ e1, h4 j hj' c' hc']
/-- The seats' row: none yet, or a block of their own. -/
def SeatsM (w : World) (base : Nat) (sv : Value) (seats : List Seat) : Prop :=
  (sv = .slice none 0 0 ∧ seats = []) ∨ ∃ g cap, sv = .slice (some ⟨g, 0, none⟩) seats.length cap ∧ base ≤ g ∧ cap ≤ maxLen ∧ RowIn encE 4 153 g cap seats.toArray w
theorem SeatsM.slice {w : World} {base : Nat} {sv : Value} {seats : List Seat} (h : SeatsM w base sv seats) : ∃ A cap, sv = .slice A seats.length cap := by
  rcases h with ⟨rfl, rfl⟩ | ⟨g, cap, rfl, _⟩
  · exact ⟨none, 0, rfl⟩
  · exact ⟨_, _, rfl⟩
theorem SeatsM.lt {w : World} {base : Nat} {sv : Value} {seats : List Seat} (h : SeatsM w base sv seats) {b : Nat} (hb : sv.ownBlock = some b) : base ≤ b ∧ b < w.heap.size ∧ ∃ cs, w.heap[b]? = some (.cells cs 153 (0, 0)) := by
  rcases h with ⟨rfl, rfl⟩ | ⟨g, cap, rfl, h1, _, h2⟩
  · simp [Value.ownBlock] at hb
  · have : g = b := by simpa [Value.ownBlock] using hb
    subst this
    obtain ⟨cs, h3, _⟩ := h2
    exact ⟨h1, blk_lt h3, cs, h3⟩
theorem SeatsM.heap {w w' : World} {base : Nat} {sv : Value} {seats : List Seat} (h : SeatsM w base sv seats) (hb : ∀ b, sv.ownBlock = some b → w'.heap[b]? = w.heap[b]?) : SeatsM w' base sv seats := by
  rcases h with h | ⟨g, cap, rfl, h1, h2, h3⟩
  · exact .inl h
  · exact .inr ⟨g, cap, rfl, h1, h2, RowIn.heap h3 (hb g (by simp [Value.ownBlock]))⟩
theorem SeatsM.cells {w : World} {base : Nat} {sv : Value} {seats : List Seat} (h : SeatsM w base sv seats) {i : Nat} (hi : i < seats.length) :
    ∃ g cap, sv = .slice (some ⟨g, 0, none⟩) seats.length cap ∧ RowIn encE 4 153 g cap seats.toArray w ∧ w.cell? ⟨g, i * 4, none⟩ = some (.int .i64 seats[i].ka) ∧ w.cell? ⟨g, i * 4 + 1, none⟩ = some (.int .i64 seats[i].kb) ∧ w.cell? ⟨g, i * 4 + 2, none⟩ = some (.int .i64 seats[i].newer) ∧ w.cell? ⟨g, i * 4 + 3, none⟩ = some (.int .i64 seats[i].old) ∧ ∀ o, w.frozen? ⟨g, o, none⟩ = false := by
  rcases h with ⟨_, rfl⟩ | ⟨g, cap, rfl, h1, h2, h3⟩
  · simp at hi
  · have hi' : i < seats.toArray.size := by simpa using hi
    have e : seats.toArray[i]! = seats[i] := by rw [getElem!_pos seats.toArray i hi']; simp
    have hc : ∀ c, c < 4 → ∀ u, (encE seats[i])[c]? = some u → w.cell? ⟨g, i * 4 + c, none⟩ = some u := fun c hc u hu => RowIn.cell h3 hi' hc (by rw [e]; exact hu)
    exact ⟨g, cap, rfl, h3, hc 0 (by omega) _ rfl, hc 1 (by omega) _ rfl, hc 2 (by omega) _ rfl, hc 3 (by omega) _ rfl, fun o => RowIn.free h3 o⟩
theorem SeatsM.put {w : World} {base g cap : Nat} {seats : List Seat} (h : SeatsM w base (.slice (some ⟨g, 0, none⟩) seats.length cap) seats) {i : Nat} (hi : i < seats.length) {c : Nat} (hc : c < 4) (u : Value) (x : Seat) (hx : encE x = (encE seats[i]).set c u) :
    SeatsM (w.setCell ⟨g, i * 4 + c, none⟩ u) base (.slice (some ⟨g, 0, none⟩) (seats.set i x).length cap) (seats.set i x) := by
  rcases h with ⟨h, _⟩ | ⟨g', cap', e0, h1, h2, h3⟩
  · injection h with h _ _; cases h
  · injection e0 with e1 _ e2
    injection e1 with e1
    injection e1 with e1 _ _
    subst e1
    subst e2
    have hi' : i < seats.toArray.size := by simpa using hi
    have e : seats.toArray[i]! = seats[i] := by rw [getElem!_pos seats.toArray i hi']; simp
    refine .inr ⟨g, cap, rfl, h1, h2, ?_⟩
    have := RowIn.store1 h3 hi' hc u x (by rw [e]; rfl) (by rw [e]; exact hx)
    rw [List.setIfInBounds_toArray] at this
    exact this
/-! ### the keys of the map -/
abbrev mapT : TypeId := 148
abbrev keyT : TypeId := 86
theorem lruLaw : Maps.Keyed Try.prog keyT := Maps.Keyed.of_law (deep_law_laid (by kernel_rfl) (m := 2) (by omega) (of_decide_eq_true (by kernel_rfl)) (by kernel_rfl) (by kernel_rfl))
def kl (a b : Int) : Lit := .string (keyBytes [.int .i64 a, .int .i64 b])
def W64 (a : Int) : Prop := -9223372036854775808 ≤ a ∧ a ≤ 9223372036854775807
theorem wf64 {a : Int} (h : W64 a) : (Lit.int .i64 a).wf = true := WalkArith.wf_i64 h
theorem key_some {a b : Int} (ha : W64 a) (hb : W64 b) : keyOf Try.prog keyT (.agg #[.int .i64 a, .int .i64 b]) = some (kl a b) := by
  have h1 := wf64 ha
  have h2 := wf64 hb
  have hk : Try.prog.keyType keyT = true := by kernel_rfl
  obtain ⟨n, hn⟩ : ∃ n, Try.prog.types.size = n + 1 := ⟨Try.prog.types.size - 1, by kernel_rfl⟩
  have hc : Try.prog.cellsOf keyT = 2 := by kernel_rfl
  have hc3 : Try.prog.cellsOf 3 = 1 := by kernel_rfl
  unfold keyOf
  rw [Try.underlying86]
  simp only [hk, hn, Bool.true_and]
  rw [if_pos (by simp [Value.formed, Try.underlying86, hc])]
  have e3 : ∀ x : Int, (Lit.int .i64 x).wf = true → Try.prog.keyLits (n + 1) 3 [.int .i64 x] = some [.int .i64 x] := fun x hx => by
    unfold Program.keyLits
    rw [Try.underlying3]
    simp [hx]
  have e : Try.prog.keyLits (n + 1 + 1) keyT [.int .i64 a, .int .i64 b] = some [.int .i64 a, .int .i64 b] := by
    unfold Program.keyLits
    rw [Try.underlying86]
    simp [hc, hc3, List.range_succ, e3 a h1, e3 b h2]
  rw [show (Value.agg #[Value.int .i64 a, Value.int .i64 b]).cells.toList = [.int .i64 a, .int .i64 b] from rfl, e]
  rfl
theorem kl_inj {a b a' b' : Int} (ha : W64 a) (hb : W64 b) (ha' : W64 a') (hb' : W64 b') (h : kl a b = kl a' b') : a = a' ∧ b = b' := by
  have := lruLaw.inj (key_some ha hb) (by rw [h]; exact key_some ha' hb')
  simp at this
  exact this
theorem kl_key {a b : Int} (ha : W64 a) (hb : W64 b) : WideAt.IsKeyLit (kl a b) := lruLaw.key (key_some ha hb)
/-! ### the Lru -/
abbrev MapO (w : World) (mb n : Nat) (D : DataW Unit) : Prop := w.ownsMap Try.prog keyT (plainElem Try.prog 3) mb n D
/-- A map may be said to have as many entries as it has. -/
theorem MapO.fit {w : World} {mb n : Nat} {D : DataW Unit} (h : MapO w mb n D) : MapO w mb (Maps.size D) D := by
  obtain ⟨es, clock, h1, h2, h3, h4⟩ := h
  exact ⟨es, clock, h1, h2, by rw [h4, Maps.size_eq, length_sorted]; simp, h4⟩
theorem MapO.heap {w w' : World} {mb n : Nat} {D : DataW Unit} (h : MapO w mb n D) (hb : w'.heap[mb]? = w.heap[mb]?) : MapO w' mb n D := by
  obtain ⟨es, clock, h1, h2⟩ := h
  exact ⟨es, clock, hb.trans h1, h2⟩
structure LruM (w : World) (lb base : Nat) (k : Int) (sv : Value) (mb : Nat) (seats : List Seat) (newest oldest : Int) (D : DataW Unit) : Prop where
  blk : w.heap[lb]? = some (.cells #[.int .i64 k, sv, .map (some mb), .int .i64 newest, .int .i64 oldest] 150 (0, 0))
  seats : SeatsM w base sv seats
  map : MapO w mb (Maps.size D) D
  lbB : base ≤ lb
  mbB : base ≤ mb
variable {w w' : World} {lb base : Nat} {k : Int} {sv : Value} {mb : Nat} {seats : List Seat} {newest oldest : Int} {D : DataW Unit}
theorem LruM.cells (h : LruM w lb base k sv mb seats newest oldest D) : w.cell? ⟨lb, 0, none⟩ = some (.int .i64 k) ∧ w.cell? ⟨lb, 1, none⟩ = some sv ∧ w.cell? ⟨lb, 2, none⟩ = some (.map (some mb)) ∧ w.cell? ⟨lb, 3, none⟩ = some (.int .i64 newest) ∧ w.cell? ⟨lb, 4, none⟩ = some (.int .i64 oldest) :=
  ⟨cell_blk h.blk rfl, cell_blk h.blk rfl, cell_blk h.blk rfl, cell_blk h.blk rfl, cell_blk h.blk rfl⟩
theorem LruM.mbl (h : LruM w lb base k sv mb seats newest oldest D) : mb ≠ lb ∧ sv.ownBlock ≠ some mb ∧ sv.ownBlock ≠ some lb := by
  obtain ⟨es, clock, h1, _⟩ := h.map
  refine ⟨?_, ?_, ?_⟩
  · rintro rfl
    have := h.blk
    rw [h1] at this
    simp at this
  · intro e
    obtain ⟨_, _, cs, hc⟩ := h.seats.lt e
    rw [h1] at hc
    simp at hc
  · intro e
    obtain ⟨_, _, cs, hc⟩ := h.seats.lt e
    rw [h.blk] at hc
    simp at hc
/-- The blocks that an Lru writes. -/
def LruS (lb mb : Nat) (sv : Value) : Nat → Prop := fun b => b = lb ∨ b = mb ∨ sv.ownBlock = some b
theorem LruM.chg {S : Nat → Prop} (h : LruM w lb base k sv mb seats newest oldest D) (hc : Chg S w w') (hS : ∀ b, LruS lb mb sv b → ¬ S b) : LruM w' lb base k sv mb seats newest oldest D where
  blk := hc.blk h.blk (hS lb (.inl rfl))
  seats := h.seats.heap (fun b hb => hc.block b (h.seats.lt hb).2.1 (hS b (.inr (.inr hb))))
  map := h.map.heap (hc.block mb h.map.lt (hS mb (.inr (.inl rfl))))
  lbB := h.lbB
  mbB := h.mbB
def nwF (l : List Seat) : Nat → Int := fun i => (l.getD i default).newer
def odF (l : List Seat) : Nat → Int := fun i => (l.getD i default).old
def keyF (l : List Seat) : Nat → Int × Int := fun i => ((l.getD i default).ka, (l.getD i default).kb)
theorem nwF_at {l : List Seat} {i : Nat} (h : i < l.length) : nwF l i = l[i].newer := by simp [nwF, List.getD_eq_getElem?_getD, List.getElem?_eq_getElem h]
theorem odF_at {l : List Seat} {i : Nat} (h : i < l.length) : odF l i = l[i].old := by simp [odF, List.getD_eq_getElem?_getD, List.getElem?_eq_getElem h]
theorem keyF_at {l : List Seat} {i : Nat} (h : i < l.length) : keyF l i = (l[i].ka, l[i].kb) := by simp [keyF, List.getD_eq_getElem?_getD, List.getElem?_eq_getElem h]
theorem set_nw {l : List Seat} {i : Nat} (h : i < l.length) (v : Int) : nwF (l.set i { l[i] with newer := v }) = updI (nwF l) (i : Int) v ∧ odF (l.set i { l[i] with newer := v }) = odF l ∧ keyF (l.set i { l[i] with newer := v }) = keyF l := by
  refine ⟨funext fun x => ?_, funext fun x => ?_, funext fun x => ?_⟩ <;> simp only [nwF, odF, keyF, updI, List.getD_eq_getElem?_getD, List.getElem?_set] <;> by_cases e : i = x
  all_goals first
    | (subst e; simp [h])
    | (rw [if_neg e]; try rw [if_neg (by omega)])
theorem set_od {l : List Seat} {i : Nat} (h : i < l.length) (v : Int) : odF (l.set i { l[i] with old := v }) = updI (odF l) (i : Int) v ∧ nwF (l.set i { l[i] with old := v }) = nwF l ∧ keyF (l.set i { l[i] with old := v }) = keyF l := by
  refine ⟨funext fun x => ?_, funext fun x => ?_, funext fun x => ?_⟩ <;> simp only [nwF, odF, keyF, updI, List.getD_eq_getElem?_getD, List.getElem?_set] <;> by_cases e : i = x
  all_goals first
    | (subst e; simp [h])
    | (rw [if_neg e]; try rw [if_neg (by omega)])
theorem LruM.setNewest (h : LruM w lb base k sv mb seats newest oldest D) (v : Int) : LruM (w.setCell ⟨lb, 3, none⟩ (.int .i64 v)) lb base k sv mb seats v oldest D where
  blk := set_blk h.blk 3 _
  seats := h.seats.heap (fun b hb => Below.heap_setCell _ _ _ _ (fun e => h.mbl.2.2 (hb.trans (congrArg some e))))
  map := h.map.heap (Below.heap_setCell _ _ _ _ h.mbl.1)
  lbB := h.lbB
  mbB := h.mbB
theorem LruM.setOldest (h : LruM w lb base k sv mb seats newest oldest D) (v : Int) : LruM (w.setCell ⟨lb, 4, none⟩ (.int .i64 v)) lb base k sv mb seats newest v D where
  blk := set_blk h.blk 4 _
  seats := h.seats.heap (fun b hb => Below.heap_setCell _ _ _ _ (fun e => h.mbl.2.2 (hb.trans (congrArg some e))))
  map := h.map.heap (Below.heap_setCell _ _ _ _ h.mbl.1)
  lbB := h.lbB
  mbB := h.mbB
theorem LruM.setSeat (h : LruM w lb base k sv mb seats newest oldest D) {g cap : Nat} (hsv : sv = .slice (some ⟨g, 0, none⟩) seats.length cap) {i : Nat} (hi : i < seats.length) {c : Nat} (hc : c < 4) (u : Value) (x : Seat) (hx : encE x = (encE seats[i]).set c u) :
    LruM (w.setCell ⟨g, i * 4 + c, none⟩ u) lb base k sv mb (seats.set i x) newest oldest D where
  blk := (Below.heap_setCell _ _ _ _ (fun e => h.mbl.2.2 (by rw [hsv, e]; rfl))).trans h.blk
  seats := by
    have := SeatsM.put (hsv ▸ h.seats) hi hc u x hx
    rw [hsv]
    simpa using this
  map := h.map.heap (Below.heap_setCell _ _ _ _ (fun e => h.mbl.2.1 (by rw [hsv, e]; rfl)))
  lbB := h.lbB
  mbB := h.mbB
theorem LruM.alloc (h : LruM w lb base k sv mb seats newest oldest D) (o : Obj) : LruM (w.alloc o) lb base k sv mb seats newest oldest D :=
  h.chg (Chg.of_below (below_alloc (Below.refl _ _) o) (fun _ => False)) (fun _ _ h => h)
theorem LruM.drewN (h : LruM w lb base k sv mb seats newest oldest D) (n : Nat) : LruM (w.drewN n) lb base k sv mb seats newest oldest D :=
  h.chg (Chg.of_below (pw_below_drewN (Below.refl _ _) n) (fun _ => False)) (fun _ _ h => h)
theorem LruM.drew (h : LruM w lb base k sv mb seats newest oldest D) : LruM w.drew lb base k sv mb seats newest oldest D :=
  h.chg (Chg.of_below (below_drew1 (Below.refl _ _)) (fun _ => False)) (fun _ _ h => h)
theorem cfar {w : World} {p a : Addr} (h : a.block ≠ p.block) (v : Value) : (w.setCell p v).cell? a = w.cell? a := World.cell?_setCell_other _ _ _ _ (fun e => h (by rw [e]))
/-- What unlink leaves. -/
structure Unlinked (seats : List Seat) (nw od : Int) (slot : Nat) (seats' : List Seat) (nw' od' : Int) : Prop where
  len : seats'.length = seats.length
  key : keyF seats' = keyF seats
  nwE : nwF seats' = if odF seats slot = -1 then nwF seats else updI (nwF seats) (odF seats slot) (nwF seats slot)
  odE : odF seats' = if nwF seats slot = -1 then odF seats else updI (odF seats) (nwF seats slot) (odF seats slot)
  head : nw' = if nwF seats slot = -1 then odF seats slot else nw
  last : od' = if odF seats slot = -1 then nwF seats slot else od
set_option maxRecDepth 100000 in
set_option maxHeartbeats 2000000 in
theorem unlink_calls (h : LruM w lb base k sv mb seats newest oldest D) (slot : Nat) (hs : slot < seats.length) (hn : nwF seats slot = -1 ∨ ∃ p : Nat, nwF seats slot = (p : Int) ∧ p < seats.length ∧ p ≠ slot) (ho : odF seats slot = -1 ∨ ∃ p : Nat, odF seats slot = (p : Int) ∧ p < seats.length ∧ p ≠ slot) :
    Calls Try.prog 119 #[.pointer (some ⟨lb, 0, none⟩), .int .i64 slot] w fun e w' => e = .returned (.tuple #[]) ∧ ∃ seats' nw' od', LruM w' lb base k sv mb seats' nw' od' D ∧ Unlinked seats newest oldest slot seats' nw' od' ∧ Chg (LruS lb mb sv) w w' := by
  obtain ⟨g, cap, hsv, hrow, s0, s1, s2, s3, sf⟩ := h.seats.cells hs
  obtain ⟨c0, c1, c2, c3, c4⟩ := h.cells
  rw [← nwF_at hs] at s2
  rw [← odF_at hs] at s3
  have HM := Aside0.mk h
  have hb := h.blk
  have fl := fun o => free_blk h.blk o
  have f3 := fl 3
  have f4 := fl 4
  obtain ⟨n, hnn⟩ : ∃ n, n = nwF seats slot := ⟨_, rfl⟩
  obtain ⟨o, hoo⟩ : ∃ o, o = odF seats slot := ⟨_, rfl⟩
  rw [← hnn] at s2 hn
  rw [← hoo] at s3 ho
  have HN := Aside0.mk hnn
  have HO := Aside0.mk hoo
  have HSV := Aside0.mk hsv
  rw [hsv] at c1
  have hsl : (slot : Int) < (seats.length : Int) := by omega
  have HBL := Aside0.mk hb
  clear h hrow hsv hnn hoo fl hb sf
  go_enter Try.func119, Try.ntmps119
  go_upto_region 1 with (fail)
  obtain ⟨gs, hgs⟩ : ∃ gs, gs = w.heap.size := ⟨_, rfl⟩
  obtain ⟨w1, hw1⟩ : ∃ w1, w1 = w.alloc (.cells #[.int .i64 seats[slot].ka, .int .i64 seats[slot].kb, .int .i64 n, .int .i64 o] 153) := ⟨_, rfl⟩
  rw [← hw1, ← hgs]
  have hS1 : w1.heap[gs]? = some (.cells #[.int .i64 seats[slot].ka, .int .i64 seats[slot].kb, .int .i64 n, .int .i64 o] 153 (0, 0)) := by rw [hw1, hgs]; exact heap_alloc_new _ _
  have HS1 := Aside0.mk hS1
  have HM1 : Aside0 (LruM w1 lb base k sv mb seats newest oldest D) := ⟨by rw [hw1]; exact HM.out.alloc _⟩
  have HC1 : Aside0 (Chg (LruS lb mb sv) w w1) := ⟨by rw [hw1]; exact (Chg.refl _ _).alloc _⟩
  have HNE : Aside0 (gs ≠ lb ∧ gs ≠ g) := ⟨by have h1 := blk_lt HM.out.blk; have h2 := (HM.out.seats.lt (b := g) (by rw [HSV.out]; rfl)).2.1; omega⟩
  clear hw1 hgs hS1 c0 c1 c2 c3 c4 f3 f4 s0 s1 s2 s3
  have z2 := cell_blk (j := 2) (u := .int .i64 n) HS1.out rfl
  have z3 := cell_blk (j := 3) (u := .int .i64 o) HS1.out rfl
  obtain ⟨c0, c1, c2, c3, c4⟩ := HM1.out.cells
  rw [HSV.out] at c1
  have f3 := free_blk HM1.out.blk 3
  go_upto_if 14 with (fail)
  go_cut [] (fun wc => ∃ (t1 : List Seat) (nw1 : Int), Aside0 (LruM wc lb base k sv mb t1 nw1 oldest D) ∧ Aside0 (t1.length = seats.length ∧ keyF t1 = keyF seats ∧ nwF t1 = nwF seats ∧ odF t1 = (if n = -1 then odF seats else updI (odF seats) n o) ∧ odF t1 slot = o ∧ nw1 = if n = -1 then o else newest) ∧ Aside0 (wc.heap[gs]? = some (.cells #[.int .i64 seats[slot].ka, .int .i64 seats[slot].kb, .int .i64 n, .int .i64 o] 153 (0, 0))) ∧ Aside0 (Chg (LruS lb mb sv) w wc))
  case first =>
    rcases hn with rfl | ⟨p, rfl, hpl, hps⟩
    · go_wp2
      go_meet
      exact ⟨seats, o, ⟨HM1.out.setNewest o⟩, ⟨rfl, rfl, rfl, by simp, HO.out.symm, by simp⟩, ⟨(Below.heap_setCell _ _ _ _ HNE.out.1).trans HS1.out⟩, ⟨HC1.out.set_ (.inl (.inl rfl)) _⟩⟩
    · obtain ⟨g', cap', e', _, q0, q1, q2, q3, qf⟩ := HM1.out.seats.cells hpl
      obtain ⟨rfl, rfl⟩ : g' = g ∧ cap' = cap := by
        have := e'.symm.trans HSV.out
        injection this with h1 _ h2
        injection h1 with h1
        injection h1 with h1 _ _
        exact ⟨h1, h2⟩
      have hpl2 : (p : Int) < (seats.length : Int) := by omega
      have qf3 := qf (p * 4 + 3)
      have HE' := Aside0.mk e'
      have HNG : Aside0 (lb ≠ g' ∧ gs ≠ g') := ⟨⟨fun e => HM1.out.mbl.2.2 (by rw [HSV.out, e]; rfl), HNE.out.2⟩⟩
      clear e' qf q0 q1 q2
      go_wp2_with fail
      go_region_held3 (fun w' => w'.cell? ⟨lb, 1, none⟩ = some (.slice (some ⟨g', 0, none⟩) seats.length cap') ∧ w'.cell? ⟨gs, 2, none⟩ = some (.int .i64 p) ∧ w'.cell? ⟨gs, 3, none⟩ = some (.int .i64 o)) (first | exact ⟨c1, z2, z3⟩ | exact ⟨(cfar (w := w1) HNG.out.1 _).trans c1, (cfar (w := w1) HNG.out.2 _).trans z2, (cfar (w := w1) HNG.out.2 _).trans z3⟩ | go_keep) (fail)
      go_wp2
      go_meet
      obtain ⟨e1, e2, e3⟩ := set_od hpl o
      exact ⟨seats.set p { seats[p] with old := o }, newest, ⟨(HM1.out.drew).setSeat HE'.out hpl (by omega) _ _ rfl⟩, ⟨by simp, e3, e2, by rw [e1]; simp, by rw [e1, HO.out]; unfold updI; rw [if_neg (by omega)], by simp⟩, ⟨(Below.heap_setCell _ _ _ _ HNE.out.2).trans HS1.out⟩, ⟨(HC1.out.drew).set_ (.inl (.inr (.inr (by rw [HE'.out]; rfl)))) _⟩⟩
  case rest =>
    obtain ⟨t1, nw1, HT, HP, HS2, HC2⟩ := hcut
    have hlt := HP.out.1
    clear c0 c1 c2 c3 c4 z2 z3 f3
    have z2 := cell_blk (j := 2) (u := .int .i64 n) HS2.out rfl
    have z3 := cell_blk (j := 3) (u := .int .i64 o) HS2.out rfl
    obtain ⟨c0, c1, c2, c3, c4⟩ := HT.out.cells
    rw [HSV.out] at c1
    have f4 := free_blk HT.out.blk 4
    have hfin : ∀ (W : World) (t2 : List Seat) (od2 : Int), LruM W lb base k sv mb t2 nw1 od2 D → t2.length = t1.length → keyF t2 = keyF t1 → odF t2 = odF t1 → nwF t2 = (if o = -1 then nwF t1 else updI (nwF t1) o n) → od2 = (if o = -1 then n else oldest) → Chg (LruS lb mb sv) w W → ∃ seats' nw' od', LruM W lb base k sv mb seats' nw' od' D ∧ Unlinked seats newest oldest slot seats' nw' od' ∧ Chg (LruS lb mb sv) w W := by
      intro W t2 od2 h1 h2 h3 h4 h5 h6 h7
      obtain ⟨p1, p2, p3, p4, p5, p6⟩ := HP.out
      refine ⟨t2, nw1, od2, h1, ⟨h2.trans p1, h3.trans p2, ?_, ?_, ?_, ?_⟩, h7⟩
      · rw [h5, p3, ← HN.out, ← HO.out]
      · rw [h4, p4, ← HN.out, ← HO.out]
      · rw [p6, ← HN.out, ← HO.out]
      · rw [h6, ← HN.out, ← HO.out]
    have HFIN := Aside0.mk hfin
    clear hfin
    rcases ho with rfl | ⟨p, rfl, hpl, hps⟩
    · go_wp2
      go_end0
      exact ⟨rfl, HFIN.out _ t1 n (HT.out.setOldest n) rfl rfl rfl (by simp) (by simp) (HC2.out.set_ (.inl (.inl rfl)) _)⟩
    · have hpl1 : p < t1.length := by omega
      obtain ⟨g', cap', e', _, q0, q1, q2, q3, qf⟩ := HT.out.seats.cells hpl1
      rw [hlt] at e'
      obtain ⟨rfl, rfl⟩ : g' = g ∧ cap' = cap := by
        have := e'.symm.trans HSV.out
        injection this with h1 _ h2
        injection h1 with h1
        injection h1 with h1 _ _
        exact ⟨h1, h2⟩
      have hpl2 : (p : Int) < (seats.length : Int) := by omega
      have qf2 := qf (p * 4 + 2)
      have HE' := Aside0.mk e'
      have HNG : Aside0 (lb ≠ g' ∧ gs ≠ g') := ⟨⟨fun e => HT.out.mbl.2.2 (by rw [HSV.out, e]; rfl), HNE.out.2⟩⟩
      clear e' qf q0 q1 q3
      go_wp2_with fail
      go_region_held3 (fun w' => w'.cell? ⟨lb, 1, none⟩ = some (.slice (some ⟨g', 0, none⟩) seats.length cap') ∧ w'.cell? ⟨gs, 2, none⟩ = some (.int .i64 n) ∧ w'.cell? ⟨gs, 3, none⟩ = some (.int .i64 p)) (first | exact ⟨c1, z2, z3⟩ | exact ⟨(cfar (w := wc) HNG.out.1 _).trans c1, (cfar (w := wc) HNG.out.2 _).trans z2, (cfar (w := wc) HNG.out.2 _).trans z3⟩ | go_keep) (fail)
      go_wp2
      go_end0
      obtain ⟨e1, e2, e3⟩ := set_nw hpl1 n
      exact ⟨rfl, HFIN.out _ (t1.set p { t1[p] with newer := n }) oldest ((HT.out.drew).setSeat (by rw [hlt]; exact HE'.out) hpl1 (by omega) _ _ rfl) (by simp) e3 e2 (by rw [e1]; simp) (by simp) ((HC2.out.drew).set_ (.inl (.inr (.inr (by rw [HE'.out]; rfl)))) _)⟩
/-- What link leaves. -/
structure LinkedBy (seats : List Seat) (nw od : Int) (slot : Nat) (seats' : List Seat) (nw' od' : Int) : Prop where
  len : seats'.length = seats.length
  key : keyF seats' = keyF seats
  nwE : nwF seats' = if nw = -1 then updI (nwF seats) (slot : Int) (-1) else updI (updI (nwF seats) (slot : Int) (-1)) nw (slot : Int)
  odE : odF seats' = updI (odF seats) (slot : Int) nw
  head : nw' = (slot : Int)
  last : od' = if nw = -1 then (slot : Int) else od
set_option maxRecDepth 100000 in
set_option maxHeartbeats 2000000 in
theorem link_calls (h : LruM w lb base k sv mb seats newest oldest D) (slot : Nat) (hs : slot < seats.length) (hn : newest = -1 ∨ ∃ p : Nat, newest = (p : Int) ∧ p < seats.length ∧ p ≠ slot) :
    Calls Try.prog 120 #[.pointer (some ⟨lb, 0, none⟩), .int .i64 slot] w fun e w' => e = .returned (.tuple #[]) ∧ ∃ seats' nw' od', LruM w' lb base k sv mb seats' nw' od' D ∧ LinkedBy seats newest oldest slot seats' nw' od' ∧ Chg (LruS lb mb sv) w w' := by
  obtain ⟨g, cap, hsv, hrow, s0, s1, s2, s3, sf⟩ := h.seats.cells hs
  obtain ⟨c0, c1, c2, c3, c4⟩ := h.cells
  have HM := Aside0.mk h
  have HSV := Aside0.mk hsv
  have HNG : Aside0 (lb ≠ g) := ⟨fun e => h.mbl.2.2 (by rw [hsv, e]; rfl)⟩
  rw [hsv] at c1
  have hsl : (slot : Int) < (seats.length : Int) := by omega
  have qf2 := sf (slot * 4 + 2)
  have qf3 := sf (slot * 4 + 3)
  clear h hrow hsv sf s0 s1
  go_enter Try.func120, Try.ntmps120
  go_wp2_with fail
  go_region_held3 (fun w' => w'.cell? ⟨lb, 1, none⟩ = some (.slice (some ⟨g, 0, none⟩) seats.length cap) ∧ w'.cell? ⟨lb, 3, none⟩ = some (.int .i64 newest)) (first | exact ⟨c1, c3⟩ | exact ⟨(cfar (w := w) HNG.out _).trans c1, (cfar (w := w) HNG.out _).trans c3⟩ | exact ⟨(cfar HNG.out _).trans ((cfar (w := w) HNG.out _).trans c1), (cfar HNG.out _).trans ((cfar (w := w) HNG.out _).trans c3)⟩ | go_keep) (fail)
  go_upto_if 26 with (fail)
  obtain ⟨w2, hw2⟩ : ∃ w2, w2 = ((w.setCell ⟨g, slot * 4 + 2, none⟩ (.int .i64 (-1))).setCell ⟨g, slot * 4 + 3, none⟩ (.int .i64 newest)).drew := ⟨_, rfl⟩
  rw [← hw2]
  obtain ⟨t1, ht1⟩ : ∃ t1, t1 = seats.set slot { seats[slot] with newer := -1 } := ⟨_, rfl⟩
  have hl1 : t1.length = seats.length := by rw [ht1]; simp
  obtain ⟨t2, ht2⟩ : ∃ t2, t2 = t1.set slot { t1[slot]'(by omega) with old := newest } := ⟨_, rfl⟩
  have hl2 : t2.length = seats.length := by rw [ht2]; simp [hl1]
  have hM1 : LruM (w.setCell ⟨g, slot * 4 + 2, none⟩ (.int .i64 (-1))) lb base k sv mb t1 newest oldest D := by
    rw [ht1]
    exact HM.out.setSeat HSV.out hs (by omega) _ _ rfl
  have hM2 : LruM w2 lb base k sv mb t2 newest oldest D := by
    rw [hw2, ht2]
    exact (hM1.setSeat (by rw [hl1]; exact HSV.out) (show slot < t1.length by omega) (by omega) _ _ rfl).drew
  have hC2 : Chg (LruS lb mb sv) w w2 := by
    rw [hw2]
    exact (((Chg.refl _ _).set_ (.inl (.inr (.inr (by rw [HSV.out]; rfl)))) _).set_ (.inl (.inr (.inr (by rw [HSV.out]; rfl)))) _).drew
  obtain ⟨a1, a2, a3⟩ := set_nw hs (-1)
  rw [← ht1] at a1 a2 a3
  obtain ⟨b1, b2, b3⟩ := set_od (show slot < t1.length by omega) newest
  rw [← ht2] at b1 b2 b3
  rw [a2] at b1
  rw [a1] at b2
  rw [a3] at b3
  have HT := Aside0.mk hM2
  have HC2 := Aside0.mk hC2
  have HP := Aside0.mk (And.intro b1 (And.intro b2 b3))
  have HL2 := Aside0.mk hl2
  clear hw2 ht1 hl1 ht2 hl2 hM1 hM2 hC2 a1 a2 a3 b1 b2 b3 c0 c1 c2 c3 c4 qf2 qf3 s2 s3
  obtain ⟨c0, c1, c2, c3, c4⟩ := HT.out.cells
  rw [HSV.out] at c1
  have f3 := free_blk HT.out.blk 3
  have f4 := free_blk HT.out.blk 4
  rcases hn with rfl | ⟨p, rfl, hpl, hps⟩
  · go_wp2
    go_end0
    refine ⟨rfl, t2, slot, slot, (HT.out.setOldest slot).setNewest slot, ⟨HL2.out, HP.out.2.2, by rw [HP.out.2.1]; simp, HP.out.1, rfl, by simp⟩, (HC2.out.set_ (.inl (.inl rfl)) _).set_ (.inl (.inl rfl)) _⟩
  · have hpl1 : p < t2.length := by rw [HL2.out]; exact hpl
    obtain ⟨g', cap', e', _, q0, q1, q2, q3, qf⟩ := HT.out.seats.cells hpl1
    rw [HL2.out] at e'
    obtain ⟨rfl, rfl⟩ : g' = g ∧ cap' = cap := by
      have := e'.symm.trans HSV.out
      injection this with h1 _ h2
      injection h1 with h1
      injection h1 with h1 _ _
      exact ⟨h1, h2⟩
    have hpl2 : (p : Int) < (seats.length : Int) := by omega
    have qf2 := qf (p * 4 + 2)
    have HE' := Aside0.mk e'
    clear e' qf q0 q1 q3
    go_wp2_with fail
    go_region_held3 (fun w' => w'.cell? ⟨lb, 1, none⟩ = some (.slice (some ⟨g', 0, none⟩) seats.length cap') ∧ w'.cell? ⟨lb, 3, none⟩ = some (.int .i64 p)) (first | exact ⟨c1, c3⟩ | exact ⟨(cfar (w := w2) HNG.out _).trans c1, (cfar (w := w2) HNG.out _).trans c3⟩ | go_keep) (fail)
    have g3 : ((w2.setCell ⟨g', p * 4 + 2, none⟩ (.int .i64 slot)).drew).cell? ⟨lb, 3, none⟩ = some (.int .i64 p) := (cfar (w := w2) HNG.out _).trans c3
    have f3' : ((w2.setCell ⟨g', p * 4 + 2, none⟩ (.int .i64 slot)).drew).frozen? ⟨lb, 3, none⟩ = false := free_blk (w := (w2.setCell ⟨g', p * 4 + 2, none⟩ (.int .i64 slot)).drew) ((Below.heap_setCell _ _ _ _ HNG.out).trans HT.out.blk) 3
    go_wp2
    go_end0
    obtain ⟨e1, e2, e3⟩ := set_nw hpl1 (slot : Int)
    refine ⟨rfl, t2.set p { t2[p] with newer := slot }, slot, oldest, (((HT.out.drew).setSeat (by rw [HL2.out]; exact HE'.out) hpl1 (by omega) _ _ rfl).setNewest slot), ⟨by simp [HL2.out], e3.trans HP.out.2.2, ?_, e2.trans HP.out.1, rfl, ?_⟩, ((HC2.out.drew).set_ (.inl (.inr (.inr (by rw [HE'.out]; rfl)))) _).set_ (.inl (.inl rfl)) _⟩
    · rw [e1, HP.out.2.1, if_neg (by omega)]
    · rw [if_neg (by omega)]
end Go.Proofs.Ytgcfcemgeppkmaa.P
