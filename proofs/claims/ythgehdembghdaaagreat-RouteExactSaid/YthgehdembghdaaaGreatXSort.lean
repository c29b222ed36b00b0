/-
 A row of elements of k cells each in a block that is known whole: what a store, a clear, a draw turn of it. No program's text. seeds.order, as the sort asks it: its answer, and the world behind it to the block. slices.Clone at seeds: a new row of the same seeds. slices.Compact at seeds, over a row that is the caller's own. seeds.Sort: a new row of the seeds in order, each once.
-/
import Derived.Test.YthgehdembghdaaaGreatPx0
import Derived.Shelf.SlSortCmp.InsertionK
import Derived.Lib.SlicesCompact
import Derived.Test.YthgehdembghdaaaGreatPx6
import Derived.Test.YthgehdembghdaaaGreatXBase
import Derived.StillTailTactics
import Derived.Lib.SliceRun
import Derived.Deep.LoopGhost
import Derived.Test.YthgehdembghdaaaGreatXLay
namespace Go.Proofs.YthgehdembghdaaaGreat.P
open Go.Sort (HoldsK flatK size_flatK get_flatK putRowK)
theorem sz_putRowK {α : Type} [Inhabited α] {enc : α → List Value} {k : Nat} (w : World) (blk off : Nat) (d : Array α) : (putRowK enc k w blk off d).heap.size = w.heap.size := by simp [putRowK, Go.Sort.putRow, Go.Sort.mapBlock]
open Go.RowKit Go.Proofs.YthgehdembghdaaaGreatW.PrintWords Go.Proofs.YthgehdembghdaaaGreatW.PrintLast Go.Proofs.YthgehdembghdaaaGreatW.PrintMore
set_option linter.unusedVariables false
set_option linter.unusedSimpArgs false
theorem setCells_block (b : Nat) : ∀ (vs : List Value) (o : Nat) (w : World) (cs : Array Value) (e : TypeId) (fr : Nat × Nat), w.heap[b]? = some (.cells cs e fr) →
  ∃ cs', (w.setCells b o vs).heap[b]? = some (.cells cs' e fr) ∧ cs'.size = cs.size ∧ (∀ t, t < o ∨ o + vs.length ≤ t → cs'[t]? = cs[t]?) ∧ ∀ t, t < vs.length → o + t < cs.size → cs'[o + t]? = vs[t]?
 | [], o, w, cs, e, fr, h => ⟨cs, h, rfl, fun _ _ => rfl, fun t ht => by simp at ht⟩
 | v :: r, o, w, cs, e, fr, h => by
  have h1 : (w.setCell ⟨b, o, none⟩ v).heap[b]? = some (.cells (cs.setIfInBounds o v) e fr) := by
   simp only [World.setCell, Array.getElem?_modify, h]
   simp
  obtain ⟨cs', g1, g2, g3, g4⟩ := setCells_block b r (o + 1) _ _ e fr h1
  refine ⟨cs', g1, by simpa using g2, fun t ht => ?_, fun t ht hs => ?_⟩
  ·rw [List.length_cons] at ht
   rw [g3 t (by omega), Array.getElem?_setIfInBounds]
   have : o ≠ t := by omega
   simp [this]
  ·rcases t with _ | t
   ·rw [Nat.add_zero] at hs ⊢
    rw [g3 o (by omega), Array.getElem?_setIfInBounds]
    simp [hs]
   ·have := g4 t (by simpa using ht) (by simp; omega)
    rw [show o + (t + 1) = o + 1 + t by omega, this]
    simp
theorem setCells_grown (b : Nat) : ∀ (vs : List Value) (o : Nat) (w : World), w.grownBy (w.setCells b o vs) (some b)
 | [], o, w => ⟨rfl, rfl, rfl, Nat.le_refl _, fun _ _ _ => rfl⟩
 | v :: r, o, w => by
  have h := setCells_grown b r (o + 1) (w.setCell ⟨b, o, none⟩ v)
  refine ⟨h.os, h.tape, h.output, by have := h.size; rwa [show (w.setCell ⟨b, o, none⟩ v).heap.size = w.heap.size by simp [World.setCell]] at this, fun k hk hne => ?_⟩
  rw [show w.setCells b o (v :: r) = (w.setCell ⟨b, o, none⟩ v).setCells b (o + 1) r from rfl, h.block k (by rw [show (w.setCell ⟨b, o, none⟩ v).heap.size = w.heap.size by simp [World.setCell]]; exact hk) hne]
  exact Below.heap_setCell w ⟨b, o, none⟩ v k (fun e => hne (by rw [e]))
theorem grownBy_refl (w : World) (r : Option Nat) : w.grownBy w r := ⟨rfl, rfl, rfl, Nat.le_refl _, fun _ _ _ => rfl⟩
theorem grownBy_trans {a b c : World} {r : Option Nat} (h : a.grownBy b r) (k : b.grownBy c r) : a.grownBy c r :=
 ⟨k.os.trans h.os, k.tape.trans h.tape, k.output.trans h.output, Nat.le_trans h.size k.size, fun i hi hne => (k.block i (Nat.lt_of_lt_of_le hi h.size) hne).trans (h.block i hi hne)⟩
theorem grownBy_drewN {a b : World} {r : Option Nat} (h : a.grownBy b r) (n : Nat) : a.grownBy (b.drewN n) r := by
 have e : ∀ (n : Nat) (b : World), (b.drewN n).heap = b.heap ∧ (b.drewN n).os = b.os ∧ (b.drewN n).tape = b.tape ∧ (b.drewN n).output = b.output := by
  intro n
  induction n with
  | zero => intro b; exact ⟨rfl, rfl, rfl, rfl⟩
  | succ n ih => intro b; rw [← World.drew_drewN]; exact ih b.drew
 obtain ⟨e1, e2, e3, e4⟩ := e n b
 exact ⟨e2.trans h.os, e3.trans h.tape, e4.trans h.output, by rw [e1]; exact h.size, fun i hi hne => by rw [e1]; exact h.block i hi hne⟩
theorem drewN_heap (b : World) (n : Nat) : (b.drewN n).heap = b.heap := by
 induction n generalizing b with
 | zero => rfl
 | succ n ih => rw [← World.drew_drewN]; exact ih b.drew
variable {α : Type} [Inhabited α]
def RowIn (enc : α → List Value) (k e B cap : Nat) (d : Array α) (w : World) : Prop :=
 ∃ cs, w.heap[B]? = some (.cells cs e (0, 0)) ∧ cs.size = cap * k ∧ d.size ≤ cap ∧ ∀ j, j < d.size → ∀ c, c < k → cs[j * k + c]? = (enc d[j]!)[c]?
variable {enc : α → List Value} {k e B cap : Nat} {d : Array α} {w : World}
theorem RowIn.heap {w' : World} (h : RowIn enc k e B cap d w) (hb : w'.heap[B]? = w.heap[B]?) : RowIn enc k e B cap d w' := by
 obtain ⟨cs, h1, h2⟩ := h
 exact ⟨cs, hb.trans h1, h2⟩
theorem RowIn.drewN (h : RowIn enc k e B cap d w) (n : Nat) : RowIn enc k e B cap d (w.drewN n) := h.heap (by rw [drewN_heap])
theorem RowIn.lt (h : RowIn enc k e B cap d w) : B < w.heap.size := by
 obtain ⟨cs, h1, _⟩ := h
 rcases Nat.lt_or_ge B w.heap.size with h | h
 ·exact h
 ·rw [Array.getElem?_eq_none h] at h1; exact absurd h1 (by simp)
theorem RowIn.cell (h : RowIn enc k e B cap d w) {j : Nat} (hj : j < d.size) {c : Nat} (hc : c < k) {u : Value} (hu : (enc d[j]!)[c]? = some u) : w.cell? ⟨B, j * k + c, none⟩ = some u := by
 obtain ⟨cs, h1, _, _, h3⟩ := h
 simp only [World.cell?, h1]
 rw [if_neg (by simp), h3 j hj c hc, hu]
theorem RowIn.free (h : RowIn enc k e B cap d w) (o : Nat) : w.frozen? ⟨B, o, none⟩ = false := by
 obtain ⟨cs, h1, _⟩ := h
 simp [World.frozen?, h1]
theorem RowIn.some_cell (h : RowIn enc k e B cap d w) {o : Nat} (ho : o < cap * k) : (w.cell? ⟨B, o, none⟩).isSome = true := by
 obtain ⟨cs, h1, h2, _⟩ := h
 simp only [World.cell?, h1]
 rw [if_neg (by simp), Array.getElem?_eq_getElem (by omega)]
 rfl
theorem RowIn.store (hk : ∀ x, (enc x).length = k) (h : RowIn enc k e B cap d w) {i : Nat} (hi : i < d.size) (x : α) : RowIn enc k e B cap (d.setIfInBounds i x) (w.setCells B (i * k) (enc x)) := by
 obtain ⟨cs, h1, h2, h3, h4⟩ := h
 obtain ⟨cs', g1, g2, g3, g4⟩ := setCells_block B (enc x) (i * k) w cs e (0, 0) h1
 refine ⟨cs', g1, by omega, by simpa using h3, fun j hj c hc => ?_⟩
 have hj' : j < d.size := by simpa using hj
 by_cases e1 : j = i
 ·subst e1
  rw [g4 c (by rw [hk]; exact hc) (by
   have : (j + 1) * k ≤ cap * k := Nat.mul_le_mul_right _ (by omega)
   rw [Nat.add_mul, Nat.one_mul] at this
   omega)]
  rw [Go.Sort.getElem!_set_same _ _ _ hj']
 ·rw [g3 (j * k + c) (by
   rw [hk]
   rcases Nat.lt_or_ge j i with hlt | hge
   ·left
    have : (j + 1) * k ≤ i * k := Nat.mul_le_mul_right _ (by omega)
    rw [Nat.add_mul, Nat.one_mul] at this
    omega
   ·right
    have : (i + 1) * k ≤ j * k := Nat.mul_le_mul_right _ (by omega)
    rw [Nat.add_mul, Nat.one_mul] at this
    omega), h4 j hj' c hc, Go.Sort.getElem!_set_other _ _ _ _ e1]
theorem RowIn.cut (h : RowIn enc k e B cap d w) {i : Nat} (hi : i ≤ d.size) (vs : List Value) : RowIn enc k e B cap (d.extract 0 i) (w.setCells B (i * k) vs) := by
 obtain ⟨cs, h1, h2, h3, h4⟩ := h
 obtain ⟨cs', g1, g2, g3, g4⟩ := setCells_block B vs (i * k) w cs e (0, 0) h1
 have hs : (d.extract 0 i).size = i := by simp; omega
 refine ⟨cs', g1, by omega, by omega, fun j hj c hc => ?_⟩
 rw [hs] at hj
 have : (j + 1) * k ≤ i * k := Nat.mul_le_mul_right _ (by omega)
 rw [Nat.add_mul, Nat.one_mul] at this
 rw [g3 (j * k + c) (by left; omega), h4 j (by omega) c hc]
 rw [getElem!_pos d j (by omega), getElem!_pos (d.extract 0 i) j (by omega), Array.getElem_extract]
 simp
theorem idx_div {k j c : Nat} (hc : c < k) : (j * k + c) / k = j ∧ (j * k + c) % k = c := by
 have hk : 0 < k := by omega
 constructor
 ·rw [Nat.mul_comm, Nat.mul_add_div hk, Nat.div_eq_of_lt hc, Nat.add_zero]
 ·rw [Nat.mul_comm, Nat.mul_add_mod, Nat.mod_eq_of_lt hc]
theorem RowIn.holds (hk : ∀ x, (enc x).length = k) (h : RowIn enc k e B cap d w) : HoldsK enc k w B 0 d := by
 intro t ht
 rw [size_flatK] at ht
 have hk0 : 0 < k := by
  rcases Nat.eq_zero_or_pos k with e | e
  ·subst e; simp at ht
  ·exact e
 have hd : t / k < d.size := Nat.div_lt_of_lt_mul (by rwa [Nat.mul_comm] at ht)
 have hm : t % k < k := Nat.mod_lt _ hk0
 have ht2 : t = t / k * k + t % k := by rw [Nat.mul_comm]; exact (Nat.div_add_mod t k).symm
 refine ⟨?_, RowIn.free h _⟩
 rw [get_flatK enc k d t ht, Nat.zero_add]
 have hl : t % k < (enc d[t / k]!).length := by rw [hk]; exact hm
 rw [show (id ((enc d[t / k]!)[t % k]!) : Value) = (enc d[t / k]!)[t % k] from getElem!_pos (enc d[t / k]!) (t % k) hl]
 have := RowIn.cell h hd hm (u := (enc d[t / k]!)[t % k]) (List.getElem?_eq_getElem hl)
 rw [← ht2] at this
 exact this
theorem sortWorld_heap (n : Nat) (d' : Array α) (os : Array Obj) {cs : Array Value} {fr : Nat × Nat} (hb : w.heap[B]? = some (.cells cs e fr)) :
  (sortWorldK enc k w B 0 n d' os).heap[B]? = some (.cells (Go.Sort.putCells id 0 (flatK enc k d') cs) e fr) := by
 have hlt : B < w.heap.size := by
  rcases Nat.lt_or_ge B w.heap.size with h | h
  ·exact h
  ·rw [Array.getElem?_eq_none h] at hb; exact absurd hb (by simp)
 unfold sortWorldK
 rw [Go.Sort.heap_grow_old _ _ (by rw [sz_putRowK]; exact hlt)]
 show (w.heap.modify B _)[B]? = _
 rw [Array.getElem?_modify, hb]
 simp [Go.Sort.onCells]
theorem sortWorld_grown (n : Nat) (d' : Array α) (os : Array Obj) (hB : B < w.heap.size) : w.grownBy (sortWorldK enc k w B 0 n d' os) (some B) := by
 have hs : (sortWorldK enc k w B 0 n d' os).heap.size = w.heap.size + os.size := by
  unfold sortWorldK
  rw [Go.Sort.size_grow, sz_putRowK]
  rfl
 refine ⟨rfl, rfl, rfl, by rw [hs]; omega, fun i hi hne => ?_⟩
 unfold sortWorldK
 rw [Go.Sort.heap_grow_old _ _ (by rw [sz_putRowK]; exact hi)]
 show (w.heap.modify B _)[i]? = _
 rw [Array.getElem?_modify, if_neg (fun e => hne (by rw [e]))]
theorem RowIn.sorted (hk : ∀ x, (enc x).length = k) (h : RowIn enc k e B cap d w) (n : Nat) (d' : Array α) (hd : d'.size = d.size) (os : Array Obj) : RowIn enc k e B cap d' (sortWorldK enc k w B 0 n d' os) := by
 obtain ⟨cs, h1, h2, h3, h4⟩ := h
 refine ⟨_, sortWorld_heap n d' os h1, by simp [Go.Sort.putCells, h2], by omega, fun j hj c hc => ?_⟩
 have hlt : j * k + c < d'.size * k := by
  have := Nat.mul_le_mul_right k (show j + 1 ≤ d'.size from hj)
  rw [Nat.add_mul, Nat.one_mul] at this
  omega
 have hlt2 : j * k + c < cs.size := by
  rw [h2]
  have := Nat.mul_le_mul_right k (show d'.size ≤ cap by omega)
  omega
 obtain ⟨e1, e2⟩ := idx_div (j := j) hc
 rw [Array.getElem?_eq_getElem (by simpa [Go.Sort.putCells] using hlt2)]
 have hg : (Go.Sort.putCells id 0 (flatK enc k d') cs)[j * k + c]'(by simpa [Go.Sort.putCells] using hlt2) = (flatK enc k d')[j * k + c]! := by
  simp only [Go.Sort.putCells, Array.getElem_mapIdx]
  rw [if_pos ⟨Nat.zero_le _, by rw [size_flatK]; omega⟩]
  rfl
 rw [hg, get_flatK enc k d' _ hlt, e1, e2]
 have hl : c < (enc d'[j]!).length := by rw [hk]; exact hc
 rw [List.getElem?_eq_getElem hl, getElem!_pos (enc d'[j]!) c hl]
theorem ownsRow_RowIn {enc : α → List Value} {k e : Nat} (hk : ∀ x, (enc x).length = k) {w : World} {base : Nat} {v : Value} {l : List α} {inner : List Value} (ho : w.ownsRow base e k v l.length inner) (hi : inner = l.flatMap enc) :
  (v = .slice none 0 0 ∧ l = []) ∨ ∃ B cap, v = .slice (some ⟨B, 0, none⟩) l.length cap ∧ base ≤ B ∧ cap ≤ maxLen ∧ RowIn enc k e B cap l.toArray w := by
 rcases ho.2 with ⟨h1, h2⟩ | ⟨g, cap, cur, h1, h2, h3, h4, h5, h6, h7⟩
 ·exact .inl ⟨h1, List.length_eq_zero_iff.1 h2⟩
 ·refine .inr ⟨g, cap, h1, h2, h5, cur, h3, h6, by simpa using h4, fun j hj c hc => ?_⟩
  have hj' : j < l.length := by simpa using hj
  have hlt : j * k + c < l.length * k := by
   have := Nat.mul_le_mul_right k (show j + 1 ≤ l.length from hj')
   rw [Nat.add_mul, Nat.one_mul] at this
   omega
  have e1 : cur[j * k + c]? = (cur.toList.take (l.length * k))[j * k + c]? := by
   rw [List.getElem?_take_of_lt hlt]; simp
  rw [e1, h7, hi]
  have key : ∀ (l : List α) (j : Nat), j < l.length → (l.flatMap enc)[j * k + c]? = (enc (l[j]!))[c]? := by
   intro l
   induction l with
   | nil => intro j hj; simp at hj
   | cons x r ih =>
    intro j hj
    rw [List.flatMap_cons]
    rcases j with _ | j
    ·rw [Nat.zero_mul, Nat.zero_add, List.getElem?_append_left (by rw [hk]; exact hc)]
     rfl
    ·rw [List.getElem?_append_right (by rw [hk, Nat.add_mul, Nat.one_mul]; omega), hk, show (j + 1) * k + c - k = j * k + c by rw [Nat.add_mul, Nat.one_mul]; omega, ih j (by simpa using hj)]
     simp
  rw [key l j hj']
  simp
theorem RowIn_ownsRow {enc : α → List Value} {k e : Nat} (hk : ∀ x, (enc x).length = k) {w : World} {B cap base : Nat} {l : List α} (h : RowIn enc k e B cap l.toArray w) (hb : base ≤ B) (hc : cap ≤ maxLen) : w.ownsRow base e k (.slice (some ⟨B, 0, none⟩) l.length cap) l.length (l.flatMap enc) := by
 have hlen : ∀ l : List α, (l.flatMap enc).length = l.length * k := by
  intro l
  induction l with
  | nil => simp
  | cons x r ih => rw [List.flatMap_cons, List.length_append, ih, hk, List.length_cons, Nat.add_mul, Nat.one_mul]; omega
 obtain ⟨cs, h1, h2, h3, h4⟩ := h
 have h3' : l.length ≤ cap := by simpa using h3
 refine ⟨hlen l, .inr ⟨B, cap, cs, rfl, hb, h1, h3', hc, h2, ?_⟩⟩
 apply List.ext_getElem?
 intro t
 have hle : l.length * k ≤ cap * k := Nat.mul_le_mul_right k h3'
 rcases Nat.lt_or_ge t (l.length * k) with ht | ht
 ·have hk0 : 0 < k := by
   rcases Nat.eq_zero_or_pos k with e | e
   ·subst e; simp at ht
   ·exact e
  have hd : t / k < l.length := Nat.div_lt_of_lt_mul (by rwa [Nat.mul_comm] at ht)
  have hm : t % k < k := Nat.mod_lt _ hk0
  have ht2 : t = t / k * k + t % k := by rw [Nat.mul_comm]; exact (Nat.div_add_mod t k).symm
  rw [List.getElem?_take_of_lt ht]
  have e1 := h4 (t / k) (by simpa using hd) (t % k) hm
  rw [← ht2] at e1
  have key : ∀ (l : List α) (j c : Nat), j < l.length → c < k → (l.flatMap enc)[j * k + c]? = (enc (l[j]!))[c]? := by
   intro l
   induction l with
   | nil => intro j c hj; simp at hj
   | cons x r ih =>
    intro j c hj hc
    rw [List.flatMap_cons]
    rcases j with _ | j
    ·rw [Nat.zero_mul, Nat.zero_add, List.getElem?_append_left (by rw [hk]; exact hc)]
     rfl
    ·rw [List.getElem?_append_right (by rw [hk, Nat.add_mul, Nat.one_mul]; omega), hk, show (j + 1) * k + c - k = j * k + c by rw [Nat.add_mul, Nat.one_mul]; omega, ih j c (by simpa using hj) hc]
     simp
  have e2 := key l (t / k) (t % k) hd hm
  rw [← ht2] at e2
  rw [e2]
  simpa using e1
 ·rw [List.getElem?_eq_none (by rw [List.length_take]; omega), List.getElem?_eq_none (by rw [hlen]; exact ht)]
end Go.Proofs.YthgehdembghdaaaGreat.P
namespace Go.Proofs.YthgehdembghdaaaGreat.P
open Go.RowKit Go.Proofs.YthgehdembghdaaaGreatW.PrintWords Go.Proofs.YthgehdembghdaaaGreatW.PrintLast Go.Proofs.YthgehdembghdaaaGreatW.PrintMore
open Go.Sort (grow)
set_option linter.unusedVariables false
set_option linter.unusedSimpArgs false
def encS (x : Seed) : List Value := [.int .i64 x.f0, .int .i64 x.f1, .int .i64 x.f2]
def cmpI (a b : Int) : Int := if a < b then -1 else if b < a then 1 else 0
def orI (a b c : Int) : Int := if a ≠ 0 then a else if b ≠ 0 then b else c
def ordS (a b : Seed) : Int := orI (cmpI a.f2 b.f2) (cmpI a.f0 b.f0) (cmpI a.f1 b.f1)
theorem or_some (a b c : Int) : cmp_Or_int.f 4 [a, b, c] = some (orI a b c) := by
 unfold cmp_Or_int.f orI
 have e0 : rd [a, b, c] 0 = a := rfl
 have e1 : rd [a, b, c] 1 = b := rfl
 have e2 : rd [a, b, c] 2 = c := rfl
 have w1 : wrap64 (0 + 1) = 1 := w64 (by decide) (by decide)
 have w2 : wrap64 (1 + 1) = 2 := w64 (by decide) (by decide)
 have w3 : wrap64 (2 + 1) = 3 := w64 (by decide) (by decide)
 have l : (([a, b, c] : List Int).length : Int) = 3 := rfl
 rw [l, cmp_Or_int.l0, if_pos (by decide), if_pos (by decide), l, if_pos (by decide), e0, w1]
 by_cases ha : a = 0
 ·rw [if_pos ha, if_neg (show ¬ a ≠ 0 by simpa using ha), cmp_Or_int.l0, if_pos (by decide), if_pos (by decide), l, if_pos (by decide), e1, w2]
  by_cases hb : b = 0
  ·rw [if_pos hb, if_neg (show ¬ b ≠ 0 by simpa using hb), cmp_Or_int.l0, if_pos (by decide), if_pos (by decide), l, if_pos (by decide), e2, w3]
   by_cases hc : c = 0
   ·rw [if_pos hc, cmp_Or_int.l0, if_neg (by decide), hc]
   ·rw [if_neg hc]
  ·rw [if_neg hb, if_pos hb]
 ·rw [if_neg ha, if_pos ha]
theorem isNaN_calls (a : Int) (w : World) : Calls Tryz.prog 176 #[.int .i64 a] w fun e w' => e = .returned (.bool false) ∧ w' = w := by
 go_enter Tryz.func176, Tryz.ntmps176
 go_wp2
 go_ret
 exact ⟨by simp, rfl⟩
theorem compare_calls (a b : Int) (w : World) : Calls Tryz.prog 149 #[.int .i64 a, .int .i64 b] w fun e w' => e = .returned (.int .i64 (cmpI a b)) ∧ w' = w := by
 by_cases h1 : a < b
 ·have e : cmpI a b = -1 := by simp [cmpI, h1]
  rw [e]
  clear e
  go_enter Tryz.func149, Tryz.ntmps149
  go_wp2_with (go_at_call 176; refine (isNaN_calls _ _).mono ?_; rintro e w' ⟨rfl, rfl⟩)
  go_ret
  exact ⟨rfl, rfl⟩
 ·by_cases h2 : b < a
  ·have e : cmpI a b = 1 := by simp [cmpI, h1, h2]
   rw [e]
   clear e
   go_enter Tryz.func149, Tryz.ntmps149
   go_wp2_with (go_at_call 176; refine (isNaN_calls _ _).mono ?_; rintro e w' ⟨rfl, rfl⟩)
   go_ret
   exact ⟨rfl, rfl⟩
  ·have e : cmpI a b = 0 := by simp [cmpI, h1, h2]
   rw [e]
   clear e
   go_enter Tryz.func149, Tryz.ntmps149
   go_wp2_with (go_at_call 176; refine (isNaN_calls _ _).mono ?_; rintro e w' ⟨rfl, rfl⟩)
   go_ret
   exact ⟨rfl, rfl⟩
theorem alloc_grow (w : World) (o : Obj) : w.alloc o = grow w #[o] := Go.Sort.alloc_eq_grow w o
set_option maxHeartbeats 1000000 in
set_option maxRecDepth 100000 in
theorem order_calls (x y : Seed) (w : World) : Calls Tryz.prog 127 #[.agg #[.int .i64 x.f0, .int .i64 x.f1, .int .i64 x.f2], .agg #[.int .i64 y.f0, .int .i64 y.f1, .int .i64 y.f2]] w fun e w' => e = .returned (.int .i64 (ordS x y)) ∧ ∃ q os', w' = grow (w.drewN q) os' := by
 have hu25 := Tryz.underlying90
 have hor : ∀ (v : Value) (n c : Nat) (A : Option Addr) (W : World), (Kd.int .i64).C W A 3 [cmpI x.f2 y.f2, cmpI x.f0 y.f0, cmpI x.f1 y.f1] → v = .slice A 3 c → 3 ≤ c → Calls Tryz.prog 148 #[v] W fun e w' => e = .returned (.int .i64 (ordS x y)) ∧ ∃ n, w' = W.drewN n := by
  intro v n c A W hC hv hc
  subst hv
  exact (cmp_Or_int.calls 4 A c [cmpI x.f2 y.f2, cmpI x.f0 y.f0, cmpI x.f1 y.f1] (ordS x y) W hC hc (or_some _ _ _)).mono fun _ _ ⟨he, hd⟩ => ⟨he, hd.out⟩
 generalize ordS x y = r at *
 go_enter Tryz.func127, Tryz.ntmps127
 go_wp2
 generalize hW : (w.alloc (Obj.cells #[Value.int .i64 x.f0, Value.int .i64 x.f1, Value.int .i64 x.f2] 90)).alloc (Obj.cells #[Value.int .i64 y.f0, Value.int .i64 y.f1, Value.int .i64 y.f2] 90) = W
 have c0 : W.drew.cell? ⟨w.heap.size, 0, none⟩ = some (.int .i64 x.f0) := by subst hW; go_simp
 have c1 : W.drew.cell? ⟨w.heap.size, 1, none⟩ = some (.int .i64 x.f1) := by subst hW; go_simp
 have c2 : W.drew.cell? ⟨w.heap.size, 2, none⟩ = some (.int .i64 x.f2) := by subst hW; go_simp
 have d0 : W.drew.cell? ⟨w.heap.size + 1, 0, none⟩ = some (.int .i64 y.f0) := by subst hW; go_simp
 have d1 : W.drew.cell? ⟨w.heap.size + 1, 1, none⟩ = some (.int .i64 y.f1) := by subst hW; go_simp
 have d2 : W.drew.cell? ⟨w.heap.size + 1, 2, none⟩ = some (.int .i64 y.f2) := by subst hW; go_simp
 have HW : Aside0 (∃ os, W = grow w os) := ⟨_, by rw [← hW, alloc_grow, alloc_grow, Go.Sort.grow_grow]⟩
 clear hW
 generalize w.heap.size = g at *
 refine wp_region_still_tail 15 (by kernel_rfl) (by kernel_rfl) ?_
 simp only [List.take_succ_cons, List.take_zero, List.drop_succ_cons, List.drop_zero]
 change wpStill _ _ W.drew _ _ _
 repeat (first | still_step | still_call (compare_calls _ _ _))
 refine wpStill_nil ?_
 change wpList _ _ _ _ _ W.drew
 have HV : Aside0 (∃ q os, W.drew = grow (w.drewN q) os) := by
  obtain ⟨os, e⟩ := HW.out
  exact ⟨1, os, by rw [e]; rfl⟩
 clear c0 c1 c2 d0 d1 d2 HW
 generalize W.drew = V at *
 have hC : ∀ o : Obj, o = .cells #[.int .i64 (cmpI x.f2 y.f2), .int .i64 (cmpI x.f0 y.f0), .int .i64 (cmpI x.f1 y.f1)] 3 → (Kd.int .i64).C (V.alloc o) (some ⟨V.heap.size, 0, none⟩) 3 [cmpI x.f2 y.f2, cmpI x.f0 y.f0, cmpI x.f1 y.f1] := by
  rintro _ rfl
  refine ⟨rfl, by decide, fun _ => ⟨_, rfl, fun j p hj => ⟨[.int .i64 p], rfl, rfl, fun i u hu => ?_⟩⟩⟩
  match j, i, hj, hu with
  | 0, 0, hj, hu => simp at hj hu; subst hj hu; go_simp
  | 1, 0, hj, hu => simp at hj hu; subst hj hu; go_simp; rfl
  | 2, 0, hj, hu => simp at hj hu; subst hj hu; go_simp; rfl
  | j, i + 1, hj, hu => simp at hu
  | j + 3, 0, hj, hu => simp at hj
 have HC := Aside0.mk hC
 have HO := Aside0.mk hor
 clear hC hor
 go_wp2_with (go_at_call 148; refine (HO.out _ 3 3 _ _ (HC.out _ rfl) rfl (Nat.le_refl _)).mono ?_; rintro e w' ⟨rfl, n, rfl⟩)
 go_ret
 obtain ⟨q, os, hV⟩ := HV.out
 exact ⟨rfl, q + n, os ++ #[.cells #[.int .i64 (cmpI x.f2 y.f2), .int .i64 (cmpI x.f0 y.f0), .int .i64 (cmpI x.f1 y.f1)] 3], by rw [hV, alloc_grow, Go.Sort.grow_grow, ← World.drewN_drewN]; rfl⟩
end Go.Proofs.YthgehdembghdaaaGreat.P
namespace Go.Proofs.YthgehdembghdaaaGreat.P
open Go.RowKit Go.Proofs.YthgehdembghdaaaGreatW.PrintWords Go.Proofs.YthgehdembghdaaaGreatW.PrintLast Go.Proofs.YthgehdembghdaaaGreatW.PrintMore
set_option linter.unusedVariables false
set_option linter.unusedSimpArgs false
theorem C_none {α : Type} {d : Kd α} {w : World} {xs : List α} (h : d.C w none xs.length xs) : xs = [] := by
 rcases Nat.eq_zero_or_pos xs.length with e | e
 ·exact List.length_eq_zero_iff.1 e
 ·obtain ⟨ad, he, _⟩ := h.2.2 e
  exact absurd he (by simp)
set_option maxHeartbeats 1000000 in
theorem clone_nil (n c : Nat) (w : World) : Calls Tryz.prog 125 #[.slice none n c] w fun e w' => e = .returned (.slice none 0 0) ∧ w' = w := by
 have q22 : ∀ (w : World) (a : Option Addr) (n c n' c' : Nat), Sem.run Tryz.prog (binOp .eql 81 (.slice a n c) (.slice none n' c')) w = .ok (.bool a.isNone) w := fun w a n c n' c' => Lib.run_eql_slice_nil w _ _ a n c n' c' Tryz.underlying81
 go_enter Tryz.func125, Tryz.ntmps125
 go_wp2
 go_ret
 exact ⟨rfl, rfl⟩
set_option maxHeartbeats 1000000 in
theorem clone_some (ad : Addr) (c : Nat) (l : List Seed) (w : World) (hC : Kd.C k90 w (some ad) l.length l) (hl : l.length < 5864062014805) :
  Calls Tryz.prog 125 #[.slice (some ad) l.length c] w fun e w' => ∃ v, e = .returned v ∧ Kd.R k90 90 w' w.heap.size (fun _ => True) v l ∧ Below w.heap.size w w' := by
 have q22 : ∀ (w : World) (a : Option Addr) (n c n' c' : Nat), Sem.run Tryz.prog (binOp .eql 81 (.slice a n c) (.slice none n' c')) w = .ok (.bool a.isNone) w := fun w a n c n' c' => Lib.run_eql_slice_nil w _ _ a n c n' c' Tryz.underlying81
 have HB := Aside0.mk (Below.refl w.heap.size w)
 have HR := Aside0.mk hC
 have HL := Aside0.mk hl
 clear hC hl
 go_enter Tryz.func125, Tryz.ntmps125
 go_wp2_with (first | ((with_reducible refine gate_dst (N := 5) rfl ?_); refine Kd.R_lit k90 _ 90 ?hg (N := 5) ?hd (xs := ([] : List Seed)) (inner := []) (ok := fun _ => True) (okp := fun _ => True) ?hr ?hp (fun _ hk => hk) trivial (Below.refl _ _) (Nat.le_refl _) (by simp) ?_; (case hd => rfl); (case hg => rfl); (case hr => first | (go_simp; done) | (go_simp; rfl)); (case hp => exact (Reps.none _ _)); intro v1 w1 ho hb hg_ hnew_; clear hg_ hnew_; have n0_ := Aside0.mk (Kd.R_lower ho (below_size (by repeat (first | (with_reducible first | exact HB.out | apply below_alloc | apply pw_below_drewN | apply below_drew1) | exact HB.out)))); have n1_ := Aside0.mk (below_step (by repeat (first | (with_reducible first | exact HB.out | apply below_alloc | apply pw_below_drewN | apply below_drew1) | exact HB.out)) hb); clear HB; have HO := n0_; have HB := n1_; clear n0_ n1_; clear hb ho) | ((with_reducible refine gate_builtin (b := .append) (xs := #[.tmp 5, .tmp 6]) rfl ?_); at_builtin; refine Kd.R_append_rows k90 (w0 := w) w.heap.size rfl (.tmp 5) (.tmp 6) 81 90 (.agg #[(.int .i64 0), (.int .i64 0), (.int .i64 0)]) 24 rfl Tryz.underlying81 info90 rfl (by decide) (by omega) v1 ([] : List Seed) l _ _ _ (fun _ => True) (fun _ => False) rfl rfl ?aO ?aR (fun _ _ h => h) (fun _ h => h.elim) ?aF ?aB ?aS ?aL ?_; (case aR => exact Kd.C_below HR.out HB.out); (case aB => exact HB.out); (case aF => exact (fun _ _ => trivial)); (case aO => exact HO.out); (case aS => exact below_size HB.out); (case aL => have := HL.out; simp only [List.length_nil]; omega); intro v2 w2 ho hb hg hat; have n0_ := Aside0.mk (hb); have n1_ := Aside0.mk (ho); clear HB; clear HO; have HB := n0_; have HO := n1_; clear n0_ n1_; clear ho hb hg hat))
 go_ret
 exact ⟨_, rfl, HO.out, HB.out⟩
end Go.Proofs.YthgehdembghdaaaGreat.P
namespace Go.Proofs.YthgehdembghdaaaGreat.P
open Go.RowKit Go.Proofs.YthgehdembghdaaaGreatW.PrintWords Go.Proofs.YthgehdembghdaaaGreatW.PrintLast Go.Proofs.YthgehdembghdaaaGreatW.PrintMore
open Go.Lib
set_option linter.unusedVariables false
set_option linter.unusedSimpArgs false
theorem eqSeed (d : Nat) (w : World) (x0 y0 : Int) (x1 y1 : Int) (x2 y2 : Int) :
  (Op.equalIn (d + 2) 90 (.agg #[.int .i64 x0, .int .i64 x1, .int .i64 x2]) (.agg #[.int .i64 y0, .int .i64 y1, .int .i64 y2])).run Tryz.prog w = .ok (x0 == y0 && (x1 == y1 && (x2 == y2))) w := by
 refine eqA_of Tryz.underlying90 (by kernel_rfl) ?_
 refine eqf_cons (by rfl) (by go_simp; rfl) (by go_simp; rfl) (by go_simp) ?_
 refine eqf_cons (by rfl) (by go_simp; rfl) (by go_simp; rfl) (by go_simp) ?_
 exact eqf_last (by rfl) (by go_simp; rfl) (by go_simp; rfl) (by go_simp)
attribute [local go_sem high] eqSeed
instance : Inhabited Seed := ⟨z90⟩
instance : DecidableEq Seed := fun a b => if h : a.f0 = b.f0 ∧ a.f1 = b.f1 ∧ a.f2 = b.f2 then isTrue (by cases a; cases b; simp at h; obtain ⟨rfl, rfl, rfl⟩ := h; rfl) else isFalse (fun e => h (by subst e; exact ⟨rfl, rfl, rfl⟩))
abbrev SeedRow (B cap : Nat) (d : Array Seed) (w : World) : Prop := RowIn encS 3 90 B cap d w
theorem encS_len (x : Seed) : (encS x).length = 3 := rfl
theorem seed_beq (x y : Seed) : (x.f0 == y.f0 && (x.f1 == y.f1 && (x.f2 == y.f2))) = decide (x = y) := by
 by_cases h : x = y
 ·subst h; simp
 ·rw [decide_eq_false h]
  by_cases h0 : x.f0 = y.f0
  ·by_cases h1 : x.f1 = y.f1
   ·have h2 : ¬ x.f2 = y.f2 := fun h2 => h (by cases x; cases y; simp_all)
    simp [h2]
   ·simp [h1]
  ·simp [h0]
theorem SeedRow.cells {B cap : Nat} {d : Array Seed} {w : World} (h : SeedRow B cap d w) {j : Nat} (hj : j < d.size) :
  w.cell? ⟨B, j * 3, none⟩ = some (.int .i64 (d[j]!).f0) ∧ w.cell? ⟨B, j * 3 + 1, none⟩ = some (.int .i64 (d[j]!).f1) ∧ w.cell? ⟨B, j * 3 + 2, none⟩ = some (.int .i64 (d[j]!).f2) :=
 ⟨RowIn.cell h hj (c := 0) (by decide) rfl, RowIn.cell h hj (c := 1) (by decide) rfl, RowIn.cell h hj (c := 2) (by decide) rfl⟩
def zerosS : Nat → List Value
 | 0 => []
 | n + 1 => encS z90 ++ zerosS n
theorem zerosS_len (n : Nat) : (zerosS n).length = n * 3 := by
 induction n with
 | zero => rfl
 | succ n ih => simp [zerosS, ih, encS]; omega
theorem zerosS_get (n : Nat) : ∀ i, i < n * 3 → (zerosS n)[i]? = some (.int .i64 0) := by
 induction n with
 | zero => intro i hi; omega
 | succ n ih =>
  intro i hi
  unfold zerosS
  rcases Nat.lt_or_ge i 3 with h | h
  ·match i, h with
   | 0, _ => rfl
   | 1, _ => rfl
   | 2, _ => rfl
  ·rw [List.getElem?_append_right (by simpa [encS] using h)]
   exact ih (i - 3) (by omega)
theorem clear_rows (B kk n c : Nat) (w : World) (hn : 0 < n) (hc : ∀ j, j < n * 3 → (w.cell? ⟨B, kk * 3 + j, none⟩).isSome = true) (hf : ∀ j, j < n * 3 → w.frozen? ⟨B, kk * 3 + j, none⟩ = false) (ty : TypeId) :
  (Builtin.clear_ #[81] ty #[.slice (some ⟨B, kk * 3, none⟩) n c]).run Tryz.prog w = .ok (.tuple #[]) (w.setCells B (kk * 3) (zerosS n)) := by
 have hz : (Builtin.zeroCells (Value.agg #[(.int .i64 0), (.int .i64 0), (.int .i64 0)]).cells n).toList = zerosS n := by
  apply List.ext_getElem?
  intro i
  have hsz : (Value.agg #[(.int .i64 0), (.int .i64 0), (.int .i64 0)]).cells = #[.int .i64 0, .int .i64 0, .int .i64 0] := rfl
  rw [hsz]
  unfold Builtin.zeroCells
  rcases Nat.lt_or_ge i (n * 3) with h | h
  ·rw [zerosS_get n i h]
   simp [h]
   have : i % 3 < 3 := Nat.mod_lt _ (by decide)
   match hm : i % 3, this with
   | 0, _ => rfl
   | 1, _ => rfl
   | 2, _ => rfl
  ·rw [List.getElem?_eq_none (l := zerosS n) (by rw [zerosS_len]; omega), List.getElem?_eq_none (by simp; omega)]
 have hst := run_storeCells_cells (P := Tryz.prog) B (kk * 3) (zerosS n) 0 w (by simpa [zerosS_len] using hc) (by simpa [zerosS_len] using hf) (by
  intro v hv
  obtain ⟨i, hi, he⟩ := List.getElem_of_mem hv
  have := zerosS_get n i (by rw [← zerosS_len]; exact hi)
  rw [List.getElem?_eq_getElem hi, he] at this
  rw [Option.some.inj this]; rfl)
 simp only [Nat.add_zero] at hst
 have hu : ∀ w, (underlying 81).run Tryz.prog w = .ok (TypeDesc.slice 90) w := run_underlying Tryz.underlying81
 have hv : ∀ w, (zeroValue 90).run Tryz.prog w = .ok (Value.agg #[(.int .i64 0), (.int .i64 0), (.int .i64 0)]) w := fun w => by kernel_rfl
 obtain ⟨m, rfl⟩ : ∃ m, n = m + 1 := ⟨n - 1, by omega⟩
 simp [Builtin.clear_, hu, hv, hz, hst]
set_option maxHeartbeats 4000000 in
set_option maxRecDepth 100000 in
theorem compact_calls (B cap : Nat) (d : Array Seed) (w : World) (hR : SeedRow B cap d w) (hcap : cap ≤ 9223372036854775807) :
  Calls Tryz.prog 128 #[.slice (some ⟨B, 0, none⟩) d.size cap] w fun e w' => e = .returned (.slice (some ⟨B, 0, none⟩) (compactUpTo d d.size).length cap) ∧ SeedRow B cap (compactUpTo d d.size).toArray w' ∧ w.grownBy w' (some B) := by
 have hdc : d.size ≤ cap := by obtain ⟨_, _, _, h, _⟩ := hR; exact h
 have hu25 := Tryz.underlying90
 have same : ∀ q, (∀ j, j < d.size → keeps d j = true) → (compactUpTo d d.size).length = d.size ∧ SeedRow B cap (compactUpTo d d.size).toArray (w.drewN q) ∧ w.grownBy (w.drewN q) (some B) := by
  intro q hall
  rw [compactUpTo_all d _ hall, range_map_get]
  exact ⟨by simp, by simpa using RowIn.drewN hR q, grownBy_drewN (grownBy_refl w _) q⟩
 have HS := Aside0.mk same
 have HR := Aside0.mk hR
 have HD := Aside0.mk hdc
 clear same hR
 by_cases h2 : d.size < 2
 ·go_enter Tryz.func128, Tryz.ntmps128
  go_wp2
  go_ret
  obtain ⟨e1, e2, e3⟩ := HS.out 0 (fun j hj => keeps_lt_one d j (by omega))
  exact ⟨by rw [e1]; rfl, e2, e3⟩
 ·go_enter Tryz.func128, Tryz.ntmps128
  go_wp2
  go_loopg [3] d.size (fun g s3 wr => ∃ k : Nat, 1 ≤ k ∧ k ≤ d.size ∧ d.size - k ≤ g ∧ s3 = .int .i64 k ∧ Aside0 (∃ q, wr = w.drewN q) ∧ Aside0 (∀ j, j < k → keeps d j = true))
  case atStart => exact ⟨1, Nat.le_refl _, by omega, by omega, rfl, ⟨0, rfl⟩, ⟨keeps_lt_one d⟩⟩
  case round =>
   obtain ⟨k, hk1, hk, hg, rfl, HW, HA⟩ := hrel
   have HRw : Aside0 (SeedRow B cap d wr) := ⟨by obtain ⟨q, e⟩ := HW.out; rw [e]; exact RowIn.drewN HR.out q⟩
   by_cases hlt : k < d.size
   ·obtain ⟨c0, c1, c2⟩ := SeedRow.cells HRw.out hlt
    obtain ⟨b0, b1, b2⟩ := SeedRow.cells HRw.out (show k - 1 < d.size by omega)
    generalize hx : d[k]! = x at c0 c1 c2
    generalize hy : d[k - 1]! = y at b0 b1 b2
    have HX := Aside0.mk hx
    have HY := Aside0.mk hy
    clear hx hy
    by_cases hdup : x = y
    ·have hd := (seed_beq x y).trans (decide_eq_true hdup)
     go_wp2_with fail
     go_region
     go_wp2
     have HW1 := Aside0.mk (show SeedRow B cap d wr.drew from HRw.out)
     have HG1 := Aside0.mk (show w.grownBy wr.drew (some B) from by obtain ⟨q, e⟩ := HW.out; rw [e]; exact grownBy_drewN (grownBy_refl w _) (q + 1))
     have HI1 := Aside0.mk (CompInv.start HA.out (keeps_neg (show 0 < k by omega) (by rw [HX.out, HY.out, hdup])))
     clear c0 c1 c2 b0 b1 b2 hd hdup HX HY HA HW HRw
     generalize wr.drew = w1 at *
     go_loopg [3, 5] d.size (fun g s3 s5 wv => ∃ (kk k2 : Nat) (dk : Array Seed), s3 = .int .i64 kk ∧ s5 = .int .i64 k2 ∧ 1 ≤ k2 ∧ k + k2 ≤ d.size ∧ d.size - (k + k2) ≤ g ∧ Aside0 (SeedRow B cap dk wv) ∧ Aside0 (w.grownBy wv (some B)) ∧ Aside0 (CompInv d (k + k2) kk dk))
     case atStart => exact ⟨k, 1, d, rfl, rfl, Nat.le_refl _, by omega, by omega, HW1, HG1, HI1⟩
     case round =>
      obtain ⟨kk, k2, dk, rfl, rfl, h1, hle, hg2, HRv, HGv, HI⟩ := hrel
      have hkk := HI.out.lt
      have hds := HI.out.size
      by_cases hlt2 : k + k2 < d.size
      ·obtain ⟨c0, c1, c2⟩ := SeedRow.cells HRv.out (show k + k2 < dk.size by omega)
       obtain ⟨b0, b1, b2⟩ := SeedRow.cells HRv.out (show k + (k2 - 1) < dk.size by omega)
       rw [Nat.add_mul, HI.out.high (k + k2) (by omega)] at c0 c1 c2
       rw [Nat.add_mul, HI.out.high (k + (k2 - 1)) (by omega)] at b0 b1 b2
       obtain ⟨a0, a1, a2⟩ := SeedRow.cells HRv.out (show kk < dk.size by omega)
       have f0 := RowIn.free HRv.out (kk * 3)
       have f1 := RowIn.free HRv.out (kk * 3 + 1)
       have f2 := RowIn.free HRv.out (kk * 3 + 2)
       generalize hx : d[k + k2]! = x at c0 c1 c2
       generalize hy : d[k + (k2 - 1)]! = y at b0 b1 b2
       generalize dk[kk]! = z at a0 a1 a2
       have HX := Aside0.mk hx
       have HY := Aside0.mk (show d[k + k2 - 1]! = y by rw [show k + k2 - 1 = k + (k2 - 1) by omega]; exact hy)
       have HK := Aside0.mk hkk
       have HD2 := Aside0.mk hds
       clear hx hy hds
       by_cases hdup : x = y
       ·have hd := (seed_beq x y).trans (decide_eq_true hdup)
        have HE := Aside0.mk hdup
        clear hdup
        go_wp2_with fail
        go_region
        go_wp2
        go_roundg (d.size - (k + (k2 + 1)))
        case measure => omega
        case rel => exact ⟨kk, k2 + 1, dk, rfl, by go_num, by omega, by omega, Nat.le_refl _, HRv, ⟨grownBy_drewN HGv.out 1⟩, ⟨HI.out.skip (keeps_neg (by omega) (by rw [HX.out, HY.out, HE.out]))⟩⟩
       ·have hd := (seed_beq x y).trans (decide_eq_false hdup)
        have HE := Aside0.mk hdup
        clear hdup
        go_wp2_with fail
        go_region
        go_wp2
        go_roundg (d.size - (k + (k2 + 1)))
        case measure => omega
        case rel =>
         refine ⟨kk + 1, k2 + 1, dk.setIfInBounds kk x, by go_num, by go_num, by omega, by omega, Nat.le_refl _, ⟨?_⟩, ⟨?_⟩, ⟨?_⟩⟩
         ·exact RowIn.store encS_len HRv.out (by have := HD2.out; have := HK.out; omega) x
         ·exact grownBy_drewN (grownBy_trans HGv.out (setCells_grown B (encS x) (kk * 3) wr)) 1
         ·have := HI.out.keep hlt2 (keeps_pos (by rw [HX.out, HY.out]; exact HE.out))
          rwa [HX.out] at this
      ·have hend : k + k2 = d.size := by omega
       have hcl := clear_rows B kk (d.size - kk) (cap - kk) wr (by omega) (fun j hj => RowIn.some_cell HRv.out (by have : (kk + (d.size - kk)) * 3 ≤ cap * 3 := Nat.mul_le_mul_right _ (by omega); rw [Nat.add_mul] at this; omega)) (fun j hj => RowIn.free HRv.out _)
       have HK := Aside0.mk hkk
       have HD2 := Aside0.mk hds
       have hkd : kk < d.size := by omega
       have hend' := Aside0.mk hend
       clear hds hkk hend
       go_wp2
       go_ret
       have hI := HI.out
       rw [hend'.out] at hI
       have hlow : (dk.extract 0 kk) = (compactUpTo d d.size).toArray := by
        apply Array.ext
        ·simp [hI.len]; have := HD2.out; omega
        ·intro j hj1 hj2
         have hj : j < kk := by simpa using (by simp at hj1; omega : j < kk)
         have h3 := hI.low j hj
         rw [List.getElem?_eq_getElem (by rw [hI.len]; exact hj)] at h3
         have h4 := Option.some.inj h3
         rw [getElem!_pos dk j (by have := HD2.out; omega)] at h4
         simp [h4]
       refine ⟨by rw [hI.len]; rfl, ?_, grownBy_trans HGv.out (setCells_grown B _ _ _)⟩
       rw [← hlow]
       exact RowIn.cut HRv.out (by have := HD2.out; omega) _
    ·have hd := (seed_beq x y).trans (decide_eq_false hdup)
     have HE := Aside0.mk hdup
     clear hdup
     go_wp2_with fail
     go_region
     go_wp2
     go_roundg (d.size - (k + 1))
     case measure => omega
     case rel =>
      refine ⟨k + 1, by omega, by omega, Nat.le_refl _, by go_num, ⟨?_⟩, ⟨fun j hj => ?_⟩⟩
      ·obtain ⟨q, e⟩ := HW.out; exact ⟨q + 1, by rw [e]; rfl⟩
      ·by_cases e : j = k
       ·subst e
        exact keeps_pos (by rw [HX.out, HY.out]; exact HE.out)
       ·exact HA.out j (by omega)
   ·have hkd : k = d.size := by omega
    have HKD := Aside0.mk hkd
    have hkl : ¬ (k : Int) < (d.size : Int) := by omega
    clear hkd
    go_wp2
    go_ret
    obtain ⟨q, e⟩ := HW.out
    obtain ⟨e1, e2, e3⟩ := HS.out q (by rw [← HKD.out]; exact HA.out)
    rw [e]
    exact ⟨by rw [e1]; rfl, e2, e3⟩
end Go.Proofs.YthgehdembghdaaaGreat.P
namespace Go.Proofs.YthgehdembghdaaaGreat.P
open Go.RowKit Go.Proofs.YthgehdembghdaaaGreatW.PrintWords Go.Proofs.YthgehdembghdaaaGreatW.PrintLast Go.Proofs.YthgehdembghdaaaGreatW.PrintMore
open Go.Lib
set_option linter.unusedVariables false
set_option linter.unusedSimpArgs false
def ltS (a b : Seed) : Bool := decide (a.f2 < b.f2 ∨ a.f2 = b.f2 ∧ (a.f0 < b.f0 ∨ a.f0 = b.f0 ∧ a.f1 < b.f1))
theorem seed_ext {a b : Seed} (h0 : a.f0 = b.f0) (h1 : a.f1 = b.f1) (h2 : a.f2 = b.f2) : a = b := by cases a; cases b; simp_all
theorem ltS_ord (a b : Seed) : ltOf ordS a b = ltS a b := by
 unfold ltOf ltS ordS orI cmpI
 rw [decide_eq_decide]
 split <;> split <;> omega
theorem ltS_swo : Go.Sort.SWO (ltOf ordS) where
 irrefl x := by rw [ltS_ord]; simp [ltS]
 trans x y z h1 h2 := by rw [ltS_ord] at *; simp only [ltS, decide_eq_true_eq] at *; omega
 ntrans x y z h1 h2 := by rw [ltS_ord] at *; simp only [ltS, decide_eq_false_iff_not] at *; omega
theorem ltS_total (x y : Seed) (h1 : ltOf ordS x y = false) (h2 : ltOf ordS y x = false) : x = y := by
 rw [ltS_ord] at *
 simp only [ltS, decide_eq_false_iff_not] at *
 exact seed_ext (by omega) (by omega) (by omega)
def insS (x : Seed) : List Seed → List Seed
 | [] => [x]
 | y :: r => if ltS y x = true then y :: insS x r else if y = x then y :: r else x :: y :: r
def sortU (l : List Seed) : List Seed := l.foldl (fun acc x => insS x acc) []
def Rises (l : List Seed) : Prop := l.Pairwise (fun a b => ltS a b = true)
theorem ltS_trans {a b c : Seed} (h1 : ltS a b = true) (h2 : ltS b c = true) : ltS a c = true := by simp only [ltS, decide_eq_true_eq] at *; omega
theorem ltS_irrefl (a : Seed) : ltS a a = false := by simp [ltS]
theorem ltS_or (a b : Seed) : ltS a b = true ∨ a = b ∨ ltS b a = true := by
 by_cases h1 : ltS a b = true
 ·exact .inl h1
 ·by_cases h2 : ltS b a = true
  ·exact .inr (.inr h2)
  ·exact .inr (.inl (ltS_total a b (by rw [ltS_ord]; simpa using h1) (by rw [ltS_ord]; simpa using h2)))
theorem mem_insS (x z : Seed) (l : List Seed) : z ∈ insS x l ↔ z = x ∨ z ∈ l := by
 induction l with
 | nil => simp [insS]
 | cons y r ih =>
  unfold insS
  split
  ·simp only [List.mem_cons, ih]
   constructor
   ·rintro (h | h | h) <;> simp [h]
   ·rintro (h | h | h) <;> simp [h]
  ·split
   ·rename_i h
    subst h
    simp
   ·simp
theorem rises_insS (x : Seed) (l : List Seed) (h : Rises l) : Rises (insS x l) := by
 induction l with
 | nil => simp [insS, Rises]
 | cons y r ih =>
  unfold Rises at h ih ⊢
  rw [List.pairwise_cons] at h
  unfold insS
  split
  ·rename_i hlt
   rw [List.pairwise_cons]
   refine ⟨fun z hz => ?_, ih h.2⟩
   rcases (mem_insS x z r).1 hz with rfl | hz
   ·exact hlt
   ·exact h.1 z hz
  ·rename_i hlt
   split
   ·rw [List.pairwise_cons]; exact h
   ·rename_i hne
    have hxy : ltS x y = true := by
     rcases ltS_or x y with h1 | h1 | h1
     ·exact h1
     ·exact absurd h1.symm hne
     ·exact absurd h1 hlt
    rw [List.pairwise_cons]
    refine ⟨fun z hz => ?_, List.pairwise_cons.2 h⟩
    rcases List.mem_cons.1 hz with rfl | hz
    ·exact hxy
    ·exact ltS_trans hxy (h.1 z hz)
theorem sortU_fold (l acc : List Seed) (h : Rises acc) : Rises (l.foldl (fun acc x => insS x acc) acc) ∧ ∀ z, z ∈ l.foldl (fun acc x => insS x acc) acc ↔ z ∈ acc ∨ z ∈ l := by
 induction l generalizing acc with
 | nil => exact ⟨h, fun z => by simp⟩
 | cons x r ih =>
  obtain ⟨h1, h2⟩ := ih (insS x acc) (rises_insS x acc h)
  refine ⟨h1, fun z => ?_⟩
  rw [List.foldl_cons, h2 z, mem_insS, List.mem_cons]
  constructor
  ·rintro ((h | h) | h) <;> simp [h]
  ·rintro (h | h | h) <;> simp [h]
theorem rises_sortU (l : List Seed) : Rises (sortU l) := (sortU_fold l [] List.Pairwise.nil).1
theorem mem_sortU (l : List Seed) (z : Seed) : z ∈ sortU l ↔ z ∈ l := by rw [sortU, (sortU_fold l [] List.Pairwise.nil).2 z]; simp
theorem rises_unique {a b : List Seed} (ha : Rises a) (hb : Rises b) (h : ∀ z, z ∈ a ↔ z ∈ b) : a = b := by
 induction a generalizing b with
 | nil =>
  cases b with
  | nil => rfl
  | cons y r => exact absurd ((h y).2 (by simp)) (by simp)
 | cons x r ih =>
  cases b with
  | nil => exact absurd ((h x).1 (by simp)) (by simp)
  | cons y s =>
   unfold Rises at ha hb ih
   rw [List.pairwise_cons] at ha hb
   have hxy : x = y := by
    rcases List.mem_cons.1 ((h x).1 (by simp)) with e | e
    ·exact e
    ·rcases List.mem_cons.1 ((h y).2 (by simp)) with e' | e'
     ·exact e'.symm
     ·have h1 := hb.1 x e
      have h2 := ha.1 y e'
      have := ltS_trans h1 h2
      rw [ltS_irrefl] at this
      exact absurd this (by simp)
   subst hxy
   refine congrArg (x :: ·) (ih ha.2 hb.2 (fun z => ?_))
   have hz := h z
   simp only [List.mem_cons] at hz
   constructor
   ·intro hr
    rcases hz.1 (.inr hr) with e | e
    ·subst e; have := ha.1 z hr; rw [ltS_irrefl] at this; exact absurd this (by simp)
    ·exact e
   ·intro hr
    rcases hz.2 (.inr hr) with e | e
    ·subst e; have := hb.1 z hr; rw [ltS_irrefl] at this; exact absurd this (by simp)
    ·exact e
theorem compact_sorted (l : List Seed) (d : Array Seed) (hs : ∀ i j, i < j → j < d.size → ltS d[j]! d[i]! = false) (hm : ∀ z, z ∈ d.toList ↔ z ∈ l) : compactUpTo d d.size = sortU l := by
 have key : ∀ m, m ≤ d.size → Rises (compactUpTo d m) ∧ (∀ z, z ∈ compactUpTo d m ↔ ∃ j, j < m ∧ d[j]! = z) := by
  intro m
  induction m with
  | zero => intro _; exact ⟨by simp [compactUpTo, Rises], fun z => by simp [compactUpTo]⟩
  | succ m ih =>
   intro hm
   obtain ⟨h1, h2⟩ := ih (by omega)
   rw [compactUpTo_succ]
   by_cases hk : keeps d m = true
   ·rw [if_pos hk]
    have hlt : ∀ j, j < m → ltS d[j]! d[m]! = true := by
     intro j hj
     have hne : d[m]! ≠ d[m - 1]! := by
      unfold keeps at hk
      rw [decide_eq_true_eq] at hk
      rcases hk with hk | hk
      ·omega
      ·exact hk
     have h3 : ltS d[m - 1]! d[m]! = true := by
      rcases ltS_or d[m - 1]! d[m]! with h | h | h
      ·exact h
      ·exact absurd h.symm hne
      ·rw [hs (m - 1) m (by omega) (by omega)] at h; exact absurd h (by simp)
     by_cases e : j = m - 1
     ·subst e; exact h3
     ·rcases ltS_or d[j]! d[m - 1]! with h | h | h
      ·exact ltS_trans h h3
      ·rw [h]; exact h3
      ·rw [hs j (m - 1) (by omega) (by omega)] at h; exact absurd h (by simp)
    refine ⟨?_, fun z => ?_⟩
    ·unfold Rises
     rw [List.pairwise_append]
     refine ⟨h1, by simp, fun a ha b hb => ?_⟩
     rw [List.mem_singleton] at hb
     subst hb
     obtain ⟨j, hj, rfl⟩ := (h2 a).1 ha
     exact hlt j hj
    ·rw [List.mem_append, List.mem_singleton, h2 z]
     constructor
     ·rintro (⟨j, hj, e⟩ | e)
      ·exact ⟨j, by omega, e⟩
      ·exact ⟨m, by omega, e.symm⟩
     ·rintro ⟨j, hj, e⟩
      by_cases h : j = m
      ·subst h; exact .inr e.symm
      ·exact .inl ⟨j, by omega, e⟩
   ·rw [if_neg hk, List.append_nil]
    refine ⟨h1, fun z => ?_⟩
    have h0 : ¬ m = 0 ∧ d[m]! = d[m - 1]! := by
     unfold keeps at hk
     rw [decide_eq_true_eq] at hk
     constructor
     ·intro h; exact hk (.inl h)
     ·by_cases h : d[m]! = d[m - 1]!
      ·exact h
      ·exact absurd (.inr h) hk
    rw [h2 z]
    constructor
    ·rintro ⟨j, hj, e⟩; exact ⟨j, by omega, e⟩
    ·rintro ⟨j, hj, e⟩
     by_cases h : j = m
     ·subst h; exact ⟨j - 1, by omega, by rw [← h0.2]; exact e⟩
     ·exact ⟨j, by omega, e⟩
 obtain ⟨h1, h2⟩ := key d.size (Nat.le_refl _)
 refine rises_unique h1 (rises_sortU l) (fun z => ?_)
 rw [h2 z, mem_sortU, ← hm z]
 constructor
 ·rintro ⟨j, hj, rfl⟩
  rw [getElem!_pos d j hj]
  exact Array.getElem_mem_toList hj
 ·intro hz
  obtain ⟨j, hj, e⟩ := List.getElem_of_mem hz
  exact ⟨j, by simpa using hj, by rw [getElem!_pos d j (by simpa using hj)]; simpa using e⟩
def seedsSortF (l : List Seed) : Option (List Seed) := if l.length < 5864062014805 then some (sortU l) else none
theorem reps_flat {R : Seed → List Value → Prop} (hR : ∀ p cs, R p cs → cs = encS p) : ∀ (l : List Seed) (cs : List Value), Reps R 3 l cs → cs = l.flatMap encS := by
 intro l
 induction l with
 | nil =>
  intro cs h
  have := h.1
  simp at this
  simp [this]
 | cons x r ih =>
  intro cs h
  have h0 := hR _ _ (h.2 0 x rfl)
  rw [Nat.zero_mul, List.drop_zero] at h0
  have h1 : Reps R 3 r (cs.drop 3) := by
   refine ⟨by have := h.1; simp at this ⊢; omega, fun j p hj => ?_⟩
   have := h.2 (j + 1) p (by simpa using hj)
   rwa [show (j + 1) * 3 = 3 + j * 3 by omega, ← List.drop_drop] at this
  rw [List.flatMap_cons, ← ih _ h1, ← h0, List.take_append_drop]
theorem flat_reps {R : Seed → List Value → Prop} (hR : ∀ p, R p (encS p)) : ∀ l : List Seed, Reps R 3 l (l.flatMap encS) := by
 intro l
 induction l with
 | nil => exact Reps.none _ _
 | cons x r ih =>
  refine ⟨by have := ih.1; simp [encS] at this ⊢; omega, fun j p hj => ?_⟩
  rcases j with _ | j
  ·have : x = p := by simpa using hj
   subst this
   rw [Nat.zero_mul, List.drop_zero, List.flatMap_cons, show List.take 3 (encS x ++ List.flatMap encS r) = encS x by rw [← encS_len x, List.take_left]]
   exact hR x
  ·have := ih.2 j p (by simpa using hj)
   rw [List.flatMap_cons, show (j + 1) * 3 = 3 + j * 3 by omega, ← List.drop_drop, show List.drop 3 (encS x ++ List.flatMap encS r) = List.flatMap encS r by rw [← encS_len x, List.drop_left]]
   exact this
theorem R_rowS {w : World} {base : Nat} {ok : Nat → Prop} {v : Value} {l : List Seed} (h : Kd.R k90 90 w base ok v l) :
  (v = .slice none 0 0 ∧ l = []) ∨ ∃ B cap, v = .slice (some ⟨B, 0, none⟩) l.length cap ∧ base ≤ B ∧ cap ≤ maxLen ∧ SeedRow B cap l.toArray w := by
 obtain ⟨_, inner, ho, hr⟩ := h
 exact ownsRow_RowIn encS_len ho (reps_flat (fun p cs h => k90_openM h) l inner hr)
theorem rowS_R {w : World} {base B cap : Nat} {l : List Seed} (h : SeedRow B cap l.toArray w) (hb : base ≤ B) (hc : cap ≤ maxLen) : Kd.R k90 90 w base (fun _ => True) (.slice (some ⟨B, 0, none⟩) l.length cap) l :=
 ⟨fun _ _ => trivial, _, RowIn_ownsRow encS_len h hb hc, flat_reps (fun p => k90_mkM _ _ _ p) l⟩
theorem compact_none (A : Option Addr) (c : Nat) (w : World) : Calls Tryz.prog 128 #[.slice A 0 c] w fun e w' => e = .returned (.slice A 0 c) ∧ w' = w := by
 go_enter Tryz.func128, Tryz.ntmps128
 go_wp2
 go_ret
 exact ⟨rfl, rfl⟩
theorem sort_none (A : Option Addr) (c : Nat) (fv : Value) (w : World) : Calls Tryz.prog 126 #[.slice A 0 c, fv] w fun e w' => e = .returned (.tuple #[]) ∧ w' = w :=
 AnyF.slices_SortFunc_none Tryz.sortSeed A c fv w
theorem sort_row (B cap : Nat) (l : List Seed) (w : World) (h : SeedRow B cap l.toArray w) (hl : l.length < 4611686018427387904) :
  Calls Tryz.prog 126 #[.slice (some ⟨B, 0, none⟩) l.length cap, .func (.func 127) #[] #[]] w fun e w' =>
   e = .returned (.tuple #[]) ∧ ∃ d : Array Seed, d.size = l.length ∧ (∀ i j, i < j → j < d.size → ltS d[j]! d[i]! = false) ∧ (∀ z, z ∈ d.toList ↔ z ∈ l) ∧ SeedRow B cap d w' ∧ w.grownBy w' (some B) := by
 have eg : ∀ args w, (callFunc 127 args).run Tryz.prog w = .ok (.enter 127 args) w := enters_of Tryz.func127 (by kernel_rfl) rfl
 have hz : l.toArray.size = l.length := by simp
 have hc := AnyQ.slices_SortFunc Tryz.sortSeed 3 (fun w => by kernel_rfl) (fun w => by kernel_rfl) encS encS_len (fun x v hv => by simp [encS] at hv; rcases hv with rfl | rfl | rfl <;> rfl) ordS ltS_swo 127 #[] B 0 cap l.toArray w eg (fun m os dk _ x y => order_calls x y _) (RowIn.holds encS_len h) (RowIn.lt h) (by rw [hz]; exact hl)
 rw [hz] at hc
 refine hc.mono ?_
 rintro e w' ⟨rfl, d, n, os, hp, hs, rfl⟩
 have hsz : d.size = l.length := by rw [hp.1, hz]
 refine ⟨rfl, d, hsz, fun i j hij hj => ?_, fun z => ?_, RowIn.sorted encS_len h n d (by rw [hsz, hz]) os, sortWorld_grown n d os (RowIn.lt h)⟩
 ·rw [← ltS_ord]
  exact hs i j (Nat.zero_le _) hij (by rw [← hsz]; exact hj)
 ·have hperm := hp.2.2
  have e1 : d.extract 0 l.length = d := by rw [← hsz]; simp
  have e2 : l.toArray.extract 0 l.length = l.toArray := by rw [← hz]; simp
  rw [e1, e2] at hperm
  exact hperm.mem_iff
set_option maxHeartbeats 1000000 in
theorem seedsSort_calls (A0 : Option Addr) (c0 : Nat) (l0 : List Seed) (r : List Seed) (w : World) (hr0 : Kd.C k90 w A0 l0.length l0) (hc0 : l0.length ≤ c0) (h : seedsSortF l0 = some r) :
  Calls Tryz.prog 99 #[.slice A0 l0.length c0] w fun e w' => ∃ v0_ : Value, e = .returned (v0_) ∧ Kd.R k90 90 w' w.heap.size (fun _ => True) v0_ r ∧ Below w.heap.size w w' := by
 unfold seedsSortF at h
 by_cases hl : l0.length < 5864062014805
 ·rw [if_pos hl] at h
  obtain rfl := Option.some.inj h
  clear h
  have hclone : Calls Tryz.prog 125 #[.slice A0 l0.length c0] w fun e w' => ∃ v, e = .returned v ∧ Kd.R k90 90 w' w.heap.size (fun _ => True) v l0 ∧ Below w.heap.size w w' := by
   cases A0 with
   | none =>
    obtain rfl := C_none hr0
    exact (clone_nil _ _ w).mono fun _ _ ⟨he, hw⟩ => ⟨_, he, Kd.R_nil _ _ _ _ _, by rw [hw]; exact Below.refl _ _⟩
   | some ad => exact clone_some ad c0 l0 w hr0 hl
  have HL := Aside0.mk hl
  clear hr0 hc0 hl
  go_enter Tryz.func99, Tryz.ntmps99
  go_wp2_with fail
  refine hclone.mono ?_
  rintro e w1 ⟨v, rfl, hR, hB⟩
  clear hclone
  rcases R_rowS hR with ⟨rfl, rfl⟩ | ⟨B, cap, rfl, hBb, hcap, hrow⟩
  ·clear hR
   have HB := Aside0.mk hB
   clear hB
   go_wp2_with (first | (go_at_call 126; refine (sort_none _ _ _ _).mono ?_; rintro e w2 ⟨rfl, rfl⟩) | (go_at_call 128; refine (compact_none _ _ _).mono ?_; rintro e w2 ⟨rfl, rfl⟩))
   go_ret
   exact ⟨_, rfl, Kd.R_nil _ _ _ _ _, HB.out⟩
  ·clear hR
   have HB := Aside0.mk hB
   have HBb := Aside0.mk hBb
   have HC := Aside0.mk hcap
   have HS := Aside0.mk (sort_row B cap l0 w1 hrow (by have := HL.out; omega))
   clear hB hBb hcap hrow
   go_wp2_with fail
   refine HS.out.mono ?_
   rintro e w2 ⟨rfl, d, hd, hs, hm, hrow, hg⟩
   have HP := Aside0.mk (compact_sorted l0 d hs hm)
   have hcc := compact_calls B cap d w2 hrow (by have := HC.out; unfold maxLen at this; omega)
   rw [hd, ← hd, HP.out] at hcc
   have HQ := Aside0.mk hcc
   have HG := Aside0.mk hg
   have HD := Aside0.mk hd
   clear hs hm hrow hg hcc HS
   rw [← hd]
   clear hd
   go_wp2_with fail
   refine HQ.out.mono ?_
   rintro e w3 ⟨rfl, hrow3, hg3⟩
   have HR3 := Aside0.mk hrow3
   have HG3 := Aside0.mk hg3
   clear hrow3 hg3
   go_wp2
   go_ret
   refine ⟨_, rfl, rowS_R HR3.out HBb.out HC.out, ?_⟩
   exact HB.out.grown (grownBy_trans HG.out HG3.out) (HB.out.size) (fun k hk => by
    have : B = k := by simpa using hk
    rw [← this]; exact HBb.out)
 ·rw [if_neg hl] at h
  exact absurd h (by simp)
end Go.Proofs.YthgehdembghdaaaGreat.P
