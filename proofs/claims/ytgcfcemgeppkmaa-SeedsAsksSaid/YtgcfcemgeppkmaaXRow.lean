/-
  A row of elements of k cells each in a block that is known whole: what a store, a clear, a draw turn of it. No program's text.
-/
import Derived.Test.YtgcfcemgeppkmaaPx0
import Derived.Shelf.SlSortCmp.InsertionK
import Derived.Lib.SlicesCompact
namespace Go.Proofs.Ytgcfcemgeppkmaa.P
open Go.Sort (HoldsK flatK size_flatK get_flatK putRowK)
theorem sz_putRowK {α : Type} [Inhabited α] {enc : α → List Value} {k : Nat} (w : World) (blk off : Nat) (d : Array α) : (putRowK enc k w blk off d).heap.size = w.heap.size := by simp [putRowK, Go.Sort.putRow, Go.Sort.mapBlock]
open Go.RowKit Go.Proofs.YtgcfcemgeppkmaaW.PrintWords Go.Proofs.YtgcfcemgeppkmaaW.PrintLast Go.Proofs.YtgcfcemgeppkmaaW.PrintMore
set_option linter.unusedVariables false
set_option linter.unusedSimpArgs false

theorem setCells_block (b : Nat) : ∀ (vs : List Value) (o : Nat) (w : World) (cs : Array Value) (e : TypeId) (fr : Nat × Nat), w.heap[b]? = some (.cells cs e fr) →
    ∃ cs', (w.setCells b o vs).heap[b]? = some (.cells cs' e fr) ∧ cs'.size = cs.size ∧ (∀ t, t < o ∨ o + vs.length ≤ t → cs'[t]? = cs[t]?) ∧ ∀ t, t < vs.length → o + t < cs.size → cs'[o + t]? = vs[t]?
  | [], o, w, cs, e, fr, h => ⟨cs, h, rfl, fun _ _ => rfl, fun t ht => by simp at ht⟩
  | v :: r, o, w, cs, e, fr, h => by
    have h1 : (w.setCell ⟨b, o, none⟩ v).heap[b]? = some (.cells (cs.setIfInBounds o v) e fr) := by
      simp only [World.setCell, Array.getElem?_modify, h]
      simp
    obtain ⟨cs', g1, g2, g3, g4⟩ := setCells_block b r (o + 1) _ _ e fr h1
    refine ⟨cs', g1, by simpa using g2, fun t ht => ?_, fun t ht hs => ?_⟩
    · rw [List.length_cons] at ht
      rw [g3 t (by omega), Array.getElem?_setIfInBounds]
      have : o ≠ t := by omega
      simp [this]
    · rcases t with _ | t
      · rw [Nat.add_zero] at hs ⊢
        rw [g3 o (by omega), Array.getElem?_setIfInBounds]
        simp [hs]
      · have := g4 t (by simpa using ht) (by simp; omega)
        rw [show o + (t + 1) = o + 1 + t by omega, this]
        simp
theorem setCells_grown (b : Nat) : ∀ (vs : List Value) (o : Nat) (w : World), w.grownBy (w.setCells b o vs) (some b)
  | [], o, w => ⟨rfl, rfl, rfl, Nat.le_refl _, fun _ _ _ => rfl⟩
  | v :: r, o, w => by
    have h := setCells_grown b r (o + 1) (w.setCell ⟨b, o, none⟩ v)
    refine ⟨h.os, h.tape, h.output, by have := h.size; rwa [show (w.setCell ⟨b, o, none⟩ v).heap.size = w.heap.size by simp [World.setCell]] at this, fun k hk hne => ?_⟩
    rw [show w.setCells b o (v :: r) = (w.setCell ⟨b, o, none⟩ v).setCells b (o + 1) r from rfl, h.block k (by rw [show (w.setCell ⟨b, o, none⟩ v).heap.size = w.heap.size by simp [World.setCell]]; exact hk) hne]
    exact Below.heap_setCell w ⟨b, o, none⟩ v k (fun e => hne (by rw [e]))

theorem grownBy_refl (w : World) (r : Option Nat) : w.grownBy w r := ⟨rfl, rfl, rfl, Nat.le_refl _, fun _ _ _ => rfl⟩
theorem grownBy_trans {a b c : World} {r : Option Nat} (h : a.grownBy b r) (k : b.grownBy c r) : a.grownBy c r :=
  ⟨k.os.trans h.os, k.tape.trans h.tape, k.output.trans h.output, Nat.le_trans h.size k.size, fun i hi hne => (k.block i (Nat.lt_of_lt_of_le hi h.size) hne).trans (h.block i hi hne)⟩
theorem grownBy_drewN {a b : World} {r : Option Nat} (h : a.grownBy b r) (n : Nat) : a.grownBy (b.drewN n) r := by
  have e : ∀ (n : Nat) (b : World), (b.drewN n).heap = b.heap ∧ (b.drewN n).os = b.os ∧ (b.drewN n).tape = b.tape ∧ (b.drewN n).output = b.output := by
    intro n
    induction n with
    | zero => intro b; exact ⟨rfl, rfl, rfl, rfl⟩
    | succ n ih => intro b; rw [← World.drew_drewN]; exact ih b.drew
  obtain ⟨e1, e2, e3, e4⟩ := e n b
  exact ⟨e2.trans h.os, e3.trans h.tape, e4.trans h.output, by rw [e1]; exact h.size, fun i hi hne => by rw [e1]; exact h.block i hi hne⟩
theorem drewN_heap (b : World) (n : Nat) : (b.drewN n).heap = b.heap := by
  induction n generalizing b with
  | zero => rfl
  | succ n ih => rw [← World.drew_drewN]; exact ih b.drew

variable {α : Type} [Inhabited α]

/-- Block B holds, from its head on, d's elements, k cells each; it has room for cap of them. -/
def RowIn (enc : α → List Value) (k e B cap : Nat) (d : Array α) (w : World) : Prop :=
  ∃ cs, w.heap[B]? = some (.cells cs e (0, 0)) ∧ cs.size = cap * k ∧ d.size ≤ cap ∧ ∀ j, j < d.size → ∀ c, c < k → cs[j * k + c]? = (enc d[j]!)[c]?

variable {enc : α → List Value} {k e B cap : Nat} {d : Array α} {w : World}

theorem RowIn.heap {w' : World} (h : RowIn enc k e B cap d w) (hb : w'.heap[B]? = w.heap[B]?) : RowIn enc k e B cap d w' := by
  obtain ⟨cs, h1, h2⟩ := h
  exact ⟨cs, hb.trans h1, h2⟩
theorem RowIn.drewN (h : RowIn enc k e B cap d w) (n : Nat) : RowIn enc k e B cap d (w.drewN n) := h.heap (by rw [drewN_heap])
theorem RowIn.drew (h : RowIn enc k e B cap d w) : RowIn enc k e B cap d w.drew := h
theorem RowIn.lt (h : RowIn enc k e B cap d w) : B < w.heap.size := by
  obtain ⟨cs, h1, _⟩ := h
  rcases Nat.lt_or_ge B w.heap.size with h | h
  · exact h
  · rw [Array.getElem?_eq_none h] at h1; exact absurd h1 (by simp)
theorem RowIn.cell (h : RowIn enc k e B cap d w) {j : Nat} (hj : j < d.size) {c : Nat} (hc : c < k) {u : Value} (hu : (enc d[j]!)[c]? = some u) : w.cell? ⟨B, j * k + c, none⟩ = some u := by
  obtain ⟨cs, h1, _, _, h3⟩ := h
  simp only [World.cell?, h1]
  rw [if_neg (by simp), h3 j hj c hc, hu]
theorem RowIn.free (h : RowIn enc k e B cap d w) (o : Nat) : w.frozen? ⟨B, o, none⟩ = false := by
  obtain ⟨cs, h1, _⟩ := h
  simp [World.frozen?, h1]
theorem RowIn.some_cell (h : RowIn enc k e B cap d w) {o : Nat} (ho : o < cap * k) : (w.cell? ⟨B, o, none⟩).isSome = true := by
  obtain ⟨cs, h1, h2, _⟩ := h
  simp only [World.cell?, h1]
  rw [if_neg (by simp), Array.getElem?_eq_getElem (by omega)]
  rfl

/-- An element is stored. -/
theorem RowIn.store (hk : ∀ x, (enc x).length = k) (h : RowIn enc k e B cap d w) {i : Nat} (hi : i < d.size) (x : α) : RowIn enc k e B cap (d.setIfInBounds i x) (w.setCells B (i * k) (enc x)) := by
  obtain ⟨cs, h1, h2, h3, h4⟩ := h
  obtain ⟨cs', g1, g2, g3, g4⟩ := setCells_block B (enc x) (i * k) w cs e (0, 0) h1
  refine ⟨cs', g1, by omega, by simpa using h3, fun j hj c hc => ?_⟩
  have hj' : j < d.size := by simpa using hj
  by_cases e1 : j = i
  · subst e1
    rw [g4 c (by rw [hk]; exact hc) (by
      have : (j + 1) * k ≤ cap * k := Nat.mul_le_mul_right _ (by omega)
      rw [Nat.add_mul, Nat.one_mul] at this
      omega)]
    rw [Go.Sort.getElem!_set_same _ _ _ hj']
  · rw [g3 (j * k + c) (by
      rw [hk]
      rcases Nat.lt_or_ge j i with hlt | hge
      · left
        have : (j + 1) * k ≤ i * k := Nat.mul_le_mul_right _ (by omega)
        rw [Nat.add_mul, Nat.one_mul] at this
        omega
      · right
        have : (i + 1) * k ≤ j * k := Nat.mul_le_mul_right _ (by omega)
        rw [Nat.add_mul, Nat.one_mul] at this
        omega), h4 j hj' c hc, Go.Sort.getElem!_set_other _ _ _ _ e1]

/-- All from element i on is written over. -/
theorem RowIn.cut (h : RowIn enc k e B cap d w) {i : Nat} (hi : i ≤ d.size) (vs : List Value) : RowIn enc k e B cap (d.extract 0 i) (w.setCells B (i * k) vs) := by
  obtain ⟨cs, h1, h2, h3, h4⟩ := h
  obtain ⟨cs', g1, g2, g3, g4⟩ := setCells_block B vs (i * k) w cs e (0, 0) h1
  have hs : (d.extract 0 i).size = i := by simp; omega
  refine ⟨cs', g1, by omega, by omega, fun j hj c hc => ?_⟩
  rw [hs] at hj
  have : (j + 1) * k ≤ i * k := Nat.mul_le_mul_right _ (by omega)
  rw [Nat.add_mul, Nat.one_mul] at this
  rw [g3 (j * k + c) (by left; omega), h4 j (by omega) c hc]
  rw [getElem!_pos d j (by omega), getElem!_pos (d.extract 0 i) j (by omega), Array.getElem_extract]
  simp

theorem RowIn.prefix_ (h : RowIn enc k e B cap d w) {i : Nat} (hi : i ≤ d.size) : RowIn enc k e B cap (d.extract 0 i) w := h.cut hi []

/-! ### The sort's worlds -/
theorem idx_div {k j c : Nat} (hc : c < k) : (j * k + c) / k = j ∧ (j * k + c) % k = c := by
  have hk : 0 < k := by omega
  constructor
  · rw [Nat.mul_comm, Nat.mul_add_div hk, Nat.div_eq_of_lt hc, Nat.add_zero]
  · rw [Nat.mul_comm, Nat.mul_add_mod, Nat.mod_eq_of_lt hc]
theorem RowIn.holds (hk : ∀ x, (enc x).length = k) (h : RowIn enc k e B cap d w) : HoldsK enc k w B 0 d := by
  intro t ht
  rw [size_flatK] at ht
  have hk0 : 0 < k := by
    rcases Nat.eq_zero_or_pos k with e | e
    · subst e; simp at ht
    · exact e
  have hd : t / k < d.size := Nat.div_lt_of_lt_mul (by rwa [Nat.mul_comm] at ht)
  have hm : t % k < k := Nat.mod_lt _ hk0
  have ht2 : t = t / k * k + t % k := by rw [Nat.mul_comm]; exact (Nat.div_add_mod t k).symm
  refine ⟨?_, RowIn.free h _⟩
  rw [get_flatK enc k d t ht, Nat.zero_add]
  have hl : t % k < (enc d[t / k]!).length := by rw [hk]; exact hm
  rw [show (id ((enc d[t / k]!)[t % k]!) : Value) = (enc d[t / k]!)[t % k] from getElem!_pos (enc d[t / k]!) (t % k) hl]
  have := RowIn.cell h hd hm (u := (enc d[t / k]!)[t % k]) (List.getElem?_eq_getElem hl)
  rw [← ht2] at this
  exact this
theorem sortWorld_heap (n : Nat) (d' : Array α) (os : Array Obj) {cs : Array Value} {fr : Nat × Nat} (hb : w.heap[B]? = some (.cells cs e fr)) :
    (sortWorldK enc k w B 0 n d' os).heap[B]? = some (.cells (Go.Sort.putCells id 0 (flatK enc k d') cs) e fr) := by
  have hlt : B < w.heap.size := by
    rcases Nat.lt_or_ge B w.heap.size with h | h
    · exact h
    · rw [Array.getElem?_eq_none h] at hb; exact absurd hb (by simp)
  unfold sortWorldK
  rw [Go.Sort.heap_grow_old _ _ (by rw [sz_putRowK]; exact hlt)]
  show (w.heap.modify B _)[B]? = _
  rw [Array.getElem?_modify, hb]
  simp [Go.Sort.onCells]
theorem sortWorld_grown (n : Nat) (d' : Array α) (os : Array Obj) (hB : B < w.heap.size) : w.grownBy (sortWorldK enc k w B 0 n d' os) (some B) := by
  have hs : (sortWorldK enc k w B 0 n d' os).heap.size = w.heap.size + os.size := by
    unfold sortWorldK
    rw [Go.Sort.size_grow, sz_putRowK]
    rfl
  refine ⟨rfl, rfl, rfl, by rw [hs]; omega, fun i hi hne => ?_⟩
  unfold sortWorldK
  rw [Go.Sort.heap_grow_old _ _ (by rw [sz_putRowK]; exact hi)]
  show (w.heap.modify B _)[i]? = _
  rw [Array.getElem?_modify, if_neg (fun e => hne (by rw [e]))]
theorem RowIn.sorted (hk : ∀ x, (enc x).length = k) (h : RowIn enc k e B cap d w) (n : Nat) (d' : Array α) (hd : d'.size = d.size) (os : Array Obj) : RowIn enc k e B cap d' (sortWorldK enc k w B 0 n d' os) := by
  obtain ⟨cs, h1, h2, h3, h4⟩ := h
  refine ⟨_, sortWorld_heap n d' os h1, by simp [Go.Sort.putCells, h2], by omega, fun j hj c hc => ?_⟩
  have hlt : j * k + c < d'.size * k := by
    have := Nat.mul_le_mul_right k (show j + 1 ≤ d'.size from hj)
    rw [Nat.add_mul, Nat.one_mul] at this
    omega
  have hlt2 : j * k + c < cs.size := by
    rw [h2]
    have := Nat.mul_le_mul_right k (show d'.size ≤ cap by omega)
    omega
  obtain ⟨e1, e2⟩ := idx_div (j := j) hc
  rw [Array.getElem?_eq_getElem (by simpa [Go.Sort.putCells] using hlt2)]
  have hg : (Go.Sort.putCells id 0 (flatK enc k d') cs)[j * k + c]'(by simpa [Go.Sort.putCells] using hlt2) = (flatK enc k d')[j * k + c]! := by
    simp only [Go.Sort.putCells, Array.getElem_mapIdx]
    rw [if_pos ⟨Nat.zero_le _, by rw [size_flatK]; omega⟩]
    rfl
  rw [hg, get_flatK enc k d' _ hlt, e1, e2]
  have hl : c < (enc d'[j]!).length := by rw [hk]; exact hc
  rw [List.getElem?_eq_getElem hl, getElem!_pos (enc d'[j]!) c hl]

/-- A row of one's own is a block that is known whole. -/
theorem ownsRow_RowIn {enc : α → List Value} {k e : Nat} (hk : ∀ x, (enc x).length = k) {w : World} {base : Nat} {v : Value} {l : List α} {inner : List Value} (ho : w.ownsRow base e k v l.length inner) (hi : inner = l.flatMap enc) :
    (v = .slice none 0 0 ∧ l = []) ∨ ∃ B cap, v = .slice (some ⟨B, 0, none⟩) l.length cap ∧ base ≤ B ∧ cap ≤ maxLen ∧ RowIn enc k e B cap l.toArray w := by
  rcases ho.2 with ⟨h1, h2⟩ | ⟨g, cap, cur, h1, h2, h3, h4, h5, h6, h7⟩
  · exact .inl ⟨h1, List.length_eq_zero_iff.1 h2⟩
  · refine .inr ⟨g, cap, h1, h2, h5, cur, h3, h6, by simpa using h4, fun j hj c hc => ?_⟩
    have hj' : j < l.length := by simpa using hj
    have hlt : j * k + c < l.length * k := by
      have := Nat.mul_le_mul_right k (show j + 1 ≤ l.length from hj')
      rw [Nat.add_mul, Nat.one_mul] at this
      omega
    have e1 : cur[j * k + c]? = (cur.toList.take (l.length * k))[j * k + c]? := by
      rw [List.getElem?_take_of_lt hlt]; simp
    rw [e1, h7, hi]
    have key : ∀ (l : List α) (j : Nat), j < l.length → (l.flatMap enc)[j * k + c]? = (enc (l[j]!))[c]? := by
      intro l
      induction l with
      | nil => intro j hj; simp at hj
      | cons x r ih =>
        intro j hj
        rw [List.flatMap_cons]
        rcases j with _ | j
        · rw [Nat.zero_mul, Nat.zero_add, List.getElem?_append_left (by rw [hk]; exact hc)]
          rfl
        · rw [List.getElem?_append_right (by rw [hk, Nat.add_mul, Nat.one_mul]; omega), hk, show (j + 1) * k + c - k = j * k + c by rw [Nat.add_mul, Nat.one_mul]; omega, ih j (by simpa using hj)]
          simp
    rw [key l j hj']
    simp

/-- And back. -/
theorem RowIn_ownsRow {enc : α → List Value} {k e : Nat} (hk : ∀ x, (enc x).length = k) {w : World} {B cap base : Nat} {l : List α} (h : RowIn enc k e B cap l.toArray w) (hb : base ≤ B) (hc : cap ≤ maxLen) : w.ownsRow base e k (.slice (some ⟨B, 0, none⟩) l.length cap) l.length (l.flatMap enc) := by
  have hlen : ∀ l : List α, (l.flatMap enc).length = l.length * k := by
    intro l
    induction l with
    | nil => simp
    | cons x r ih => rw [List.flatMap_cons, List.length_append, ih, hk, List.length_cons, Nat.add_mul, Nat.one_mul]; omega
  obtain ⟨cs, h1, h2, h3, h4⟩ := h
  have h3' : l.length ≤ cap := by simpa using h3
  refine ⟨hlen l, .inr ⟨B, cap, cs, rfl, hb, h1, h3', hc, h2, ?_⟩⟩
  apply List.ext_getElem?
  intro t
  have hle : l.length * k ≤ cap * k := Nat.mul_le_mul_right k h3'
  rcases Nat.lt_or_ge t (l.length * k) with ht | ht
  · have hk0 : 0 < k := by
      rcases Nat.eq_zero_or_pos k with e | e
      · subst e; simp at ht
      · exact e
    have hd : t / k < l.length := Nat.div_lt_of_lt_mul (by rwa [Nat.mul_comm] at ht)
    have hm : t % k < k := Nat.mod_lt _ hk0
    have ht2 : t = t / k * k + t % k := by rw [Nat.mul_comm]; exact (Nat.div_add_mod t k).symm
    rw [List.getElem?_take_of_lt ht]
    have e1 := h4 (t / k) (by simpa using hd) (t % k) hm
    rw [← ht2] at e1
    have key : ∀ (l : List α) (j c : Nat), j < l.length → c < k → (l.flatMap enc)[j * k + c]? = (enc (l[j]!))[c]? := by
      intro l
      induction l with
      | nil => intro j c hj; simp at hj
      | cons x r ih =>
        intro j c hj hc
        rw [List.flatMap_cons]
        rcases j with _ | j
        · rw [Nat.zero_mul, Nat.zero_add, List.getElem?_append_left (by rw [hk]; exact hc)]
          rfl
        · rw [List.getElem?_append_right (by rw [hk, Nat.add_mul, Nat.one_mul]; omega), hk, show (j + 1) * k + c - k = j * k + c by rw [Nat.add_mul, Nat.one_mul]; omega, ih j c (by simpa using hj) hc]
          simp
    have e2 := key l (t / k) (t % k) hd hm
    rw [← ht2] at e2
    rw [e2]
    simpa using e1
  · rw [List.getElem?_eq_none (by rw [List.length_take]; omega), List.getElem?_eq_none (by rw [hlen]; exact ht)]
end Go.Proofs.Ytgcfcemgeppkmaa.P
